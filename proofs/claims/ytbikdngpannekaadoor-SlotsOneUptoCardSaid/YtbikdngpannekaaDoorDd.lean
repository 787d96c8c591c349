/-
  The walks of frame.word, frame.End, frame.Read and of the reference's; conditions: the arena and the table read as told.
-/
import Derived.Test.YtbikdngpannekaaDoorDc
import Derived.Test.YtbikdngpannekaaDoorCa
namespace Go.Proofs.YtbikdngpannekaaDoor
open Go.RowKit Go.Proofs.YtbikdngpannekaaDoorW.PrintWords

/-- a base as a link -/
def linkW (n : Int) : Int := (if n < -1 then -1 else n) + 1
set_option maxRecDepth 100000 in
set_option maxHeartbeats 2000000 in
theorem word_any (n : Int) (w : World) (hn : -9223372036854775808 ≤ n ∧ n ≤ 9223372036854775806) : Calls Tryd.prog 78 #[.int .i64 n] w fun e w' => e = .returned (.int .u64 (linkW n)) ∧ w = w' := by
  have H := Lk.mk (show linkW n = (if n < -1 then -1 else n) + 1 from rfl)
  generalize linkW n = r at *
  go_enter Tryd.func78, Tryd.ntmps78
  go_wp2
  all_goals go_ret
  all_goals refine ⟨ret_int ?_, rfl⟩
  all_goals rw [H.out]
  all_goals (split <;> omega)

set_option maxRecDepth 100000 in
set_option maxHeartbeats 2000000 in
theorem end_any (p : Value) (ent : List (Int × (List Int × List Int))) (x : Sl.Fr) (w : World) (h : TblOr w p ent) (hx : -1099511627776 ≤ x.1 ∧ x.1 ≤ 1099511627776) (he : EntIn ent) :
    Calls Tryd.prog 34 #[p, .agg #[.int .i64 x.1, .int .i64 x.2.1, .int .i64 x.2.2]] w fun e w' => e = .returned (.int .i64 (if tWords ent x.2.1 < 0 then -1 else x.1 + tWords ent x.2.1)) ∧ Below w.heap.size w w' := by
  obtain ⟨a, f, k⟩ := x
  have h0 : Below w.heap.size w (w.alloc (.cells #[.int .i64 a, .int .i64 f, .int .i64 k] 52)) := below_alloc (Below.refl _ _) _
  have HS := Lk.mk (words_any p ent f _ (h.below h0) (fun e hm => ⟨by have := (he e hm).1; omega, by have := (he e hm).2; omega⟩))
  have H0 := Lk.mk h0
  have hw : -1 ≤ tWords ent f ∧ tWords ent f ≤ 1002 := by
    unfold tWords
    cases hf : tHas ent f with
    | false => simp
    | true =>
      have h1 := tHas_true hf
      have := he (ent.getD f.toNat dE) (getD_mem _ (by omega))
      rw [if_pos rfl]; omega
  dsimp only at hx ⊢
  generalize tWords ent f = n at *
  clear h h0 he
  go_enter Tryd.func34, Tryd.ntmps34
  go_wp2_with (go_at_call 76; (with_reducible refine (HS.out).mono ?_); rintro e w' ⟨rfl, hw⟩; obtain rfl := hw.symm; clear hw)
  all_goals go_ret
  all_goals refine ⟨ret_int ?_, H0.out⟩
  all_goals (first | rfl | (rw [if_pos (by omega)]) | (rw [if_neg (by omega)]) | (split <;> omega))

theorem two_of (ws : List Int) (a : Nat) (h : a + 2 ≤ ws.length) : (ws.drop a).take 2 = [ws.getD a 0, ws.getD (a + 1) 0] := by
  apply List.ext_getElem
  · simp; omega
  · intro i h1 h2
    have hi : i = 0 ∨ i = 1 := by simp at h2; omega
    rcases hi with rfl | rfl
    · simp [List.getD_eq_getElem?_getD, List.getElem?_eq_getElem (show a < ws.length by omega)]
    · simp [List.getD_eq_getElem?_getD, List.getElem?_eq_getElem (show a + 1 < ws.length by omega)]
/-- the frame's own block, zeros -/
theorem fr0 (w : World) {w1 : World} (hb : Below (w.alloc (.cells #[.int .i64 0, .int .i64 0, .int .i64 0] 52)).heap.size (w.alloc (.cells #[.int .i64 0, .int .i64 0, .int .i64 0] 52)) w1) : w1.heap[w.heap.size]? = some (.cells #[.int .i64 0, .int .i64 0, .int .i64 0] 52 (0, 0)) := blk_below (blk_new w _) hb
theorem cells3 {w : World} {g : Nat} {t : TypeId} {a b c : Value} (h : w.heap[g]? = some (.cells #[a, b, c] t (0, 0))) : w.cell? ⟨g, 0, none⟩ = some a ∧ w.cell? ⟨g, 1, none⟩ = some b ∧ w.cell? ⟨g, 2, none⟩ = some c ∧ w.frozen? ⟨g, 0, none⟩ = false ∧ w.frozen? ⟨g, 1, none⟩ = false ∧ w.frozen? ⟨g, 2, none⟩ = false :=
  ⟨by rw [blk_cell h 0]; rfl, by rw [blk_cell h 1]; rfl, by rw [blk_cell h 2]; rfl, blk_frozen h 0, blk_frozen h 1, blk_frozen h 2⟩
theorem set3 {w : World} {g : Nat} {t : TypeId} {a b c : Value} (h : w.heap[g]? = some (.cells #[a, b, c] t (0, 0))) (a' b' c' : Value) : (((w.setCell ⟨g, 0, none⟩ a').setCell ⟨g, 1, none⟩ b').setCell ⟨g, 2, none⟩ c').heap[g]? = some (.cells #[a', b', c'] t (0, 0)) :=
  blk_put (blk_put (blk_put h 0 a' rfl) 1 b' rfl) 2 c' rfl
theorem below3 {w w1 : World} (h : Below w.heap.size w w1) (a' b' c' : Value) : Below w.heap.size w (((w1.setCell ⟨w.heap.size, 0, none⟩ a').setCell ⟨w.heap.size, 1, none⟩ b').setCell ⟨w.heap.size, 2, none⟩ c') :=
  ((h.setCell (p := ⟨w.heap.size, 0, none⟩) (Nat.le_refl _) _).setCell (p := ⟨w.heap.size, 1, none⟩) (Nat.le_refl _) _).setCell (p := ⟨w.heap.size, 2, none⟩) (Nat.le_refl _) _
set_option maxRecDepth 100000 in
set_option maxHeartbeats 2000000 in
theorem read_out (g b : Nat) (ws : List Int) (p : Value) (at_ : Int) (w : World) (h : ArB w g b ws) (hi : ¬ (0 ≤ at_ ∧ at_ + 2 ≤ ws.length)) :
    Calls Tryd.prog 29 #[.pointer (some ⟨g, 0, none⟩), p, .int .i64 at_] w fun e w' => e = .returned (.tuple #[.agg #[.int .i64 0, .int .i64 0, .int .i64 0], .int .i64 2]) ∧ Below w.heap.size w w' := by
  have hin : inL ws.length at_ 2 = false := by
    cases hq : inL ws.length at_ 2 with
    | false => rfl
    | true => have := inL_true hq; omega
  have h0 : Below w.heap.size w (w.alloc (.cells #[.int .i64 0, .int .i64 0, .int .i64 0] 52)) := below_alloc (Below.refl _ _) _
  have HR := Lk.mk (row_bad g b ws at_ 2 _ (h.below h0) hin)
  have H0 := Lk.mk h0
  clear h hin h0
  go_enter Tryd.func29, Tryd.ntmps29
  go_wp2_with (go_at_call 32; (with_reducible refine (HR.out).mono ?_); rintro e w1 ⟨rfl, hb⟩; have HB := Lk.mk (below_then H0.out H0.out.size hb); obtain ⟨c0, c1, c2, z0, z1, z2⟩ := cells3 (fr0 w hb); have HE := Lk.mk (fr0 w hb); clear hb)
  exact bodyPost_ret (results_ct Tryd.results29 _ _ w.heap.size 52 #[.int .i64 0, .int .i64 0, .int .i64 0] (0, 0) _ rfl (set3 HE.out _ _ _) Tryd.underlying52 rfl (by kernel_rfl)) rfl ⟨rfl, below3 HB.out _ _ _⟩
/-- what stands at an address is a frame -/
def RdOk (ws : List Int) (ent : List (Int × (List Int × List Int))) (a : Nat) : Prop := ws.getD a 0 ≤ ws.length ∧ 1 ≤ ws.getD (a + 1) 0 ∧ ws.getD (a + 1) 0 ≤ ent.length ∧ (a : Int) + tWords ent (ws.getD (a + 1) 0 - 1) ≤ ws.length
set_option maxRecDepth 100000 in
set_option maxHeartbeats 2000000 in
theorem read_ok (g b : Nat) (ws : List Int) (p : Value) (ent : List (Int × (List Int × List Int))) (a : Nat) (w : World) (h : ArB w g b ws) (ht : TblOr w p ent) (he : EntIn ent) (hi : a + 2 ≤ ws.length) (ho : RdOk ws ent a) :
    Calls Tryd.prog 29 #[.pointer (some ⟨g, 0, none⟩), p, .int .i64 a] w fun e w' => e = .returned (.tuple #[.agg #[.int .i64 a, .int .i64 (ws.getD (a + 1) 0 - 1), .int .i64 (ws.getD a 0 - 1)], .int .i64 0]) ∧ Below w.heap.size w w' := by
  obtain ⟨o1, o2, o3, o4⟩ := ho
  have hl := h.len
  have hx0 := Bm.word_nn h.words a
  have h0 : Below w.heap.size w (w.alloc (.cells #[.int .i64 0, .int .i64 0, .int .i64 0] 52)) := below_alloc (Below.refl _ _) _
  have hrow := row_ok g b ws a 2 _ (h.below h0) hi
  rw [two_of ws a hi, show (((2 : Nat)) : Int) = 2 from rfl] at hrow
  have HR := Lk.mk hrow
  have H0 := Lk.mk h0
  have HL := Lk.mk (fun W (hb : Below w.heap.size w W) => len_any p ent W (ht.below hb))
  have HW := Lk.mk (fun W (hb : Below w.heap.size w W) => awords_any g b ws W (h.below hb))
  have HTW := Lk.mk (fun W (hb : Below w.heap.size w W) => words_any p ent (ws.getD (a + 1) 0 - 1) W (ht.below hb) (fun e hm => ⟨by have := (he e hm).1; omega, by have := (he e hm).2; omega⟩))
  have HIN := Lk.mk (fun W (hb : Below w.heap.size w W) => ain_any g b ws a (tWords ent (ws.getD (a + 1) 0 - 1)) W (h.below hb))
  have hel : ent.length ≤ 9223372036854775807 := by
    rcases ht with ⟨_, rfl⟩ | ⟨_, _, _, _, _, _, hC⟩
    · simp
    · exact (kE_len hC).2
  have hn : 1 ≤ ws.getD (a + 1) 0 → ws.getD (a + 1) 0 ≤ ent.length → 2 ≤ tWords ent (ws.getD (a + 1) 0 - 1) := by
    intro o2 o3
    unfold tWords
    have hh : tHas ent (ws.getD (a + 1) 0 - 1) = true := by unfold tHas; simp only [Bool.and_eq_true, decide_eq_true_eq]; omega
    rw [if_pos hh]
    have := he (ent.getD (ws.getD (a + 1) 0 - 1).toNat dE) (getD_mem _ (by omega))
    omega
  have hin : inL ws.length a (tWords ent (ws.getD (a + 1) 0 - 1)) = true := by have := hn o2 o3; unfold inL; simp only [Bool.and_eq_true, decide_eq_true_eq]; omega
  rw [hin] at HIN
  clear h ht he hrow hin hn h0
  generalize tWords ent (ws.getD (a + 1) 0 - 1) = tw at *
  generalize ws.getD (a + 1) 0 = f at *
  generalize ws.getD a 0 = k at *
  go_enter Tryd.func29, Tryd.ntmps29
  go_wp2_with (go_at_call 32; (with_reducible refine (HR.out).mono ?_); rintro e w1 ⟨v, rfl, ho, hb⟩; obtain ⟨g1, c1, rfl, _, _⟩ := ho.form (by simp); have HB0 := Lk.mk (below_then H0.out H0.out.size hb); have HB := Lk.mk (below_drew HB0.out); have HE := Lk.mk (fr0 w hb); have hc0 := (own_at ho 0 (by decide) (by simp)).1; have hc1 := (own_at ho 1 (by decide) (by simp)).1; clear hb ho; simp only [show rd [k, f] 0 = k from rfl, show rd [k, f] 1 = f from rfl, show (0 : Int).toNat = 0 from rfl, show (1 : Int).toNat = 1 from rfl] at hc0 hc1)
  have hd0 := pw_cell_below (below_drew (Below.refl w1.heap.size w1)) hc0
  have hd1 := pw_cell_below (below_drew (Below.refl w1.heap.size w1)) hc1
  go_region
  clear hc0 hc1 hd0 hd1
  obtain ⟨c0, c1, c2, z0, z1, z2⟩ := cells3 HE.out
  go_wp2_with (first
    | (go_at_call 73; (with_reducible refine (HL.out _ HB.out).mono ?_); rintro e w' ⟨rfl, hw⟩; obtain rfl := hw.symm; clear hw)
    | (go_at_call 74; (with_reducible refine (HW.out _ HB.out).mono ?_); rintro e w' ⟨rfl, rfl⟩)
    | (go_at_call 76; (with_reducible refine (HTW.out _ HB.out).mono ?_); rintro e w' ⟨rfl, hw⟩; obtain rfl := hw.symm; clear hw)
    | (go_at_call 75; (with_reducible refine (HIN.out _ HB.out).mono ?_); rintro e w' ⟨rfl, rfl⟩))
  exact bodyPost_ret (results_ct Tryd.results29 _ _ w.heap.size 52 #[.int .i64 a, .int .i64 (f - 1), .int .i64 (k - 1)] (0, 0) _ rfl (blk_drew (set3 HE.out _ _ _)) Tryd.underlying52 rfl (by kernel_rfl)) rfl ⟨rfl, below_drew (below3 HB0.out _ _ _)⟩
set_option maxRecDepth 100000 in
set_option maxHeartbeats 2000000 in
theorem read_bad (g b : Nat) (ws : List Int) (p : Value) (ent : List (Int × (List Int × List Int))) (a : Nat) (w : World) (h : ArB w g b ws) (ht : TblOr w p ent) (he : EntIn ent) (hi : a + 2 ≤ ws.length) (ho : ¬ RdOk ws ent a) :
    Calls Tryd.prog 29 #[.pointer (some ⟨g, 0, none⟩), p, .int .i64 a] w fun e w' => e = .returned (.tuple #[.agg #[.int .i64 0, .int .i64 0, .int .i64 0], .int .i64 9]) ∧ Below w.heap.size w w' := by
  have hl := h.len
  have hx0 := Bm.word_nn h.words a
  have hx1 := Bm.word_nn h.words (a + 1)
  have h0 : Below w.heap.size w (w.alloc (.cells #[.int .i64 0, .int .i64 0, .int .i64 0] 52)) := below_alloc (Below.refl _ _) _
  have hrow := row_ok g b ws a 2 _ (h.below h0) hi
  rw [two_of ws a hi, show (((2 : Nat)) : Int) = 2 from rfl] at hrow
  have HR := Lk.mk hrow
  have H0 := Lk.mk h0
  have HL := Lk.mk (fun W (hb : Below w.heap.size w W) => len_any p ent W (ht.below hb))
  have HW := Lk.mk (fun W (hb : Below w.heap.size w W) => awords_any g b ws W (h.below hb))
  have HTW := Lk.mk (fun W (hb : Below w.heap.size w W) => words_any p ent (ws.getD (a + 1) 0 - 1) W (ht.below hb) (fun e hm => ⟨by have := (he e hm).1; omega, by have := (he e hm).2; omega⟩))
  have HIN := Lk.mk (fun W (hb : Below w.heap.size w W) => ain_any g b ws a (tWords ent (ws.getD (a + 1) 0 - 1)) W (h.below hb))
  have hel : ent.length ≤ 9223372036854775807 := by
    rcases ht with ⟨_, rfl⟩ | ⟨_, _, _, _, _, _, hC⟩
    · simp
    · exact (kE_len hC).2
  have hn : 1 ≤ ws.getD (a + 1) 0 → ws.getD (a + 1) 0 ≤ ent.length → 2 ≤ tWords ent (ws.getD (a + 1) 0 - 1) := by
    intro o2 o3
    unfold tWords
    have hh : tHas ent (ws.getD (a + 1) 0 - 1) = true := by unfold tHas; simp only [Bool.and_eq_true, decide_eq_true_eq]; omega
    rw [if_pos hh]
    have := he (ent.getD (ws.getD (a + 1) 0 - 1).toNat dE) (getD_mem _ (by omega))
    omega
  have hrd : ¬ (ws.getD a 0 ≤ ws.length ∧ 1 ≤ ws.getD (a + 1) 0 ∧ ws.getD (a + 1) 0 ≤ ent.length ∧ (a : Int) + tWords ent (ws.getD (a + 1) 0 - 1) ≤ ws.length) := ho
  have hin : 1 ≤ ws.getD (a + 1) 0 → ws.getD (a + 1) 0 ≤ ent.length → ws.getD a 0 ≤ ws.length → inL ws.length a (tWords ent (ws.getD (a + 1) 0 - 1)) = false := by
    intro q1 q2 q3
    cases hq : inL ws.length a (tWords ent (ws.getD (a + 1) 0 - 1)) with
    | false => rfl
    | true => have := inL_true hq; have := hn q1 q2; exact absurd ⟨q3, q1, q2, by omega⟩ hrd
  clear hrd
  clear h ht he hrow hn h0
  generalize tWords ent (ws.getD (a + 1) 0 - 1) = tw at *
  generalize ws.getD (a + 1) 0 = f at *
  generalize ws.getD a 0 = k at *
  by_cases q1 : f < 1
  · clear hin
    go_enter Tryd.func29, Tryd.ntmps29
    go_wp2_with (go_at_call 32; (with_reducible refine (HR.out).mono ?_); rintro e w1 ⟨v, rfl, ho, hb⟩; obtain ⟨g1, c1, rfl, _, _⟩ := ho.form (by simp); have HB0 := Lk.mk (below_then H0.out H0.out.size hb); have HB := Lk.mk (below_drew HB0.out); have HE := Lk.mk (fr0 w hb); have hc0 := (own_at ho 0 (by decide) (by simp)).1; have hc1 := (own_at ho 1 (by decide) (by simp)).1; clear hb ho; simp only [show rd [k, f] 0 = k from rfl, show rd [k, f] 1 = f from rfl, show (0 : Int).toNat = 0 from rfl, show (1 : Int).toNat = 1 from rfl] at hc0 hc1)
    have hd0 := pw_cell_below (below_drew (Below.refl w1.heap.size w1)) hc0
    have hd1 := pw_cell_below (below_drew (Below.refl w1.heap.size w1)) hc1
    go_region
    clear hc0 hc1 hd0 hd1
    obtain ⟨c0, c1, c2, z0, z1, z2⟩ := cells3 HE.out
    go_wp2_with (first
      | (go_at_call 73; (with_reducible refine (HL.out _ HB.out).mono ?_); rintro e w' ⟨rfl, hw⟩; obtain rfl := hw.symm; clear hw)
      | (go_at_call 74; (with_reducible refine (HW.out _ HB.out).mono ?_); rintro e w' ⟨rfl, rfl⟩)
      | (go_at_call 76; (with_reducible refine (HTW.out _ HB.out).mono ?_); rintro e w' ⟨rfl, hw⟩; obtain rfl := hw.symm; clear hw)
      | (go_at_call 75; (with_reducible refine (HIN.out _ HB.out).mono ?_); rintro e w' ⟨rfl, rfl⟩))
    exact bodyPost_ret (results_ct Tryd.results29 _ _ w.heap.size 52 #[.int .i64 0, .int .i64 0, .int .i64 0] (0, 0) _ rfl (blk_drew (set3 HE.out _ _ _)) Tryd.underlying52 rfl (by kernel_rfl)) rfl ⟨rfl, below_drew (below3 HB0.out _ _ _)⟩
  · by_cases q2 : (ent.length : Int) < f
    · clear hin
      go_enter Tryd.func29, Tryd.ntmps29
      go_wp2_with (go_at_call 32; (with_reducible refine (HR.out).mono ?_); rintro e w1 ⟨v, rfl, ho, hb⟩; obtain ⟨g1, c1, rfl, _, _⟩ := ho.form (by simp); have HB0 := Lk.mk (below_then H0.out H0.out.size hb); have HB := Lk.mk (below_drew HB0.out); have HE := Lk.mk (fr0 w hb); have hc0 := (own_at ho 0 (by decide) (by simp)).1; have hc1 := (own_at ho 1 (by decide) (by simp)).1; clear hb ho; simp only [show rd [k, f] 0 = k from rfl, show rd [k, f] 1 = f from rfl, show (0 : Int).toNat = 0 from rfl, show (1 : Int).toNat = 1 from rfl] at hc0 hc1)
      have hd0 := pw_cell_below (below_drew (Below.refl w1.heap.size w1)) hc0
      have hd1 := pw_cell_below (below_drew (Below.refl w1.heap.size w1)) hc1
      go_region
      clear hc0 hc1 hd0 hd1
      obtain ⟨c0, c1, c2, z0, z1, z2⟩ := cells3 HE.out
      go_wp2_with (first
        | (go_at_call 73; (with_reducible refine (HL.out _ HB.out).mono ?_); rintro e w' ⟨rfl, hw⟩; obtain rfl := hw.symm; clear hw)
        | (go_at_call 74; (with_reducible refine (HW.out _ HB.out).mono ?_); rintro e w' ⟨rfl, rfl⟩)
        | (go_at_call 76; (with_reducible refine (HTW.out _ HB.out).mono ?_); rintro e w' ⟨rfl, hw⟩; obtain rfl := hw.symm; clear hw)
        | (go_at_call 75; (with_reducible refine (HIN.out _ HB.out).mono ?_); rintro e w' ⟨rfl, rfl⟩))
      exact bodyPost_ret (results_ct Tryd.results29 _ _ w.heap.size 52 #[.int .i64 0, .int .i64 0, .int .i64 0] (0, 0) _ rfl (blk_drew (set3 HE.out _ _ _)) Tryd.underlying52 rfl (by kernel_rfl)) rfl ⟨rfl, below_drew (below3 HB0.out _ _ _)⟩
    · by_cases q3 : (ws.length : Int) < k
      · clear hin
        go_enter Tryd.func29, Tryd.ntmps29
        go_wp2_with (go_at_call 32; (with_reducible refine (HR.out).mono ?_); rintro e w1 ⟨v, rfl, ho, hb⟩; obtain ⟨g1, c1, rfl, _, _⟩ := ho.form (by simp); have HB0 := Lk.mk (below_then H0.out H0.out.size hb); have HB := Lk.mk (below_drew HB0.out); have HE := Lk.mk (fr0 w hb); have hc0 := (own_at ho 0 (by decide) (by simp)).1; have hc1 := (own_at ho 1 (by decide) (by simp)).1; clear hb ho; simp only [show rd [k, f] 0 = k from rfl, show rd [k, f] 1 = f from rfl, show (0 : Int).toNat = 0 from rfl, show (1 : Int).toNat = 1 from rfl] at hc0 hc1)
        have hd0 := pw_cell_below (below_drew (Below.refl w1.heap.size w1)) hc0
        have hd1 := pw_cell_below (below_drew (Below.refl w1.heap.size w1)) hc1
        go_region
        clear hc0 hc1 hd0 hd1
        obtain ⟨c0, c1, c2, z0, z1, z2⟩ := cells3 HE.out
        go_wp2_with (first
          | (go_at_call 73; (with_reducible refine (HL.out _ HB.out).mono ?_); rintro e w' ⟨rfl, hw⟩; obtain rfl := hw.symm; clear hw)
          | (go_at_call 74; (with_reducible refine (HW.out _ HB.out).mono ?_); rintro e w' ⟨rfl, rfl⟩)
          | (go_at_call 76; (with_reducible refine (HTW.out _ HB.out).mono ?_); rintro e w' ⟨rfl, hw⟩; obtain rfl := hw.symm; clear hw)
          | (go_at_call 75; (with_reducible refine (HIN.out _ HB.out).mono ?_); rintro e w' ⟨rfl, rfl⟩))
        exact bodyPost_ret (results_ct Tryd.results29 _ _ w.heap.size 52 #[.int .i64 0, .int .i64 0, .int .i64 0] (0, 0) _ rfl (blk_drew (set3 HE.out _ _ _)) Tryd.underlying52 rfl (by kernel_rfl)) rfl ⟨rfl, below_drew (below3 HB0.out _ _ _)⟩
      · rw [hin (by omega) (by omega) (by omega)] at HIN
        clear hin
        go_enter Tryd.func29, Tryd.ntmps29
        go_wp2_with (go_at_call 32; (with_reducible refine (HR.out).mono ?_); rintro e w1 ⟨v, rfl, ho, hb⟩; obtain ⟨g1, c1, rfl, _, _⟩ := ho.form (by simp); have HB0 := Lk.mk (below_then H0.out H0.out.size hb); have HB := Lk.mk (below_drew HB0.out); have HE := Lk.mk (fr0 w hb); have hc0 := (own_at ho 0 (by decide) (by simp)).1; have hc1 := (own_at ho 1 (by decide) (by simp)).1; clear hb ho; simp only [show rd [k, f] 0 = k from rfl, show rd [k, f] 1 = f from rfl, show (0 : Int).toNat = 0 from rfl, show (1 : Int).toNat = 1 from rfl] at hc0 hc1)
        have hd0 := pw_cell_below (below_drew (Below.refl w1.heap.size w1)) hc0
        have hd1 := pw_cell_below (below_drew (Below.refl w1.heap.size w1)) hc1
        go_region
        clear hc0 hc1 hd0 hd1
        obtain ⟨c0, c1, c2, z0, z1, z2⟩ := cells3 HE.out
        go_wp2_with (first
          | (go_at_call 73; (with_reducible refine (HL.out _ HB.out).mono ?_); rintro e w' ⟨rfl, hw⟩; obtain rfl := hw.symm; clear hw)
          | (go_at_call 74; (with_reducible refine (HW.out _ HB.out).mono ?_); rintro e w' ⟨rfl, rfl⟩)
          | (go_at_call 76; (with_reducible refine (HTW.out _ HB.out).mono ?_); rintro e w' ⟨rfl, hw⟩; obtain rfl := hw.symm; clear hw)
          | (go_at_call 75; (with_reducible refine (HIN.out _ HB.out).mono ?_); rintro e w' ⟨rfl, rfl⟩))
        exact bodyPost_ret (results_ct Tryd.results29 _ _ w.heap.size 52 #[.int .i64 0, .int .i64 0, .int .i64 0] (0, 0) _ rfl (blk_drew (set3 HE.out _ _ _)) Tryd.underlying52 rfl (by kernel_rfl)) rfl ⟨rfl, below_drew (below3 HB0.out _ _ _)⟩
end Go.Proofs.YtbikdngpannekaaDoor
