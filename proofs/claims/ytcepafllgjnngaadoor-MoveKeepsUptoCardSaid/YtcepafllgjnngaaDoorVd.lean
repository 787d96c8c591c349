/-
  The walk of move.To where the stack can't be moved. Conditions: what is handed in reads as told.
-/
import Derived.Test.YtcepafllgjnngaaDoorVc
import Derived.Test.YtcepafllgjnngaaDoorV9
namespace Go.Proofs.YtcepafllgjnngaaDoor
open Go.RowKit Go.Proofs.YtcepafllgjnngaaDoorW.PrintWords

theorem boxes5 (w : World) (S O E T L : Obj) : Below w.heap.size w (((((w.alloc S).alloc O).alloc E).alloc T).alloc L) ∧ (((((w.alloc S).alloc O).alloc E).alloc T).alloc L).heap[w.heap.size]? = some S ∧ (((((w.alloc S).alloc O).alloc E).alloc T).alloc L).heap[w.heap.size + 1]? = some O ∧ (((((w.alloc S).alloc O).alloc E).alloc T).alloc L).heap[w.heap.size + 1 + 1]? = some E ∧ (((((w.alloc S).alloc O).alloc E).alloc T).alloc L).heap[w.heap.size + 1 + 1 + 1]? = some T ∧ (((((w.alloc S).alloc O).alloc E).alloc T).alloc L).heap[w.heap.size + 1 + 1 + 1 + 1]? = some L := by
  have s1 : (w.alloc S).heap.size = w.heap.size + 1 := by simp
  have s2 : ((w.alloc S).alloc O).heap.size = w.heap.size + 1 + 1 := by simp
  have s3 : (((w.alloc S).alloc O).alloc E).heap.size = w.heap.size + 1 + 1 + 1 := by simp
  have s4 : ((((w.alloc S).alloc O).alloc E).alloc T).heap.size = w.heap.size + 1 + 1 + 1 + 1 := by simp
  refine ⟨below_alloc (below_alloc (below_alloc (below_alloc (below_alloc (Below.refl w.heap.size w) S) O) E) T) L, blk_alloc (blk_alloc (blk_alloc (blk_alloc (blk_new w S) O) E) T) L, ?_, ?_, ?_, ?_⟩
  · have h := blk_alloc (blk_alloc (blk_alloc (blk_new (w.alloc S) O) E) T) L
    rwa [s1] at h
  · have h := blk_alloc (blk_alloc (blk_new ((w.alloc S).alloc O) E) T) L
    rwa [s2] at h
  · have h := blk_alloc (blk_new (((w.alloc S).alloc O).alloc E) T) L
    rwa [s3] at h
  · have h := blk_new ((((w.alloc S).alloc O).alloc E).alloc T) L
    rwa [s4] at h
theorem two9 {w : World} {g : Nat} {a b : Sl.Fr} (h : w.heap[g]? = some (.cells #[.int .i64 a.1, .int .i64 a.2.1, .int .i64 a.2.2, .int .i64 b.1, .int .i64 b.2.1, .int .i64 b.2.2] 41 (0, 0))) : kFr.C w (some ⟨g, 0, none⟩) 2 [a, b] :=
  kFr_any9 h rfl (by decide) (fun k hk => by
    cases k with
    | zero => exact ⟨rfl, rfl, rfl⟩
    | succ k => cases k with
      | zero => exact ⟨rfl, rfl, rfl⟩
      | succ k => omega)
theorem one9 {w : World} {g : Nat} {a : Sl.Fr} (h : w.heap[g]? = some (.cells #[.int .i64 a.1, .int .i64 a.2.1, .int .i64 a.2.2] 41 (0, 0))) : kFr.C w (some ⟨g, 0, none⟩) 1 [a] :=
  kFr_any9 h rfl (by decide) (fun k hk => by
    cases k with
    | zero => exact ⟨rfl, rfl, rfl⟩
    | succ k => omega)
theorem may_two (N : Nat) (a b : Int × (Int × Int)) : (!([a, b].any fun x => !(mayS N x))) = (mayS N a && mayS N b) := by
  simp [List.any]
theorem over_no {s x : Int × (Int × Int)} : overB s x = false ↔ s.1 + s.2.1 ≤ x.1 ∨ x.1 + x.2.1 ≤ s.1 := by
  unfold overB
  rw [Bool.and_eq_false_iff, decide_eq_false_iff_not, decide_eq_false_iff_not]
  omega
theorem toOk_iff {ws : List Int} {ent : List (Int × (List Int × List Int))} {x : Int × (Int × Int)} {lo size : Int} : ToOk ws ent x lo size ↔ (mayS ws.length x && mayS ws.length (lo, (size, lo))) = true ∧ (framesA ws ent x).2 = 0 ∧ AllOk ent ws (framesA ws ent x).1 ∧ x.1 + x.2.1 - x.2.2 ≤ size ∧ overB x (lo, (size, lo)) = false := by
  rw [over_no, Bool.and_eq_true]
  unfold ToOk
  dsimp only
  constructor
  · rintro ⟨a, b, c, d, e, f⟩; exact ⟨⟨a, b⟩, c, d, e, f⟩
  · rintro ⟨⟨a, b⟩, c, d, e, f⟩; exact ⟨a, b, c, d, e, f⟩
/-- what errno's store leaves -/
theorem store9 {w W : World} {q : Nat} {A B D : Obj} {e n : Int} (hb : Below q w W) (hS : W.heap[q]? = some A) (hO : W.heap[q + 1]? = some B) (hE : W.heap[q + 1 + 1]? = some (.cells #[.int .i64 e] 30 (0, 0))) (hT : W.heap[q + 1 + 1 + 1]? = some D) : Below q w (W.setCell ⟨q + 1 + 1, 0, none⟩ (.int .i64 n)) ∧ (W.setCell ⟨q + 1 + 1, 0, none⟩ (.int .i64 n)).heap[q]? = some A ∧ (W.setCell ⟨q + 1 + 1, 0, none⟩ (.int .i64 n)).heap[q + 1]? = some B ∧ (W.setCell ⟨q + 1 + 1, 0, none⟩ (.int .i64 n)).heap[q + 1 + 1]? = some (.cells #[.int .i64 n] 30 (0, 0)) ∧ (W.setCell ⟨q + 1 + 1, 0, none⟩ (.int .i64 n)).heap[q + 1 + 1 + 1]? = some D :=
  ⟨hb.setCell (p := ⟨q + 1 + 1, 0, none⟩) (by show q ≤ q + 1 + 1; omega) _, (Below.heap_setCell W ⟨q + 1 + 1, 0, none⟩ (.int .i64 n) _ (by show q ≠ q + 1 + 1; omega)).trans hS, (Below.heap_setCell W ⟨q + 1 + 1, 0, none⟩ (.int .i64 n) _ (by show q + 1 ≠ q + 1 + 1; omega)).trans hO, blk_put (cs' := #[.int .i64 n]) hE 0 (.int .i64 n) rfl, (Below.heap_setCell W ⟨q + 1 + 1, 0, none⟩ (.int .i64 n) _ (by show q + 1 + 1 + 1 ≠ q + 1 + 1; omega)).trans hT⟩
theorem vmust_ne {n : Int} (h : ¬ n = 0) (e : Int) (w : World) : Calls Tryd.prog 83 #[.bool (n == 0), .int .i64 e] w fun q w' => q = .panicked (mwrongC e) ∧ w' = w := by
  rw [show (n == 0) = false by simpa using h]
  exact vmust_no e w
set_option maxRecDepth 100000 in
set_option maxHeartbeats 8000000 in
theorem to_bad (g b : Nat) (ws : List Int) (q : Option Addr) (ent : List (Int × (List Int × List Int))) (x : Int × (Int × Int)) (lo size : Int) (w : World) (h : ArB w g b ws) (ht : TblOr w (.pointer q) ent) (he : EntIn ent) (hlen : ent.length ≤ 1048576) (hw : ∀ e ∈ ent, Bm.Words e.2.1) (hx : -9223372036854775808 ≤ x.2.1 ∧ x.2.1 ≤ 9223372036854775807) (hsz : -9223372036854775808 ≤ size ∧ size ≤ 9223372036854775807) (hF : (framesA ws ent x).1.length ≤ 1048576) (hbad : ¬ ToOk ws ent x lo size) :
    Calls Tryd.prog 34 #[.pointer (some ⟨g, 0, none⟩), .pointer q, .agg #[.int .i64 x.1, .int .i64 x.2.1, .int .i64 x.2.2], .int .i64 lo, .int .i64 size] w fun e w' => (∃ n : Int, ¬ n = 0 ∧ e = .returned (.tuple #[.agg #[.int .i64 0, .int .i64 0, .int .i64 0], .int .i64 n])) ∧ Below w.heap.size w w' := by
  rw [toOk_iff] at hbad
  have hFI := framesA_in he hlen h.len h.words x
  have HL := Lk.mk h.len
  have HFR := Lk.mk (fun W (hb : Below w.heap.size w W) => frames_own g b ws (.pointer q) ent x W (h.below hb) (ht.below hb) he hx)
  have HAL := Lk.mk (fun W A c (hb : Below w.heap.size w W) (hC : kFr.C W A (framesA ws ent x).1.length (framesA ws ent x).1) => sall_any g b ws (.pointer q) ent A c (framesA ws ent x).1 W (h.below hb) (ht.below hb) he hw hC hFI hF)
  obtain ⟨h5, hS, hO, hE, hT, hL⟩ := boxes5 w (.cells #[.int .i64 x.1, .int .i64 x.2.1, .int .i64 x.2.2] 41) (.cells #[.int .i64 0, .int .i64 0, .int .i64 0] 41) (.cells #[.int .i64 0] 30) (.cells #[.int .i64 lo, .int .i64 size, .int .i64 lo] 41) (.cells #[.int .i64 x.1, .int .i64 x.2.1, .int .i64 x.2.2, .int .i64 lo, .int .i64 size, .int .i64 lo] 41)
  have hM := wMay_any g b ws (some ⟨w.heap.size + 1 + 1 + 1 + 1, 0, none⟩) 2 [x, (lo, (size, lo))] _ (h.below h5) (two9 hL) (by
    intro y hy
    rcases List.mem_cons.1 hy with rfl | hy
    · exact hx
    · obtain rfl := List.mem_singleton.1 hy
      exact hsz)
  rw [may_two, show ([x, (lo, (size, lo))] : List (Int × (Int × Int))).length = 2 from rfl] at hM
  have HU := Lk.mk (fun (hm : (mayS ws.length x && mayS ws.length (lo, (size, lo))) = true) W => by
    rw [Bool.and_eq_true] at hm
    obtain ⟨a1, a2⟩ := small_of HL.out hm.1
    exact used_any x W a1 a2)
  have HF := Lk.mk (fun (hm : (mayS ws.length x && mayS ws.length (lo, (size, lo))) = true) W => by
    rw [Bool.and_eq_true] at hm
    obtain ⟨a1, a2⟩ := small_of HL.out hm.1
    obtain ⟨a3, a4⟩ := small_of HL.out hm.2
    exact fits_one x (lo, (size, lo)) (some ⟨W.heap.size, 0, none⟩) (W.alloc (.cells #[.int .i64 lo, .int .i64 size, .int .i64 lo] 41)) a1 a3 (one9 (blk_new W _)))
  have HAK : Lk ((∀ d i : Nat, d < (framesA ws ent x).1.length → (i : Int) < Sl.sizeS (tSize ent) ((framesA ws ent x).1.getD d Sl.dFr) → (getV (tSize ent) (tPtr ent) ws (framesA ws ent x).1 d i).2 = 0) → AllOk ent ws (framesA ws ent x).1) := ⟨fun h => h⟩
  have H5 := Lk.mk h5
  have HS5 := Lk.mk hS
  have HO5 := Lk.mk hO
  have HE5 := Lk.mk hE
  have HT5 := Lk.mk hT
  have HM := Lk.mk hM
  have HBAD := Lk.mk hbad
  clear h ht he hlen hw hx hsz hF hbad hFI h5 hS hO hE hT hL hM HL
  generalize (mayS ws.length x && mayS ws.length (lo, (size, lo))) = mb at *
  generalize (overB x (lo, (size, lo))) = ob at *
  generalize AllOk ent ws (framesA ws ent x).1 = AOK at *
  generalize getV (tSize ent) (tPtr ent) ws (framesA ws ent x).1 = gv at *
  generalize (framesA ws ent x).1 = F at *
  generalize (framesA ws ent x).2 = er at *
  generalize tSize ent = sz at *
  obtain ⟨x0, x1, x2⟩ := x
  dsimp only at *
  go_enter_defers Tryd.func34, Tryd.ntmps34
  go_wp2_with (first
    | (go_at_call 84; (with_reducible refine (HM.out).mono ?_); rintro e w1 ⟨rfl, hb⟩; have HB := Lk.mk (below_then H5.out H5.out.size hb); have HS := Lk.mk (blk_below HS5.out hb); have HO := Lk.mk (blk_below HO5.out hb); have HE := Lk.mk (blk_below HE5.out hb); have HT := Lk.mk (blk_below HT5.out hb); obtain ⟨c0, c1, c2, _, _, _⟩ := cells3 HS.out; clear hb)
    | (go_at_call 83; (with_reducible refine (vmust_if mb 1 _).mono ?_); rintro e w' ⟨hw, hor⟩; obtain rfl := hw.symm; clear hw; rcases hor with ⟨hmb, rfl⟩ | ⟨hmb, rfl⟩)
    | (go_at_call 31; (with_reducible refine (HFR.out _ HB.out).mono ?_); rintro e w2 ⟨hb, A, c, rfl, hC⟩; have ec := blk_cell (blk_below HE.out hb) 0; have ez := blk_frozen (blk_below HE.out hb) 0; simp only [List.getElem?_toArray, List.getElem?_cons_zero] at ec; have hq := blk_lt HE.out; obtain ⟨hB9, hS9, hO9, hE9, hT9⟩ := store9 (n := er) (below_then HB.out HB.out.size hb) (blk_below HS.out hb) (blk_below HO.out hb) (blk_below HE.out hb) (blk_below HT.out hb); have HB := Lk.mk hB9; have HS := Lk.mk hS9; have HO := Lk.mk hO9; have HE := Lk.mk hE9; have HT := Lk.mk hT9; have HC := Lk.mk (hC.set hq 0 (.int .i64 er)).now; clear hb hC hB9 hS9 hO9 hE9 hT9 hq; rcases Decidable.em (er = 0) with rfl | her)
    | (go_at_call 83; (with_reducible refine (vmust_ok 9 _).mono ?_); rintro e w' ⟨rfl, hw⟩; obtain rfl := hw.symm; clear hw)
    | (go_at_call 83; (with_reducible refine (vmust_ne her 9 _).mono ?_); rintro e w' ⟨rfl, hw⟩; obtain rfl := hw.symm; clear hw)
    | (go_at_call 83; (with_reducible refine (vmust_ne hne 9 _).mono ?_); rintro e w' ⟨rfl, hw⟩; obtain rfl := hw.symm; clear hw)
    | (go_at_call 32; go_loud ((with_reducible refine (HAL.out _ _ _ HB.out HC.out).mono ?_); rintro e w3 ⟨hb, hor⟩; have ec := blk_cell (blk_below HE.out hb) 0; have ez := blk_frozen (blk_below HE.out hb) 0; simp only [List.getElem?_toArray, List.getElem?_cons_zero] at ec; have HS3 := fun n => store9 (n := n) (below_then HB.out HB.out.size hb) (blk_below HS.out hb) (blk_below HO.out hb) (blk_below HE.out hb) (blk_below HT.out hb); clear hb; rcases hor with ⟨hall, v, rfl, _⟩ | ⟨n, hne, rfl, _⟩ <;> (first | (have h9 := hall; obtain ⟨hB9, hS9, hO9, hE9, hT9⟩ := HS3 0; have HB := Lk.mk hB9; have HS := Lk.mk hS9; have HO := Lk.mk hO9; have HE := Lk.mk hE9; have HT := Lk.mk hT9; clear hB9 hS9 hO9 hE9 hT9 h9 HS3; obtain ⟨c0, c1, c2, _, _, _⟩ := cells3 HS.out) | (obtain ⟨hB9, hS9, hO9, hE9, hT9⟩ := HS3 n; have HB := Lk.mk hB9; have HS := Lk.mk hS9; have HO := Lk.mk hO9; have HE := Lk.mk hE9; have HT := Lk.mk hT9; clear hB9 hS9 hO9 hE9 hT9 HS3))))
    | (go_at_call 37; (with_reducible refine (HU.out hmb _).mono ?_); rintro e w4 ⟨rfl, hb⟩; have HB := Lk.mk (below_then HB.out HB.out.size hb); have HS := Lk.mk (blk_below HS.out hb); have HO := Lk.mk (blk_below HO.out hb); have HE := Lk.mk (blk_below HE.out hb); have HT := Lk.mk (blk_below HT.out hb); obtain ⟨c0, c1, c2, _, _, _⟩ := cells3 HS.out; obtain ⟨d0, d1, d2, _, _, _⟩ := cells3 HT.out; clear hb; rcases Decidable.em (x0 + x1 - x2 ≤ size) with hn | hn)
    | (go_at_call 77; (with_reducible refine (HF.out hmb _).mono ?_); rintro e w5 ⟨rfl, hb⟩; have hB9 := below_alloc HB.out (.cells #[.int .i64 lo, .int .i64 size, .int .i64 lo] 41); have HB := Lk.mk (below_then hB9 hB9.size hb); have HO := Lk.mk (blk_below (blk_alloc HO.out _) hb); have HE := Lk.mk (blk_below (blk_alloc HE.out _) hb); clear hB9 hb)
    | (go_at_call 83; (with_reducible refine (vmust_if (!ob) 2 _).mono ?_); rintro e w' ⟨hw, hor⟩; obtain rfl := hw.symm; clear hw; rcases hor with ⟨hob, rfl⟩ | ⟨hob, rfl⟩ <;> (try exact absurd ⟨hmb, trivial, HAK.out hall, hn, by simpa using hob⟩ HBAD.out))
    | (go_at_call 83; (with_reducible refine (vmust_no 2 _).mono ?_); rintro e w' ⟨rfl, hw⟩; obtain rfl := hw.symm; clear hw))
  all_goals
    refine leaves_cons (f := 82) (args := #[.pointer (some ⟨w.heap.size + 1, 0, none⟩), .pointer (some ⟨w.heap.size + 1 + 1, 0, none⟩)]) (by simp) (by simp [go_sem]) ?_
    refine (to1_thrown _ _ _ _ HO.out _ HE.out (by omega)).mono ?_
    rintro e u' w'' ⟨rfl, rfl, k1, k2, k3⟩
    exact to_out (by simp only [settle, List.dropWhile]) k1 k2 rfl rfl ⟨⟨_, (by first | assumption | decide), rfl⟩, HB.out.trans (k3 _ (by omega) (by omega) HB.out.size)⟩
end Go.Proofs.YtcepafllgjnngaaDoor
