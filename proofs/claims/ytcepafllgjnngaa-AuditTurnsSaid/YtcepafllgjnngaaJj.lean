/-
  Rows of parts that are read; the walks of audit.plain, at, and of the library's IndexFunc, ContainsFunc and Clone at parts; conditions: what is handed in reads as told.
-/
import Derived.Test.YtcepafllgjnngaaJa
import Derived.Test.YtcepafllgjnngaaJ2
import Derived.Deep.RegionHeld3
import Derived.Laws.Rows
namespace Go.Proofs.Ytcepafllgjnngaa
open Go.RowKit Go.Proofs.YtcepafllgjnngaaW.PrintWords
open So

def kPt : Kd Q := Kd.pair (Kd.int .u8) (Kd.pair (Kd.int .i64) (Kd.pair (Kd.int .i64) (Kd.int .i64)))
theorem kPt_at {w : World} {A : Option Addr} {n : Nat} {l : List Q} (h : kPt.C w A n l) (k : Nat) (hk : k < n) : ∃ ad, A = some ad ∧ w.cell? (ad.add (k * 4)) = some (.int .u8 (l.getD k dQ).1) ∧ w.cell? ⟨(ad.add (k * 4)).block, (ad.add (k * 4)).off + 1, none⟩ = some (.int .i64 (l.getD k dQ).2.1) ∧ w.cell? ⟨(ad.add (k * 4)).block, (ad.add (k * 4)).off + 2, none⟩ = some (.int .i64 (l.getD k dQ).2.2.1) ∧ w.cell? ⟨(ad.add (k * 4)).block, (ad.add (k * 4)).off + 3, none⟩ = some (.int .i64 (l.getD k dQ).2.2.2) := by
  obtain ⟨ad, c, e, _, ⟨c0, c', rfl, rfl, c1, c2, rfl, rfl, c3, c4, rfl, rfl, rfl⟩, hc⟩ := ReadsRow.get_ h dQ (k : Int) (by omega) (by omega)
  rw [Int.toNat_natCast] at hc
  have hc0 := hc 0 _ rfl
  have hc1 := hc 1 _ rfl
  have hc2 := hc 2 _ rfl
  have hc3 := hc 3 _ rfl
  rw [Nat.add_zero] at hc0
  refine ⟨ad, e, hc0, ?_, ?_, ?_⟩
  · rw [← add_field _ _ 1 (by omega)]; exact hc1
  · rw [← add_field _ _ 2 (by omega)]; exact hc2
  · rw [← add_field _ _ 3 (by omega)]; exact hc3
/-- a number that is none: below 0, or too great -/
def ofB (n : Int) : Bool := decide (n < 0) || decide (1099511627776 < n)
set_option maxRecDepth 100000 in
set_option maxHeartbeats 2000000 in
theorem aplainLit_any (n : Int) (w : World) : Calls Try.prog 36 #[.int .i64 n] w fun e w' => e = .returned (.bool (ofB n)) ∧ w' = w := by
  have H := Lk.mk (show ofB n = (decide (n < 0) || decide (1099511627776 < n)) from rfl)
  generalize ofB n = r at *
  go_enter Try.func36, Try.ntmps36
  go_wp2
  all_goals go_ret
  all_goals refine ⟨ret_bool ?_, rfl⟩
  all_goals rw [H.out]
  all_goals (try simp_all)
  all_goals (first | omega | (intro _; omega) | done)
set_option maxRecDepth 100000 in
set_option maxHeartbeats 2000000 in
theorem aplain_any (A : Option Addr) (c : Nat) (l : List Int) (w : World) (hr : ReadsInt w .i64 A l.length l) :
    Calls Try.prog 21 #[.slice A l.length c] w fun e w' => e = .returned (.bool (!(l.any ofB))) ∧ Below w.heap.size w w' := by
  have HC := Lk.mk (contains_ints A c l ofB 36 #[] w (enters_of Try.func36 (by kernel_rfl) rfl) hr (fun W n _ _ => (aplainLit_any n W).mono fun e W' h => ⟨h.1, h.2 ▸ Below.refl _ _⟩))
  clear hr
  generalize l.any ofB = q at *
  go_enter Try.func21, Try.ntmps21
  go_wp2_with (go_at_call 35; (with_reducible refine (HC.out).mono ?_); rintro e w' ⟨rfl, hb⟩)
  go_ret
  exact ⟨rfl, hb⟩
/-- whether one number may be: its row is of its own -/
theorem plain1 (n : Int) (w : World) : Calls Try.prog 21 #[.slice (some ⟨w.heap.size, 0, none⟩) 1 1] (w.alloc (.cells #[.int .i64 n] 3)) fun e w' => e = .returned (.bool (!(ofB n))) ∧ Below w.heap.size w w' := by
  have h := aplain_any (some ⟨w.heap.size, 0, none⟩) 1 [n] (w.alloc (.cells #[.int .i64 n] 3)) (own_reads' (own_lit w _ 3 .i64 [n] (Nat.le_refl _) (by simp)))
  refine h.mono fun e w' ⟨he, hb⟩ => ⟨by rw [he]; simp, below_then (below_alloc (Below.refl _ _) _) (by simp) hb⟩
theorem plain2 (n m : Int) (w : World) : Calls Try.prog 21 #[.slice (some ⟨w.heap.size, 0, none⟩) 2 2] (w.alloc (.cells #[.int .i64 n, .int .i64 m] 3)) fun e w' => e = .returned (.bool (!(ofB n || ofB m))) ∧ Below w.heap.size w w' := by
  have h := aplain_any (some ⟨w.heap.size, 0, none⟩) 2 [n, m] (w.alloc (.cells #[.int .i64 n, .int .i64 m] 3)) (own_reads' (own_lit w _ 3 .i64 [n, m] (Nat.le_refl _) (by simp)))
  refine h.mono fun e w' ⟨he, hb⟩ => ⟨by rw [he]; simp, below_then (below_alloc (Below.refl _ _) _) (by simp) hb⟩
/-- a part whose numbers may not be -/
def badQ (x : Q) : Bool := ofB x.2.2.1 || ofB x.2.2.2
set_option maxRecDepth 100000 in
set_option maxHeartbeats 2000000 in
theorem wholeLit_any (x : Q) (w : World) : Calls Try.prog 23 #[.agg #[.int .u8 x.1, .int .i64 x.2.1, .int .i64 x.2.2.1, .int .i64 x.2.2.2]] w fun e w' => e = .returned (.bool (badQ x)) ∧ Below w.heap.size w w' := by
  obtain ⟨x0, x1, x2, x3⟩ := x
  have h0 : Below w.heap.size w (w.alloc (.cells #[.int .u8 x0, .int .i64 x1, .int .i64 x2, .int .i64 x3] 34)) := below_alloc (Below.refl _ _) _
  have H0 := Lk.mk h0
  have hc := plain2 x2 x3 (w.alloc (.cells #[.int .u8 x0, .int .i64 x1, .int .i64 x2, .int .i64 x3] 34))
  rw [show (w.alloc (.cells #[.int .u8 x0, .int .i64 x1, .int .i64 x2, .int .i64 x3] 34)).heap.size = w.heap.size + 1 from by simp] at hc
  have HC := Lk.mk hc
  have H := Lk.mk (show badQ (x0, x1, x2, x3) = (ofB x2 || ofB x3) from rfl)
  generalize badQ (x0, x1, x2, x3) = r at *
  generalize (ofB x2 || ofB x3) = q at *
  clear h0 hc
  go_enter Try.func23, Try.ntmps23
  go_wp2_with (go_at_call 21; (with_reducible refine (HC.out).mono ?_); rintro e w' ⟨rfl, hb⟩)
  go_ret
  exact ⟨ret_bool (by rw [H.out]; try simp), below_then H0.out H0.out.size (by simpa using hb)⟩
set_option maxRecDepth 100000 in
set_option maxHeartbeats 2000000 in
theorem index_parts (A : Option Addr) (c : Nat) (l : List Q) (p : Q → Bool) (g : Nat) (lb : Array Value) (w : World) (eg : ∀ args w, (callFunc g args).run Try.prog w = .ok (.enter g args) w) (hr : kPt.C w A l.length l)
    (hp : ∀ W f, f ∈ l → Below w.heap.size w W → Calls Try.prog g (#[.agg #[.int .u8 f.1, .int .i64 f.2.1, .int .i64 f.2.2.1, .int .i64 f.2.2.2]] ++ lb) W fun e W' => e = .returned (.bool (p f)) ∧ Below W.heap.size W W') :
    Calls Try.prog 37 #[.slice A l.length c, .func (.func g) #[] lb] w fun e w' => (∃ j : Int, e = .returned (.int .i64 j) ∧ decide (0 ≤ j) = l.any p) ∧ Below w.heap.size w w' := by
  have HR := Lk.mk hr
  have HP := Lk.mk hp
  have hm := hr.2.1
  clear hr hp
  go_enter Try.func37, Try.ntmps37
  go_wp2
  go_loopg [5, 8] l.length (fun gg _ v8 wr => ∃ kk : Nat, kk ≤ l.length ∧ l.length - kk ≤ gg ∧ v8 = .int .i64 kk ∧ Lk (∀ j, j < kk → p (l.getD j dQ) = false) ∧ Lk (Below w.heap.size w wr))
  case atStart => exact ⟨0, by omega, by omega, rfl, ⟨fun j hj => absurd hj (by omega)⟩, ⟨Below.refl _ _⟩⟩
  case round =>
    obtain ⟨kk, hk, hg, rfl, HN, HB⟩ := hrel
    by_cases hlt : kk < l.length
    · obtain ⟨ad, rfl, hcell0, hcell1, hcell2, hcell3⟩ := kPt_at (Kd.C_below HR.out HB.out) kk hlt
      have hltz : (kk : Int) < (l.length : Int) := by omega
      obtain ⟨f, hf⟩ : ∃ f, f = l.getD kk dQ := ⟨_, rfl⟩
      rw [← hf] at hcell0 hcell1 hcell2 hcell3
      have HM := Lk.mk (show f ∈ l by rw [hf]; exact getD_mem _ hlt)
      have HF := Lk.mk hf
      have hq := Lk.mk (HP.out wr f HM.out HB.out)
      clear hf
      cases hpx : p f with
      | true =>
        rw [hpx] at hq
        have HPX := Lk.mk hpx
        clear hpx
        go_wp2_with (go_at_fn g; (with_reducible refine hq.out.mono ?_); rintro e w' ⟨rfl, hb⟩)
        go_ret
        refine ⟨⟨_, rfl, ?_⟩, below_then HB.out HB.out.size hb⟩
        have : l.any p = true := List.any_eq_true.2 ⟨f, HM.out, HPX.out⟩
        rw [this]; simp
      | false =>
        rw [hpx] at hq
        have HPX := Lk.mk hpx
        clear hpx
        go_wp2_with (go_at_fn g; (with_reducible refine hq.out.mono ?_); rintro e w' ⟨rfl, hb⟩)
        go_roundg (l.length - (kk + 1))
        case measure => omega
        case rel =>
          refine ⟨kk + 1, by omega, by omega, by go_num, ⟨fun j hj => ?_⟩, ⟨below_then HB.out HB.out.size hb⟩⟩
          by_cases e : j = kk
          · subst e; rw [← HF.out]; exact HPX.out
          · exact HN.out j (by omega)
    · have hltz : ¬ (kk : Int) < (l.length : Int) := by omega
      obtain rfl : kk = l.length := by omega
      go_wp2
      go_ret
      refine ⟨⟨_, rfl, ?_⟩, HB.out⟩
      have : l.any p = false := by
        rw [List.any_eq_false]
        intro x hx
        obtain ⟨j, hj, rfl⟩ := List.getElem_of_mem hx
        have := HN.out j hj
        rw [List.getD_eq_getElem?_getD, List.getElem?_eq_getElem hj] at this
        simpa using this
      rw [this]; simp
set_option maxRecDepth 100000 in
set_option maxHeartbeats 2000000 in
theorem contains_parts (A : Option Addr) (c : Nat) (l : List Q) (p : Q → Bool) (g : Nat) (lb : Array Value) (w : World) (eg : ∀ args w, (callFunc g args).run Try.prog w = .ok (.enter g args) w) (hr : kPt.C w A l.length l)
    (hp : ∀ W f, f ∈ l → Below w.heap.size w W → Calls Try.prog g (#[.agg #[.int .u8 f.1, .int .i64 f.2.1, .int .i64 f.2.2.1, .int .i64 f.2.2.2]] ++ lb) W fun e W' => e = .returned (.bool (p f)) ∧ Below W.heap.size W W') :
    Calls Try.prog 22 #[.slice A l.length c, .func (.func g) #[] lb] w fun e w' => e = .returned (.bool (l.any p)) ∧ Below w.heap.size w w' := by
  have HI := Lk.mk (index_parts A c l p g lb w eg hr hp)
  clear hr hp
  generalize l.any p = r at *
  go_enter Try.func22, Try.ntmps22
  go_wp2_with (go_at_call 37; (with_reducible refine (HI.out).mono ?_); rintro e w' ⟨⟨j, rfl, hj⟩, hb⟩; have HJ := Lk.mk hj; clear hj)
  all_goals go_ret
  all_goals exact ⟨ret_bool (by rw [← HJ.out]), hb⟩

theorem infoPt : (Try.prog.info? 34).map (fun i => (i.zero, i.size, i.bytes)) = some (some (.agg #[.int .u8 0, .int .i64 0, .int .i64 0, .int .i64 0]), 4, 32) := by kernel_rfl
set_option maxRecDepth 100000 in
set_option maxHeartbeats 2000000 in
theorem cloneP (A : Option Addr) (c : Nat) (l : List Q) (w : World) (hr : kPt.C w A l.length l) (hl : l.length ≤ 1048576) :
    Calls Try.prog 25 #[.slice A l.length c] w fun e w' => ∃ v, e = .returned v ∧ kPt.R 34 w' w.heap.size (fun k => w.heap.size ≤ k) v l ∧ Below w.heap.size w w' := by
  have hm := hr.2.1
  have q : ∀ (w : World) (a : Option Addr) (n c n' c' : Nat), (binOp .eql 30 (.slice a n c) (.slice none n' c')).run Try.prog w = .ok (.bool a.isNone) w := fun w a n c n' c' => Lib.run_eql_slice_nil w _ _ a n c n' c' Try.underlying30
  cases A with
  | none =>
    have h0 : l = [] := by
      cases l with
      | nil => rfl
      | cons x xs => obtain ⟨ad, h, _⟩ := hr.2.2 (by simp); cases h
    subst h0
    clear hr
    go_enter Try.func25, Try.ntmps25
    go_wp2
    go_ret
    exact ⟨_, rfl, Kd.R_nil _ _ _ _ _, Below.refl _ _⟩
  | some ad =>
    have HR := Lk.mk hr
    have HBa := Lk.mk (below_alloc (Below.refl w.heap.size w) (.cells #[] 34))
    clear hr
    go_enter Try.func25, Try.ntmps25
    go_wp2_with (at_builtin
                 refine Kd.R_append_rows (w0 := w) kPt w.heap.size rfl _ _ 30 34 _ 32 rfl Try.underlying30 infoPt rfl (show 0 < (4 : Nat) from by decide) (show 0 < (32 : Nat) from by decide) (.slice (some ⟨w.heap.size, 0, none⟩) 0 0) [] l (some ad) l.length c (fun k => w.heap.size ≤ k) (fun _ => False) rfl rfl ?q1 (Kd.C_below HR.out HBa.out) (fun _ _ h => h) (fun _ h => h.elim) ?q3 HBa.out HBa.out.size ?q2 ?_
                 case q1 => exact ⟨fun k hk => by have : w.heap.size = k := (by simpa [Value.ownBlock] using hk)
                                                  omega, [], World.ownsRow_lit (base := w.heap.size) (e := 34) (size := 4) w #[] 0 (Nat.le_refl _) (by decide) (by rfl), Reps.none _ _⟩
                 case q2 => (simp only [List.length_nil]; omega)
                 case q3 => (intro k hk; simp at hk; omega)
                 intro v4 w4 hR4 hb4 _ _
                 rw [List.nil_append] at hR4
                 have HR4 := Lk.mk hR4
                 have HB4 := Lk.mk hb4
                 clear hR4 hb4)
    go_ret
    exact ⟨_, rfl, HR4.out, HB4.out⟩
/-- what a row of parts is behind a clone: a block of its own -/
theorem Par.of {W : World} {base g cap : Nat} {ok : Nat → Prop} {l : List Q} (h : kPt.R 34 W base ok (.slice (some ⟨g, 0, none⟩) l.length cap) l) (hp : 0 < l.length) : Par W g l.length (fun k => l.getD k dQ) := by
  obtain ⟨g', cap', e, _, _, arr, hA⟩ := Kd.R_form h hp
  injection e with e1 _ _
  injection e1 with e1
  injection e1 with e1 _ _
  subst e1
  obtain ⟨A, c, e2, _, hC⟩ := Kd.R_reads h
  injection e2 with e2 _ _
  subst e2
  refine ⟨arr, hA, fun k hk => ?_⟩
  obtain ⟨ad, had, c0, c1, c2, c3⟩ := kPt_at hC k hk
  injection had with had
  subst had
  have ha : (⟨g, 0, none⟩ : Addr).add (k * 4) = ⟨g, k * 4, none⟩ := by unfold Addr.add; split <;> simp_all
  rw [ha] at c0 c1 c2 c3
  exact ⟨(blk_cell hA (k * 4)).symm.trans c0, (blk_cell hA (k * 4 + 1)).symm.trans c1, (blk_cell hA (k * 4 + 2)).symm.trans c2, (blk_cell hA (k * 4 + 3)).symm.trans c3⟩
set_option maxRecDepth 100000 in
set_option maxHeartbeats 2000000 in
theorem at_any (k n : Int) (w : World) : Calls Try.prog 24 #[.int .u8 k, .int .i64 n] w fun e w' => e = .returned (.agg #[.int .u8 k, .int .i64 n, .int .i64 0, .int .i64 0]) ∧ Below w.heap.size w w' := by
  have HB := Lk.mk (below_alloc (Below.refl w.heap.size w) (.cells #[.int .u8 k, .int .i64 n, .int .i64 0, .int .i64 0] 36))
  have HE := Lk.mk (blk_new w (.cells #[.int .u8 k, .int .i64 n, .int .i64 0, .int .i64 0] 36))
  go_enter Try.func24, Try.ntmps24
  go_wp2
  exact bodyPost_ret (results_cell_row Try.results24 _ _ w.heap.size 36 #[.int .u8 k, .int .i64 n, .int .i64 0, .int .i64 0] (0, 0) _ rfl HE.out Try.underlying36 rfl (by kernel_rfl)) rfl ⟨rfl, HB.out⟩
end Go.Proofs.Ytcepafllgjnngaa
