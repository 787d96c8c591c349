/-
  The walks of move's plain, Fits, By, must, of its deferred closure, and of walk.Used; conditions: the stacks' numbers are small.
-/
import Derived.Test.YtcepafllgjnngaaDoorMt
import Derived.Test.YtcepafllgjnngaaDoorK3
import Derived.Test.YtcepafllgjnngaaDoorV9
import Derived.Defers
namespace Go.Proofs.YtcepafllgjnngaaDoor
open Go.RowKit Go.Proofs.YtcepafllgjnngaaDoorW.PrintWords

set_option maxRecDepth 100000 in
set_option maxHeartbeats 2000000 in
theorem mplainLit_any (n : Int) (w : World) : Calls Tryd.prog 159 #[.int .i64 n] w fun e w' => e = .returned (.bool (offB n)) ∧ w' = w := by
  have H := Lk.mk (show offB n = (decide (n < 0) || decide (1099511627776 < n)) from rfl)
  generalize offB n = r at *
  go_enter Tryd.func159, Tryd.ntmps159
  go_wp2
  all_goals go_ret
  all_goals refine ⟨ret_bool ?_, rfl⟩
  all_goals rw [H.out]
  all_goals (try simp_all)
  all_goals (first | omega | (intro _; omega) | done)
set_option maxRecDepth 100000 in
set_option maxHeartbeats 2000000 in
theorem mplain_any (A : Option Addr) (c : Nat) (l : List Int) (w : World) (hr : ReadsInt w .i64 A l.length l) : Calls Tryd.prog 127 #[.slice A l.length c] w fun e w' => e = .returned (.bool (!(l.any offB))) ∧ Below w.heap.size w w' := by
  have HC := Lk.mk (contains_ints A c l offB 159 #[] w (enters_of Tryd.func159 (by kernel_rfl) rfl) hr (fun W n _ _ => (mplainLit_any n W).mono fun e W' h => ⟨h.1, h.2 ▸ Below.refl _ _⟩))
  clear hr
  generalize l.any offB = q at *
  go_enter Tryd.func127, Tryd.ntmps127
  go_wp2_with (go_at_call 136; (with_reducible refine (HC.out).mono ?_); rintro e w' ⟨rfl, hb⟩)
  go_ret
  exact ⟨rfl, hb⟩
theorem off_no {n : Int} (h : 0 ≤ n) (h2 : n ≤ 1099511627776) : offB n = false := by
  unfold offB
  rw [decide_eq_false (by omega), decide_eq_false (by omega)]; rfl
/-- a stack's numbers are small -/
def Small (x : Int × (Int × Int)) : Prop := 0 ≤ x.1 ∧ x.1 ≤ 65536 ∧ 0 < x.2.1 ∧ x.2.1 ≤ 65536 ∧ 0 ≤ x.2.2 ∧ x.2.2 ≤ 65536
def overB (s x : Int × (Int × Int)) : Bool := decide (s.1 < x.1 + x.2.1) && decide (x.1 < s.1 + s.2.1)
set_option maxRecDepth 100000 in
set_option maxHeartbeats 8000000 in
theorem fitsLit_any (q : Nat) (s x : Int × (Int × Int)) (W : World) (hq : W.heap[q]? = some (.cells #[.int .i64 s.1, .int .i64 s.2.1, .int .i64 s.2.2] 41 (0, 0))) (hs : Small s) (hx : Small x) :
    Calls Tryd.prog 129 #[.agg #[.int .i64 x.1, .int .i64 x.2.1, .int .i64 x.2.2], .pointer (some ⟨q, 0, none⟩)] W fun e W' => e = .returned (.bool (overB s x)) ∧ Below W.heap.size W W' := by
  obtain ⟨s0, s1, s2⟩ := s
  obtain ⟨x0, x1, x2⟩ := x
  obtain ⟨a1, a2, a3, a4, a5, a6⟩ := hs
  obtain ⟨b1, b2, b3, b4, b5, b6⟩ := hx
  dsimp only at *
  have h0 := below_alloc (below_alloc (Below.refl W.heap.size W) (.cells #[.int .i64 x0, .int .i64 x1, .int .i64 x2] 41)) (.cells #[.int .i64 s0, .int .i64 s1, .int .i64 x0, .int .i64 x1] 3)
  have hs1 : (W.alloc (.cells #[.int .i64 x0, .int .i64 x1, .int .i64 x2] 41)).heap.size = W.heap.size + 1 := by simp
  have hp := mplain_any (some ⟨(W.alloc (.cells #[.int .i64 x0, .int .i64 x1, .int .i64 x2] 41)).heap.size, 0, none⟩) 4 [s0, s1, x0, x1] ((W.alloc (.cells #[.int .i64 x0, .int .i64 x1, .int .i64 x2] 41)).alloc (.cells #[.int .i64 s0, .int .i64 s1, .int .i64 x0, .int .i64 x1] 3)) (own_reads' (own_lit (W.alloc (.cells #[.int .i64 x0, .int .i64 x1, .int .i64 x2] 41)) _ 3 .i64 [s0, s1, x0, x1] (Nat.le_refl _) (by simp)))
  rw [show ([s0, s1, x0, x1] : List Int).length = 4 from rfl, hs1, show ([s0, s1, x0, x1] : List Int).any offB = false by simp [off_no, a1, a3, b1, b3, Int.le_of_lt, Int.le_trans a2, Int.le_trans b2, Int.le_trans a4, Int.le_trans b4]] at hp
  have HP := Lk.mk hp
  have H0 := Lk.mk h0
  have HQ := Lk.mk (blk_below hq h0)
  have HX := Lk.mk (blk_alloc (blk_new W (.cells #[.int .i64 x0, .int .i64 x1, .int .i64 x2] 41)) (.cells #[.int .i64 s0, .int .i64 s1, .int .i64 x0, .int .i64 x1] 3))
  obtain ⟨q0, q1, q2, _, _, _⟩ := cells3 (blk_below hq (below_alloc (Below.refl W.heap.size W) (.cells #[.int .i64 x0, .int .i64 x1, .int .i64 x2] 41)))
  obtain ⟨y0, y1, y2, _, _, _⟩ := cells3 (blk_new W (.cells #[.int .i64 x0, .int .i64 x1, .int .i64 x2] 41))
  have hw1 : IntKind.i64.wrap (x0 + x1) = x0 + x1 := IntWalk.i64_in _ (by omega)
  have hw2 : IntKind.i64.wrap (s0 + s1) = s0 + s1 := IntWalk.i64_in _ (by omega)
  have HO := Lk.mk (show overB (s0, (s1, s2)) (x0, (x1, x2)) = (decide (s0 < x0 + x1) && decide (x0 < s0 + s1)) from rfl)
  rw [HO.out]
  clear hq h0 hp hs1 HO
  by_cases p1 : s0 < x0 + x1
  · by_cases p2 : x0 < s0 + s1
    · go_enter Tryd.func129, Tryd.ntmps129
      go_wp2_with (go_at_call 127; (with_reducible refine (HP.out).mono ?_); rintro e w1 ⟨rfl, hb⟩; have HB := Lk.mk (below_then H0.out H0.out.size hb); obtain ⟨c0, c1, c2, _, _, _⟩ := cells3 (blk_below HQ.out hb); obtain ⟨d0, d1, d2, _, _, _⟩ := cells3 (blk_below HX.out hb); clear hb)
      go_ret
      exact ⟨ret_bool (by simp [p1, p2]), HB.out⟩
    · have p2' : s0 + s1 ≤ x0 := by omega
      go_enter Tryd.func129, Tryd.ntmps129
      go_wp2_with (go_at_call 127; (with_reducible refine (HP.out).mono ?_); rintro e w1 ⟨rfl, hb⟩; have HB := Lk.mk (below_then H0.out H0.out.size hb); obtain ⟨c0, c1, c2, _, _, _⟩ := cells3 (blk_below HQ.out hb); obtain ⟨d0, d1, d2, _, _, _⟩ := cells3 (blk_below HX.out hb); clear hb)
      go_ret
      exact ⟨ret_bool (by simp [p1, p2']), HB.out⟩
  · have p1' : x0 + x1 ≤ s0 := by omega
    go_enter Tryd.func129, Tryd.ntmps129
    go_wp2_with (go_at_call 127; (with_reducible refine (HP.out).mono ?_); rintro e w1 ⟨rfl, hb⟩; have HB := Lk.mk (below_then H0.out H0.out.size hb); obtain ⟨c0, c1, c2, _, _, _⟩ := cells3 (blk_below HQ.out hb); obtain ⟨d0, d1, d2, _, _, _⟩ := cells3 (blk_below HX.out hb); clear hb)
    go_ret
    exact ⟨ret_bool (by rw [decide_eq_false (show ¬ s0 < x0 + x1 by omega)]; rfl), HB.out⟩
set_option maxRecDepth 100000 in
set_option maxHeartbeats 2000000 in
theorem fits_one (s x : Int × (Int × Int)) (A : Option Addr) (w : World) (hs : Small s) (hx : Small x) (hr : kFr.C w A 1 [x]) :
    Calls Tryd.prog 77 #[.agg #[.int .i64 s.1, .int .i64 s.2.1, .int .i64 s.2.2], .slice A 1 1] w fun e w' => e = .returned (.bool (!(overB s x))) ∧ Below w.heap.size w w' := by
  have h0 := below_alloc (Below.refl w.heap.size w) (.cells #[.int .i64 s.1, .int .i64 s.2.1, .int .i64 s.2.2] 41)
  have hq := blk_new w (.cells #[.int .i64 s.1, .int .i64 s.2.1, .int .i64 s.2.2] 41)
  have hc := contains_stk A 1 [x] (fun y => overB s y) 129 #[.pointer (some ⟨w.heap.size, 0, none⟩)] _ (enters_of Tryd.func129 (by kernel_rfl) rfl) (Kd.C_below hr h0)
    (fun W y hy hb => by
      obtain rfl : y = x := by simpa using hy
      exact fitsLit_any w.heap.size s y W (blk_below hq hb) hs hx)
  rw [show ([x] : List Sl.Fr).length = 1 from rfl, show ([x] : List Sl.Fr).any (fun y => overB s y) = overB s x by simp] at hc
  have HC := Lk.mk hc
  have H0 := Lk.mk h0
  obtain ⟨s0, s1, s2⟩ := s
  dsimp only at *
  clear hr h0 hq hc hs hx
  generalize overB (s0, (s1, s2)) x = r at *
  go_enter Tryd.func77, Tryd.ntmps77
  go_wp2_with (go_at_call 128; (with_reducible refine (HC.out).mono ?_); rintro e w' ⟨rfl, hb⟩)
  go_ret
  exact ⟨rfl, below_then H0.out H0.out.size hb⟩
set_option maxRecDepth 100000 in
set_option maxHeartbeats 2000000 in
theorem by_any (s : Int × (Int × Int)) (lo size : Int) (w : World) (hs : Small s) (h1 : 0 ≤ lo ∧ lo ≤ 65536) (h2 : 0 ≤ size ∧ size ≤ 65536) :
    Calls Tryd.prog 76 #[.agg #[.int .i64 s.1, .int .i64 s.2.1, .int .i64 s.2.2], .int .i64 lo, .int .i64 size] w fun e w' => e = .returned (.int .i64 (lo + size - s.1 - s.2.1)) ∧ Below w.heap.size w w' := by
  obtain ⟨s0, s1, s2⟩ := s
  obtain ⟨a1, a2, a3, a4, a5, a6⟩ := hs
  dsimp only at *
  have h0 := below_alloc (below_alloc (Below.refl w.heap.size w) (.cells #[.int .i64 s0, .int .i64 s1, .int .i64 s2] 41)) (.cells #[.int .i64 s0, .int .i64 s1, .int .i64 s2, .int .i64 lo, .int .i64 size] 3)
  have hs1 : (w.alloc (.cells #[.int .i64 s0, .int .i64 s1, .int .i64 s2] 41)).heap.size = w.heap.size + 1 := by simp
  have hp := mplain_any (some ⟨(w.alloc (.cells #[.int .i64 s0, .int .i64 s1, .int .i64 s2] 41)).heap.size, 0, none⟩) 5 [s0, s1, s2, lo, size] ((w.alloc (.cells #[.int .i64 s0, .int .i64 s1, .int .i64 s2] 41)).alloc (.cells #[.int .i64 s0, .int .i64 s1, .int .i64 s2, .int .i64 lo, .int .i64 size] 3)) (own_reads' (own_lit (w.alloc (.cells #[.int .i64 s0, .int .i64 s1, .int .i64 s2] 41)) _ 3 .i64 [s0, s1, s2, lo, size] (Nat.le_refl _) (by simp)))
  rw [show ([s0, s1, s2, lo, size] : List Int).length = 5 from rfl, hs1, show ([s0, s1, s2, lo, size] : List Int).any offB = false by simp only [List.any_cons, List.any_nil, off_no a1 (by omega), off_no (Int.le_of_lt a3) (by omega), off_no a5 (by omega), off_no h1.1 (by omega), off_no h2.1 (by omega), Bool.or_false]] at hp
  have HP := Lk.mk hp
  have H0 := Lk.mk h0
  have HX := Lk.mk (blk_alloc (blk_new w (.cells #[.int .i64 s0, .int .i64 s1, .int .i64 s2] 41)) (.cells #[.int .i64 s0, .int .i64 s1, .int .i64 s2, .int .i64 lo, .int .i64 size] 3))
  obtain ⟨y0, y1, y2, _, _, _⟩ := cells3 (blk_new w (.cells #[.int .i64 s0, .int .i64 s1, .int .i64 s2] 41))
  have hw1 : IntKind.i64.wrap (lo + size) = lo + size := IntWalk.i64_in _ (by omega)
  have hw2 : IntKind.i64.wrap (lo + size - s0) = lo + size - s0 := IntWalk.i64_in _ (by omega)
  have hw3 : IntKind.i64.wrap (lo + size - s0 - s1) = lo + size - s0 - s1 := IntWalk.i64_in _ (by omega)
  clear h0 hp hs1
  go_enter Tryd.func76, Tryd.ntmps76
  go_wp2_with (go_at_call 127; (with_reducible refine (HP.out).mono ?_); rintro e w1 ⟨rfl, hb⟩; have HB := Lk.mk (below_then H0.out H0.out.size hb); obtain ⟨d0, d1, d2, _, _, _⟩ := cells3 (blk_below HX.out hb); clear hb)
  go_ret
  exact ⟨rfl, HB.out⟩
def mwrongC (e : Int) : List PanicEntry := [{ v := .iface 145 (.agg #[.int .i64 e]), recovered := false }]
set_option maxRecDepth 100000 in
set_option maxHeartbeats 2000000 in
theorem vmust_ok (e : Int) (w : World) : Calls Tryd.prog 83 #[.bool true, .int .i64 e] w fun r w' => r = .returned (.tuple #[]) ∧ w' = w := by
  go_enter Tryd.func83, Tryd.ntmps83
  go_wp2
  simp [bodyPost, results, Tryd.results83]
set_option maxRecDepth 100000 in
set_option maxHeartbeats 2000000 in
theorem vmust_no (e : Int) (w : World) : Calls Tryd.prog 83 #[.bool false, .int .i64 e] w fun r w' => r = .panicked (mwrongC e) ∧ w' = w := by
  go_enter Tryd.func83, Tryd.ntmps83
  go_wp2
  exact ⟨rfl, rfl, rfl⟩
set_option maxRecDepth 100000 in
set_option maxHeartbeats 2000000 in
theorem to1_idle (p q : Addr) (w : World) :
    CallsD Tryd.prog 82 #[.pointer (some p), .pointer (some q)] .returning w fun e u' w' => e = .returned (.tuple #[]) ∧ u' = .returning ∧ w' = w := by
  refine callsD_of_wpS Tryd.func82 rfl fun c₀ cs hu => ?_
  apply wpS_seq
  apply wpS_region
  simp [wpOpsS, go_sem, recoverD, hu, Tryd.ntmps82, Exit.thenS]
  refine wpS_of_wp ?_
  go_wp2
  cases c₀
  simp_all [bodyPostS, results, Tryd.results82]
set_option maxRecDepth 100000 in
set_option maxHeartbeats 2000000 in
theorem used_any (x : Int × (Int × Int)) (w : World) (hx : Small x) (h2 : x.2.2 ≤ x.1 + x.2.1) : Calls Tryd.prog 37 #[.agg #[.int .i64 x.1, .int .i64 x.2.1, .int .i64 x.2.2]] w fun e w' => e = .returned (.int .i64 (x.1 + x.2.1 - x.2.2)) ∧ Below w.heap.size w w' := by
  have hp : plainB x = true := by
    unfold plainB
    obtain ⟨a1, a2, a3, a4, a5, a6⟩ := hx
    simp only [List.any_cons, List.any_nil, off_no a1 (by omega), off_no (Int.le_of_lt a3) (by omega), off_no a5 (by omega), Bool.or_false]
    rfl
  have h0 := below_alloc (Below.refl w.heap.size w) (.cells #[.int .i64 x.1, .int .i64 x.2.1, .int .i64 x.2.2] 41)
  have HP := Lk.mk (hp ▸ plain_any x (w.alloc (.cells #[.int .i64 x.1, .int .i64 x.2.1, .int .i64 x.2.2] 41)))
  have H0 := Lk.mk h0
  have HX := Lk.mk (blk_new w (.cells #[.int .i64 x.1, .int .i64 x.2.1, .int .i64 x.2.2] 41))
  obtain ⟨y0, y1, y2, _, _, _⟩ := cells3 HX.out
  obtain ⟨x0, x1, x2⟩ := x
  obtain ⟨a1, a2, a3, a4, a5, a6⟩ := hx
  dsimp only at *
  have hw1 : IntKind.i64.wrap (x0 + x1) = x0 + x1 := IntWalk.i64_in _ (by omega)
  have hw2 : IntKind.i64.wrap (x0 + x1 - x2) = x0 + x1 - x2 := IntWalk.i64_in _ (by omega)
  clear h0 hp
  go_enter Tryd.func37, Tryd.ntmps37
  go_wp2_with (go_at_call 87; (with_reducible refine (HP.out).mono ?_); rintro e w1 ⟨rfl, hb⟩; have HB := Lk.mk (below_then H0.out H0.out.size hb); obtain ⟨d0, d1, d2, _, _, _⟩ := cells3 (blk_below HX.out hb); clear hb)
  all_goals go_ret
  all_goals exact ⟨ret_int (by omega), HB.out⟩
end Go.Proofs.YtcepafllgjnngaaDoor
