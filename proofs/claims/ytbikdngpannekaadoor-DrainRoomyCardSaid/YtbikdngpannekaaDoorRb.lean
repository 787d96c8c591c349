/-
  The walks of policy.Limit, policy.First, policy.Grow; conditions: of sizes.
-/
import Derived.Test.YtbikdngpannekaaDoorRa
namespace Go.Proofs.YtbikdngpannekaaDoor
open Go.RowKit Go.Proofs.YtbikdngpannekaaDoorW.PrintWords

set_option maxRecDepth 100000 in
set_option maxHeartbeats 2000000 in
theorem limLit_any (n : Int) (w : World) : Calls Tryd.prog 150 #[.int .i64 n] w fun e w' => e = .returned (.bool (decide (65536 < n))) ∧ w' = w := by
  go_enter Tryd.func150, Tryd.ntmps150
  go_wp2
  go_ret
  exact ⟨rfl, rfl⟩
def limAll (l : List Int) : Bool := szAll l && !(l.any fun n => decide (65536 < n))
def limB (n : Int) : Bool := szB n && decide (n ≤ 65536)
theorem limB_all (n : Int) : limAll [n] = limB n := by
  unfold limAll limB
  rw [szB_all]
  congr 1
  simp only [List.any_cons, List.any_nil, Bool.or_false]
  by_cases h : 65536 < n
  · rw [decide_eq_true h, decide_eq_false (by omega)]; rfl
  · rw [decide_eq_false h, decide_eq_true (by omega)]; rfl
theorem limB_two {a b : Int} (ha : limB a = true) (hb : limB b = true) : limAll [a, b] = true := by
  unfold limB szB at ha hb
  simp only [Bool.and_eq_true, decide_eq_true_eq] at ha hb
  unfold limAll szAll isAll
  simp only [List.any_cons, List.any_nil, Bool.or_false, ha.1.2, hb.1.2]
  rw [decide_eq_false (show ¬ a < 16 by omega), decide_eq_false (show ¬ b < 16 by omega), decide_eq_false (show ¬ 65536 < a by omega), decide_eq_false (show ¬ 65536 < b by omega)]
  rfl
set_option maxRecDepth 100000 in
set_option maxHeartbeats 2000000 in
theorem limit_any (A : Option Addr) (c : Nat) (l : List Int) (w : World) (hr : ReadsInt w .i64 A l.length l) (hl : I64s l) : Calls Tryd.prog 130 #[.slice A l.length c] w fun e w' => e = .returned (.bool (limAll l)) ∧ Below w.heap.size w w' := by
  have HI := Lk.mk (sizes_any A c l w hr hl)
  have HC := Lk.mk (fun W (hb : Below w.heap.size w W) => contains_ints A c l (fun n => decide (65536 < n)) 150 #[] W (enters_of Tryd.func150 (by kernel_rfl) rfl) (hr.below hb)
    (fun W x _ _ => (limLit_any x W).mono fun e W' h => ⟨h.1, h.2 ▸ Below.refl _ _⟩))
  have H := Lk.mk (show limAll l = (szAll l && !(l.any fun n => decide (65536 < n))) from rfl)
  clear hr hl
  generalize limAll l = r at *
  generalize (l.any fun n => decide (65536 < n)) = q at *
  cases hi : szAll l with
  | true =>
    rw [hi] at HI H
    clear hi
    go_enter Tryd.func130, Tryd.ntmps130
    go_wp2_with (first
      | (go_at_call 104; (with_reducible refine (HI.out).mono ?_); rintro e w1 ⟨rfl, hb⟩; have HB := Lk.mk hb; clear hb)
      | (go_at_call 134; (with_reducible refine (HC.out _ HB.out).mono ?_); rintro e w2 ⟨rfl, hb⟩))
    go_ret
    exact ⟨ret_bool (by rw [H.out]; rfl), below_then HB.out HB.out.size hb⟩
  | false =>
    rw [hi] at HI H
    clear hi
    go_enter Tryd.func130, Tryd.ntmps130
    go_wp2_with (go_at_call 104; (with_reducible refine (HI.out).mono ?_); rintro e w1 ⟨rfl, hb⟩; have HB := Lk.mk hb; clear hb)
    go_ret
    exact ⟨ret_bool (by rw [H.out]; rfl), HB.out⟩
theorem one_i64 {x : Int} (h : -9223372036854775808 ≤ x ∧ x ≤ 9223372036854775807) : I64s [x] := fun y hy => by obtain rfl : y = x := (by simpa using hy); exact h
theorem two_i64 {a b : Int} (ha : -9223372036854775808 ≤ a ∧ a ≤ 9223372036854775807) (hb : -9223372036854775808 ≤ b ∧ b ≤ 9223372036854775807) : I64s [a, b] := fun y hy => by
  rcases (by simpa using hy : y = a ∨ y = b) with rfl | rfl
  · exact ha
  · exact hb
theorem limit1 (n : Int) (w : World) (hn : -9223372036854775808 ≤ n ∧ n ≤ 9223372036854775807) : Calls Tryd.prog 130 #[.slice (some ⟨w.heap.size, 0, none⟩) 1 1] (w.alloc (.cells #[.int .i64 n] 3)) fun e w' => e = .returned (.bool (limB n)) ∧ Below w.heap.size w w' := by
  have h := limit_any _ 1 [n] _ (lit1 w n) (one_i64 hn)
  rw [limB_all] at h
  exact h.mono fun e w' h => ⟨h.1, below_then (below_alloc (Below.refl _ _) _) (below_alloc (Below.refl _ _) _).size h.2⟩
theorem limit2 (a b : Int) (w : World) (ha : limB a = true) (hb : limB b = true) : Calls Tryd.prog 130 #[.slice (some ⟨w.heap.size, 0, none⟩) 2 2] (w.alloc (.cells #[.int .i64 a, .int .i64 b] 3)) fun e w' => e = .returned (.bool true) ∧ Below w.heap.size w w' := by
  have ha' := ha
  have hb' := hb
  unfold limB szB at ha' hb'
  simp only [Bool.and_eq_true, decide_eq_true_eq] at ha' hb'
  have h := limit_any _ 2 [a, b] _ (lit2 w a b) (two_i64 (by omega) (by omega))
  rw [limB_two ha hb] at h
  exact h.mono fun e w' h => ⟨h.1, below_then (below_alloc (Below.refl _ _) _) (below_alloc (Below.refl _ _) _).size h.2⟩
theorem limB_in {L : Int} (h : limB L = true) : 16 ≤ L ∧ L ≤ 65536 := by
  unfold limB szB at h
  simp only [Bool.and_eq_true, decide_eq_true_eq] at h
  omega
set_option maxRecDepth 100000 in
set_option maxHeartbeats 2000000 in
theorem first_ok (m : Nat) (L : Int) (w : World) (hL : limB L = true) (h0 : 1 ≤ m) (h1 : (m : Int) ≤ L) : Calls Tryd.prog 99 #[.int .i64 m, .int .i64 L] w fun e w' => e = .returned (.tuple #[.int .i64 (Rk.rnd 16 m : Nat), .int .i64 0]) ∧ Below w.heap.size w w' := by
  have hr := limB_in hL
  have HLm := Lk.mk (limit1 L w (by omega))
  rw [hL] at HLm
  have hm1 : ¬ (m : Int) < 1 := by omega
  have hm2 : ¬ L < (m : Int) := by omega
  have HR := Lk.mk (Rk.rnd_first (w := m) (by omega))
  by_cases h : m ≤ 16
  · rw [Nat.max_eq_right h] at HR
    have HU := Lk.mk (fun W => up_any 16 W (by omega))
    rw [show ((16 : Nat) : Int) = 16 from rfl] at HU
    have hx : max (m : Int) 16 = 16 := by omega
    have hx2 : (m : Int) ≤ 16 := by omega
    clear hL h0 h1 hr h
    go_enter Tryd.func99, Tryd.ntmps99
    go_wp2_with (first
      | (go_at_call 130; (with_reducible refine (HLm.out).mono ?_); rintro e w1 ⟨rfl, hb⟩; have HB := Lk.mk hb; clear hb)
      | (go_at_call 131; (with_reducible refine (HU.out _).mono ?_); rintro e w' ⟨rfl, hw⟩; obtain rfl := hw.symm; clear hw))
    go_ret2
    exact ⟨by rw [← HR.out]; rfl, HB.out⟩
  · rw [Nat.max_eq_left (by omega)] at HR
    have HU := Lk.mk (fun W => up_any m W (by omega))
    have hx : max (m : Int) 16 = m := by omega
    have hx2 : ¬ (m : Int) ≤ 16 := by omega
    clear hL h0 h1 hr h
    go_enter Tryd.func99, Tryd.ntmps99
    go_wp2_with (first
      | (go_at_call 130; (with_reducible refine (HLm.out).mono ?_); rintro e w1 ⟨rfl, hb⟩; have HB := Lk.mk hb; clear hb)
      | (go_at_call 131; (with_reducible refine (HU.out _).mono ?_); rintro e w' ⟨rfl, hw⟩; obtain rfl := hw.symm; clear hw))
    go_ret2
    exact ⟨by rw [← HR.out]; rfl, HB.out⟩
set_option maxRecDepth 100000 in
set_option maxHeartbeats 2000000 in
theorem first_over (m : Nat) (L : Int) (w : World) (hL : limB L = true) (h0 : 1 ≤ m) (h1 : ¬ (m : Int) ≤ L) : Calls Tryd.prog 99 #[.int .i64 m, .int .i64 L] w fun e w' => e = .returned (.tuple #[.int .i64 0, .int .i64 4]) ∧ Below w.heap.size w w' := by
  have hr := limB_in hL
  have HLm := Lk.mk (limit1 L w (by omega))
  rw [hL] at HLm
  have hm1 : ¬ (m : Int) < 1 := by omega
  have hm2 : L < (m : Int) := by omega
  clear hL h0 h1 hr
  go_enter Tryd.func99, Tryd.ntmps99
  go_wp2_with (go_at_call 130; (with_reducible refine (HLm.out).mono ?_); rintro e w1 ⟨rfl, hb⟩; have HB := Lk.mk hb; clear hb)
  go_ret2
  exact ⟨rfl, HB.out⟩
end Go.Proofs.YtbikdngpannekaaDoor
