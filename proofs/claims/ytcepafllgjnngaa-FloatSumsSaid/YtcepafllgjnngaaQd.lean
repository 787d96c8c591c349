/-
  The walks of the reference's Class, Below, nan, signed, truth, less.
-/
import Derived.Test.YtcepafllgjnngaaQc
namespace Go.Proofs.Ytcepafllgjnngaa
open Go.RowKit Go.Proofs.Fl

theorem ret_nat {k : IntKind} {a : Nat} {b : Int} (h : b = (a : Int)) : Ending.returned (.int k b) = .returned (.int k (a : Int)) := by rw [h]
theorem wrapu (x : Int) (h0 : 0 ≤ x) (h1 : x < 18446744073709551616) : IntKind.u64.wrap x = x := by
  simp [IntKind.wrap, IntKind.signed, IntKind.bits]; omega
theorem cls_i (b : Nat) : ((FlPlain.cls b : Nat) : Int) = if (b : Int) / 4503599627370496 % 2048 = 2047 ∧ 0 < (b : Int) % 4503599627370496 then 1 else if (b : Int) / 4503599627370496 % 2048 = 2047 then 2
    else if (b : Int) / 4503599627370496 % 2048 = 0 ∧ (b : Int) % 4503599627370496 = 0 then 3 else if (b : Int) / 4503599627370496 % 2048 = 0 then 4 else 5 := by
  unfold FlPlain.cls
  have e1 : ((b : Int) / 4503599627370496 % 2048 = 2047) ↔ (b / 4503599627370496 % 2048 = 2047) := by omega
  have e2 : ((b : Int) / 4503599627370496 % 2048 = 0) ↔ (b / 4503599627370496 % 2048 = 0) := by omega
  have e3 : (0 < (b : Int) % 4503599627370496) ↔ (b % 4503599627370496 > 0) := by omega
  have e4 : ((b : Int) % 4503599627370496 = 0) ↔ (b % 4503599627370496 = 0) := by omega
  simp only [e1, e2, e3, e4]
  split
  · rfl
  · split
    · rfl
    · split
      · rfl
      · split <;> rfl
set_option maxHeartbeats 400000 in
theorem class_any (b : Nat) (w : World) (h : b < 18446744073709551616) : Calls Try.prog 41 #[.int .u64 b] w fun e w' => e = .returned (.int .u8 (FlPlain.cls b : Nat)) ∧ w' = w := by
  have H := Lk.mk (cls_i b)
  have hw : IntKind.u64.wrap ((b : Int) / 4503599627370496) = (b : Int) / 4503599627370496 := wrapu _ (by omega) (by omega)
  have hm : Int.tmod ((b : Int) / 4503599627370496) 2048 = (b : Int) / 4503599627370496 % 2048 := Int.tmod_eq_emod_of_nonneg (by omega)
  clear h
  generalize FlPlain.cls b = c at *
  go_enter Try.func41, Try.ntmps41
  go_wp2
  all_goals go_ret
  all_goals refine ⟨ret_nat ?_, rfl⟩
  all_goals rw [H.out]
  all_goals simp_all
  all_goals omega

set_option maxHeartbeats 400000 in
theorem below_any (b : Nat) (w : World) : Calls Try.prog 7 #[.int .u64 b] w fun e w' => e = .returned (.bool (FlPlain.below b)) ∧ w' = w := by
  have H := Lk.mk (show decide ((b : Int) ≥ 9223372036854775808) = FlPlain.below b by unfold FlPlain.below; apply decide_eq_decide.2; omega)
  go_enter Try.func7, Try.ntmps7
  go_wp2
  go_ret
  exact ⟨by rw [← H.out]; rfl, rfl⟩
set_option maxHeartbeats 400000 in
theorem nan_any (w : World) : Calls Try.prog 44 #[] w fun e w' => e = .returned (.int .u64 9221120237041090561) ∧ w' = w := by
  go_enter Try.func44, Try.ntmps44
  go_wp2
  go_ret
  exact ⟨rfl, rfl⟩
set_option maxHeartbeats 400000 in
theorem rtruth_any (t : Bool) (w : World) : Calls Try.prog 42 #[.bool t] w fun e w' => e = .returned (.int .u64 (FlPlain.truth t : Nat)) ∧ w' = w := by
  cases t
  · go_enter Try.func42, Try.ntmps42
    go_wp2
    go_ret
    exact ⟨rfl, rfl⟩
  · go_enter Try.func42, Try.ntmps42
    go_wp2
    go_ret
    exact ⟨rfl, rfl⟩
set_option maxHeartbeats 400000 in
theorem signed_any (b : Nat) (s : Bool) (w : World) (h : b < 18446744073709551616) : Calls Try.prog 45 #[.int .u64 b, .bool s] w fun e w' => e = .returned (.int .u64 (FlPlain.signed b s : Nat)) ∧ w' = w := by
  have hB := Lk.mk (fun w => below_any b w)
  cases hb : FlPlain.below b
  · have hb' : ¬ 9223372036854775808 ≤ b := by simpa [FlPlain.below] using hb
    cases s
    · have H := Lk.mk (show (b : Int) = (FlPlain.signed b false : Nat) by unfold FlPlain.signed; simp [hb])
      have hB' := Lk.mk (fun w => hb ▸ below_any b w)
      clear hb hb' h hB
      go_enter Try.func45, Try.ntmps45
      go_wp2_with (go_at_call 7; refine (hB'.out _).mono ?_; rintro e w' ⟨rfl, rfl⟩)
      go_ret
      exact ⟨ret_nat H.out, rfl⟩
    · have H := Lk.mk (show (b : Int) + 9223372036854775808 = (FlPlain.signed b true : Nat) by unfold FlPlain.signed; simp [hb])
      have hB' := Lk.mk (fun w => hb ▸ below_any b w)
      have hw : IntKind.u64.wrap ((b : Int) + 9223372036854775808) = (b : Int) + 9223372036854775808 := wrapu _ (by omega) (by omega)
      clear hb hb' h hB
      go_enter Try.func45, Try.ntmps45
      go_wp2_with (go_at_call 7; refine (hB'.out _).mono ?_; rintro e w' ⟨rfl, rfl⟩)
      go_ret
      exact ⟨ret_nat H.out, rfl⟩
  · have hb' : 9223372036854775808 ≤ b := by simpa [FlPlain.below] using hb
    have hw : IntKind.u64.wrap ((b : Int) - 9223372036854775808) = (b : Int) - 9223372036854775808 := wrapu _ (by omega) (by omega)
    cases s
    · have H := Lk.mk (show (b : Int) - 9223372036854775808 = (FlPlain.signed b false : Nat) by unfold FlPlain.signed; simp [hb]; omega)
      have hB' := Lk.mk (fun w => hb ▸ below_any b w)
      clear hb hb' h hB
      go_enter Try.func45, Try.ntmps45
      go_wp2_with (go_at_call 7; refine (hB'.out _).mono ?_; rintro e w' ⟨rfl, rfl⟩)
      go_ret
      exact ⟨ret_nat H.out, rfl⟩
    · have H := Lk.mk (show (b : Int) = (FlPlain.signed b true : Nat) by unfold FlPlain.signed; simp [hb]; omega)
      have hB' := Lk.mk (fun w => hb ▸ below_any b w)
      have hw2 := Lk.mk (wrapu (b : Int) (by omega) (by omega))
      clear hb hb' h hB
      go_enter Try.func45, Try.ntmps45
      go_wp2_with (go_at_call 7; refine (hB'.out _).mono ?_; rintro e w' ⟨rfl, rfl⟩)
      go_ret
      exact ⟨ret_nat (hw2.out.trans H.out), rfl⟩

theorem eq3 {n : Nat} {k : Int} (h : (n : Int) = k) : (((n : Nat) : Int) == k) = true := by simpa using h
theorem ne3 {n : Nat} {k : Int} (h : ¬ (n : Int) = k) : (((n : Nat) : Int) == k) = false := by simpa using h
set_option maxHeartbeats 1000000 in
theorem less_any (a b : Nat) (w : World) (ha : a < 18446744073709551616) (hb : b < 18446744073709551616) : Calls Try.prog 43 #[.int .u64 a, .int .u64 b] w fun e w' => e = .returned (.bool (FlPlain.less a b)) ∧ w' = w := by
  have CA := Lk.mk (fun w => class_any a w ha)
  have CB := Lk.mk (fun w => class_any b w hb)
  have BA := Lk.mk (fun w => below_any a w)
  have BB := Lk.mk (fun w => below_any b w)
  have H := Lk.mk (show FlPlain.less a b = (if ((FlPlain.cls a : Nat) : Int) = 3 ∧ ((FlPlain.cls b : Nat) : Int) = 3 then false else if FlPlain.below a ≠ FlPlain.below b then FlPlain.below a else if FlPlain.below a then decide ((b : Int) < a) else decide ((a : Int) < b)) by
    unfold FlPlain.less
    simp [show (((FlPlain.cls a : Nat) : Int) = 3) ↔ FlPlain.cls a = 3 by omega, show (((FlPlain.cls b : Nat) : Int) = 3) ↔ FlPlain.cls b = 3 by omega])
  generalize FlPlain.less a b = r at *
  generalize FlPlain.cls a = ca at *
  generalize FlPlain.cls b = cb at *
  generalize FlPlain.below a = ba at *
  generalize FlPlain.below b = bb at *
  clear ha hb
  go_enter Try.func43, Try.ntmps43
  go_wp2_with (first | (go_at_call 41; first | ((with_reducible refine (CA.out _).mono ?_); rintro e w' ⟨rfl, rfl⟩) | ((with_reducible refine (CB.out _).mono ?_); rintro e w' ⟨rfl, rfl⟩)) | (go_at_call 7; first | ((with_reducible refine (BA.out _).mono ?_); rintro e w' ⟨rfl, rfl⟩) | ((with_reducible refine (BB.out _).mono ?_); rintro e w' ⟨rfl, rfl⟩)))
  all_goals go_ret
  all_goals refine ⟨?_, rfl⟩
  all_goals rw [H.out]
  all_goals clear CA CB BA BB H
  all_goals simp_all
end Go.Proofs.Ytcepafllgjnngaa
