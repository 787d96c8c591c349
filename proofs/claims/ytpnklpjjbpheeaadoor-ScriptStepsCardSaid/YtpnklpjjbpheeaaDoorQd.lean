/-
  The walks of the reference's Class, Below, nan, signed, truth, less.
-/
import Derived.Test.YtpnklpjjbpheeaaDoorK6
namespace Go.Proofs.YtpnklpjjbpheeaaDoor.Flt
open Go.RowKit Go.Proofs.Fl

theorem ret_nat {k : IntKind} {a : Nat} {b : Int} (h : b = (a : Int)) : Ending.returned (.int k b) = .returned (.int k (a : Int)) := by rw [h]
theorem wrapu (x : Int) (h0 : 0 ≤ x) (h1 : x < 18446744073709551616) : IntKind.u64.wrap x = x := by
  simp [IntKind.wrap, IntKind.signed, IntKind.bits]; omega
theorem cls_i (b : Nat) : ((FlPlain.cls b : Nat) : Int) = if (b : Int) / 4503599627370496 % 2048 = 2047 ∧ 0 < (b : Int) % 4503599627370496 then 1 else if (b : Int) / 4503599627370496 % 2048 = 2047 then 2
    else if (b : Int) / 4503599627370496 % 2048 = 0 ∧ (b : Int) % 4503599627370496 = 0 then 3 else if (b : Int) / 4503599627370496 % 2048 = 0 then 4 else 5 := by
  unfold FlPlain.cls
  have e1 : ((b : Int) / 4503599627370496 % 2048 = 2047) ↔ (b / 4503599627370496 % 2048 = 2047) := by omega
  have e2 : ((b : Int) / 4503599627370496 % 2048 = 0) ↔ (b / 4503599627370496 % 2048 = 0) := by omega
  have e3 : (0 < (b : Int) % 4503599627370496) ↔ (b % 4503599627370496 > 0) := by omega
  have e4 : ((b : Int) % 4503599627370496 = 0) ↔ (b % 4503599627370496 = 0) := by omega
  simp only [e1, e2, e3, e4]
  split
  · rfl
  · split
    · rfl
    · split
      · rfl
      · split <;> rfl
set_option maxHeartbeats 400000 in
theorem class_any (b : Nat) (w : World) (h : b < 18446744073709551616) : Calls Tryd.prog 7 #[.int .u64 b] w fun e w' => e = .returned (.int .u8 (FlPlain.cls b : Nat)) ∧ w' = w := by
  have H := Lk.mk (cls_i b)
  have hw : IntKind.u64.wrap ((b : Int) / 4503599627370496) = (b : Int) / 4503599627370496 := wrapu _ (by omega) (by omega)
  have hm : Int.tmod ((b : Int) / 4503599627370496) 2048 = (b : Int) / 4503599627370496 % 2048 := Int.tmod_eq_emod_of_nonneg (by omega)
  clear h
  generalize FlPlain.cls b = c at *
  go_enter Tryd.func7, Tryd.ntmps7
  go_wp2
  all_goals go_ret
  all_goals refine ⟨ret_nat ?_, rfl⟩
  all_goals rw [H.out]
  all_goals simp_all
  all_goals omega

set_option maxHeartbeats 400000 in
theorem below_any (b : Nat) (w : World) : Calls Tryd.prog 9 #[.int .u64 b] w fun e w' => e = .returned (.bool (FlPlain.below b)) ∧ w' = w := by
  have H := Lk.mk (show decide ((b : Int) ≥ 9223372036854775808) = FlPlain.below b by unfold FlPlain.below; apply decide_eq_decide.2; omega)
  go_enter Tryd.func9, Tryd.ntmps9
  go_wp2
  go_ret
  exact ⟨by rw [← H.out]; rfl, rfl⟩
theorem eq3 {n : Nat} {k : Int} (h : (n : Int) = k) : (((n : Nat) : Int) == k) = true := by simpa using h
theorem ne3 {n : Nat} {k : Int} (h : ¬ (n : Int) = k) : (((n : Nat) : Int) == k) = false := by simpa using h
end Go.Proofs.YtpnklpjjbpheeaaDoor.Flt
