/-
  The walks of the reference's Class, Below, nan, signed, truth, less.
-/
import Derived.Test.YtpnklpjjbpheeaaGreatDoorK6
namespace Go.Proofs.YtpnklpjjbpheeaaGreatDoor.Flt
open Go.RowKit Go.Proofs.Fl

theorem ret_nat {k : IntKind} {a : Nat} {b : Int} (h : b = (a : Int)) : Ending.returned (.int k b) = .returned (.int k (a : Int)) := by rw [h]
theorem wrapu (x : Int) (h0 : 0 ≤ x) (h1 : x < 18446744073709551616) : IntKind.u64.wrap x = x := by
  simp [IntKind.wrap, IntKind.signed, IntKind.bits]; omega
theorem cls_i (b : Nat) : ((FlPlain.cls b : Nat) : Int) = if (b : Int) / 4503599627370496 % 2048 = 2047 ∧ 0 < (b : Int) % 4503599627370496 then 1 else if (b : Int) / 4503599627370496 % 2048 = 2047 then 2
    else if (b : Int) / 4503599627370496 % 2048 = 0 ∧ (b : Int) % 4503599627370496 = 0 then 3 else if (b : Int) / 4503599627370496 % 2048 = 0 then 4 else 5 := by
  unfold FlPlain.cls
  have e1 : ((b : Int) / 4503599627370496 % 2048 = 2047) ↔ (b / 4503599627370496 % 2048 = 2047) := by omega
  have e2 : ((b : Int) / 4503599627370496 % 2048 = 0) ↔ (b / 4503599627370496 % 2048 = 0) := by omega
  have e3 : (0 < (b : Int) % 4503599627370496) ↔ (b % 4503599627370496 > 0) := by omega
  have e4 : ((b : Int) % 4503599627370496 = 0) ↔ (b % 4503599627370496 = 0) := by omega
  simp only [e1, e2, e3, e4]
  split
  · rfl
  · split
    · rfl
    · split
      · rfl
      · split <;> rfl
theorem eq3 {n : Nat} {k : Int} (h : (n : Int) = k) : (((n : Nat) : Int) == k) = true := by simpa using h
theorem ne3 {n : Nat} {k : Int} (h : ¬ (n : Int) = k) : (((n : Nat) : Int) == k) = false := by simpa using h
end Go.Proofs.YtpnklpjjbpheeaaGreatDoor.Flt
