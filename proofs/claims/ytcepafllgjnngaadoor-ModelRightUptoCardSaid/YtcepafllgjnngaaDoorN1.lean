/-
  Plain: a power of two, by its bits and by halving.
-/
import Derived.IntWalk
namespace Wk
open Go
theorem and_even (m : Nat) (h : 0 < m) : (2 * m &&& (2 * m - 1)) = 2 * (m &&& (m - 1)) := by
  apply Nat.eq_of_testBit_eq
  intro i
  cases i with
  | zero => simp [Nat.testBit_zero, Nat.mul_mod_right]
  | succ i =>
    rw [Nat.testBit_and, Nat.testBit_succ, Nat.testBit_succ, Nat.testBit_succ, show 2 * m / 2 = m by omega, show (2 * m - 1) / 2 = m - 1 by omega, show 2 * (m &&& (m - 1)) / 2 = m &&& (m - 1) by omega, Nat.testBit_and]
theorem and_odd (m : Nat) : (2 * m + 1 &&& (2 * m + 1 - 1)) = 2 * m := by
  apply Nat.eq_of_testBit_eq
  intro i
  cases i with
  | zero => simp [Nat.testBit_zero]
  | succ i =>
    rw [Nat.testBit_and, Nat.testBit_succ, Nat.testBit_succ, show (2 * m + 1) / 2 = m by omega, show (2 * m + 1 - 1) / 2 = m by omega, show Nat.testBit (2 * m) (i + 1) = Nat.testBit m i by rw [Nat.testBit_succ, show 2 * m / 2 = m by omega], Bool.and_self]
theorem bits_and (n : Nat) (h0 : 0 < n) (h1 : n < 9223372036854775808) : bits .and .i64 (n : Int) ((n : Int) - 1) = ((n &&& (n - 1) : Nat) : Int) := by
  have hle : n &&& (n - 1) ≤ n := Nat.and_le_left
  have e1 : (BitVec.ofInt 64 (n : Int)).toNat = n := by
    rw [BitVec.toNat_ofInt]; omega
  have e2 : (BitVec.ofInt 64 ((n : Int) - 1)).toNat = n - 1 := by
    rw [BitVec.toNat_ofInt]; omega
  show IntKind.wrap .i64 ((BitVec.ofInt 64 (n : Int) &&& BitVec.ofInt 64 ((n : Int) - 1)).toNat : Int) = _
  rw [BitVec.toNat_and, e1, e2]
  exact IntWalk.i64_in _ (by omega)
/-- is it a power of two, by its bits -/
def isP (n : Nat) : Bool := decide (0 < n) && (n &&& (n - 1) == 0)
theorem isP_even (m : Nat) (h : 0 < m) : isP (2 * m) = isP m := by
  unfold isP
  rw [and_even m h, decide_eq_true h, decide_eq_true (show 0 < 2 * m by omega)]
  generalize m &&& (m - 1) = x
  by_cases hx : x = 0
  · subst hx; rfl
  · rw [beq_false_of_ne hx, beq_false_of_ne (show 2 * x ≠ 0 by omega)]
theorem isP_odd (m : Nat) : isP (2 * m + 1) = decide (m = 0) := by
  unfold isP
  rw [and_odd]
  by_cases hx : m = 0
  · subst hx; rfl
  · rw [decide_eq_false hx, beq_false_of_ne (show 2 * m ≠ 0 by omega), Bool.and_false]
theorem isP_half (n : Nat) (h : 1 < n) (h2 : n % 2 = 0) : isP (n / 2) = isP n := by
  obtain ⟨m, rfl⟩ : ∃ m, n = 2 * m := ⟨n / 2, by omega⟩
  rw [isP_even m (by omega), show 2 * m / 2 = m by omega]
theorem isP_end (n : Nat) (h : n ≤ 1 ∨ n % 2 = 1) : isP n = decide (n = 1) := by
  rcases h with h | h
  · rcases Nat.lt_or_ge 0 n with h0 | h0
    · obtain rfl : n = 1 := by omega
      rfl
    · obtain rfl : n = 0 := by omega
      rfl
  · obtain ⟨m, rfl⟩ : ∃ m, n = 2 * m + 1 := ⟨n / 2, by omega⟩
    rw [isP_odd]
    by_cases hx : m = 0
    · subst hx; rfl
    · rw [decide_eq_false hx, decide_eq_false (by omega)]
end Wk
