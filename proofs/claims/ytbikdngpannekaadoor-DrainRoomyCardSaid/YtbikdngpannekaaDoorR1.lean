/-
  Plain: the least power of two that isn't below a number, by its length in bits and by doubling.
-/
import Derived.Test.YtbikdngpannekaaDoorN1
import Derived.Lib.ItoaNum
namespace Rk
open Go Wk
theorem isP_pow (k : Nat) : isP (2 ^ k) = true := by
  induction k with
  | zero => decide
  | succ k ih => rw [Nat.pow_succ, Nat.mul_comm, isP_even _ (Nat.two_pow_pos k)]; exact ih
theorem pow_of (n : Nat) (h : isP n = true) : ∃ k, n = 2 ^ k := by
  induction n using Nat.strongRecOn with
  | _ n ih =>
    by_cases h1 : n ≤ 1 ∨ n % 2 = 1
    · rw [isP_end n h1] at h
      exact ⟨0, of_decide_eq_true h⟩
    · have h2 : 1 < n ∧ n % 2 = 0 := by omega
      rw [← isP_half n h2.1 h2.2] at h
      obtain ⟨k, hk⟩ := ih (n / 2) (by omega) h
      exact ⟨k + 1, by rw [Nat.pow_succ]; omega⟩
/-- how often 1 is doubled -/
def upN (n : Nat) : Nat := if n < 2 then 1 else 2 ^ Lib.bitLen (n - 1)
theorem len_spec {x : Nat} (h0 : x ≠ 0) (h : x < 18446744073709551616) : 1 ≤ Lib.bitLen x ∧ 2 ^ (Lib.bitLen x - 1) ≤ x ∧ x < 2 ^ Lib.bitLen x := Lib.bitLenAux_bounds 64 x (by rw [show (2 : Nat) ^ 64 = 18446744073709551616 by decide +kernel]; exact h) h0
theorem pow_lt {a b : Nat} (h : 2 ^ a < 2 ^ b) : a < b := (Nat.pow_lt_pow_iff_right (by decide)).1 h
theorem len_of {x k : Nat} (h1 : 2 ^ k ≤ x) (h2 : x < 2 ^ (k + 1)) (h : x < 18446744073709551616) : Lib.bitLen x = k + 1 := by
  have h0 : x ≠ 0 := by have := Nat.two_pow_pos k; omega
  obtain ⟨a, b, c⟩ := len_spec h0 h
  have d1 := pow_lt (Nat.lt_of_le_of_lt h1 c)
  have d2 := pow_lt (Nat.lt_of_le_of_lt b h2)
  omega
theorem log_pow {k : Nat} (h : 2 ^ k < 18446744073709551616) : Lib.bitLen (2 ^ k) = k + 1 := len_of (Nat.le_refl _) (by rw [Nat.pow_succ]; have := Nat.two_pow_pos k; omega) h
theorem up_eq {j w : Nat} (h1 : 2 ^ j < w) (h2 : w ≤ 2 ^ (j + 1)) (h : w < 18446744073709551616) : upN w = 2 ^ (j + 1) := by
  have := Nat.two_pow_pos j
  unfold upN
  rw [if_neg (by omega), len_of (k := j) (by omega) (by omega) (by omega)]
theorem up_le {j w : Nat} (h2 : w ≤ 2 ^ j) (h : w < 18446744073709551616) : upN w ≤ 2 ^ j := by
  by_cases h0 : w < 2
  · unfold upN; rw [if_pos h0]; exact Nat.two_pow_pos j
  · obtain ⟨a, b, c⟩ := len_spec (x := w - 1) (by omega) (by omega)
    unfold upN
    rw [if_neg h0]
    have := pow_lt (a := Lib.bitLen (w - 1) - 1) (b := j) (by omega)
    exact Nat.pow_le_pow_right (by decide) (by omega)
theorem up_ge {w : Nat} (h : w < 18446744073709551616) : w ≤ upN w := by
  by_cases h0 : w < 2
  · unfold upN; rw [if_pos h0]; omega
  · obtain ⟨a, b, c⟩ := len_spec (x := w - 1) (by omega) (by omega)
    unfold upN
    rw [if_neg h0]
    omega
theorem up_pow {w : Nat} : isP (upN w) = true := by
  unfold upN
  split
  · decide
  · exact isP_pow _
/-- from s on, the least power of two that isn't below w -/
def rnd (s w : Nat) : Nat := if w ≤ s then s else upN w
theorem rnd_next {s w : Nat} (hs : isP s = true) (hw : s < w) (h : w < 18446744073709551616) : rnd (2 * s) w = rnd s w := by
  obtain ⟨j, rfl⟩ := pow_of s hs
  unfold rnd
  rw [if_neg (show ¬ w ≤ 2 ^ j by omega)]
  by_cases h2 : w ≤ 2 * 2 ^ j
  · rw [if_pos h2, up_eq hw (by rw [Nat.pow_succ]; omega) h, Nat.pow_succ, Nat.mul_comm]
  · rw [if_neg h2]
theorem rnd_end {s w : Nat} (h : ¬ s < w) : rnd s w = s := by unfold rnd; rw [if_pos (by omega)]
theorem rnd_first {w : Nat} (h : w < 18446744073709551616) : upN (max w 16) = rnd 16 w := by
  unfold rnd
  split
  · rw [Nat.max_eq_right (by assumption)]; decide +kernel
  · rw [Nat.max_eq_left (by omega)]
theorem rnd_grow {s w : Nat} (hs : isP s = true) (h : w < 18446744073709551616) : max s (upN w) = rnd s w := by
  obtain ⟨j, rfl⟩ := pow_of s hs
  unfold rnd
  split
  · exact Nat.max_eq_left (up_le (by assumption) h)
  · exact Nat.max_eq_right (by have := up_ge h; omega)
theorem rnd_pow {s w : Nat} (hs : isP s = true) : isP (rnd s w) = true := by
  unfold rnd
  split
  · exact hs
  · exact up_pow
theorem rnd_le {s w m : Nat} (hm : isP m = true) (hs : s ≤ m) (hw : w ≤ m) (h : w < 18446744073709551616) : rnd s w ≤ m := by
  obtain ⟨j, rfl⟩ := pow_of m hm
  unfold rnd
  split
  · exact hs
  · exact up_le hw h
theorem rnd_ge {s w : Nat} (h : w < 18446744073709551616) : s ≤ rnd s w ∧ w ≤ rnd s w := by
  unfold rnd
  have := up_ge h
  split <;> omega
end Rk
