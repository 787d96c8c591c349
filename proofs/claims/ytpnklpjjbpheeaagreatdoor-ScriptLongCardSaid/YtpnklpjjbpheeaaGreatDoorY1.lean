/-
  Plain: the digits of double words to the base 16, and what masks leave; conditions: none.
-/
namespace Hx
/-- a digit's byte -/
def dg (d : Nat) : Nat := if d < 10 then 48 + d else 87 + d
/-- the last digits -/
def low : Nat → Nat → List Int
  | 0, _ => []
  | i + 1, b => (dg (b / 16 ^ i % 16) : Nat) :: low i b
theorem low_length (i b : Nat) : (low i b).length = i := by
  induction i with
  | zero => rfl
  | succ i ih => simp only [low, List.length_cons, ih]
theorem low_pad (n j b : Nat) (h : b < 16 ^ n) : low (n + j) b = List.replicate j 48 ++ low n b := by
  induction j with
  | zero => rfl
  | succ j ih =>
    have h1 : b < 16 ^ (n + j) := Nat.lt_of_lt_of_le h (Nat.pow_le_pow_right (by decide) (by omega))
    rw [← Nat.add_assoc]
    simp only [low]
    rw [Nat.div_eq_of_lt h1, ih]
    rfl
theorem low_byte (i b : Nat) : ∀ x ∈ low i b, 0 ≤ x ∧ x ≤ 255 := by
  induction i with
  | zero => intro x hx; cases hx
  | succ i ih =>
    intro x hx
    rcases List.mem_cons.1 hx with rfl | hx
    · have : b / 16 ^ i % 16 < 16 := Nat.mod_lt _ (by decide)
      unfold dg
      split <;> omega
    · exact ih x hx
theorem and_frac (b : Nat) : b &&& 4503599627370495 = b % 4503599627370496 := by
  have := Nat.and_two_pow_sub_one_eq_mod b 52
  simpa using this
theorem and_expo (b : Nat) : b &&& 9218868437227405312 = b / 4503599627370496 % 2048 * 4503599627370496 := by
  apply Nat.eq_of_testBit_eq
  intro i
  rw [show 9218868437227405312 = (2 ^ 11 - 1) <<< 52 by decide +kernel, show b / 4503599627370496 % 2048 * 4503599627370496 = (b / 2 ^ 52 % 2 ^ 11) <<< 52 by rw [Nat.shiftLeft_eq]]
  rw [Nat.testBit_and, Nat.testBit_shiftLeft, Nat.testBit_shiftLeft, Nat.testBit_two_pow_sub_one, Nat.testBit_mod_two_pow, Nat.testBit_div_two_pow]
  by_cases h : i ≥ 52
  · rw [show i - 52 + 52 = i by omega]
    cases b.testBit i <;> simp [h]
  · simp [h]
theorem and_low (b : Nat) : b &&& 15 = b % 16 := by
  have := Nat.and_two_pow_sub_one_eq_mod b 4
  simpa using this
/-- how many digits there are behind j rounds -/
theorem small_of {b j : Nat} (h : b / 16 ^ j < 16) : b < 16 ^ (j + 1) := by
  rw [Nat.pow_succ]
  exact (Nat.div_lt_iff_lt_mul (Nat.pow_pos (by decide))).1 h |> fun h => by rw [Nat.mul_comm]; exact h
theorem rounds {b j : Nat} (hb : b < 18446744073709551616) (h : 16 ≤ b / 16 ^ j) : j + 1 < 16 := by
  apply Classical.byContradiction
  intro hc
  have h1 : 16 ^ 15 ≤ 16 ^ j := Nat.pow_le_pow_right (by decide) (by omega)
  have h2 : b / 16 ^ j ≤ b / 16 ^ 15 := Nat.div_le_div_left h1 (by decide)
  have h3 : b / 16 ^ 15 < 16 := by
    rw [Nat.div_lt_iff_lt_mul (by decide)]
    exact Nat.lt_of_lt_of_le hb (by decide)
  omega
end Hx
