/-
  Plain facts on double words: classes, signs, and what the words of the model stand for; conditions: words below 2^64.
-/
import Ieee.Arith
namespace FlPlain
open Ieee

abbrev D : Format := Ieee.double
def S63 : Nat := 9223372036854775808
def B52 : Nat := 4503599627370496
def INF : Nat := 9218868437227405312
def NAN : Nat := 9221120237041090561

theorem signW : D.signWeight = 9223372036854775808 := by decide +kernel
theorem binade : D.binade = 4503599627370496 := by decide +kernel
theorem infR : D.infRung = 9218868437227405312 := by decide +kernel
theorem least : D.leastPlace = -1074 := by decide +kernel

def cls (b : Nat) : Nat :=
  if b / 4503599627370496 % 2048 = 2047 ∧ b % 4503599627370496 > 0 then 1
  else if b / 4503599627370496 % 2048 = 2047 then 2
  else if b / 4503599627370496 % 2048 = 0 ∧ b % 4503599627370496 = 0 then 3
  else if b / 4503599627370496 % 2048 = 0 then 4
  else 5
def below (b : Nat) : Bool := decide (9223372036854775808 ≤ b)
def signed (b : Nat) (s : Bool) : Nat :=
  let b := if below b then b - 9223372036854775808 else b
  if s then b + 9223372036854775808 else b
/-- a NaN's bits are NaN's own -/
def fin (b : Nat) : Nat := if cls b = 1 then 9221120237041090561 else b

/-- the rung and the sign -/
def rung (b : Nat) : Nat := b % 9223372036854775808

theorem cls1 {b : Nat} (_h : b < 18446744073709551616) : cls b = 1 ↔ 9218868437227405312 < rung b := by
  unfold cls rung; split
  · simp; omega
  · split
    · simp; omega
    · split
      · simp; omega
      · split <;> simp <;> omega
theorem cls2 {b : Nat} (_h : b < 18446744073709551616) : cls b = 2 ↔ rung b = 9218868437227405312 := by
  unfold cls rung; split
  · simp; omega
  · split
    · simp; omega
    · split
      · simp; omega
      · split <;> simp <;> omega
theorem cls3 {b : Nat} (_h : b < 18446744073709551616) : cls b = 3 ↔ rung b = 0 := by
  unfold cls rung; split
  · simp; omega
  · split
    · simp; omega
    · split
      · simp; omega
      · split <;> simp <;> omega

theorem sgn {b : Nat} (h : b < 18446744073709551616) : (b / 9223372036854775808 % 2 == 1) = below b := by
  unfold below
  by_cases hb : 9223372036854775808 ≤ b
  · have : b / 9223372036854775808 = 1 := by omega
    simp [this, hb]
  · have : b / 9223372036854775808 = 0 := by omega
    simp [this, hb]

theorem read_eq {b : Nat} (h : b < 18446744073709551616) : D.read b =
    if rung b < 4503599627370496 then .number (below b) (rung b) (-1074)
    else if rung b < 9218868437227405312 then .number (below b) (4503599627370496 + rung b % 4503599627370496) (-1074 + ((rung b / 4503599627370496 - 1 : Nat) : Int))
    else if rung b = 9218868437227405312 then .infinity (below b)
    else .nan (below b) (rung b - 9218868437227405312) := by
  have s := sgn h
  unfold Format.read
  rw [signW, binade, infR, least, s]
  rfl

theorem read_nan {b : Nat} (h : b < 18446744073709551616) (hc : cls b = 1) : ∃ f, D.read b = .nan (below b) f := by
  have := (cls1 h).1 hc
  rw [read_eq h, if_neg (by omega), if_neg (by omega), if_neg (by omega)]
  exact ⟨_, rfl⟩
theorem read_inf {b : Nat} (h : b < 18446744073709551616) (hc : cls b = 2) : D.read b = .infinity (below b) := by
  have := (cls2 h).1 hc
  rw [read_eq h, if_neg (by omega), if_neg (by omega), if_pos this]
theorem read_zero {b : Nat} (h : b < 18446744073709551616) (hc : cls b = 3) : D.read b = .number (below b) 0 (-1074) := by
  have := (cls3 h).1 hc
  rw [read_eq h, if_pos (by omega), this]
theorem read_num {b : Nat} (h : b < 18446744073709551616) (h1 : cls b ≠ 1) (h2 : cls b ≠ 2) (h3 : cls b ≠ 3) : ∃ m p, 0 < m ∧ D.read b = .number (below b) m p := by
  have h1 := mt (cls1 h).2 h1
  have h2 := mt (cls2 h).2 h2
  have h3 := mt (cls3 h).2 h3
  rw [read_eq h]
  by_cases hl : rung b < 4503599627370496
  · rw [if_pos hl]; exact ⟨_, _, by omega, rfl⟩
  · rw [if_neg hl, if_pos (by omega)]; exact ⟨_, _, by omega, rfl⟩

theorem word_eq (s : Bool) (r : Nat) : D.word s r = if s then 9223372036854775808 + r else r := by
  unfold Format.word; rw [signW]
theorem write_inf (s : Bool) : D.write (.infinity s) = if s then 18442240474082181120 else 9218868437227405312 := by
  cases s <;> decide +kernel
theorem write_zero (s : Bool) (p : Int) : D.write (.number s 0 p) = if s then 9223372036854775808 else 0 := by
  show D.nearest s 0 p = _
  unfold Format.nearest
  rw [if_pos rfl, word_eq]
theorem inf_bits {b : Nat} (h : b < 18446744073709551616) (hc : cls b = 2) : b = if below b then 18442240474082181120 else 9218868437227405312 := by
  have := (cls2 h).1 hc
  unfold rung at this
  unfold below
  by_cases hb : 9223372036854775808 ≤ b
  · rw [if_pos (by simpa using hb)]; omega
  · rw [if_neg (by simpa using hb)]; omega
theorem zero_bits {b : Nat} (h : b < 18446744073709551616) (hc : cls b = 3) : b = if below b then 9223372036854775808 else 0 := by
  have := (cls3 h).1 hc
  unfold rung at this
  unfold below
  by_cases hb : 9223372036854775808 ≤ b
  · rw [if_pos (by simpa using hb)]; omega
  · rw [if_neg (by simpa using hb)]; omega
theorem signed_zero (s : Bool) : signed 0 s = if s then 9223372036854775808 else 0 := by cases s <;> decide +kernel
theorem signed_inf (s : Bool) : signed 9218868437227405312 s = if s then 18442240474082181120 else 9218868437227405312 := by cases s <;> decide +kernel

/-- the other sign -/
def flip (b : Nat) : Nat := signed b (!below b)
theorem flip_lt {b : Nat} (h : b < 18446744073709551616) : flip b < 18446744073709551616 := by
  unfold flip signed below
  by_cases hb : 9223372036854775808 ≤ b <;> simp [hb] <;> omega
theorem below_flip {b : Nat} (h : b < 18446744073709551616) : below (flip b) = !below b := by
  unfold flip signed below
  by_cases hb : 9223372036854775808 ≤ b <;> simp [hb]; omega
theorem rung_flip {b : Nat} (h : b < 18446744073709551616) : rung (flip b) = rung b := by
  unfold flip signed below rung
  by_cases hb : 9223372036854775808 ≤ b <;> simp [hb] <;> omega
theorem read_flip {b : Nat} (h : b < 18446744073709551616) : D.read (flip b) = (D.read b).opposite := by
  rw [read_eq (flip_lt h), read_eq h, rung_flip h, below_flip h]
  by_cases h1 : rung b < 4503599627370496
  · simp only [if_pos h1, Datum.opposite]
  · by_cases h2 : rung b < 9218868437227405312
    · simp only [if_neg h1, if_pos h2, Datum.opposite]
    · by_cases h3 : rung b = 9218868437227405312
      · simp only [if_neg h1, if_neg h2, if_pos h3, Datum.opposite]
      · simp only [if_neg h1, if_neg h2, if_neg h3, Datum.opposite]
theorem cls_flip {b : Nat} (h : b < 18446744073709551616) : cls (flip b) = cls b := by
  have hr := rung_flip h
  unfold rung at hr
  unfold cls
  have e1 : flip b / 4503599627370496 % 2048 = b / 4503599627370496 % 2048 := by omega
  have e2 : flip b % 4503599627370496 = b % 4503599627370496 := by omega
  rw [e1, e2]
end FlPlain
