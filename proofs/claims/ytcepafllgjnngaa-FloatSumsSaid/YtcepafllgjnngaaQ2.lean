/-
  How two words that are numbers stand to each other is how the document says; conditions: words below 2^64.
-/
import Derived.Test.YtcepafllgjnngaaQ1
namespace FlPlain
open Ieee

/-- a magnitude, in units of the least place -/
def unit (r : Nat) : Nat := if r < 4503599627370496 then r else (4503599627370496 + r % 4503599627370496) * 2 ^ (r / 4503599627370496 - 1)

theorem unit_step (r : Nat) : unit r < unit (r + 1) := by
  unfold unit
  by_cases h : r + 1 < 4503599627370496
  · rw [if_pos h, if_pos (by omega)]; omega
  · rw [if_neg h]
    by_cases h2 : r < 4503599627370496
    · have e : r + 1 = 4503599627370496 := by omega
      rw [if_pos h2, e]; simp; omega
    · rw [if_neg h2]
      by_cases h3 : (r + 1) % 4503599627370496 = 0
      · have e1 : (r + 1) / 4503599627370496 - 1 = (r / 4503599627370496 - 1) + 1 := by omega
        have e2 : r % 4503599627370496 = 4503599627370495 := by omega
        rw [e1, e2, h3, Nat.pow_succ]
        have := Nat.two_pow_pos (r / 4503599627370496 - 1)
        omega
      · have e1 : (r + 1) / 4503599627370496 = r / 4503599627370496 := by omega
        have e2 : (r + 1) % 4503599627370496 = r % 4503599627370496 + 1 := by omega
        rw [e1, e2]
        exact Nat.mul_lt_mul_of_pos_right (by omega) (Nat.two_pow_pos _)
theorem unit_mono {r s : Nat} (h : r < s) : unit r < unit s := by
  induction s with
  | zero => omega
  | succ n ih =>
    by_cases e : r = n
    · subst e; exact unit_step r
    · exact Nat.lt_trans (ih (by omega)) (unit_step n)
theorem unit_lt {r s : Nat} : unit r < unit s ↔ r < s := by
  constructor
  · intro h
    by_cases e : r < s
    · exact e
    · by_cases e2 : r = s
      · subst e2; omega
      · have := unit_mono (show s < r by omega); omega
  · exact unit_mono
theorem unit_inj {r s : Nat} (h : unit r = unit s) : r = s := by
  have h1 := @unit_lt r s
  have h2 := @unit_lt s r
  omega
theorem unit_zero : unit 0 = 0 := rfl

/-- what a word that is a number stands for, in units of the least place -/
def val (b : Nat) : Int := if below b then -(unit (rung b) : Int) else unit (rung b)

theorem compare_scale (x y : Int) (k : Nat) : compare (x * (2 ^ k : Nat)) (y * (2 ^ k : Nat)) = compare x y := by
  have hp : (0 : Int) < ((2 ^ k : Nat) : Int) := by exact_mod_cast Nat.two_pow_pos k
  rcases Int.lt_trichotomy x y with h | h | h
  · have h1 : x * (2 ^ k : Nat) < y * (2 ^ k : Nat) := Int.mul_lt_mul_of_pos_right h hp
    rw [Int.compare_eq_lt.2 h, Int.compare_eq_lt.2 h1]
  · subst h; rw [Int.compare_eq_eq.2 rfl, Int.compare_eq_eq.2 rfl]
  · have h1 : y * (2 ^ k : Nat) < x * (2 ^ k : Nat) := Int.mul_lt_mul_of_pos_right h hp
    rw [Int.compare_eq_gt.2 h, Int.compare_eq_gt.2 h1]

theorem signed_scale (s : Bool) (m u k : Nat) : Ieee.signed s m u * ((2 ^ k : Nat) : Int) = Ieee.signed s m (u + k) := by
  unfold Ieee.signed
  rw [Nat.shiftLeft_eq, Nat.shiftLeft_eq, Nat.pow_add]
  cases s
  · simp only [Bool.false_eq_true, if_false]; rw [← Nat.mul_assoc]; exact_mod_cast rfl
  · simp only [if_true]; rw [Int.neg_mul, ← Nat.mul_assoc]; exact_mod_cast rfl

/-- the places of words are at least the least -/
theorem number_val {b : Nat} (h : b < 18446744073709551616) (hc : rung b < 9218868437227405312) : ∃ m p, D.read b = .number (below b) m p ∧ -1074 ≤ p ∧ Ieee.signed (below b) m (p + 1074).toNat = val b := by
  rw [read_eq h]
  unfold val unit
  by_cases hl : rung b < 4503599627370496
  · rw [if_pos hl]
    refine ⟨_, _, rfl, by omega, ?_⟩
    rw [if_pos hl]
    unfold Ieee.signed
    simp
  · rw [if_neg hl, if_pos hc]
    refine ⟨_, _, rfl, by omega, ?_⟩
    rw [if_neg hl]
    unfold Ieee.signed
    have e : (-1074 + ((rung b / 4503599627370496 - 1 : Nat) : Int) + 1074).toNat = rung b / 4503599627370496 - 1 := by omega
    rw [e, Nat.shiftLeft_eq]

theorem order_numbers {a b : Nat} (ha : a < 18446744073709551616) (hb : b < 18446744073709551616) (ca : rung a < 9218868437227405312) (cb : rung b < 9218868437227405312) :
    D.order a b = some (compare (val a) (val b)) := by
  obtain ⟨m, p, e1, h1, v1⟩ := number_val ha ca
  obtain ⟨n, q, e2, h2, v2⟩ := number_val hb cb
  unfold Format.order
  rw [e1, e2]
  simp only [Datum.order]
  rw [← v1, ← v2]
  have k1 : (p + 1074).toNat = (p - min p q).toNat + (min p q + 1074).toNat := by omega
  have k2 : (q + 1074).toNat = (q - min p q).toNat + (min p q + 1074).toNat := by omega
  rw [k1, k2, ← signed_scale, ← signed_scale, compare_scale]

/-- the document's less -/
def less (a b : Nat) : Bool :=
  if cls a = 3 ∧ cls b = 3 then false
  else if below a ≠ below b then below a
  else if below a then decide (b < a) else decide (a < b)

theorem split_bits {b : Nat} (h : b < 18446744073709551616) : b = (if below b then 9223372036854775808 else 0) + rung b := by
  unfold below rung
  by_cases hb : 9223372036854775808 ≤ b
  · rw [if_pos (by simpa using hb)]; omega
  · rw [if_neg (by simpa using hb)]; omega

theorem val_zero {b : Nat} (h : rung b = 0) : val b = 0 := by
  unfold val; rw [h, unit_zero]; split <;> rfl
theorem unit_pos {r : Nat} (h : 0 < r) : 0 < unit r := by have := @unit_lt 0 r; rw [unit_zero] at this; omega

theorem less_numbers {a b : Nat} (ha : a < 18446744073709551616) (hb : b < 18446744073709551616) (_ca : rung a < 9218868437227405312) (_cb : rung b < 9218868437227405312) :
    less a b = decide (val a < val b) := by
  have sa := split_bits ha
  have sb := split_bits hb
  have ka := cls3 ha
  have kb := cls3 hb
  have hu := @unit_lt (rung a) (rung b)
  have hu' := @unit_lt (rung b) (rung a)
  have pa := @unit_pos (rung a)
  have pb := @unit_pos (rung b)
  unfold less
  by_cases hz : cls a = 3 ∧ cls b = 3
  · rw [if_pos hz, val_zero (ka.1 hz.1), val_zero (kb.1 hz.2)]; rfl
  · rw [if_neg hz]
    have hz' : ¬ (rung a = 0 ∧ rung b = 0) := fun h => hz ⟨ka.2 h.1, kb.2 h.2⟩
    have za : rung a = 0 → unit (rung a) = 0 := fun h => by rw [h]; rfl
    have zb : rung b = 0 → unit (rung b) = 0 := fun h => by rw [h]; rfl
    unfold val
    cases h1 : below a <;> cases h2 : below b <;> simp only [h1, h2, if_true, if_false, Bool.false_eq_true, ne_eq, not_true_eq_false, not_false_eq_true, reduceCtorEq] at sa sb ⊢
    · apply decide_eq_decide.2; omega
    · symm; apply decide_eq_false; omega
    · symm; apply decide_eq_true; omega
    · apply decide_eq_decide.2; omega

theorem same_numbers {a b : Nat} (ha : a < 18446744073709551616) (hb : b < 18446744073709551616) :
    (val a = val b) ↔ (a = b ∨ (cls a = 3 ∧ cls b = 3)) := by
  have sa := split_bits ha
  have sb := split_bits hb
  rw [cls3 ha, cls3 hb]
  have pa := @unit_pos (rung a)
  have pb := @unit_pos (rung b)
  have hi := @unit_inj (rung a) (rung b)
  have za : rung a = 0 → unit (rung a) = 0 := fun h => by rw [h]; rfl
  have zb : rung b = 0 → unit (rung b) = 0 := fun h => by rw [h]; rfl
  constructor
  · intro h
    unfold val at h
    cases h1 : below a <;> cases h2 : below b <;> simp only [h1, h2, if_true, if_false, Bool.false_eq_true] at sa sb h <;> omega
  · rintro (h | ⟨h1, h2⟩)
    · rw [h]
    · rw [val_zero h1, val_zero h2]

/-- how two words that are no NaNs stand to each other -/
theorem order_eq {a b : Nat} (ha : a < 18446744073709551616) (hb : b < 18446744073709551616) (na : cls a ≠ 1) (nb : cls b ≠ 1) :
    D.order a b = some (if less a b then .lt else if less b a then .gt else .eq) := by
  have ra : rung a ≤ 9218868437227405312 := by have := mt (cls1 ha).2 na; omega
  have rb : rung b ≤ 9218868437227405312 := by have := mt (cls1 hb).2 nb; omega
  have sa := split_bits ha
  have sb := split_bits hb
  by_cases ca : rung a = 9218868437227405312
  · have ia := read_inf ha ((cls2 ha).2 ca)
    have z : ¬ cls a = 3 := by rw [cls3 ha]; omega
    by_cases cb : rung b = 9218868437227405312
    · have ib := read_inf hb ((cls2 hb).2 cb)
      unfold Format.order
      rw [ia, ib]
      simp only [Datum.order, less, z, false_and, and_false, if_false]
      cases h1 : below a <;> cases h2 : below b <;> simp only [h1, h2, if_true, if_false, Bool.false_eq_true] at sa sb
      · have e : a = b := by omega
        subst e; simp
      · simp; rfl
      · simp; rfl
      · have e : a = b := by omega
        subst e; simp
    · obtain ⟨m, p, e, _, _⟩ := number_val hb (by omega)
      unfold Format.order
      rw [ia, e]
      simp only [Datum.order, less, z, false_and, and_false, if_false]
      cases h1 : below a <;> cases h2 : below b <;> simp only [h1, h2, if_true, if_false, Bool.false_eq_true] at sa sb
      · simp [show ¬ a < b by omega, show b < a by omega]
      · simp
      · simp
      · simp [show b < a by omega]
  · by_cases cb : rung b = 9218868437227405312
    · have ib := read_inf hb ((cls2 hb).2 cb)
      have z : ¬ cls b = 3 := by rw [cls3 hb]; omega
      obtain ⟨m, p, e, _, _⟩ := number_val ha (by omega)
      unfold Format.order
      rw [ib, e]
      simp only [Datum.order, less, z, false_and, and_false, if_false]
      cases h1 : below a <;> cases h2 : below b <;> simp only [h1, h2, if_true, if_false, Bool.false_eq_true] at sa sb
      · simp [show a < b by omega]
      · simp
      · simp
      · simp [show ¬ b < a by omega, show a < b by omega]
    · rw [order_numbers ha hb (by omega) (by omega), less_numbers ha hb (by omega) (by omega), less_numbers hb ha (by omega) (by omega)]
      congr 1
      rcases Int.lt_trichotomy (val a) (val b) with h | h | h
      · rw [Int.compare_eq_lt.2 h, if_pos (by simpa using h)]
      · rw [Int.compare_eq_eq.2 h, if_neg (by simp; omega), if_neg (by simp; omega)]
      · rw [Int.compare_eq_gt.2 h, if_neg (by simp; omega), if_pos (by simpa using h)]
theorem order_nan {a b : Nat} (ha : a < 18446744073709551616) (hb : b < 18446744073709551616) (h : cls a = 1 ∨ cls b = 1) : D.order a b = none := by
  unfold Format.order
  rcases h with h | h
  · obtain ⟨f, e⟩ := read_nan ha h
    rw [e]; cases D.read b <;> rfl
  · obtain ⟨f, e⟩ := read_nan hb h
    rw [e]; cases D.read a <;> rfl
theorem not_less_same {a b : Nat} (ha : a < 18446744073709551616) (hb : b < 18446744073709551616) (na : cls a ≠ 1) (nb : cls b ≠ 1) (h1 : less a b = false) (h2 : less b a = false) :
    a = b ∨ (cls a = 3 ∧ cls b = 3) := by
  have ra : rung a ≤ 9218868437227405312 := by have := mt (cls1 ha).2 na; omega
  have rb : rung b ≤ 9218868437227405312 := by have := mt (cls1 hb).2 nb; omega
  have sa := split_bits ha
  have sb := split_bits hb
  by_cases hz : cls a = 3 ∧ cls b = 3
  · exact .inr hz
  · left
    have hz2 : ¬ (cls b = 3 ∧ cls a = 3) := fun h => hz ⟨h.2, h.1⟩
    unfold less at h1 h2
    rw [if_neg hz] at h1
    rw [if_neg hz2] at h2
    cases k1 : below a <;> cases k2 : below b <;> simp [k1, k2] at h1 h2 sa sb <;> omega
theorem less_asymm {a b : Nat} (h : less a b = true) : less b a = false := by
  unfold less at h ⊢
  by_cases hz : cls a = 3 ∧ cls b = 3
  · rw [if_pos hz] at h; cases h
  · rw [if_neg hz] at h
    by_cases hz2 : cls b = 3 ∧ cls a = 3
    · rw [if_pos hz2]
    · rw [if_neg hz2]
      cases k1 : below a <;> cases k2 : below b <;> simp [k1, k2] at h ⊢ <;> omega
end FlPlain
