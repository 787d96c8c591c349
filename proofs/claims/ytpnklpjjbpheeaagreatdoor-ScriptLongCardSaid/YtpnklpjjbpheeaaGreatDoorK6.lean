/-
  Several texts as one.
-/
import Ieee.Arith
import Derived.WalkKit
import Derived.WalkSpells
import Derived.WalkLawsBesides
import Derived.Laws.FloatArith
import Derived.Test.YtpnklpjjbpheeaaGreatDoorProg
/-
  Plain facts on double words: classes, signs, and what the words of the model stand for; conditions: words below 2^64.
-/
namespace FlPlain
open Ieee

abbrev D : Format := Ieee.double
def S63 : Nat := 9223372036854775808
def B52 : Nat := 4503599627370496
def INF : Nat := 9218868437227405312
def NAN : Nat := 9221120237041090561

theorem signW : D.signWeight = 9223372036854775808 := by decide +kernel
theorem binade : D.binade = 4503599627370496 := by decide +kernel
theorem infR : D.infRung = 9218868437227405312 := by decide +kernel
theorem least : D.leastPlace = -1074 := by decide +kernel

def cls (b : Nat) : Nat :=
  if b / 4503599627370496 % 2048 = 2047 ∧ b % 4503599627370496 > 0 then 1
  else if b / 4503599627370496 % 2048 = 2047 then 2
  else if b / 4503599627370496 % 2048 = 0 ∧ b % 4503599627370496 = 0 then 3
  else if b / 4503599627370496 % 2048 = 0 then 4
  else 5
def below (b : Nat) : Bool := decide (9223372036854775808 ≤ b)
def signed (b : Nat) (s : Bool) : Nat :=
  let b := if below b then b - 9223372036854775808 else b
  if s then b + 9223372036854775808 else b
/-- a NaN's bits are NaN's own -/
def fin (b : Nat) : Nat := if cls b = 1 then 9221120237041090561 else b

/-- the rung and the sign -/
def rung (b : Nat) : Nat := b % 9223372036854775808

theorem cls1 {b : Nat} (_h : b < 18446744073709551616) : cls b = 1 ↔ 9218868437227405312 < rung b := by
  unfold cls rung; split
  · simp; omega
  · split
    · simp; omega
    · split
      · simp; omega
      · split <;> simp <;> omega
theorem cls2 {b : Nat} (_h : b < 18446744073709551616) : cls b = 2 ↔ rung b = 9218868437227405312 := by
  unfold cls rung; split
  · simp; omega
  · split
    · simp; omega
    · split
      · simp; omega
      · split <;> simp <;> omega
theorem cls3 {b : Nat} (_h : b < 18446744073709551616) : cls b = 3 ↔ rung b = 0 := by
  unfold cls rung; split
  · simp; omega
  · split
    · simp; omega
    · split
      · simp; omega
      · split <;> simp <;> omega

theorem sgn {b : Nat} (h : b < 18446744073709551616) : (b / 9223372036854775808 % 2 == 1) = below b := by
  unfold below
  by_cases hb : 9223372036854775808 ≤ b
  · have : b / 9223372036854775808 = 1 := by omega
    simp [this, hb]
  · have : b / 9223372036854775808 = 0 := by omega
    simp [this, hb]

theorem read_eq {b : Nat} (h : b < 18446744073709551616) : D.read b =
    if rung b < 4503599627370496 then .number (below b) (rung b) (-1074)
    else if rung b < 9218868437227405312 then .number (below b) (4503599627370496 + rung b % 4503599627370496) (-1074 + ((rung b / 4503599627370496 - 1 : Nat) : Int))
    else if rung b = 9218868437227405312 then .infinity (below b)
    else .nan (below b) (rung b - 9218868437227405312) := by
  have s := sgn h
  unfold Format.read
  rw [signW, binade, infR, least, s]
  rfl

theorem read_nan {b : Nat} (h : b < 18446744073709551616) (hc : cls b = 1) : ∃ f, D.read b = .nan (below b) f := by
  have := (cls1 h).1 hc
  rw [read_eq h, if_neg (by omega), if_neg (by omega), if_neg (by omega)]
  exact ⟨_, rfl⟩
theorem read_inf {b : Nat} (h : b < 18446744073709551616) (hc : cls b = 2) : D.read b = .infinity (below b) := by
  have := (cls2 h).1 hc
  rw [read_eq h, if_neg (by omega), if_neg (by omega), if_pos this]
theorem read_zero {b : Nat} (h : b < 18446744073709551616) (hc : cls b = 3) : D.read b = .number (below b) 0 (-1074) := by
  have := (cls3 h).1 hc
  rw [read_eq h, if_pos (by omega), this]
theorem read_num {b : Nat} (h : b < 18446744073709551616) (h1 : cls b ≠ 1) (h2 : cls b ≠ 2) (h3 : cls b ≠ 3) : ∃ m p, 0 < m ∧ D.read b = .number (below b) m p := by
  have h1 := mt (cls1 h).2 h1
  have h2 := mt (cls2 h).2 h2
  have h3 := mt (cls3 h).2 h3
  rw [read_eq h]
  by_cases hl : rung b < 4503599627370496
  · rw [if_pos hl]; exact ⟨_, _, by omega, rfl⟩
  · rw [if_neg hl, if_pos (by omega)]; exact ⟨_, _, by omega, rfl⟩

theorem word_eq (s : Bool) (r : Nat) : D.word s r = if s then 9223372036854775808 + r else r := by
  unfold Format.word; rw [signW]
theorem write_inf (s : Bool) : D.write (.infinity s) = if s then 18442240474082181120 else 9218868437227405312 := by
  cases s <;> decide +kernel
theorem write_zero (s : Bool) (p : Int) : D.write (.number s 0 p) = if s then 9223372036854775808 else 0 := by
  show D.nearest s 0 p = _
  unfold Format.nearest
  rw [if_pos rfl, word_eq]
theorem inf_bits {b : Nat} (h : b < 18446744073709551616) (hc : cls b = 2) : b = if below b then 18442240474082181120 else 9218868437227405312 := by
  have := (cls2 h).1 hc
  unfold rung at this
  unfold below
  by_cases hb : 9223372036854775808 ≤ b
  · rw [if_pos (by simpa using hb)]; omega
  · rw [if_neg (by simpa using hb)]; omega
theorem zero_bits {b : Nat} (h : b < 18446744073709551616) (hc : cls b = 3) : b = if below b then 9223372036854775808 else 0 := by
  have := (cls3 h).1 hc
  unfold rung at this
  unfold below
  by_cases hb : 9223372036854775808 ≤ b
  · rw [if_pos (by simpa using hb)]; omega
  · rw [if_neg (by simpa using hb)]; omega
theorem signed_zero (s : Bool) : signed 0 s = if s then 9223372036854775808 else 0 := by cases s <;> decide +kernel
theorem signed_inf (s : Bool) : signed 9218868437227405312 s = if s then 18442240474082181120 else 9218868437227405312 := by cases s <;> decide +kernel

/-- the other sign -/
def flip (b : Nat) : Nat := signed b (!below b)
theorem flip_lt {b : Nat} (h : b < 18446744073709551616) : flip b < 18446744073709551616 := by
  unfold flip signed below
  by_cases hb : 9223372036854775808 ≤ b <;> simp [hb] <;> omega
theorem below_flip {b : Nat} (h : b < 18446744073709551616) : below (flip b) = !below b := by
  unfold flip signed below
  by_cases hb : 9223372036854775808 ≤ b <;> simp [hb]; omega
theorem rung_flip {b : Nat} (h : b < 18446744073709551616) : rung (flip b) = rung b := by
  unfold flip signed below rung
  by_cases hb : 9223372036854775808 ≤ b <;> simp [hb] <;> omega
theorem read_flip {b : Nat} (h : b < 18446744073709551616) : D.read (flip b) = (D.read b).opposite := by
  rw [read_eq (flip_lt h), read_eq h, rung_flip h, below_flip h]
  by_cases h1 : rung b < 4503599627370496
  · simp only [if_pos h1, Datum.opposite]
  · by_cases h2 : rung b < 9218868437227405312
    · simp only [if_neg h1, if_pos h2, Datum.opposite]
    · by_cases h3 : rung b = 9218868437227405312
      · simp only [if_neg h1, if_neg h2, if_pos h3, Datum.opposite]
      · simp only [if_neg h1, if_neg h2, if_neg h3, Datum.opposite]
theorem cls_flip {b : Nat} (h : b < 18446744073709551616) : cls (flip b) = cls b := by
  have hr := rung_flip h
  unfold rung at hr
  unfold cls
  have e1 : flip b / 4503599627370496 % 2048 = b / 4503599627370496 % 2048 := by omega
  have e2 : flip b % 4503599627370496 = b % 4503599627370496 := by omega
  rw [e1, e2]
end FlPlain

/-
  How two words that are numbers stand to each other is how the document says; conditions: words below 2^64.
-/
namespace FlPlain
open Ieee

/-- a magnitude, in units of the least place -/
def unit (r : Nat) : Nat := if r < 4503599627370496 then r else (4503599627370496 + r % 4503599627370496) * 2 ^ (r / 4503599627370496 - 1)

theorem unit_step (r : Nat) : unit r < unit (r + 1) := by
  unfold unit
  by_cases h : r + 1 < 4503599627370496
  · rw [if_pos h, if_pos (by omega)]; omega
  · rw [if_neg h]
    by_cases h2 : r < 4503599627370496
    · have e : r + 1 = 4503599627370496 := by omega
      rw [if_pos h2, e]; simp; omega
    · rw [if_neg h2]
      by_cases h3 : (r + 1) % 4503599627370496 = 0
      · have e1 : (r + 1) / 4503599627370496 - 1 = (r / 4503599627370496 - 1) + 1 := by omega
        have e2 : r % 4503599627370496 = 4503599627370495 := by omega
        rw [e1, e2, h3, Nat.pow_succ]
        have := Nat.two_pow_pos (r / 4503599627370496 - 1)
        omega
      · have e1 : (r + 1) / 4503599627370496 = r / 4503599627370496 := by omega
        have e2 : (r + 1) % 4503599627370496 = r % 4503599627370496 + 1 := by omega
        rw [e1, e2]
        exact Nat.mul_lt_mul_of_pos_right (by omega) (Nat.two_pow_pos _)
theorem unit_mono {r s : Nat} (h : r < s) : unit r < unit s := by
  induction s with
  | zero => omega
  | succ n ih =>
    by_cases e : r = n
    · subst e; exact unit_step r
    · exact Nat.lt_trans (ih (by omega)) (unit_step n)
theorem unit_lt {r s : Nat} : unit r < unit s ↔ r < s := by
  constructor
  · intro h
    by_cases e : r < s
    · exact e
    · by_cases e2 : r = s
      · subst e2; omega
      · have := unit_mono (show s < r by omega); omega
  · exact unit_mono
theorem unit_inj {r s : Nat} (h : unit r = unit s) : r = s := by
  have h1 := @unit_lt r s
  have h2 := @unit_lt s r
  omega
theorem unit_zero : unit 0 = 0 := rfl

/-- what a word that is a number stands for, in units of the least place -/
def val (b : Nat) : Int := if below b then -(unit (rung b) : Int) else unit (rung b)

theorem compare_scale (x y : Int) (k : Nat) : compare (x * (2 ^ k : Nat)) (y * (2 ^ k : Nat)) = compare x y := by
  have hp : (0 : Int) < ((2 ^ k : Nat) : Int) := by exact_mod_cast Nat.two_pow_pos k
  rcases Int.lt_trichotomy x y with h | h | h
  · have h1 : x * (2 ^ k : Nat) < y * (2 ^ k : Nat) := Int.mul_lt_mul_of_pos_right h hp
    rw [Int.compare_eq_lt.2 h, Int.compare_eq_lt.2 h1]
  · subst h; rw [Int.compare_eq_eq.2 rfl, Int.compare_eq_eq.2 rfl]
  · have h1 : y * (2 ^ k : Nat) < x * (2 ^ k : Nat) := Int.mul_lt_mul_of_pos_right h hp
    rw [Int.compare_eq_gt.2 h, Int.compare_eq_gt.2 h1]

theorem signed_scale (s : Bool) (m u k : Nat) : Ieee.signed s m u * ((2 ^ k : Nat) : Int) = Ieee.signed s m (u + k) := by
  unfold Ieee.signed
  rw [Nat.shiftLeft_eq, Nat.shiftLeft_eq, Nat.pow_add]
  cases s
  · simp only [Bool.false_eq_true, if_false]; rw [← Nat.mul_assoc]; exact_mod_cast rfl
  · simp only [if_true]; rw [Int.neg_mul, ← Nat.mul_assoc]; exact_mod_cast rfl

/-- the places of words are at least the least -/
theorem number_val {b : Nat} (h : b < 18446744073709551616) (hc : rung b < 9218868437227405312) : ∃ m p, D.read b = .number (below b) m p ∧ -1074 ≤ p ∧ Ieee.signed (below b) m (p + 1074).toNat = val b := by
  rw [read_eq h]
  unfold val unit
  by_cases hl : rung b < 4503599627370496
  · rw [if_pos hl]
    refine ⟨_, _, rfl, by omega, ?_⟩
    rw [if_pos hl]
    unfold Ieee.signed
    simp
  · rw [if_neg hl, if_pos hc]
    refine ⟨_, _, rfl, by omega, ?_⟩
    rw [if_neg hl]
    unfold Ieee.signed
    have e : (-1074 + ((rung b / 4503599627370496 - 1 : Nat) : Int) + 1074).toNat = rung b / 4503599627370496 - 1 := by omega
    rw [e, Nat.shiftLeft_eq]

theorem order_numbers {a b : Nat} (ha : a < 18446744073709551616) (hb : b < 18446744073709551616) (ca : rung a < 9218868437227405312) (cb : rung b < 9218868437227405312) :
    D.order a b = some (compare (val a) (val b)) := by
  obtain ⟨m, p, e1, h1, v1⟩ := number_val ha ca
  obtain ⟨n, q, e2, h2, v2⟩ := number_val hb cb
  unfold Format.order
  rw [e1, e2]
  simp only [Datum.order]
  rw [← v1, ← v2]
  have k1 : (p + 1074).toNat = (p - min p q).toNat + (min p q + 1074).toNat := by omega
  have k2 : (q + 1074).toNat = (q - min p q).toNat + (min p q + 1074).toNat := by omega
  rw [k1, k2, ← signed_scale, ← signed_scale, compare_scale]

/-- the document's less -/
def less (a b : Nat) : Bool :=
  if cls a = 3 ∧ cls b = 3 then false
  else if below a ≠ below b then below a
  else if below a then decide (b < a) else decide (a < b)

theorem split_bits {b : Nat} (h : b < 18446744073709551616) : b = (if below b then 9223372036854775808 else 0) + rung b := by
  unfold below rung
  by_cases hb : 9223372036854775808 ≤ b
  · rw [if_pos (by simpa using hb)]; omega
  · rw [if_neg (by simpa using hb)]; omega

theorem val_zero {b : Nat} (h : rung b = 0) : val b = 0 := by
  unfold val; rw [h, unit_zero]; split <;> rfl
theorem unit_pos {r : Nat} (h : 0 < r) : 0 < unit r := by have := @unit_lt 0 r; rw [unit_zero] at this; omega

theorem less_numbers {a b : Nat} (ha : a < 18446744073709551616) (hb : b < 18446744073709551616) (_ca : rung a < 9218868437227405312) (_cb : rung b < 9218868437227405312) :
    less a b = decide (val a < val b) := by
  have sa := split_bits ha
  have sb := split_bits hb
  have ka := cls3 ha
  have kb := cls3 hb
  have hu := @unit_lt (rung a) (rung b)
  have hu' := @unit_lt (rung b) (rung a)
  have pa := @unit_pos (rung a)
  have pb := @unit_pos (rung b)
  unfold less
  by_cases hz : cls a = 3 ∧ cls b = 3
  · rw [if_pos hz, val_zero (ka.1 hz.1), val_zero (kb.1 hz.2)]; rfl
  · rw [if_neg hz]
    have hz' : ¬ (rung a = 0 ∧ rung b = 0) := fun h => hz ⟨ka.2 h.1, kb.2 h.2⟩
    have za : rung a = 0 → unit (rung a) = 0 := fun h => by rw [h]; rfl
    have zb : rung b = 0 → unit (rung b) = 0 := fun h => by rw [h]; rfl
    unfold val
    cases h1 : below a <;> cases h2 : below b <;> simp only [h1, h2, if_true, if_false, Bool.false_eq_true, ne_eq, not_true_eq_false, not_false_eq_true, reduceCtorEq] at sa sb ⊢
    · apply decide_eq_decide.2; omega
    · symm; apply decide_eq_false; omega
    · symm; apply decide_eq_true; omega
    · apply decide_eq_decide.2; omega

theorem same_numbers {a b : Nat} (ha : a < 18446744073709551616) (hb : b < 18446744073709551616) :
    (val a = val b) ↔ (a = b ∨ (cls a = 3 ∧ cls b = 3)) := by
  have sa := split_bits ha
  have sb := split_bits hb
  rw [cls3 ha, cls3 hb]
  have pa := @unit_pos (rung a)
  have pb := @unit_pos (rung b)
  have hi := @unit_inj (rung a) (rung b)
  have za : rung a = 0 → unit (rung a) = 0 := fun h => by rw [h]; rfl
  have zb : rung b = 0 → unit (rung b) = 0 := fun h => by rw [h]; rfl
  constructor
  · intro h
    unfold val at h
    cases h1 : below a <;> cases h2 : below b <;> simp only [h1, h2, if_true, if_false, Bool.false_eq_true] at sa sb h <;> omega
  · rintro (h | ⟨h1, h2⟩)
    · rw [h]
    · rw [val_zero h1, val_zero h2]

/-- how two words that are no NaNs stand to each other -/
theorem order_eq {a b : Nat} (ha : a < 18446744073709551616) (hb : b < 18446744073709551616) (na : cls a ≠ 1) (nb : cls b ≠ 1) :
    D.order a b = some (if less a b then .lt else if less b a then .gt else .eq) := by
  have ra : rung a ≤ 9218868437227405312 := by have := mt (cls1 ha).2 na; omega
  have rb : rung b ≤ 9218868437227405312 := by have := mt (cls1 hb).2 nb; omega
  have sa := split_bits ha
  have sb := split_bits hb
  by_cases ca : rung a = 9218868437227405312
  · have ia := read_inf ha ((cls2 ha).2 ca)
    have z : ¬ cls a = 3 := by rw [cls3 ha]; omega
    by_cases cb : rung b = 9218868437227405312
    · have ib := read_inf hb ((cls2 hb).2 cb)
      unfold Format.order
      rw [ia, ib]
      simp only [Datum.order, less, z, false_and, and_false, if_false]
      cases h1 : below a <;> cases h2 : below b <;> simp only [h1, h2, if_true, if_false, Bool.false_eq_true] at sa sb
      · have e : a = b := by omega
        subst e; simp
      · simp; rfl
      · simp; rfl
      · have e : a = b := by omega
        subst e; simp
    · obtain ⟨m, p, e, _, _⟩ := number_val hb (by omega)
      unfold Format.order
      rw [ia, e]
      simp only [Datum.order, less, z, false_and, and_false, if_false]
      cases h1 : below a <;> cases h2 : below b <;> simp only [h1, h2, if_true, if_false, Bool.false_eq_true] at sa sb
      · simp [show ¬ a < b by omega, show b < a by omega]
      · simp
      · simp
      · simp [show b < a by omega]
  · by_cases cb : rung b = 9218868437227405312
    · have ib := read_inf hb ((cls2 hb).2 cb)
      have z : ¬ cls b = 3 := by rw [cls3 hb]; omega
      obtain ⟨m, p, e, _, _⟩ := number_val ha (by omega)
      unfold Format.order
      rw [ib, e]
      simp only [Datum.order, less, z, false_and, and_false, if_false]
      cases h1 : below a <;> cases h2 : below b <;> simp only [h1, h2, if_true, if_false, Bool.false_eq_true] at sa sb
      · simp [show a < b by omega]
      · simp
      · simp
      · simp [show ¬ b < a by omega, show a < b by omega]
    · rw [order_numbers ha hb (by omega) (by omega), less_numbers ha hb (by omega) (by omega), less_numbers hb ha (by omega) (by omega)]
      congr 1
      rcases Int.lt_trichotomy (val a) (val b) with h | h | h
      · rw [Int.compare_eq_lt.2 h, if_pos (by simpa using h)]
      · rw [Int.compare_eq_eq.2 h, if_neg (by simp; omega), if_neg (by simp; omega)]
      · rw [Int.compare_eq_gt.2 h, if_neg (by simp; omega), if_pos (by simpa using h)]
theorem order_nan {a b : Nat} (ha : a < 18446744073709551616) (hb : b < 18446744073709551616) (h : cls a = 1 ∨ cls b = 1) : D.order a b = none := by
  unfold Format.order
  rcases h with h | h
  · obtain ⟨f, e⟩ := read_nan ha h
    rw [e]; cases D.read b <;> rfl
  · obtain ⟨f, e⟩ := read_nan hb h
    rw [e]; cases D.read a <;> rfl
theorem not_less_same {a b : Nat} (ha : a < 18446744073709551616) (hb : b < 18446744073709551616) (na : cls a ≠ 1) (nb : cls b ≠ 1) (h1 : less a b = false) (h2 : less b a = false) :
    a = b ∨ (cls a = 3 ∧ cls b = 3) := by
  have ra : rung a ≤ 9218868437227405312 := by have := mt (cls1 ha).2 na; omega
  have rb : rung b ≤ 9218868437227405312 := by have := mt (cls1 hb).2 nb; omega
  have sa := split_bits ha
  have sb := split_bits hb
  by_cases hz : cls a = 3 ∧ cls b = 3
  · exact .inr hz
  · left
    have hz2 : ¬ (cls b = 3 ∧ cls a = 3) := fun h => hz ⟨h.2, h.1⟩
    unfold less at h1 h2
    rw [if_neg hz] at h1
    rw [if_neg hz2] at h2
    cases k1 : below a <;> cases k2 : below b <;> simp [k1, k2] at h1 h2 sa sb <;> omega
theorem less_asymm {a b : Nat} (h : less a b = true) : less b a = false := by
  unfold less at h ⊢
  by_cases hz : cls a = 3 ∧ cls b = 3
  · rw [if_pos hz] at h; cases h
  · rw [if_neg hz] at h
    by_cases hz2 : cls b = 3 ∧ cls a = 3
    · rw [if_pos hz2]
    · rw [if_neg hz2]
      cases k1 : below a <;> cases k2 : below b <;> simp [k1, k2] at h ⊢ <;> omega
end FlPlain

/-
  Each operation, at operands that are no plain numbers, comes to what the document says; conditions: words below 2^64.
-/
namespace FlPlain
open Ieee

def truth (h : Bool) : Nat := if h then 4607182418800017408 else 0
def orNan : Option Nat → Nat
  | none => 9221120237041090561
  | some r => fin r

def least2 (a b : Nat) : Option Nat :=
  match D.order a b with
  | none => none
  | some .lt => some a
  | some .gt => some b
  | some .eq => some (if (D.read a).neg then a else b)
def most2 (a b : Nat) : Option Nat :=
  match D.order a b with
  | none => none
  | some .lt => some b
  | some .gt => some a
  | some .eq => some (if (D.read a).neg then b else a)

/-- what the program's own operation comes to: none: a NaN of whatever bits -/
def own (op a b : Nat) : Option Nat :=
  if op = 1 then D.add a b
  else if op = 2 then D.sub a b
  else if op = 3 then D.mul a b
  else if op = 4 then D.div a b
  else if op = 5 then some (truth (D.order a b == some .lt))
  else if op = 6 then some (truth (D.order a b == some .eq))
  else if op = 7 then least2 a b
  else if op = 8 then most2 a b
  else if op = 9 then some (a ^^^ 2 ^ 63)
  else D.sqrt a

def edgeAdd (a b : Nat) : Option Nat :=
  if cls a = 1 ∨ cls b = 1 then some 9221120237041090561
  else if cls a = 2 ∧ cls b = 2 ∧ below a ≠ below b then some 9221120237041090561
  else if cls a = 2 then some a
  else if cls b = 2 then some b
  else if cls a = 3 ∧ cls b = 3 then some (signed 0 (below a && below b))
  else none
def edgeMul (a b : Nat) : Option Nat :=
  if cls a = 1 ∨ cls b = 1 then some 9221120237041090561
  else if cls a = 2 ∧ cls b = 3 ∨ cls a = 3 ∧ cls b = 2 then some 9221120237041090561
  else if cls a = 2 ∨ cls b = 2 then some (signed 9218868437227405312 (below a != below b))
  else if cls a = 3 ∨ cls b = 3 then some (signed 0 (below a != below b))
  else none
def edgeDiv (a b : Nat) : Option Nat :=
  if cls a = 1 ∨ cls b = 1 then some 9221120237041090561
  else if cls a = 2 ∧ cls b = 2 ∨ cls a = 3 ∧ cls b = 3 then some 9221120237041090561
  else if cls a = 2 ∨ cls b = 3 then some (signed 9218868437227405312 (below a != below b))
  else if cls a = 3 ∨ cls b = 2 then some (signed 0 (below a != below b))
  else none
def edgeRoot (a : Nat) : Option Nat :=
  if cls a = 1 then some 9221120237041090561
  else if cls a = 3 ∨ cls a = 2 ∧ below a = false then some a
  else if below a then some 9221120237041090561
  else none

/-- the document's answer -/
def ref (op a b : Nat) : Nat :=
  if op = 1 then (edgeAdd a b).getD (orNan (D.add a b))
  else if op = 2 then (edgeAdd a (flip b)).getD (orNan (D.sub a b))
  else if op = 3 then (edgeMul a b).getD (orNan (D.mul a b))
  else if op = 4 then (edgeDiv a b).getD (orNan (D.div a b))
  else if op = 5 then (if cls a = 1 ∨ cls b = 1 then 0 else truth (less a b))
  else if op = 6 then (if cls a = 1 ∨ cls b = 1 then 0 else truth (a == b || decide (cls a = 3 ∧ cls b = 3)))
  else if op = 7 then (if cls a = 1 ∨ cls b = 1 then 9221120237041090561 else if less b a || decide (cls a = 3 ∧ cls b = 3 ∧ below b = true) then b else a)
  else if op = 8 then (if cls a = 1 ∨ cls b = 1 then 9221120237041090561 else if less a b || decide (cls a = 3 ∧ cls b = 3 ∧ below a = true) then b else a)
  else if op = 9 then (if cls a = 1 then 9221120237041090561 else flip a)
  else (edgeRoot a).getD (orNan (D.sqrt a))

theorem fin_id {a : Nat} (h : cls a ≠ 1) : fin a = a := by unfold fin; rw [if_neg h]

section
variable {a b : Nat} (ha : a < 18446744073709551616) (hb : b < 18446744073709551616)
include ha

theorem num_of (h1 : cls a ≠ 1) (h2 : cls a ≠ 2) : ∃ m p, D.read a = .number (below a) m p ∧ (cls a = 3 → m = 0 ∧ p = -1074) ∧ (cls a ≠ 3 → 0 < m) := by
  by_cases h3 : cls a = 3
  · exact ⟨0, -1074, read_zero ha h3, fun _ => ⟨rfl, rfl⟩, fun h => absurd h3 h⟩
  · obtain ⟨m, p, hm, e⟩ := read_num ha h1 h2 h3
    exact ⟨m, p, e, fun h => absurd h h3, fun _ => hm⟩

include hb
theorem add_edge {r : Nat} (h : edgeAdd a b = some r) : orNan (D.add a b) = r := by
  unfold edgeAdd at h
  unfold Format.add
  by_cases n : cls a = 1 ∨ cls b = 1
  · rw [if_pos n] at h
    injection h with h; subst h
    rcases n with n | n
    · obtain ⟨f, e⟩ := read_nan ha n
      rw [e]; cases D.read b <;> rfl
    · obtain ⟨f, e⟩ := read_nan hb n
      rw [e]; cases D.read a <;> rfl
  · rw [if_neg n] at h
    have na : cls a ≠ 1 := fun e => n (.inl e)
    have nb : cls b ≠ 1 := fun e => n (.inr e)
    by_cases ia : cls a = 2
    · have ea := read_inf ha ia
      have wa := inf_bits ha ia
      by_cases ib : cls b = 2
      · have eb := read_inf hb ib
        rw [ea, eb]
        by_cases s : below a = below b
        · rw [if_neg (by simp [ia, ib, s]), if_pos ia] at h
          injection h with h; subst h
          simp only [Datum.sum, if_pos s, Option.map_some, orNan, write_inf]
          rw [← wa]; exact fin_id na
        · rw [if_pos ⟨ia, ib, s⟩] at h
          injection h with h; subst h
          simp only [Datum.sum, if_neg s]; rfl
      · obtain ⟨m, p, eb, _, _⟩ := num_of hb nb ib
        rw [if_neg (by simp [ib]), if_pos ia] at h
        injection h with h; subst h
        rw [ea, eb]
        simp only [Datum.sum, Option.map_some, orNan, write_inf]
        rw [← wa]; exact fin_id na
    · rw [if_neg (by simp [ia]), if_neg ia] at h
      obtain ⟨m, p, ea, za, _⟩ := num_of ha na ia
      by_cases ib : cls b = 2
      · have eb := read_inf hb ib
        have wb := inf_bits hb ib
        rw [if_pos ib] at h
        injection h with h; subst h
        rw [ea, eb]
        simp only [Datum.sum, Option.map_some, orNan, write_inf]
        rw [← wb]; exact fin_id nb
      · rw [if_neg ib] at h
        by_cases z : cls a = 3 ∧ cls b = 3
        · rw [if_pos z] at h
          injection h with h; subst h
          rw [read_zero ha z.1, read_zero hb z.2, signed_zero]
          have e : (Datum.number (below a) 0 (-1074)).sum (.number (below b) 0 (-1074)) = some (.number (below a && below b) 0 (-1074)) := by
            cases below a <;> cases below b <;> rfl
          rw [e, Option.map_some, write_zero]
          cases below a && below b <;> decide +kernel
        · rw [if_neg z] at h; cases h

theorem sub_edge {r : Nat} (h : edgeAdd a (flip b) = some r) : orNan (D.sub a b) = r := by
  have := add_edge ha (flip_lt hb) h
  unfold Format.add at this
  rw [read_flip hb] at this
  exact this

theorem mul_edge {r : Nat} (h : edgeMul a b = some r) : orNan (D.mul a b) = r := by
  unfold edgeMul at h
  unfold Format.mul
  by_cases n : cls a = 1 ∨ cls b = 1
  · rw [if_pos n] at h
    injection h with h; subst h
    rcases n with n | n
    · obtain ⟨f, e⟩ := read_nan ha n
      rw [e]; cases D.read b <;> rfl
    · obtain ⟨f, e⟩ := read_nan hb n
      rw [e]; cases D.read a <;> rfl
  · rw [if_neg n] at h
    have na : cls a ≠ 1 := fun e => n (.inl e)
    have nb : cls b ≠ 1 := fun e => n (.inr e)
    by_cases ia : cls a = 2
    · have ea := read_inf ha ia
      by_cases ib : cls b = 2
      · have eb := read_inf hb ib
        rw [if_neg (by simp [ia, ib]), if_pos (.inl ia)] at h
        injection h with h; subst h
        rw [ea, eb, signed_inf]
        simp only [Datum.product, Option.map_some, orNan, write_inf]
        cases below a <;> cases below b <;> decide +kernel
      · obtain ⟨m, p, eb, zb, pb⟩ := num_of hb nb ib
        rw [ea, eb]
        by_cases z : cls b = 3
        · rw [if_pos (.inl ⟨ia, z⟩)] at h
          injection h with h; subst h
          rw [(zb z).1]; rfl
        · rw [if_neg (by simp [ia, ib, z]), if_pos (.inl ia)] at h
          injection h with h; subst h
          simp only [Datum.product, if_neg (Nat.ne_of_gt (pb z)), Option.map_some, orNan, write_inf, signed_inf]
          cases below a <;> cases below b <;> decide +kernel
    · obtain ⟨m, p, ea, za, pa⟩ := num_of ha na ia
      by_cases ib : cls b = 2
      · have eb := read_inf hb ib
        rw [ea, eb]
        by_cases z : cls a = 3
        · rw [if_pos (.inr ⟨z, ib⟩)] at h
          injection h with h; subst h
          rw [(za z).1]; rfl
        · rw [if_neg (by simp [ia, ib, z]), if_pos (.inr ib)] at h
          injection h with h; subst h
          simp only [Datum.product, if_neg (Nat.ne_of_gt (pa z)), Option.map_some, orNan, write_inf, signed_inf]
          cases below a <;> cases below b <;> decide +kernel
      · obtain ⟨n, q, eb, zb, pb⟩ := num_of hb nb ib
        rw [if_neg (by simp [ia, ib]), if_neg (by simp [ia, ib])] at h
        by_cases z : cls a = 3 ∨ cls b = 3
        · rw [if_pos z] at h
          injection h with h; subst h
          rw [ea, eb]
          have k : m * n = 0 := by
            rcases z with z | z
            · rw [(za z).1, Nat.zero_mul]
            · rw [(zb z).1, Nat.mul_zero]
          simp only [Datum.product, Option.map_some, orNan, k, write_zero, signed_zero]
          cases below a <;> cases below b <;> decide +kernel
        · rw [if_neg z] at h; cases h

theorem div_edge {r : Nat} (h : edgeDiv a b = some r) : orNan (D.div a b) = r := by
  unfold edgeDiv at h
  unfold Format.div
  by_cases n : cls a = 1 ∨ cls b = 1
  · rw [if_pos n] at h
    injection h with h; subst h
    rcases n with n | n
    · obtain ⟨f, e⟩ := read_nan ha n
      rw [e]; cases D.read b <;> rfl
    · obtain ⟨f, e⟩ := read_nan hb n
      rw [e]; cases D.read a <;> rfl
  · rw [if_neg n] at h
    have na : cls a ≠ 1 := fun e => n (.inl e)
    have nb : cls b ≠ 1 := fun e => n (.inr e)
    by_cases ia : cls a = 2
    · have ea := read_inf ha ia
      by_cases ib : cls b = 2
      · have eb := read_inf hb ib
        rw [if_pos (.inl ⟨ia, ib⟩)] at h
        injection h with h; subst h
        rw [ea, eb]; rfl
      · obtain ⟨m, p, eb, zb, pb⟩ := num_of hb nb ib
        rw [if_neg (by simp [ia, ib]), if_pos (.inl ia)] at h
        injection h with h; subst h
        rw [ea, eb]
        simp only [Datum.quotient, Option.map_some, orNan, write_inf, signed_inf]
        cases below a <;> cases below b <;> decide +kernel
    · obtain ⟨m, p, ea, za, pa⟩ := num_of ha na ia
      by_cases ib : cls b = 2
      · have eb := read_inf hb ib
        rw [if_neg (by simp [ia, ib]), if_neg (by simp [ia, ib]), if_pos (.inr ib)] at h
        injection h with h; subst h
        rw [ea, eb]
        simp only [Datum.quotient, Option.map_some, orNan, write_zero, signed_zero]
        cases below a <;> cases below b <;> decide +kernel
      · obtain ⟨n, q, eb, zb, pb⟩ := num_of hb nb ib
        rw [ea, eb]
        by_cases zb' : cls b = 3
        · by_cases za' : cls a = 3
          · rw [if_pos (.inr ⟨za', zb'⟩)] at h
            injection h with h; subst h
            rw [(za za').1, (zb zb').1]; rfl
          · rw [if_neg (by simp [ia, za']), if_pos (.inr zb')] at h
            injection h with h; subst h
            simp only [Datum.quotient, (zb zb').1, if_true, if_neg (Nat.ne_of_gt (pa za')), Option.map_some, orNan, write_inf, signed_inf]
            cases below a <;> cases below b <;> decide +kernel
        · rw [if_neg (by simp [ia, zb']), if_neg (by simp [ia, zb'])] at h
          by_cases za' : cls a = 3
          · rw [if_pos (.inl za')] at h
            injection h with h; subst h
            have nz := Nat.ne_of_gt (pb zb')
            have k : 2 * ((m <<< ((D.fractionBits + 2) + n.log2 - m.log2)) / n) + ((m <<< ((D.fractionBits + 2) + n.log2 - m.log2)) % n != 0).toNat = 0 := by
              rw [(za za').1, Nat.zero_shiftLeft, Nat.zero_div, Nat.zero_mod]; rfl
            simp only [Datum.quotient, if_neg nz, Option.map_some, orNan]
            rw [k, write_zero, signed_zero]
            cases below a <;> cases below b <;> decide +kernel
          · rw [if_neg (by simp [za', ib])] at h; cases h

theorem least_ref : orNan (least2 a b) = if cls a = 1 ∨ cls b = 1 then 9221120237041090561 else if less b a || decide (cls a = 3 ∧ cls b = 3 ∧ below b = true) then b else a := by
  unfold least2
  by_cases n : cls a = 1 ∨ cls b = 1
  · rw [if_pos n, order_nan ha hb n]; rfl
  · rw [if_neg n]
    have na : cls a ≠ 1 := fun e => n (.inl e)
    have nb : cls b ≠ 1 := fun e => n (.inr e)
    rw [order_eq ha hb na nb]
    have fa := fin_id na
    have fb := fin_id nb
    cases h1 : less a b
    · cases h2 : less b a
      · simp only [Bool.false_eq_true, if_false, Bool.false_or]
        rcases not_less_same ha hb na nb h1 h2 with e | ⟨z1, z2⟩
        · subst e; simp only [orNan, ite_self]; exact fa
        · rw [read_zero ha z1]
          have w1 := zero_bits ha z1
          have w2 := zero_bits hb z2
          simp only [Datum.neg, z1, z2, true_and, orNan]
          rw [w1, w2] at *
          generalize below a = s at *
          generalize below b = t at *
          cases s <;> cases t <;> decide +kernel
      · simp only [Bool.false_eq_true, if_false, if_true, orNan, Bool.true_or]; exact fb
    · have h2 := less_asymm h1
      have z : ¬ (cls a = 3 ∧ cls b = 3) := fun z => by unfold less at h1; rw [if_pos z] at h1; cases h1
      simp only [h2, if_true, orNan, Bool.false_or]
      rw [if_neg (by simp; exact fun x y => absurd ⟨x, y⟩ z)]; exact fa
theorem most_ref : orNan (most2 a b) = if cls a = 1 ∨ cls b = 1 then 9221120237041090561 else if less a b || decide (cls a = 3 ∧ cls b = 3 ∧ below a = true) then b else a := by
  unfold most2
  by_cases n : cls a = 1 ∨ cls b = 1
  · rw [if_pos n, order_nan ha hb n]; rfl
  · rw [if_neg n]
    have na : cls a ≠ 1 := fun e => n (.inl e)
    have nb : cls b ≠ 1 := fun e => n (.inr e)
    rw [order_eq ha hb na nb]
    have fa := fin_id na
    have fb := fin_id nb
    cases h1 : less a b
    · cases h2 : less b a
      · simp only [Bool.false_eq_true, if_false, Bool.false_or]
        rcases not_less_same ha hb na nb h1 h2 with e | ⟨z1, z2⟩
        · subst e; simp only [orNan, ite_self]; exact fa
        · rw [read_zero ha z1]
          have w1 := zero_bits ha z1
          have w2 := zero_bits hb z2
          simp only [Datum.neg, z1, z2, true_and, orNan]
          rw [w1, w2] at *
          generalize below a = s at *
          generalize below b = t at *
          cases s <;> cases t <;> decide +kernel
      · have z : ¬ (cls a = 3 ∧ cls b = 3) := fun z => by unfold less at h2; rw [if_pos ⟨z.2, z.1⟩] at h2; cases h2
        simp only [Bool.false_eq_true, if_false, if_true, orNan, Bool.false_or]
        rw [if_neg (by simp; exact fun x y => absurd ⟨x, y⟩ z)]; exact fa
    · simp only [if_true, orNan, Bool.true_or]; exact fb
end
theorem xor_add (n c : Nat) (h : c < 2 ^ n) : c ^^^ 2 ^ n = 2 ^ n + c := by
  apply Nat.eq_of_testBit_eq
  intro j
  rw [Nat.testBit_xor]
  rcases Nat.lt_trichotomy j n with hj | hj | hj
  · rw [Nat.testBit_two_pow_add_gt hj, Nat.testBit_two_pow_of_ne (by omega)]; simp
  · subst hj
    rw [Nat.testBit_two_pow_add_eq, Nat.testBit_two_pow_self, Nat.testBit_lt_two_pow h]; rfl
  · rw [Nat.testBit_two_pow_of_ne (by omega), Nat.testBit_lt_two_pow (Nat.lt_of_lt_of_le h (Nat.pow_le_pow_right (by omega) (by omega)))]
    rw [Nat.testBit_lt_two_pow]
    · rfl
    · have : 2 ^ (n + 1) ≤ 2 ^ j := Nat.pow_le_pow_right (by omega) (by omega)
      rw [Nat.pow_succ] at this
      omega
theorem xor_flip {a : Nat} (h : a < 18446744073709551616) : a ^^^ 2 ^ 63 = flip a := by
  have key : ∀ c : Nat, c < 9223372036854775808 → c ^^^ 2 ^ 63 = 9223372036854775808 + c := fun c hc => xor_add 63 c hc
  unfold flip signed below
  by_cases hb : 9223372036854775808 ≤ a
  · have k := key (a - 9223372036854775808) (by omega)
    have e : a = (a - 9223372036854775808) ^^^ 2 ^ 63 := by rw [k]; omega
    have e2 : a ^^^ 2 ^ 63 = a - 9223372036854775808 := by
      conv => lhs; rw [e]
      rw [Nat.xor_assoc, Nat.xor_self, Nat.xor_zero]
    rw [e2]; simp [hb]
  · rw [key a (by omega)]; simp [hb]; omega
end FlPlain

/-
  The operation that the program chooses comes to what the document says, whatever the operation; conditions: words below 2^64.
-/
namespace FlPlain
open Ieee

theorem getD_of {o : Option Nat} {x : Nat} (h : ∀ r, o = some r → x = r) : o.getD x = x := by
  cases o with
  | none => rfl
  | some r => exact (h r rfl).symm

theorem root_edge {a : Nat} (ha : a < 18446744073709551616) {r : Nat} (h : edgeRoot a = some r) : orNan (D.sqrt a) = r := by
  unfold edgeRoot at h
  unfold Format.sqrt
  by_cases na : cls a = 1
  · rw [if_pos na] at h
    injection h with h; subst h
    obtain ⟨f, e⟩ := read_nan ha na
    rw [e]; rfl
  · rw [if_neg na] at h
    by_cases z : cls a = 3
    · rw [if_pos (.inl z)] at h
      injection h with h; subst h
      have w := zero_bits ha z
      rw [read_zero ha z]
      simp only [Datum.root, if_true, Option.map_some, orNan, write_zero]
      rw [← w]; exact fin_id na
    · by_cases i : cls a = 2
      · have e := read_inf ha i
        have w := inf_bits ha i
        cases s : below a
        · rw [if_pos (.inr ⟨i, s⟩)] at h
          injection h with h; subst h
          rw [s] at e w
          rw [e]
          simp only [Datum.root, Bool.false_eq_true, if_false, Option.map_some, orNan, write_inf]
          rw [if_neg (by decide)] at w
          rw [← w]; exact fin_id na
        · rw [if_neg (by simp [z, s]), if_pos s] at h
          injection h with h; subst h
          rw [e, s]; rfl
      · obtain ⟨m, p, e, _, hm⟩ := num_of ha na i
        rw [if_neg (by simp [z, i])] at h
        cases s : below a
        · rw [if_neg (by simp [s])] at h; cases h
        · rw [if_pos s] at h
          injection h with h; subst h
          rw [e, s]
          simp only [Datum.root, if_neg (Nat.ne_of_gt (hm z)), if_true, Option.map_none, orNan]

theorem truth_fin (t : Bool) : fin (truth t) = truth t := by cases t <;> decide +kernel

/-- THE PROGRAM's OPERATION COMES TO WHAT THE DOCUMENT SAYS. -/
theorem own_ref {op a b : Nat} (ha : a < 18446744073709551616) (hb : b < 18446744073709551616) : orNan (own op a b) = ref op a b := by
  unfold own ref
  by_cases h1 : op = 1
  · rw [if_pos h1, if_pos h1, getD_of fun r h => add_edge ha hb h]
  rw [if_neg h1, if_neg h1]
  by_cases h2 : op = 2
  · rw [if_pos h2, if_pos h2, getD_of fun r h => sub_edge ha hb h]
  rw [if_neg h2, if_neg h2]
  by_cases h3 : op = 3
  · rw [if_pos h3, if_pos h3, getD_of fun r h => mul_edge ha hb h]
  rw [if_neg h3, if_neg h3]
  by_cases h4 : op = 4
  · rw [if_pos h4, if_pos h4, getD_of fun r h => div_edge ha hb h]
  rw [if_neg h4, if_neg h4]
  by_cases h5 : op = 5
  · rw [if_pos h5, if_pos h5]
    by_cases n : cls a = 1 ∨ cls b = 1
    · rw [if_pos n, order_nan ha hb n]; decide +kernel
    · rw [if_neg n, order_eq ha hb (fun e => n (.inl e)) (fun e => n (.inr e))]
      simp only [orNan, truth_fin]
      cases less a b <;> cases less b a <;> rfl
  rw [if_neg h5, if_neg h5]
  by_cases h6 : op = 6
  · rw [if_pos h6, if_pos h6]
    by_cases n : cls a = 1 ∨ cls b = 1
    · rw [if_pos n, order_nan ha hb n]; decide +kernel
    · have na : cls a ≠ 1 := fun e => n (.inl e)
      have nb : cls b ≠ 1 := fun e => n (.inr e)
      rw [if_neg n, order_eq ha hb na nb]
      simp only [orNan, truth_fin]
      congr 1
      cases l1 : less a b
      · cases l2 : less b a
        · rcases not_less_same ha hb na nb l1 l2 with e | e
          · subst e; simp
          · simp [e]
        · simp only [Bool.false_eq_true, if_false, if_true]
          have z : ¬ (cls a = 3 ∧ cls b = 3) := fun z => by unfold less at l2; rw [if_pos ⟨z.2, z.1⟩] at l2; cases l2
          have e : ¬ a = b := fun e => by subst e; rw [l1] at l2; cases l2
          simp [z, e]
      · simp only [if_true]
        have z : ¬ (cls a = 3 ∧ cls b = 3) := fun z => by unfold less at l1; rw [if_pos z] at l1; cases l1
        have e : ¬ a = b := fun e => by subst e; have := less_asymm l1; rw [l1] at this; cases this
        simp [z, e]
  rw [if_neg h6, if_neg h6]
  by_cases h7 : op = 7
  · rw [if_pos h7, if_pos h7, least_ref ha hb]
  rw [if_neg h7, if_neg h7]
  by_cases h8 : op = 8
  · rw [if_pos h8, if_pos h8, most_ref ha hb]
  rw [if_neg h8, if_neg h8]
  by_cases h9 : op = 9
  · rw [if_pos h9, if_pos h9, xor_flip ha]
    have c := cls_flip ha
    show fin (flip a) = _
    unfold fin
    rw [c]
  rw [if_neg h9, if_neg h9, getD_of fun r h => root_edge ha h]

/-- one NaN alone -/
theorem orNan_one (o : Option Nat) (h : cls (orNan o) = 1) : orNan o = 9221120237041090561 := by
  cases o with
  | none => rfl
  | some r =>
    unfold orNan fin at *
    by_cases c : cls r = 1
    · simp only [if_pos c]
    · simp only [if_neg c] at h; exact absurd h c
theorem order_less_nan {a b : Nat} (ha : a < 18446744073709551616) (hb : b < 18446744073709551616) (h : cls a = 1 ∨ cls b = 1) : orNan (some (truth (D.order a b == some .lt))) = 0 ∧ orNan (some (truth (D.order a b == some .eq))) = 0 := by
  rw [order_nan ha hb h]; decide +kernel
theorem orNan_truth (t : Bool) : orNan (some (truth t)) = 0 ∨ orNan (some (truth t)) = 4607182418800017408 := by cases t <;> decide +kernel
end FlPlain

/-
  Laws of the model's float operations, for any program: what each comes to where it is valid, and where it is not.
-/
namespace Go.Proofs.Fl
open Go.RowKit

def nanOf (w : World) (q : Question) : Nat := q.cut (w.tape w.drawn q)
section
variable {P : Program} (w : World)
theorem run_float_invalid (op : BinOp) (t : TypeId) (x y : Nat) (h : floatBits op .f64 x y = none) (ho : op = .add ∨ op = .sub ∨ op = .mul ∨ op = .quo) :
    (binOp op t (.float .f64 x) (.float .f64 y)).run P w = .ok (.float .f64 (nanOf w (.nanBits .f64 x y))) w.drew := by
  unfold floatBits at h
  rcases ho with rfl | rfl | rfl | rfl <;> simp only at h <;> simp [binOp, Op.floatArith, h, nanOf, Question.forced] <;> rfl
theorem nan_cls (w : World) (x y : Nat) : FlPlain.cls (nanOf w (.nanBits .f64 x y)) = 1 ∧ nanOf w (.nanBits .f64 x y) < 18446744073709551616 := by
  unfold nanOf
  generalize w.tape w.drawn _ = t
  have e : Question.cut (.nanBits .f64 x y) t = (t % 2) * 9223372036854775808 + 9218868437227405312 + 1 + (t / 2) % 4503599627370495 := by
    simp [Question.cut]
  rw [e]
  have hf : (t / 2) % 4503599627370495 < 4503599627370495 := Nat.mod_lt _ (by omega)
  have hs : t % 2 = 0 ∨ t % 2 = 1 := by omega
  generalize (t / 2) % 4503599627370495 = f at *
  generalize t % 2 = s at *
  have h : s * 9223372036854775808 + 9218868437227405312 + 1 + f < 18446744073709551616 := by omega
  refine ⟨(FlPlain.cls1 h).2 ?_, h⟩
  unfold FlPlain.rung
  omega
end
end Go.Proofs.Fl

/-
  The walks of float.bits, float.truth, float.calc, float.Calc, and of the reference's Class, Below, nan, signed, whole, truth, less.
-/
namespace Go.Proofs.YtpnklpjjbpheeaaGreatDoor.Flt
open Go.RowKit Go.Proofs.Fl

end Go.Proofs.YtpnklpjjbpheeaaGreatDoor.Flt

/-
  The walk of float.calc: each operation.
-/
namespace Go.Proofs.YtpnklpjjbpheeaaGreatDoor.Flt
open Go.RowKit Go.Proofs.Fl

structure Lk (p : Prop) : Prop where mk :: (out : p)
theorem fmt64 : FloatKind.f64.format = Ieee.double := rfl
def Got (o : Option Nat) (w : World) (e : Ending) (w' : World) : Prop :=
  ∃ r, e = .returned (.float .f64 r) ∧ r < 18446744073709551616 ∧ FlPlain.fin r = FlPlain.orNan o ∧ (w' = w ∨ w' = w.drew)
theorem got_some {x : Nat} {w : World} (h : x < 18446744073709551616) : Got (some x) w (.returned (.float .f64 x)) w := ⟨x, rfl, h, rfl, .inl rfl⟩
theorem got_nan {x y : Nat} {w : World} : Got none w (.returned (.float .f64 (nanOf w (.nanBits .f64 x y)))) w.drew :=
  ⟨_, rfl, (nan_cls w x y).2, by unfold FlPlain.fin; rw [if_pos (nan_cls w x y).1]; rfl, .inr rfl⟩
theorem width64 : (2 : Nat) ^ Ieee.double.width = 18446744073709551616 := by decide +kernel

theorem truth_lt (t : Bool) : FlPlain.truth t < 18446744073709551616 := by cases t <;> decide +kernel
theorem min_run (P : Program) (ts : Array TypeId) (t : TypeId) (a b : Nat) (w : World) : (Builtin.min_ ts t #[.float .f64 a, .float .f64 b]).run P w =
    match FlPlain.least2 a b with | some r => .ok (.float .f64 r) w | none => .ok (.float .f64 (nanOf w (.nanMinMax .f64 false a b))) w.drew := by
  unfold FlPlain.least2
  simp only [Builtin.min_, List.foldlM_cons, List.foldlM_nil, Builtin.min2, fmt64, FloatKind.decode]
  cases h : FlPlain.D.order a b with
  | none => simp [nanOf, Question.forced]
  | some o => cases o <;> first | (simp; done) | (simp only [Sem.run_bind, Sem.run_pure, Result.andThen_ok]; rfl)
theorem max_run (P : Program) (ts : Array TypeId) (t : TypeId) (a b : Nat) (w : World) : (Builtin.max_ ts t #[.float .f64 a, .float .f64 b]).run P w =
    match FlPlain.most2 a b with | some r => .ok (.float .f64 r) w | none => .ok (.float .f64 (nanOf w (.nanMinMax .f64 true a b))) w.drew := by
  unfold FlPlain.most2
  simp only [Builtin.max_, List.foldlM_cons, List.foldlM_nil, Builtin.max2, fmt64, FloatKind.decode]
  cases h : FlPlain.D.order a b with
  | none => simp [nanOf, Question.forced]
  | some o => cases o <;> first | (simp; done) | (simp only [Sem.run_bind, Sem.run_pure, Result.andThen_ok]; rfl)

theorem nanm_cls (w : World) (m : Bool) (x y : Nat) : FlPlain.cls (nanOf w (.nanMinMax .f64 m x y)) = 1 ∧ nanOf w (.nanMinMax .f64 m x y) < 18446744073709551616 := by
  unfold nanOf
  generalize w.tape w.drawn _ = t
  have e : Question.cut (.nanMinMax .f64 m x y) t = (t % 2) * 9223372036854775808 + 9218868437227405312 + 1 + (t / 2) % 4503599627370495 := by
    simp [Question.cut]
  rw [e]
  have hf : (t / 2) % 4503599627370495 < 4503599627370495 := Nat.mod_lt _ (by omega)
  have hs : t % 2 = 0 ∨ t % 2 = 1 := by omega
  generalize (t / 2) % 4503599627370495 = f at *
  generalize t % 2 = s at *
  have h : s * 9223372036854775808 + 9218868437227405312 + 1 + f < 18446744073709551616 := by omega
  refine ⟨(FlPlain.cls1 h).2 ?_, h⟩
  unfold FlPlain.rung
  omega
theorem got_nanm {m : Bool} {x y : Nat} {w : World} : Got none w (.returned (.float .f64 (nanOf w (.nanMinMax .f64 m x y)))) w.drew :=
  ⟨_, rfl, (nanm_cls w m x y).2, by unfold FlPlain.fin; rw [if_pos (nanm_cls w m x y).1]; rfl, .inr rfl⟩
theorem least2_lt {a b r : Nat} (ha : a < 18446744073709551616) (hb : b < 18446744073709551616) (h : FlPlain.least2 a b = some r) : r < 18446744073709551616 := by
  unfold FlPlain.least2 at h
  split at h <;> first | (cases h; done) | (injection h with h; subst h; first | assumption | (split <;> assumption))
theorem most2_lt {a b r : Nat} (ha : a < 18446744073709551616) (hb : b < 18446744073709551616) (h : FlPlain.most2 a b = some r) : r < 18446744073709551616 := by
  unfold FlPlain.most2 at h
  split at h <;> first | (cases h; done) | (injection h with h; subst h; first | assumption | (split <;> assumption))

theorem neg_run (P : Program) (a : Nat) (w : World) : (Op.unary .neg (.float .f64 a)).run P w = .ok (.float .f64 (a ^^^ 2 ^ 63)) w := rfl
end Go.Proofs.YtpnklpjjbpheeaaGreatDoor.Flt

/-
  The walks of float.bits and float.Calc.
-/
namespace Go.Proofs.YtpnklpjjbpheeaaGreatDoor.Flt
open Go.RowKit Go.Proofs.Fl

theorem order_self {b : Nat} (h : b < 18446744073709551616) (c : FlPlain.cls b ≠ 1) : Ieee.double.order b b = some .eq := by
  have := FlPlain.order_eq h h c c
  have hl : FlPlain.less b b = false := by unfold FlPlain.less; simp
  rw [hl] at this
  exact this
theorem order_self_nan {b : Nat} (h : b < 18446744073709551616) (c : FlPlain.cls b = 1) : Ieee.double.order b b = none := FlPlain.order_nan h h (.inl c)

end Go.Proofs.YtpnklpjjbpheeaaGreatDoor.Flt
