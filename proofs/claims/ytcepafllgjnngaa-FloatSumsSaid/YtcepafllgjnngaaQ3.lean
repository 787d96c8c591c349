/-
  Each operation, at operands that are no plain numbers, comes to what the document says; conditions: words below 2^64.
-/
import Derived.Test.YtcepafllgjnngaaQ2
namespace FlPlain
open Ieee

def truth (h : Bool) : Nat := if h then 4607182418800017408 else 0
def orNan : Option Nat → Nat
  | none => 9221120237041090561
  | some r => fin r

def least2 (a b : Nat) : Option Nat :=
  match D.order a b with
  | none => none
  | some .lt => some a
  | some .gt => some b
  | some .eq => some (if (D.read a).neg then a else b)
def most2 (a b : Nat) : Option Nat :=
  match D.order a b with
  | none => none
  | some .lt => some b
  | some .gt => some a
  | some .eq => some (if (D.read a).neg then b else a)

/-- what the program's own operation comes to: none: a NaN of whatever bits -/
def own (op a b : Nat) : Option Nat :=
  if op = 1 then D.add a b
  else if op = 2 then D.sub a b
  else if op = 3 then D.mul a b
  else if op = 4 then D.div a b
  else if op = 5 then some (truth (D.order a b == some .lt))
  else if op = 6 then some (truth (D.order a b == some .eq))
  else if op = 7 then least2 a b
  else if op = 8 then most2 a b
  else if op = 9 then some (a ^^^ 2 ^ 63)
  else D.sqrt a

def edgeAdd (a b : Nat) : Option Nat :=
  if cls a = 1 ∨ cls b = 1 then some 9221120237041090561
  else if cls a = 2 ∧ cls b = 2 ∧ below a ≠ below b then some 9221120237041090561
  else if cls a = 2 then some a
  else if cls b = 2 then some b
  else if cls a = 3 ∧ cls b = 3 then some (signed 0 (below a && below b))
  else none
def edgeMul (a b : Nat) : Option Nat :=
  if cls a = 1 ∨ cls b = 1 then some 9221120237041090561
  else if cls a = 2 ∧ cls b = 3 ∨ cls a = 3 ∧ cls b = 2 then some 9221120237041090561
  else if cls a = 2 ∨ cls b = 2 then some (signed 9218868437227405312 (below a != below b))
  else if cls a = 3 ∨ cls b = 3 then some (signed 0 (below a != below b))
  else none
def edgeDiv (a b : Nat) : Option Nat :=
  if cls a = 1 ∨ cls b = 1 then some 9221120237041090561
  else if cls a = 2 ∧ cls b = 2 ∨ cls a = 3 ∧ cls b = 3 then some 9221120237041090561
  else if cls a = 2 ∨ cls b = 3 then some (signed 9218868437227405312 (below a != below b))
  else if cls a = 3 ∨ cls b = 2 then some (signed 0 (below a != below b))
  else none
def edgeRoot (a : Nat) : Option Nat :=
  if cls a = 1 then some 9221120237041090561
  else if cls a = 3 ∨ cls a = 2 ∧ below a = false then some a
  else if below a then some 9221120237041090561
  else none

/-- the document's answer -/
def ref (op a b : Nat) : Nat :=
  if op = 1 then (edgeAdd a b).getD (orNan (D.add a b))
  else if op = 2 then (edgeAdd a (flip b)).getD (orNan (D.sub a b))
  else if op = 3 then (edgeMul a b).getD (orNan (D.mul a b))
  else if op = 4 then (edgeDiv a b).getD (orNan (D.div a b))
  else if op = 5 then (if cls a = 1 ∨ cls b = 1 then 0 else truth (less a b))
  else if op = 6 then (if cls a = 1 ∨ cls b = 1 then 0 else truth (a == b || decide (cls a = 3 ∧ cls b = 3)))
  else if op = 7 then (if cls a = 1 ∨ cls b = 1 then 9221120237041090561 else if less b a || decide (cls a = 3 ∧ cls b = 3 ∧ below b = true) then b else a)
  else if op = 8 then (if cls a = 1 ∨ cls b = 1 then 9221120237041090561 else if less a b || decide (cls a = 3 ∧ cls b = 3 ∧ below a = true) then b else a)
  else if op = 9 then (if cls a = 1 then 9221120237041090561 else flip a)
  else (edgeRoot a).getD (orNan (D.sqrt a))

theorem fin_id {a : Nat} (h : cls a ≠ 1) : fin a = a := by unfold fin; rw [if_neg h]

section
variable {a b : Nat} (ha : a < 18446744073709551616) (hb : b < 18446744073709551616)
include ha

theorem num_of (h1 : cls a ≠ 1) (h2 : cls a ≠ 2) : ∃ m p, D.read a = .number (below a) m p ∧ (cls a = 3 → m = 0 ∧ p = -1074) ∧ (cls a ≠ 3 → 0 < m) := by
  by_cases h3 : cls a = 3
  · exact ⟨0, -1074, read_zero ha h3, fun _ => ⟨rfl, rfl⟩, fun h => absurd h3 h⟩
  · obtain ⟨m, p, hm, e⟩ := read_num ha h1 h2 h3
    exact ⟨m, p, e, fun h => absurd h h3, fun _ => hm⟩

include hb
theorem add_edge {r : Nat} (h : edgeAdd a b = some r) : orNan (D.add a b) = r := by
  unfold edgeAdd at h
  unfold Format.add
  by_cases n : cls a = 1 ∨ cls b = 1
  · rw [if_pos n] at h
    injection h with h; subst h
    rcases n with n | n
    · obtain ⟨f, e⟩ := read_nan ha n
      rw [e]; cases D.read b <;> rfl
    · obtain ⟨f, e⟩ := read_nan hb n
      rw [e]; cases D.read a <;> rfl
  · rw [if_neg n] at h
    have na : cls a ≠ 1 := fun e => n (.inl e)
    have nb : cls b ≠ 1 := fun e => n (.inr e)
    by_cases ia : cls a = 2
    · have ea := read_inf ha ia
      have wa := inf_bits ha ia
      by_cases ib : cls b = 2
      · have eb := read_inf hb ib
        rw [ea, eb]
        by_cases s : below a = below b
        · rw [if_neg (by simp [ia, ib, s]), if_pos ia] at h
          injection h with h; subst h
          simp only [Datum.sum, if_pos s, Option.map_some, orNan, write_inf]
          rw [← wa]; exact fin_id na
        · rw [if_pos ⟨ia, ib, s⟩] at h
          injection h with h; subst h
          simp only [Datum.sum, if_neg s]; rfl
      · obtain ⟨m, p, eb, _, _⟩ := num_of hb nb ib
        rw [if_neg (by simp [ib]), if_pos ia] at h
        injection h with h; subst h
        rw [ea, eb]
        simp only [Datum.sum, Option.map_some, orNan, write_inf]
        rw [← wa]; exact fin_id na
    · rw [if_neg (by simp [ia]), if_neg ia] at h
      obtain ⟨m, p, ea, za, _⟩ := num_of ha na ia
      by_cases ib : cls b = 2
      · have eb := read_inf hb ib
        have wb := inf_bits hb ib
        rw [if_pos ib] at h
        injection h with h; subst h
        rw [ea, eb]
        simp only [Datum.sum, Option.map_some, orNan, write_inf]
        rw [← wb]; exact fin_id nb
      · rw [if_neg ib] at h
        by_cases z : cls a = 3 ∧ cls b = 3
        · rw [if_pos z] at h
          injection h with h; subst h
          rw [read_zero ha z.1, read_zero hb z.2, signed_zero]
          have e : (Datum.number (below a) 0 (-1074)).sum (.number (below b) 0 (-1074)) = some (.number (below a && below b) 0 (-1074)) := by
            cases below a <;> cases below b <;> rfl
          rw [e, Option.map_some, write_zero]
          cases below a && below b <;> decide +kernel
        · rw [if_neg z] at h; cases h

theorem sub_edge {r : Nat} (h : edgeAdd a (flip b) = some r) : orNan (D.sub a b) = r := by
  have := add_edge ha (flip_lt hb) h
  unfold Format.add at this
  rw [read_flip hb] at this
  exact this

theorem mul_edge {r : Nat} (h : edgeMul a b = some r) : orNan (D.mul a b) = r := by
  unfold edgeMul at h
  unfold Format.mul
  by_cases n : cls a = 1 ∨ cls b = 1
  · rw [if_pos n] at h
    injection h with h; subst h
    rcases n with n | n
    · obtain ⟨f, e⟩ := read_nan ha n
      rw [e]; cases D.read b <;> rfl
    · obtain ⟨f, e⟩ := read_nan hb n
      rw [e]; cases D.read a <;> rfl
  · rw [if_neg n] at h
    have na : cls a ≠ 1 := fun e => n (.inl e)
    have nb : cls b ≠ 1 := fun e => n (.inr e)
    by_cases ia : cls a = 2
    · have ea := read_inf ha ia
      by_cases ib : cls b = 2
      · have eb := read_inf hb ib
        rw [if_neg (by simp [ia, ib]), if_pos (.inl ia)] at h
        injection h with h; subst h
        rw [ea, eb, signed_inf]
        simp only [Datum.product, Option.map_some, orNan, write_inf]
        cases below a <;> cases below b <;> decide +kernel
      · obtain ⟨m, p, eb, zb, pb⟩ := num_of hb nb ib
        rw [ea, eb]
        by_cases z : cls b = 3
        · rw [if_pos (.inl ⟨ia, z⟩)] at h
          injection h with h; subst h
          rw [(zb z).1]; rfl
        · rw [if_neg (by simp [ia, ib, z]), if_pos (.inl ia)] at h
          injection h with h; subst h
          simp only [Datum.product, if_neg (Nat.ne_of_gt (pb z)), Option.map_some, orNan, write_inf, signed_inf]
          cases below a <;> cases below b <;> decide +kernel
    · obtain ⟨m, p, ea, za, pa⟩ := num_of ha na ia
      by_cases ib : cls b = 2
      · have eb := read_inf hb ib
        rw [ea, eb]
        by_cases z : cls a = 3
        · rw [if_pos (.inr ⟨z, ib⟩)] at h
          injection h with h; subst h
          rw [(za z).1]; rfl
        · rw [if_neg (by simp [ia, ib, z]), if_pos (.inr ib)] at h
          injection h with h; subst h
          simp only [Datum.product, if_neg (Nat.ne_of_gt (pa z)), Option.map_some, orNan, write_inf, signed_inf]
          cases below a <;> cases below b <;> decide +kernel
      · obtain ⟨n, q, eb, zb, pb⟩ := num_of hb nb ib
        rw [if_neg (by simp [ia, ib]), if_neg (by simp [ia, ib])] at h
        by_cases z : cls a = 3 ∨ cls b = 3
        · rw [if_pos z] at h
          injection h with h; subst h
          rw [ea, eb]
          have k : m * n = 0 := by
            rcases z with z | z
            · rw [(za z).1, Nat.zero_mul]
            · rw [(zb z).1, Nat.mul_zero]
          simp only [Datum.product, Option.map_some, orNan, k, write_zero, signed_zero]
          cases below a <;> cases below b <;> decide +kernel
        · rw [if_neg z] at h; cases h

theorem div_edge {r : Nat} (h : edgeDiv a b = some r) : orNan (D.div a b) = r := by
  unfold edgeDiv at h
  unfold Format.div
  by_cases n : cls a = 1 ∨ cls b = 1
  · rw [if_pos n] at h
    injection h with h; subst h
    rcases n with n | n
    · obtain ⟨f, e⟩ := read_nan ha n
      rw [e]; cases D.read b <;> rfl
    · obtain ⟨f, e⟩ := read_nan hb n
      rw [e]; cases D.read a <;> rfl
  · rw [if_neg n] at h
    have na : cls a ≠ 1 := fun e => n (.inl e)
    have nb : cls b ≠ 1 := fun e => n (.inr e)
    by_cases ia : cls a = 2
    · have ea := read_inf ha ia
      by_cases ib : cls b = 2
      · have eb := read_inf hb ib
        rw [if_pos (.inl ⟨ia, ib⟩)] at h
        injection h with h; subst h
        rw [ea, eb]; rfl
      · obtain ⟨m, p, eb, zb, pb⟩ := num_of hb nb ib
        rw [if_neg (by simp [ia, ib]), if_pos (.inl ia)] at h
        injection h with h; subst h
        rw [ea, eb]
        simp only [Datum.quotient, Option.map_some, orNan, write_inf, signed_inf]
        cases below a <;> cases below b <;> decide +kernel
    · obtain ⟨m, p, ea, za, pa⟩ := num_of ha na ia
      by_cases ib : cls b = 2
      · have eb := read_inf hb ib
        rw [if_neg (by simp [ia, ib]), if_neg (by simp [ia, ib]), if_pos (.inr ib)] at h
        injection h with h; subst h
        rw [ea, eb]
        simp only [Datum.quotient, Option.map_some, orNan, write_zero, signed_zero]
        cases below a <;> cases below b <;> decide +kernel
      · obtain ⟨n, q, eb, zb, pb⟩ := num_of hb nb ib
        rw [ea, eb]
        by_cases zb' : cls b = 3
        · by_cases za' : cls a = 3
          · rw [if_pos (.inr ⟨za', zb'⟩)] at h
            injection h with h; subst h
            rw [(za za').1, (zb zb').1]; rfl
          · rw [if_neg (by simp [ia, za']), if_pos (.inr zb')] at h
            injection h with h; subst h
            simp only [Datum.quotient, (zb zb').1, if_true, if_neg (Nat.ne_of_gt (pa za')), Option.map_some, orNan, write_inf, signed_inf]
            cases below a <;> cases below b <;> decide +kernel
        · rw [if_neg (by simp [ia, zb']), if_neg (by simp [ia, zb'])] at h
          by_cases za' : cls a = 3
          · rw [if_pos (.inl za')] at h
            injection h with h; subst h
            have nz := Nat.ne_of_gt (pb zb')
            have k : 2 * ((m <<< ((D.fractionBits + 2) + n.log2 - m.log2)) / n) + ((m <<< ((D.fractionBits + 2) + n.log2 - m.log2)) % n != 0).toNat = 0 := by
              rw [(za za').1, Nat.zero_shiftLeft, Nat.zero_div, Nat.zero_mod]; rfl
            simp only [Datum.quotient, if_neg nz, Option.map_some, orNan]
            rw [k, write_zero, signed_zero]
            cases below a <;> cases below b <;> decide +kernel
          · rw [if_neg (by simp [za', ib])] at h; cases h

theorem least_ref : orNan (least2 a b) = if cls a = 1 ∨ cls b = 1 then 9221120237041090561 else if less b a || decide (cls a = 3 ∧ cls b = 3 ∧ below b = true) then b else a := by
  unfold least2
  by_cases n : cls a = 1 ∨ cls b = 1
  · rw [if_pos n, order_nan ha hb n]; rfl
  · rw [if_neg n]
    have na : cls a ≠ 1 := fun e => n (.inl e)
    have nb : cls b ≠ 1 := fun e => n (.inr e)
    rw [order_eq ha hb na nb]
    have fa := fin_id na
    have fb := fin_id nb
    cases h1 : less a b
    · cases h2 : less b a
      · simp only [Bool.false_eq_true, if_false, Bool.false_or]
        rcases not_less_same ha hb na nb h1 h2 with e | ⟨z1, z2⟩
        · subst e; simp only [orNan, ite_self]; exact fa
        · rw [read_zero ha z1]
          have w1 := zero_bits ha z1
          have w2 := zero_bits hb z2
          simp only [Datum.neg, z1, z2, true_and, orNan]
          rw [w1, w2] at *
          generalize below a = s at *
          generalize below b = t at *
          cases s <;> cases t <;> decide +kernel
      · simp only [Bool.false_eq_true, if_false, if_true, orNan, Bool.true_or]; exact fb
    · have h2 := less_asymm h1
      have z : ¬ (cls a = 3 ∧ cls b = 3) := fun z => by unfold less at h1; rw [if_pos z] at h1; cases h1
      simp only [h2, if_true, orNan, Bool.false_or]
      rw [if_neg (by simp; exact fun x y => absurd ⟨x, y⟩ z)]; exact fa
theorem most_ref : orNan (most2 a b) = if cls a = 1 ∨ cls b = 1 then 9221120237041090561 else if less a b || decide (cls a = 3 ∧ cls b = 3 ∧ below a = true) then b else a := by
  unfold most2
  by_cases n : cls a = 1 ∨ cls b = 1
  · rw [if_pos n, order_nan ha hb n]; rfl
  · rw [if_neg n]
    have na : cls a ≠ 1 := fun e => n (.inl e)
    have nb : cls b ≠ 1 := fun e => n (.inr e)
    rw [order_eq ha hb na nb]
    have fa := fin_id na
    have fb := fin_id nb
    cases h1 : less a b
    · cases h2 : less b a
      · simp only [Bool.false_eq_true, if_false, Bool.false_or]
        rcases not_less_same ha hb na nb h1 h2 with e | ⟨z1, z2⟩
        · subst e; simp only [orNan, ite_self]; exact fa
        · rw [read_zero ha z1]
          have w1 := zero_bits ha z1
          have w2 := zero_bits hb z2
          simp only [Datum.neg, z1, z2, true_and, orNan]
          rw [w1, w2] at *
          generalize below a = s at *
          generalize below b = t at *
          cases s <;> cases t <;> decide +kernel
      · have z : ¬ (cls a = 3 ∧ cls b = 3) := fun z => by unfold less at h2; rw [if_pos ⟨z.2, z.1⟩] at h2; cases h2
        simp only [Bool.false_eq_true, if_false, if_true, orNan, Bool.false_or]
        rw [if_neg (by simp; exact fun x y => absurd ⟨x, y⟩ z)]; exact fa
    · simp only [if_true, orNan, Bool.true_or]; exact fb
end
theorem xor_add (n c : Nat) (h : c < 2 ^ n) : c ^^^ 2 ^ n = 2 ^ n + c := by
  apply Nat.eq_of_testBit_eq
  intro j
  rw [Nat.testBit_xor]
  rcases Nat.lt_trichotomy j n with hj | hj | hj
  · rw [Nat.testBit_two_pow_add_gt hj, Nat.testBit_two_pow_of_ne (by omega)]; simp
  · subst hj
    rw [Nat.testBit_two_pow_add_eq, Nat.testBit_two_pow_self, Nat.testBit_lt_two_pow h]; rfl
  · rw [Nat.testBit_two_pow_of_ne (by omega), Nat.testBit_lt_two_pow (Nat.lt_of_lt_of_le h (Nat.pow_le_pow_right (by omega) (by omega)))]
    rw [Nat.testBit_lt_two_pow]
    · rfl
    · have : 2 ^ (n + 1) ≤ 2 ^ j := Nat.pow_le_pow_right (by omega) (by omega)
      rw [Nat.pow_succ] at this
      omega
theorem xor_flip {a : Nat} (h : a < 18446744073709551616) : a ^^^ 2 ^ 63 = flip a := by
  have key : ∀ c : Nat, c < 9223372036854775808 → c ^^^ 2 ^ 63 = 9223372036854775808 + c := fun c hc => xor_add 63 c hc
  unfold flip signed below
  by_cases hb : 9223372036854775808 ≤ a
  · have k := key (a - 9223372036854775808) (by omega)
    have e : a = (a - 9223372036854775808) ^^^ 2 ^ 63 := by rw [k]; omega
    have e2 : a ^^^ 2 ^ 63 = a - 9223372036854775808 := by
      conv => lhs; rw [e]
      rw [Nat.xor_assoc, Nat.xor_self, Nat.xor_zero]
    rw [e2]; simp [hb]
  · rw [key a (by omega)]; simp [hb]; omega
end FlPlain
