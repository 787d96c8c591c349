/-
  The operation that the program chooses comes to what the document says, whatever the operation; conditions: words below 2^64.
-/
import Derived.Test.YtcepafllgjnngaaQ3
namespace FlPlain
open Ieee

theorem getD_of {o : Option Nat} {x : Nat} (h : ∀ r, o = some r → x = r) : o.getD x = x := by
  cases o with
  | none => rfl
  | some r => exact (h r rfl).symm

theorem root_edge {a : Nat} (ha : a < 18446744073709551616) {r : Nat} (h : edgeRoot a = some r) : orNan (D.sqrt a) = r := by
  unfold edgeRoot at h
  unfold Format.sqrt
  by_cases na : cls a = 1
  · rw [if_pos na] at h
    injection h with h; subst h
    obtain ⟨f, e⟩ := read_nan ha na
    rw [e]; rfl
  · rw [if_neg na] at h
    by_cases z : cls a = 3
    · rw [if_pos (.inl z)] at h
      injection h with h; subst h
      have w := zero_bits ha z
      rw [read_zero ha z]
      simp only [Datum.root, if_true, Option.map_some, orNan, write_zero]
      rw [← w]; exact fin_id na
    · by_cases i : cls a = 2
      · have e := read_inf ha i
        have w := inf_bits ha i
        cases s : below a
        · rw [if_pos (.inr ⟨i, s⟩)] at h
          injection h with h; subst h
          rw [s] at e w
          rw [e]
          simp only [Datum.root, Bool.false_eq_true, if_false, Option.map_some, orNan, write_inf]
          rw [if_neg (by decide)] at w
          rw [← w]; exact fin_id na
        · rw [if_neg (by simp [z, s]), if_pos s] at h
          injection h with h; subst h
          rw [e, s]; rfl
      · obtain ⟨m, p, e, _, hm⟩ := num_of ha na i
        rw [if_neg (by simp [z, i])] at h
        cases s : below a
        · rw [if_neg (by simp [s])] at h; cases h
        · rw [if_pos s] at h
          injection h with h; subst h
          rw [e, s]
          simp only [Datum.root, if_neg (Nat.ne_of_gt (hm z)), if_true, Option.map_none, orNan]

theorem truth_fin (t : Bool) : fin (truth t) = truth t := by cases t <;> decide +kernel

/-- THE PROGRAM's OPERATION COMES TO WHAT THE DOCUMENT SAYS. -/
theorem own_ref {op a b : Nat} (ha : a < 18446744073709551616) (hb : b < 18446744073709551616) : orNan (own op a b) = ref op a b := by
  unfold own ref
  by_cases h1 : op = 1
  · rw [if_pos h1, if_pos h1, getD_of fun r h => add_edge ha hb h]
  rw [if_neg h1, if_neg h1]
  by_cases h2 : op = 2
  · rw [if_pos h2, if_pos h2, getD_of fun r h => sub_edge ha hb h]
  rw [if_neg h2, if_neg h2]
  by_cases h3 : op = 3
  · rw [if_pos h3, if_pos h3, getD_of fun r h => mul_edge ha hb h]
  rw [if_neg h3, if_neg h3]
  by_cases h4 : op = 4
  · rw [if_pos h4, if_pos h4, getD_of fun r h => div_edge ha hb h]
  rw [if_neg h4, if_neg h4]
  by_cases h5 : op = 5
  · rw [if_pos h5, if_pos h5]
    by_cases n : cls a = 1 ∨ cls b = 1
    · rw [if_pos n, order_nan ha hb n]; decide +kernel
    · rw [if_neg n, order_eq ha hb (fun e => n (.inl e)) (fun e => n (.inr e))]
      simp only [orNan, truth_fin]
      cases less a b <;> cases less b a <;> rfl
  rw [if_neg h5, if_neg h5]
  by_cases h6 : op = 6
  · rw [if_pos h6, if_pos h6]
    by_cases n : cls a = 1 ∨ cls b = 1
    · rw [if_pos n, order_nan ha hb n]; decide +kernel
    · have na : cls a ≠ 1 := fun e => n (.inl e)
      have nb : cls b ≠ 1 := fun e => n (.inr e)
      rw [if_neg n, order_eq ha hb na nb]
      simp only [orNan, truth_fin]
      congr 1
      cases l1 : less a b
      · cases l2 : less b a
        · rcases not_less_same ha hb na nb l1 l2 with e | e
          · subst e; simp
          · simp [e]
        · simp only [Bool.false_eq_true, if_false, if_true]
          have z : ¬ (cls a = 3 ∧ cls b = 3) := fun z => by unfold less at l2; rw [if_pos ⟨z.2, z.1⟩] at l2; cases l2
          have e : ¬ a = b := fun e => by subst e; rw [l1] at l2; cases l2
          simp [z, e]
      · simp only [if_true]
        have z : ¬ (cls a = 3 ∧ cls b = 3) := fun z => by unfold less at l1; rw [if_pos z] at l1; cases l1
        have e : ¬ a = b := fun e => by subst e; have := less_asymm l1; rw [l1] at this; cases this
        simp [z, e]
  rw [if_neg h6, if_neg h6]
  by_cases h7 : op = 7
  · rw [if_pos h7, if_pos h7, least_ref ha hb]
  rw [if_neg h7, if_neg h7]
  by_cases h8 : op = 8
  · rw [if_pos h8, if_pos h8, most_ref ha hb]
  rw [if_neg h8, if_neg h8]
  by_cases h9 : op = 9
  · rw [if_pos h9, if_pos h9, xor_flip ha]
    have c := cls_flip ha
    show fin (flip a) = _
    unfold fin
    rw [c]
  rw [if_neg h9, if_neg h9, getD_of fun r h => root_edge ha h]

/-- one NaN alone -/
theorem orNan_one (o : Option Nat) (h : cls (orNan o) = 1) : orNan o = 9221120237041090561 := by
  cases o with
  | none => rfl
  | some r =>
    unfold orNan fin at *
    by_cases c : cls r = 1
    · simp only [if_pos c]
    · simp only [if_neg c] at h; exact absurd h c
theorem order_less_nan {a b : Nat} (ha : a < 18446744073709551616) (hb : b < 18446744073709551616) (h : cls a = 1 ∨ cls b = 1) : orNan (some (truth (D.order a b == some .lt))) = 0 ∧ orNan (some (truth (D.order a b == some .eq))) = 0 := by
  rw [order_nan ha hb h]; decide +kernel
theorem orNan_truth (t : Bool) : orNan (some (truth t)) = 0 ∨ orNan (some (truth t)) = 4607182418800017408 := by cases t <;> decide +kernel
end FlPlain
