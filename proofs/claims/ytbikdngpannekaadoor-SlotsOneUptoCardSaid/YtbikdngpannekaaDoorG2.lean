/-
  Plain: when two bitmaps have the same bits.
-/
import Derived.Test.YtbikdngpannekaaDoorB2
namespace Bm

def sameB (a b : List Int) : Bool := (List.range (max a.length b.length)).all fun k => a.getD k 0 == b.getD k 0
theorem sameB_iff (a b : List Int) : sameB a b = true ↔ ∀ k, a.getD k 0 = b.getD k 0 := by
  unfold sameB
  rw [List.all_eq_true]
  constructor
  · intro h k
    by_cases hk : k < max a.length b.length
    · simpa using h k (List.mem_range.2 hk)
    · rw [List.getD_eq_getElem?_getD, List.getD_eq_getElem?_getD, List.getElem?_eq_none (by omega), List.getElem?_eq_none (by omega)]
  · intro h k _
    simpa using h k
theorem cut_getD (l : List Int) (k : Nat) : (cutL l).getD k 0 = l.getD k 0 := by
  obtain ⟨n, e, _⟩ := cut_ex l
  rw [List.getD_eq_getElem?_getD, List.getD_eq_getElem?_getD]
  conv => rhs; rw [e]
  by_cases h : k < (cutL l).length
  · rw [List.getElem?_append_left h]
  · rw [List.getElem?_eq_none (by omega), List.getElem?_append_right (by omega), List.getElem?_replicate]
    split <;> rfl
theorem cut_tight (l : List Int) (h : (cutL l).length ≠ 0) : (cutL l).getD ((cutL l).length - 1) 0 ≠ 0 := by
  obtain ⟨n, e, hh⟩ := cut_ex l
  rcases hh with hh | ⟨m, x, hm, hx⟩
  · rw [hh] at h; simp at h
  · rw [hm, List.getD_eq_getElem?_getD, List.length_append, List.length_singleton, Nat.add_sub_cancel, List.getElem?_append_right (Nat.le_refl _)]
    simpa using hx
theorem same_cut (a b : List Int) : sameB a b = decide (cutL a = cutL b) := by
  rw [Bool.eq_iff_iff, sameB_iff, decide_eq_true_eq]
  constructor
  · intro h
    have hg : ∀ k, (cutL a).getD k 0 = (cutL b).getD k 0 := fun k => by rw [cut_getD, cut_getD]; exact h k
    have hlen : (cutL a).length = (cutL b).length := by
      rcases Nat.lt_trichotomy (cutL a).length (cutL b).length with hl | hl | hl
      · have h1 := cut_tight b (by omega)
        rw [← hg, List.getD_eq_getElem?_getD, List.getElem?_eq_none (by omega)] at h1
        exact absurd rfl h1
      · exact hl
      · have h1 := cut_tight a (by omega)
        rw [hg, List.getD_eq_getElem?_getD, List.getElem?_eq_none (by omega)] at h1
        exact absurd rfl h1
    apply List.ext_getElem hlen
    intro i h1 h2
    have := hg i
    rwa [List.getD_eq_getElem?_getD, List.getD_eq_getElem?_getD, List.getElem?_eq_getElem h1, List.getElem?_eq_getElem h2] at this
  · intro h k
    rw [← cut_getD a, ← cut_getD b, h]
/-- the same bits: the same words -/
theorem word_ext {x y : Nat} (h : ∀ j, j < 64 → x.testBit j = y.testBit j) (hx : x < 2 ^ 64) (hy : y < 2 ^ 64) : x = y := by
  apply Nat.eq_of_testBit_eq
  intro j
  by_cases hj : j < 64
  · exact h j hj
  · rw [Nat.testBit_lt_two_pow (Nat.lt_of_lt_of_le hx (Nat.pow_le_pow_right (by omega) (by omega))), Nat.testBit_lt_two_pow (Nat.lt_of_lt_of_le hy (Nat.pow_le_pow_right (by omega) (by omega)))]
theorem word_nn {l : List Int} (h : Words l) (k : Nat) : 0 ≤ l.getD k 0 ∧ l.getD k 0 < 18446744073709551616 := by
  rw [List.getD_eq_getElem?_getD]
  rcases Nat.lt_or_ge k l.length with hk | hk
  · rw [List.getElem?_eq_getElem hk]; exact h _ (List.getElem_mem hk)
  · rw [List.getElem?_eq_none hk]; exact ⟨by decide, by decide⟩
theorem same_bits {a b : List Int} (ha : Words a) (hb : Words b) (h : ∀ i, bitAt a i = bitAt b i) : sameB a b = true := by
  rw [sameB_iff]
  intro k
  have h1 := word_nn ha k
  have h2 := word_nn hb k
  have : (a.getD k 0).toNat = (b.getD k 0).toNat := by
    apply word_ext _ (by omega) (by omega)
    intro j hj
    have := h (64 * k + j)
    unfold bitAt at this
    rwa [show (64 * k + j) / 64 = k by omega, show (64 * k + j) % 64 = j by omega] at this
  omega
def tightL (l : List Int) : Bool := decide (l.length = 0) || decide (l.getD (l.length - 1) 0 ≠ 0)
theorem tight_cut (l : List Int) : tightL (cutL l) = true := by
  unfold tightL
  by_cases h : (cutL l).length = 0
  · rw [decide_eq_true h]; rfl
  · rw [decide_eq_true (cut_tight l h), Bool.or_true]
theorem with_cut (l : List Int) (i : Int) (on : Bool) : ∃ m, withL l i on = cutL m := by
  unfold withL
  split
  · exact ⟨_, rfl⟩
  · exact ⟨_, rfl⟩
theorem tight_with (l : List Int) (i : Int) (on : Bool) : tightL (withL l i on) = true := by
  obtain ⟨m, e⟩ := with_cut l i on
  rw [e]; exact tight_cut m
theorem of_cut (l : List Int) : ofL l = [] ∨ ∃ m, ofL l = cutL m := by
  unfold ofL
  suffices h : ∀ (l b : List Int), (b = [] ∨ ∃ m, b = cutL m) → (l.foldl (fun b i => if fits i then withL b i true else b) b = [] ∨ ∃ m, l.foldl (fun b i => if fits i then withL b i true else b) b = cutL m) from h l [] (Or.inl rfl)
  intro l
  induction l with
  | nil => intro b hb; exact hb
  | cons x l ih =>
    intro b hb
    rw [List.foldl_cons]
    apply ih
    split
    · exact Or.inr (with_cut _ _ _)
    · exact hb
theorem tight_of (l : List Int) : tightL (ofL l) = true := by
  rcases of_cut l with e | ⟨m, e⟩
  · rw [e]; rfl
  · rw [e]; exact tight_cut m
end Bm
