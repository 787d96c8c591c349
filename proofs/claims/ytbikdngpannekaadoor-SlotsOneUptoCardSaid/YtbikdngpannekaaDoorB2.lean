/-
  Plain facts on bitmaps: a bitmap with another bit, cut, and of bits; conditions: words below 2^64.
-/
import Derived.Test.YtbikdngpannekaaDoorB1
namespace Bm

def fits (i : Int) : Bool := decide (0 ≤ i) && decide (i < 4096)
/-- without a word 0 at its end -/
def cutL (l : List Int) : List Int := (l.reverse.dropWhile (fun x => x == 0)).reverse
theorem cutL_snoc_zero (l : List Int) : cutL (l ++ [0]) = cutL l := by
  unfold cutL; rw [List.reverse_append]; simp
theorem cutL_snoc (l : List Int) (x : Int) (h : x ≠ 0) : cutL (l ++ [x]) = l ++ [x] := by
  unfold cutL; rw [List.reverse_append]; simp [h]
theorem cutL_nil : cutL [] = [] := rfl
theorem cut_ex (l : List Int) : ∃ k, l = cutL l ++ List.replicate k 0 ∧ (cutL l = [] ∨ ∃ m x, cutL l = m ++ [x] ∧ x ≠ 0) := by
  induction hn : l.length generalizing l with
  | zero => obtain rfl := List.eq_nil_of_length_eq_zero hn; exact ⟨0, rfl, .inl rfl⟩
  | succ n ih =>
    have hne : l ≠ [] := by rintro rfl; simp at hn
    obtain ⟨m, x, rfl⟩ : ∃ m x, l = m ++ [x] := ⟨l.dropLast, l.getLast hne, (List.dropLast_concat_getLast hne).symm⟩
    by_cases hx : x = 0
    · subst hx
      obtain ⟨k, h1, h2⟩ := ih m (by simpa using hn)
      rw [cutL_snoc_zero]
      refine ⟨k + 1, ?_, h2⟩
      rw [List.replicate_succ', ← List.append_assoc, ← h1]
    · rw [cutL_snoc _ _ hx]
      exact ⟨0, by simp, .inr ⟨m, x, rfl, hx⟩⟩
theorem bitAt_zeros (l : List Int) (k i : Nat) : bitAt (l ++ List.replicate k 0) i = bitAt l i := by
  unfold bitAt
  congr 2
  rw [List.getD_eq_getElem?_getD, List.getD_eq_getElem?_getD]
  by_cases h : i / 64 < l.length
  · rw [List.getElem?_append_left h]
  · rw [List.getElem?_append_right (by omega), List.getElem?_eq_none (l := l) (by omega), List.getElem?_replicate]
    split <;> rfl
theorem bitAt_cut (l : List Int) (i : Nat) : bitAt (cutL l) i = bitAt l i := by
  obtain ⟨k, h, _⟩ := cut_ex l
  conv => rhs; rw [h]
  rw [bitAt_zeros]
theorem cut_length (l : List Int) : (cutL l).length ≤ l.length := by
  obtain ⟨k, h, _⟩ := cut_ex l
  have := congrArg List.length h
  rw [List.length_append, List.length_replicate] at this
  omega
theorem cut_take (l : List Int) : cutL l = l.take (cutL l).length := by
  obtain ⟨k, h, _⟩ := cut_ex l
  conv => rhs; arg 2; rw [h]
  rw [List.take_left']
  rfl
def Words (l : List Int) : Prop := ∀ x ∈ l, 0 ≤ x ∧ x < 18446744073709551616
theorem Words.cut {l : List Int} (h : Words l) : Words (cutL l) := by
  rw [cut_take]; exact fun x hx => h x (List.mem_of_mem_take hx)

/-- the word with another bit -/
def setBit (x : Nat) (j : Nat) (on : Bool) : Nat := if on then (x &&& (18446744073709551615 - 2 ^ j)) ||| 2 ^ j else x &&& (18446744073709551615 - 2 ^ j)
def pad (l : List Int) (n : Nat) : List Int := l ++ List.replicate (n - l.length) 0
def withL (l : List Int) (i : Int) (on : Bool) : List Int :=
  if fits i then cutL ((pad l (i.toNat / 64 + 1)).set (i.toNat / 64) ((setBit ((pad l (i.toNat / 64 + 1)).getD (i.toNat / 64) 0).toNat (i.toNat % 64) on : Nat) : Int)) else cutL l
def ofL (is : List Int) : List Int := is.foldl (fun b i => if fits i then withL b i true else b) []

theorem pad_length (l : List Int) (n : Nat) : (pad l n).length = max l.length n := by unfold pad; rw [List.length_append, List.length_replicate]; omega
theorem bitAt_pad (l : List Int) (n i : Nat) : bitAt (pad l n) i = bitAt l i := bitAt_zeros _ _ _
theorem not_bit (j k : Nat) (hj : j < 64) : (18446744073709551615 - 2 ^ j).testBit k = (decide (k < 64) && decide (k ≠ j)) := by
  have h2 : 2 ^ j < 2 ^ 64 := Nat.pow_lt_pow_right (by omega) hj
  rw [show 18446744073709551615 - 2 ^ j = 2 ^ 64 - (2 ^ j + 1) from by omega, Nat.testBit_two_pow_sub_succ h2, Nat.testBit_two_pow]
  by_cases h : k = j
  · subst h; simp
  · have : ¬ j = k := fun e => h e.symm
    simp [h, this]
theorem setBit_bit (x j k : Nat) (on : Bool) (hj : j < 64) (hx : x < 18446744073709551616) : (setBit x j on).testBit k = if k = j then on else x.testBit k := by
  have hk : ¬ k < 64 → x.testBit k = false := fun h => Nat.testBit_lt_two_pow (Nat.lt_of_lt_of_le (show x < 2 ^ 64 from hx) (Nat.pow_le_pow_right (by omega) (by omega)))
  unfold setBit
  cases on
  · simp only [Bool.false_eq_true, if_false, Nat.testBit_and, not_bit j k hj]
    by_cases h : k = j
    · simp [h]
    · by_cases h2 : k < 64
      · simp [h, h2]
      · simp [h, hk h2]
  · simp only [if_true, Nat.testBit_or, Nat.testBit_and, not_bit j k hj, Nat.testBit_two_pow]
    by_cases h : k = j
    · simp [h]
    · have : ¬ j = k := fun e => h e.symm
      by_cases h2 : k < 64
      · simp [h, h2, this]
      · simp [h, hk h2, this]
theorem setBit_lt (x j : Nat) (on : Bool) (hj : j < 64) (_hx : x < 18446744073709551616) : setBit x j on < 18446744073709551616 := by
  have h2 : 2 ^ j < 2 ^ 64 := Nat.pow_lt_pow_right (by omega) hj
  have h1 : x &&& (18446744073709551615 - 2 ^ j) < 2 ^ 64 := Nat.and_lt_two_pow _ (by have := Nat.sub_le 18446744073709551615 (2 ^ j); omega)
  unfold setBit
  split
  · exact Nat.or_lt_two_pow h1 h2
  · exact h1
theorem bitAt_set (l : List Int) (k : Nat) (y : Nat) (i : Nat) (hk : k < l.length) : bitAt (l.set k (y : Int)) i = if i / 64 = k then y.testBit (i % 64) else bitAt l i := by
  unfold bitAt
  rw [List.getD_eq_getElem?_getD, List.getElem?_set]
  by_cases h : k = i / 64
  · subst h; simp [hk]
  · have : ¬ i / 64 = k := fun e => h e.symm
    simp [h, this]
theorem getD_word {l : List Int} (h : Words l) (k : Nat) : (l.getD k 0).toNat < 18446744073709551616 := by
  rw [List.getD_eq_getElem?_getD]
  cases hc : l[k]? with
  | none => simp
  | some x =>
    have := h x (List.mem_of_getElem? hc)
    simp; omega
theorem Words.pad {l : List Int} (h : Words l) (n : Nat) : Words (pad l n) := by
  intro x hx
  rcases List.mem_append.1 hx with hx | hx
  · exact h x hx
  · rw [List.mem_replicate] at hx; omega
theorem Words.set {l : List Int} (h : Words l) (k y : Nat) (hy : y < 18446744073709551616) : Words (l.set k (y : Int)) := by
  intro x hx
  rcases List.mem_or_eq_of_mem_set hx with hx | hx
  · exact h x hx
  · omega
theorem Words.withL {l : List Int} (h : Words l) (i : Int) (on : Bool) : Words (withL l i on) := by
  unfold Bm.withL
  split
  · exact Words.cut (Words.set (Words.pad h _) _ _ (setBit_lt _ _ _ (Nat.mod_lt _ (by omega)) (getD_word (Words.pad h _) _)))
  · exact h.cut
theorem bitAt_with {l : List Int} (h : Words l) (i : Int) (on : Bool) (k : Nat) : bitAt (withL l i on) k = if fits i ∧ (k : Int) = i then on else bitAt l k := by
  unfold withL
  by_cases hf : fits i
  · rw [if_pos hf, bitAt_cut, bitAt_set _ _ _ _ (by rw [pad_length]; omega)]
    have h0 : 0 ≤ i := by unfold fits at hf; simp at hf; omega
    by_cases e : k / 64 = i.toNat / 64
    · rw [if_pos e, setBit_bit _ _ _ _ (Nat.mod_lt _ (by omega)) (getD_word (h.pad _) _)]
      by_cases e2 : k % 64 = i.toNat % 64
      · rw [if_pos e2, if_pos ⟨hf, by omega⟩]
      · rw [if_neg e2, if_neg (by omega), ← bitAt_pad l (i.toNat / 64 + 1) k]
        unfold bitAt
        rw [e]
    · rw [if_neg e, if_neg (by intro h; apply e; omega), bitAt_pad]
  · rw [if_neg hf, bitAt_cut, if_neg (fun h => hf h.1)]
theorem withL_length (l : List Int) (i : Int) (on : Bool) : (withL l i on).length ≤ max l.length 64 := by
  unfold withL
  split
  · rename_i hf
    refine Nat.le_trans (cut_length _) ?_
    rw [List.length_set, pad_length]
    unfold fits at hf; simp at hf; omega
  · exact Nat.le_trans (cut_length _) (Nat.le_max_left _ _)

theorem ofL_snoc (is : List Int) (i : Int) : ofL (is ++ [i]) = if fits i then withL (ofL is) i true else ofL is := by
  unfold ofL; rw [List.foldl_append]; rfl
theorem ofL_words (is : List Int) : Words (ofL is) := by
  induction hn : is.length generalizing is with
  | zero => obtain rfl := List.eq_nil_of_length_eq_zero hn; intro x hx; cases hx
  | succ n ih =>
    have hne : is ≠ [] := by rintro rfl; simp at hn
    obtain ⟨m, x, rfl⟩ : ∃ m x, is = m ++ [x] := ⟨is.dropLast, is.getLast hne, (List.dropLast_concat_getLast hne).symm⟩
    rw [ofL_snoc]
    have := ih m (by simpa using hn)
    split
    · exact this.withL _ _
    · exact this
theorem ofL_length (is : List Int) : (ofL is).length ≤ 64 := by
  induction hn : is.length generalizing is with
  | zero => obtain rfl := List.eq_nil_of_length_eq_zero hn; exact Nat.zero_le _
  | succ n ih =>
    have hne : is ≠ [] := by rintro rfl; simp at hn
    obtain ⟨m, x, rfl⟩ : ∃ m x, is = m ++ [x] := ⟨is.dropLast, is.getLast hne, (List.dropLast_concat_getLast hne).symm⟩
    rw [ofL_snoc]
    have h1 := ih m (by simpa using hn)
    split
    · have := withL_length (ofL m) x true; omega
    · exact h1
theorem bitAt_of (is : List Int) (k : Nat) : bitAt (ofL is) k = (decide (k < 4096) && is.contains (k : Int)) := by
  induction hn : is.length generalizing is with
  | zero => obtain rfl := List.eq_nil_of_length_eq_zero hn; simp [ofL, bitAt]
  | succ n ih =>
    have hne : is ≠ [] := by rintro rfl; simp at hn
    obtain ⟨m, x, rfl⟩ : ∃ m x, is = m ++ [x] := ⟨is.dropLast, is.getLast hne, (List.dropLast_concat_getLast hne).symm⟩
    rw [ofL_snoc]
    have h1 := ih m (by simpa using hn)
    by_cases hf : fits x
    · rw [if_pos hf, bitAt_with (ofL_words m), h1]
      by_cases e : (k : Int) = x
      · rw [if_pos ⟨hf, e⟩]
        have : k < 4096 := by unfold fits at hf; simp at hf; omega
        simp [this, e]
      · rw [if_neg (fun h => e h.2)]
        simp [e]
    · rw [if_neg hf, h1]
      by_cases e : (k : Int) = x
      · have : ¬ k < 4096 := by intro h; apply hf; unfold fits; simp; omega
        simp [this]
      · simp [e]
end Bm
