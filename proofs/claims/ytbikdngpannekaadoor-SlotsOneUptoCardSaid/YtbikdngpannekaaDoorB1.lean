/-
  Plain facts on bitmaps: which bits of words are 1, in order; conditions: words below 2^64.
-/
namespace Bm

/-- the bit of a row of words -/
def bitAt (l : List Int) (i : Nat) : Bool := ((l.getD (i / 64) 0).toNat).testBit (i % 64)
def hasL (l : List Int) (i : Int) : Bool := if i < 0 then false else bitAt l i.toNat
def bitsW (x : Nat) : List Nat := (List.range 64).filter x.testBit
def okBit (l : List Int) (n : Int) (i : Nat) : Bool := bitAt l i && decide ((i : Int) < n)
def bitsN (l : List Int) (n : Int) : List Nat := (List.range (64 * l.length)).filter (okBit l n)
def bitsL (l : List Int) (n : Int) : List Int := (bitsN l n).map fun (i : Nat) => (i : Int)

theorem bitAt_out (l : List Int) (i : Nat) (h : l.length ≤ i / 64) : bitAt l i = false := by
  unfold bitAt
  rw [List.getD_eq_getElem?_getD, List.getElem?_eq_none h]; simp
theorem bitAt_append_left (l : List Int) (x : Int) (i : Nat) (h : i / 64 < l.length) : bitAt (l ++ [x]) i = bitAt l i := by
  unfold bitAt
  rw [List.getD_eq_getElem?_getD, List.getD_eq_getElem?_getD, List.getElem?_append_left h]
theorem bitAt_append_right (l : List Int) (x : Int) (j : Nat) (h : j < 64) : bitAt (l ++ [x]) (64 * l.length + j) = x.toNat.testBit j := by
  unfold bitAt
  have e1 : (64 * l.length + j) / 64 = l.length := by omega
  have e2 : (64 * l.length + j) % 64 = j := by omega
  rw [e1, e2, List.getD_eq_getElem?_getD, List.getElem?_append_right (Nat.le_refl _)]; simp

/-- the bits of one word more, as far as they are below n -/
def wordBits (k : Nat) (x : Nat) (n : Int) : List Int := ((((bitsW x).map (fun j => 64 * k + j)).filter (fun (i : Nat) => decide ((i : Int) < n)))).map (fun (i : Nat) => (i : Int))

theorem bitsL_snoc (l : List Int) (x : Int) (n : Int) : bitsL (l ++ [x]) n = bitsL l n ++ wordBits l.length x.toNat n := by
  unfold bitsL bitsN wordBits
  rw [← List.map_append]
  congr 1
  rw [List.length_append, List.length_singleton, Nat.mul_add, Nat.mul_one, List.range_add, List.filter_append]
  congr 1
  · apply List.filter_congr
    intro i hi
    have hi := List.mem_range.1 hi
    unfold okBit
    rw [bitAt_append_left _ _ _ (by omega)]
  · rw [List.filter_map, List.filter_map]
    unfold bitsW
    rw [List.filter_filter]
    congr 1
    apply List.filter_congr
    intro j hj
    have hj := List.mem_range.1 hj
    simp only [Function.comp, okBit]
    rw [bitAt_append_right _ _ _ hj, Bool.and_comm]

theorem bitsL_nil (n : Int) : bitsL [] n = [] := rfl
theorem bitsL_length (l : List Int) (n : Int) : (bitsL l n).length ≤ 64 * l.length := by
  unfold bitsL bitsN
  rw [List.length_map]
  exact Nat.le_trans (List.length_filter_le _ _) (by simp)
theorem bitsW_length (x : Nat) : (bitsW x).length ≤ 64 := by
  unfold bitsW
  exact Nat.le_trans (List.length_filter_le _ _) (by simp)
theorem bitsW_zero : bitsW 0 = [] := by decide

/-- the lowest bit that is 1, and the word without it -/
theorem low_form (x : Nat) (h : x ≠ 0) : ∃ k m, x = 2 ^ k * (2 * m + 1) := by
  induction x using Nat.strongRecOn with
  | ind x ih =>
    by_cases e : x % 2 = 1
    · exact ⟨0, x / 2, by omega⟩
    · obtain ⟨k, m, hk⟩ := ih (x / 2) (by omega) (by omega)
      refine ⟨k + 1, m, ?_⟩
      rw [Nat.pow_succ, Nat.mul_right_comm, ← hk]; omega
theorem testBit_low (k m j : Nat) : (2 ^ k * (2 * m + 1)).testBit j = (if j < k then false else if j = k then true else m.testBit (j - k - 1)) := by
  rw [Nat.testBit_two_pow_mul]
  by_cases h : j < k
  · simp [h]; omega
  · rw [if_neg h]
    by_cases h2 : j = k
    · subst h2; simp [Nat.testBit_zero]
    · rw [if_neg h2]
      have e : j - k = (j - k - 1) + 1 := by omega
      have h3 : decide (k ≤ j) = true := by simp; omega
      rw [h3, Bool.true_and, e, Nat.testBit_add_one]
      congr 1
      omega
theorem testBit_less (k m j : Nat) : (2 ^ k * (2 * m + 1) - 1).testBit j = (if j < k then true else if j = k then false else m.testBit (j - k - 1)) := by
  have e : 2 ^ k * (2 * m + 1) - 1 = 2 ^ k * (2 * m) + (2 ^ k - 1) := by
    have := Nat.two_pow_pos k
    rw [Nat.mul_add]; omega
  have hp := Nat.two_pow_pos k
  rw [e, Nat.testBit_two_pow_mul_add _ (by omega)]
  by_cases h : j < k
  · rw [if_pos h, if_pos h, Nat.testBit_two_pow_sub_one]; simp [h]
  · rw [if_neg h, if_neg h]
    by_cases h2 : j = k
    · subst h2; simp [Nat.testBit_zero]
    · rw [if_neg h2]
      have e : j - k = (j - k - 1) + 1 := by omega
      rw [e, Nat.testBit_add_one]
      congr 1
      omega
theorem drop_low (k m j : Nat) : ((2 ^ k * (2 * m + 1)) &&& (2 ^ k * (2 * m + 1) - 1)).testBit j = (decide (j ≠ k) && (2 ^ k * (2 * m + 1)).testBit j) := by
  rw [Nat.testBit_and, testBit_low, testBit_less]
  by_cases h : j < k
  · simp [h]
  · by_cases h2 : j = k
    · simp [h2]
    · simp [h, h2]
theorem filter_range_split (p q : Nat → Bool) (n k : Nat) (hk : k < n) (hp : p k = true) (hlow : ∀ j, j < k → p j = false) (hq : ∀ j, q j = (decide (j ≠ k) && p j)) : (List.range n).filter p = k :: (List.range n).filter q := by
  have e : List.range n = List.range k ++ k :: (List.range (n - k - 1)).map (fun j => k + 1 + j) := by
    have h1 : n = k + (1 + (n - k - 1)) := by omega
    conv => lhs; rw [h1]
    rw [List.range_add, List.range_add]
    simp [List.range_one, Function.comp_def, Nat.add_assoc]
  rw [e, List.filter_append, List.filter_append, List.filter_cons, List.filter_cons]
  have h1 : (List.range k).filter p = [] := by
    rw [List.filter_eq_nil_iff]; intro j hj; rw [hlow j (List.mem_range.1 hj)]; simp
  have h2 : (List.range k).filter q = [] := by
    rw [List.filter_eq_nil_iff]; intro j hj; rw [hq, hlow j (List.mem_range.1 hj)]; simp
  rw [h1, h2, hp, hq k]
  simp only [List.nil_append, if_true, ne_eq, not_true_eq_false, decide_false, Bool.false_and, Bool.false_eq_true, if_false]
  congr 1
  apply List.filter_congr
  intro j hj
  obtain ⟨i, _, rfl⟩ := List.mem_map.1 hj
  rw [hq]
  simp
  intro h; omega
theorem bitsW_step (x k m : Nat) (hx : x < 2 ^ 64) (e : x = 2 ^ k * (2 * m + 1)) : k < 64 ∧ bitsW x = k :: bitsW (x &&& (x - 1)) ∧ (x &&& (x - 1)) < x := by
  have hpos : 0 < x := by rw [e]; exact Nat.mul_pos (Nat.two_pow_pos k) (by omega)
  have hlt : k < 64 := by
    by_cases h : k < 64
    · exact h
    · have : 2 ^ 64 ≤ 2 ^ k := Nat.pow_le_pow_right (by omega) (by omega)
      have : 2 ^ k ≤ x := by rw [e]; exact Nat.le_mul_of_pos_right _ (by omega)
      omega
  refine ⟨hlt, ?_, ?_⟩
  · unfold bitsW
    refine filter_range_split _ _ 64 k hlt ?_ ?_ ?_
    · rw [e, testBit_low]; simp
    · intro i hi; rw [e, testBit_low, if_pos hi]
    · intro i; rw [e, drop_low]
  · have := @Nat.and_le_right x (x - 1)
    omega
end Bm
