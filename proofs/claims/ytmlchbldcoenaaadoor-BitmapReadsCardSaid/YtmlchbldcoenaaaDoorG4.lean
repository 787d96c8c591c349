/-
  Plain: the bits of a text's digits.
-/
import Derived.Test.YtmlchbldcoenaaaDoorG3
import Derived.Test.YtmlchbldcoenaaaDoorG1
namespace Bm

theorem filter_tail (q : Nat → Bool) (A k : Nat) (h : ∀ i, A ≤ i → q i = false) : (List.range (A + k)).filter q = (List.range A).filter q := by
  rw [List.range_add, List.filter_append]
  have : ((List.range k).map (A + ·)).filter q = [] := by
    rw [List.filter_eq_nil_iff]
    intro j hj
    obtain ⟨i, _, rfl⟩ := List.mem_map.1 hj
    rw [h _ (by omega)]; decide
  rw [this, List.append_nil]
theorem filter_past (q : Nat → Bool) (A B : Nat) (hA : ∀ i, A ≤ i → q i = false) (hB : ∀ i, B ≤ i → q i = false) : (List.range A).filter q = (List.range B).filter q := by
  have h1 := filter_tail q A (B - A) hA
  have h2 := filter_tail q B (A - B) hB
  rw [← h1, ← h2, show A + (B - A) = B + (A - B) by omega]
/-- where the ones are, of a row of digits -/
def onesTo (bs : List Int) (k : Nat) : List Int := ((List.range k).filter fun i => decide (bs.getD i 0 = 49)).map fun (i : Nat) => (i : Int)
theorem onesTo_next (bs : List Int) (k : Nat) : onesTo bs (k + 1) = if bs.getD k 0 = 49 then onesTo bs k ++ [(k : Int)] else onesTo bs k := by
  unfold onesTo
  rw [List.range_succ, List.filter_append, List.map_append]
  by_cases h : bs.getD k 0 = 49
  · rw [if_pos h, List.filter_cons, if_pos (by rw [decide_eq_true h])]; rfl
  · rw [if_neg h, List.filter_cons, if_neg (by rw [decide_eq_false h]; decide)]; exact List.append_nil _
theorem onesTo_length (bs : List Int) (k : Nat) : (onesTo bs k).length ≤ k := by
  unfold onesTo
  rw [List.length_map]
  exact Nat.le_trans (List.length_filter_le _ _) (by simp)
theorem mem_ones (bs : List Int) (k i : Nat) : (i : Int) ∈ onesTo bs k ↔ i < k ∧ bs.getD i 0 = 49 := by
  unfold onesTo
  rw [List.mem_map]
  constructor
  · rintro ⟨j, hj, e⟩
    obtain rfl : j = i := by omega
    obtain ⟨h1, h2⟩ := List.mem_filter.1 hj
    exact ⟨List.mem_range.1 h1, by simpa using h2⟩
  · rintro ⟨h1, h2⟩
    exact ⟨i, List.mem_filter.2 ⟨List.mem_range.2 h1, by simpa using h2⟩, rfl⟩
/-- the bits of the bitmap of these ones are these -/
theorem bits_ones (bs : List Int) (k : Nat) (hk : k ≤ 4096) : bitsL (ofL (onesTo bs k)) 4096 = onesTo bs k := by
  unfold bitsL bitsN
  have hq : ∀ i, okBit (ofL (onesTo bs k)) 4096 i = (decide (i < k) && decide (bs.getD i 0 = 49)) := by
    intro i
    unfold okBit
    rw [bitAt_of]
    rw [Bool.eq_iff_iff]
    simp only [Bool.and_eq_true, decide_eq_true_eq, List.contains_iff_mem, mem_ones]
    omega
  have e : (List.range (64 * (ofL (onesTo bs k)).length)).filter (okBit (ofL (onesTo bs k)) 4096) = (List.range k).filter (okBit (ofL (onesTo bs k)) 4096) := by
    apply filter_past
    · intro i hi
      unfold okBit
      rw [bitAt_out _ i (by omega), Bool.false_and]
    · intro i hi
      rw [hq, decide_eq_false (by omega), Bool.false_and]
  rw [e]
  have e2 : (List.range k).filter (okBit (ofL (onesTo bs k)) 4096) = (List.range k).filter fun i => decide (bs.getD i 0 = 49) := by
    apply List.filter_congr
    intro i hi
    rw [hq, decide_eq_true (List.mem_range.1 hi), Bool.true_and]
  rw [e2]; rfl
/-- of a bitmap's digits -/
theorem ones_digs (b : List Int) (n : Int) (m : Nat) (hm : (m : Int) = max 0 (min n 4096)) (hb : b.length ≤ 64) : onesTo (digs b m) m = bitsL b n := by
  have e1 : onesTo (digs b m) m = ((List.range m).filter (bitAt b)).map fun (i : Nat) => (i : Int) := by
    unfold onesTo
    congr 1
    apply List.filter_congr
    intro i hi
    rw [digs_getD b m i (List.mem_range.1 hi)]
    cases bitAt b i <;> decide
  rw [e1]
  unfold bitsL bitsN
  congr 1
  have e2 : (List.range m).filter (bitAt b) = (List.range m).filter (okBit b n) := by
    apply List.filter_congr
    intro i hi
    have := List.mem_range.1 hi
    unfold okBit
    rw [decide_eq_true (show (i : Int) < n by omega), Bool.and_true]
  rw [e2]
  apply filter_past
  · intro i hi
    unfold okBit
    by_cases h : (i : Int) < n
    · rw [bitAt_out b i (by omega), Bool.false_and]
    · rw [decide_eq_false h, Bool.and_false]
  · intro i hi
    unfold okBit
    rw [bitAt_out b i (by omega), Bool.false_and]
def okDigs (bs : List Int) : Bool := bs.all fun x => decide (x = 48 ∨ x = 49)
theorem digs_ok (b : List Int) (m : Nat) : okDigs (digs b m) = true := by
  unfold okDigs digs
  rw [List.all_eq_true]
  intro x hx
  obtain ⟨i, _, rfl⟩ := List.mem_map.1 hx
  cases bitAt b i <;> decide
def readE (bs : List Int) : Int := if 4096 < bs.length then 11 else if okDigs bs = true then 0 else 10
def readL (bs : List Int) : List Int := if readE bs = 0 then onesTo bs bs.length else []
theorem readE_long {bs : List Int} (h : 4096 < bs.length) : readE bs = 11 ∧ readL bs = [] := by
  have : readE bs = 11 := if_pos h
  exact ⟨this, by unfold readL; rw [this]; rfl⟩
theorem readE_bad {bs : List Int} (h : ¬ 4096 < bs.length) (k : Nat) (hk : k < bs.length) (hx : bs.getD k 0 ≠ 48 ∧ bs.getD k 0 ≠ 49) : readE bs = 10 ∧ readL bs = [] := by
  have : readE bs = 10 := by
    unfold readE
    rw [if_neg h, if_neg]
    intro ha
    unfold okDigs at ha
    rw [List.all_eq_true] at ha
    have := ha (bs.getD k 0) (by rw [List.getD_eq_getElem?_getD, List.getElem?_eq_getElem hk]; exact List.getElem_mem hk)
    rw [decide_eq_true_eq] at this
    omega
  exact ⟨this, by unfold readL; rw [this]; rfl⟩
theorem readE_good {bs : List Int} (h : ¬ 4096 < bs.length) (hx : ∀ k, k < bs.length → bs.getD k 0 = 48 ∨ bs.getD k 0 = 49) : readE bs = 0 ∧ readL bs = onesTo bs bs.length := by
  have : readE bs = 0 := by
    unfold readE
    rw [if_neg h, if_pos]
    unfold okDigs
    rw [List.all_eq_true]
    intro x hxm
    obtain ⟨k, hk, rfl⟩ := List.getElem_of_mem hxm
    have := hx k hk
    rw [List.getD_eq_getElem?_getD, List.getElem?_eq_getElem hk] at this
    simpa using this
  exact ⟨this, by unfold readL; rw [this]; rfl⟩
theorem read_bits (bs : List Int) : bitsL (ofL (readL bs)) 4096 = readL bs := by
  unfold readL
  by_cases h : readE bs = 0
  · rw [if_pos h]
    refine bits_ones bs bs.length ?_
    by_cases h4 : 4096 < bs.length
    · rw [(readE_long h4).1] at h; cases h
    · omega
  · rw [if_neg h]; rfl
theorem read_digs (b : List Int) (n : Int) (m : Nat) (hm : (m : Int) = max 0 (min n 4096)) (hb : b.length ≤ 64) : readE (digs b m) = 0 ∧ readL (digs b m) = bitsL b n := by
  have h := readE_good (bs := digs b m) (by rw [digs_length]; omega) (fun k hk => by
    rw [digs_length] at hk
    rw [digs_getD b m k hk]
    cases bitAt b k <;> simp)
  refine ⟨h.1, ?_⟩
  rw [h.2, digs_length, ones_digs b n m hm hb]
end Bm
