/-
  Plain: the digits of bits.
-/
import Derived.Test.YtcepafllgjnngaaDoorK1
namespace Bm

/-- the digits of the first m bits: 48 and 49 -/
def digs (b : List Int) (m : Nat) : List Int := (List.range m).map fun i => if bitAt b i = true then 49 else 48
theorem digs_length (b : List Int) (m : Nat) : (digs b m).length = m := by unfold digs; simp
theorem digs_getD (b : List Int) (m i : Nat) (h : i < m) : (digs b m).getD i 0 = if bitAt b i = true then 49 else 48 := by
  unfold digs
  rw [List.getD_eq_getElem?_getD, List.getElem?_map, List.getElem?_range h]; rfl
theorem digs_succ (b : List Int) (m : Nat) : digs b (m + 1) = digs b m ++ [if bitAt b m = true then 49 else 48] := by
  unfold digs; rw [List.range_succ, List.map_append]; rfl
/-- a row of digits with a 1 at each place of a row -/
def marks (l : List Int) (bs : List Int) : List Int := l.foldl (fun bs i => bs.set i.toNat 49) bs
theorem marks_length (l bs : List Int) : (marks l bs).length = bs.length := by
  unfold marks
  induction l generalizing bs with
  | nil => rfl
  | cons x l ih => rw [List.foldl_cons, ih, List.length_set]
theorem marks_snoc (l : List Int) (x : Int) (bs : List Int) : marks (l ++ [x]) bs = (marks l bs).set x.toNat 49 := by
  unfold marks; rw [List.foldl_append]; rfl
theorem marks_getD (l : List Int) (bs : List Int) (i : Nat) (hi : i < bs.length) (hl : ∀ x ∈ l, 0 ≤ x) : (marks l bs).getD i 0 = if (i : Int) ∈ l then 49 else bs.getD i 0 := by
  induction l generalizing bs with
  | nil => simp [marks]
  | cons x l ih =>
    show (marks l (bs.set x.toNat 49)).getD i 0 = _
    rw [ih _ (by rw [List.length_set]; exact hi) (fun y hy => hl y (List.mem_cons_of_mem _ hy))]
    have hx := hl x (List.mem_cons_self ..)
    by_cases h : (i : Int) ∈ l
    · rw [if_pos h, if_pos (List.mem_cons_of_mem _ h)]
    · rw [if_neg h]
      by_cases e : (i : Int) = x
      · rw [if_pos (by rw [e]; exact List.mem_cons_self ..)]
        have : x.toNat = i := by omega
        rw [this, List.getD_eq_getElem?_getD, List.getElem?_set_self hi]; rfl
      · rw [if_neg (by rw [List.mem_cons]; exact fun hh => hh.elim e h)]
        rw [List.getD_eq_getElem?_getD, List.getElem?_set_ne (by omega), List.getD_eq_getElem?_getD]
theorem mem_bits (l : List Int) (n : Int) (k : Nat) : (k : Int) ∈ bitsL l n ↔ bitAt l k = true ∧ (k : Int) < n := by
  unfold bitsL bitsN
  rw [List.mem_map]
  constructor
  · rintro ⟨j, hj, e⟩
    obtain rfl : j = k := by omega
    obtain ⟨h1, h2⟩ := List.mem_filter.1 hj
    unfold okBit at h2
    rw [Bool.and_eq_true, decide_eq_true_eq] at h2
    exact h2
  · rintro ⟨h2, h3⟩
    refine ⟨k, List.mem_filter.2 ⟨List.mem_range.2 ?_, by unfold okBit; rw [h2, decide_eq_true h3]; rfl⟩, rfl⟩
    by_cases hk : k < 64 * l.length
    · exact hk
    · rw [bitAt_out l k (by omega)] at h2; cases h2
theorem bits_nonneg (l : List Int) (n : Int) : ∀ x ∈ bitsL l n, 0 ≤ x := by
  intro x hx
  unfold bitsL at hx
  obtain ⟨j, _, rfl⟩ := List.mem_map.1 hx
  omega
theorem bits_lt (l : List Int) (n : Int) : ∀ x ∈ bitsL l n, x < n := by
  intro x hx
  have h0 := bits_nonneg l n x hx
  obtain ⟨k, rfl⟩ := Int.eq_ofNat_of_zero_le h0
  exact ((mem_bits l n k).1 hx).2
theorem marks_digs (b : List Int) (m : Nat) : marks (bitsL b m) (List.replicate m 48) = digs b m := by
  apply List.ext_getElem
  · rw [marks_length, digs_length, List.length_replicate]
  · intro i h1 h2
    have hm : i < m := by rw [digs_length] at h2; exact h2
    have e1 := marks_getD (bitsL b m) (List.replicate m 48) i (by simpa using hm) (bits_nonneg b m)
    have e2 := digs_getD b m i hm
    rw [List.getD_eq_getElem?_getD, List.getElem?_eq_getElem h1] at e1
    rw [List.getD_eq_getElem?_getD, List.getElem?_eq_getElem h2] at e2
    have e3 : (List.replicate m (48 : Int)).getD i 0 = 48 := by rw [List.getD_eq_getElem?_getD, List.getElem?_replicate, if_pos hm]; rfl
    rw [e3] at e1
    show (marks _ _)[i] = _
    rw [show (marks (bitsL b m) (List.replicate m 48))[i] = (some (marks (bitsL b m) (List.replicate m 48))[i]).getD 0 from rfl, e1]
    rw [show (digs b m)[i] = (some (digs b m)[i]).getD 0 from rfl, e2]
    by_cases hb : bitAt b i = true
    · rw [if_pos hb, if_pos ((mem_bits b m i).2 ⟨hb, by omega⟩)]
    · rw [if_neg hb, if_neg (fun h => hb ((mem_bits b m i).1 h).1)]
end Bm
