/-
  Plain: the reference's bitmap of bits has the bits that the program's has.
-/
import Derived.Test.YtmlchbldcoenaaaDoorG2
namespace Bm

/-- a word, bit by bit from the highest on -/
def wx (c : Nat → Bool) : Nat → Nat
  | 0 => 0
  | m + 1 => 2 * wx c m + (c (63 - m)).toNat
theorem wx_bits (c : Nat → Bool) (m : Nat) (h : m ≤ 64) : wx c m < 2 ^ m ∧ ∀ j, j < m → (wx c m).testBit j = c (64 - m + j) := by
  induction m with
  | zero => exact ⟨Nat.one_pos, fun j hj => absurd hj (by omega)⟩
  | succ m ih =>
    obtain ⟨h1, h2⟩ := ih (by omega)
    have hb : (c (63 - m)).toNat ≤ 1 := by cases c (63 - m) <;> decide
    refine ⟨?_, ?_⟩
    · show 2 * wx c m + (c (63 - m)).toNat < 2 ^ (m + 1)
      rw [Nat.pow_succ]; omega
    · intro j hj
      show (2 * wx c m + (c (63 - m)).toNat).testBit j = _
      cases j with
      | zero =>
        rw [Nat.testBit_zero, show 64 - (m + 1) + 0 = 63 - m by omega]
        cases c (63 - m) with
        | true => simp
        | false => simp
      | succ j =>
        rw [Nat.testBit_succ, show (2 * wx c m + (c (63 - m)).toNat) / 2 = wx c m by omega, h2 j (by omega), show 64 - m + j = 64 - (m + 1) + (j + 1) by omega]
/-- the greatest number that may be -/
def mostL (l : List Int) : Int := l.foldl (fun m x => if 0 ≤ x ∧ x < 4096 ∧ m < x then x else m) (-1)
theorem most_snoc (l : List Int) (x : Int) : mostL (l ++ [x]) = if 0 ≤ x ∧ x < 4096 ∧ mostL l < x then x else mostL l := by
  unfold mostL; rw [List.foldl_append]; rfl
theorem most_fold (l : List Int) : ∀ m : Int, -1 ≤ m → m ≤ 4095 → (-1 ≤ l.foldl (fun m x => if 0 ≤ x ∧ x < 4096 ∧ m < x then x else m) m ∧ l.foldl (fun m x => if 0 ≤ x ∧ x < 4096 ∧ m < x then x else m) m ≤ 4095 ∧ m ≤ l.foldl (fun m x => if 0 ≤ x ∧ x < 4096 ∧ m < x then x else m) m ∧ ∀ x ∈ l, 0 ≤ x → x < 4096 → x ≤ l.foldl (fun m x => if 0 ≤ x ∧ x < 4096 ∧ m < x then x else m) m) := by
  induction l with
  | nil => intro m h1 h2; exact ⟨h1, h2, Int.le_refl _, fun x hx => by cases hx⟩
  | cons y l ih =>
    intro m h1 h2
    rw [List.foldl_cons]
    by_cases hy : 0 ≤ y ∧ y < 4096 ∧ m < y
    · rw [if_pos hy]
      obtain ⟨a1, a2, a3, a4⟩ := ih y (by omega) (by omega)
      refine ⟨a1, a2, by omega, fun x hx hx0 hx1 => ?_⟩
      rcases List.mem_cons.1 hx with e | e
      · subst e; exact a3
      · exact a4 x e hx0 hx1
    · rw [if_neg hy]
      obtain ⟨a1, a2, a3, a4⟩ := ih m h1 h2
      refine ⟨a1, a2, a3, fun x hx hx0 hx1 => ?_⟩
      rcases List.mem_cons.1 hx with e | e
      · subst e; omega
      · exact a4 x e hx0 hx1
theorem most_in (l : List Int) : -1 ≤ mostL l ∧ mostL l ≤ 4095 ∧ ∀ x ∈ l, 0 ≤ x → x < 4096 → x ≤ mostL l := by
  obtain ⟨h1, h2, _, h4⟩ := most_fold l (-1) (by omega) (by omega)
  exact ⟨h1, h2, h4⟩
def wordOf (l : List Int) (w : Nat) : Nat := wx (fun j => l.contains (((64 * w + j : Nat)) : Int)) 64
def refTo (l : List Int) (n : Nat) : List Int := (List.range n).map fun w => (wordOf l w : Int)
theorem refTo_succ (l : List Int) (n : Nat) : refTo l (n + 1) = refTo l n ++ [(wordOf l n : Int)] := by
  unfold refTo; rw [List.range_succ, List.map_append]; rfl
theorem refTo_length (l : List Int) (n : Nat) : (refTo l n).length = n := by unfold refTo; simp
def refN (l : List Int) : Nat := (mostL l / 64 + 1).toNat
theorem refTo_words (l : List Int) (n : Nat) : Words (refTo l n) := by
  intro x hx
  obtain ⟨w, _, rfl⟩ := List.mem_map.1 hx
  have := (wx_bits (fun j => l.contains (((64 * w + j : Nat)) : Int)) 64 (by omega)).1
  have h2 : (2 : Nat) ^ 64 = 18446744073709551616 := by decide
  unfold wordOf
  omega
theorem bitAt_ref (l : List Int) (i : Nat) : bitAt (refTo l (refN l)) i = bitAt (ofL l) i := by
  rw [bitAt_of]
  obtain ⟨m1, m2, m3⟩ := most_in l
  by_cases hi : i / 64 < refN l
  · unfold bitAt refTo
    rw [List.getD_eq_getElem?_getD, List.getElem?_map, List.getElem?_range hi]
    show ((wordOf l (i / 64) : Int)).toNat.testBit (i % 64) = _
    rw [Int.toNat_natCast]
    unfold wordOf
    rw [(wx_bits _ 64 (by omega)).2 (i % 64) (by omega)]
    have hq : i < 4096 := by unfold refN at hi; omega
    rw [decide_eq_true hq, Bool.true_and, show 64 * (i / 64) + (64 - 64 + i % 64) = i by omega]
  · rw [bitAt_out _ i (by rw [refTo_length]; omega)]
    symm
    rw [Bool.and_eq_false_iff]
    by_cases hq : i < 4096
    · right
      cases hc : l.contains (i : Int) with
      | false => rfl
      | true =>
        have := m3 i (List.contains_iff_mem.1 hc) (by omega) (by omega)
        unfold refN at hi
        omega
    · left; exact decide_eq_false hq
theorem hasL_ref (l : List Int) (i : Int) : hasL (refTo l (refN l)) i = hasL (ofL l) i := by
  unfold hasL; rw [bitAt_ref]
theorem same_ref (l : List Int) : sameB (ofL l) (refTo l (refN l)) = true :=
  same_bits (ofL_words l) (refTo_words l _) (fun i => (bitAt_ref l i).symm)
end Bm
