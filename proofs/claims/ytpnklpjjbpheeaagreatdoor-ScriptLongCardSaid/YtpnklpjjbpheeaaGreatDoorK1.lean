/-
  Several texts as one.
-/
import Derived.Test.YtpnklpjjbpheeaaGreatDoorProg
import Derived.Test.YtpnklpjjbpheeaaGreatDoorWWords
import Derived.WalkKit
import Derived.WalkSpells
import Derived.WalkLawsBesides
import Derived.Lib.SliceRun
import Derived.Shelf.Spec.TrailingZeros
import Derived.BigRegion
import Derived.Deep.RegionHeld3
import Derived.Deep.RegionLaw
/-
  Plain facts on bitmaps: which bits of words are 1, in order; conditions: words below 2^64.
-/
namespace Bm

/-- the bit of a row of words -/
def bitAt (l : List Int) (i : Nat) : Bool := ((l.getD (i / 64) 0).toNat).testBit (i % 64)
def hasL (l : List Int) (i : Int) : Bool := if i < 0 then false else bitAt l i.toNat
def bitsW (x : Nat) : List Nat := (List.range 64).filter x.testBit
def okBit (l : List Int) (n : Int) (i : Nat) : Bool := bitAt l i && decide ((i : Int) < n)
def bitsN (l : List Int) (n : Int) : List Nat := (List.range (64 * l.length)).filter (okBit l n)
def bitsL (l : List Int) (n : Int) : List Int := (bitsN l n).map fun (i : Nat) => (i : Int)

theorem bitAt_out (l : List Int) (i : Nat) (h : l.length ≤ i / 64) : bitAt l i = false := by
  unfold bitAt
  rw [List.getD_eq_getElem?_getD, List.getElem?_eq_none h]; simp
theorem bitAt_append_left (l : List Int) (x : Int) (i : Nat) (h : i / 64 < l.length) : bitAt (l ++ [x]) i = bitAt l i := by
  unfold bitAt
  rw [List.getD_eq_getElem?_getD, List.getD_eq_getElem?_getD, List.getElem?_append_left h]
theorem bitAt_append_right (l : List Int) (x : Int) (j : Nat) (h : j < 64) : bitAt (l ++ [x]) (64 * l.length + j) = x.toNat.testBit j := by
  unfold bitAt
  have e1 : (64 * l.length + j) / 64 = l.length := by omega
  have e2 : (64 * l.length + j) % 64 = j := by omega
  rw [e1, e2, List.getD_eq_getElem?_getD, List.getElem?_append_right (Nat.le_refl _)]; simp

/-- the bits of one word more, as far as they are below n -/
def wordBits (k : Nat) (x : Nat) (n : Int) : List Int := ((((bitsW x).map (fun j => 64 * k + j)).filter (fun (i : Nat) => decide ((i : Int) < n)))).map (fun (i : Nat) => (i : Int))

theorem bitsL_snoc (l : List Int) (x : Int) (n : Int) : bitsL (l ++ [x]) n = bitsL l n ++ wordBits l.length x.toNat n := by
  unfold bitsL bitsN wordBits
  rw [← List.map_append]
  congr 1
  rw [List.length_append, List.length_singleton, Nat.mul_add, Nat.mul_one, List.range_add, List.filter_append]
  congr 1
  · apply List.filter_congr
    intro i hi
    have hi := List.mem_range.1 hi
    unfold okBit
    rw [bitAt_append_left _ _ _ (by omega)]
  · rw [List.filter_map, List.filter_map]
    unfold bitsW
    rw [List.filter_filter]
    congr 1
    apply List.filter_congr
    intro j hj
    have hj := List.mem_range.1 hj
    simp only [Function.comp, okBit]
    rw [bitAt_append_right _ _ _ hj, Bool.and_comm]

theorem bitsL_nil (n : Int) : bitsL [] n = [] := rfl
theorem bitsL_length (l : List Int) (n : Int) : (bitsL l n).length ≤ 64 * l.length := by
  unfold bitsL bitsN
  rw [List.length_map]
  exact Nat.le_trans (List.length_filter_le _ _) (by simp)
theorem bitsW_length (x : Nat) : (bitsW x).length ≤ 64 := by
  unfold bitsW
  exact Nat.le_trans (List.length_filter_le _ _) (by simp)
theorem bitsW_zero : bitsW 0 = [] := by decide

/-- the lowest bit that is 1, and the word without it -/
theorem low_form (x : Nat) (h : x ≠ 0) : ∃ k m, x = 2 ^ k * (2 * m + 1) := by
  induction x using Nat.strongRecOn with
  | ind x ih =>
    by_cases e : x % 2 = 1
    · exact ⟨0, x / 2, by omega⟩
    · obtain ⟨k, m, hk⟩ := ih (x / 2) (by omega) (by omega)
      refine ⟨k + 1, m, ?_⟩
      rw [Nat.pow_succ, Nat.mul_right_comm, ← hk]; omega
theorem testBit_low (k m j : Nat) : (2 ^ k * (2 * m + 1)).testBit j = (if j < k then false else if j = k then true else m.testBit (j - k - 1)) := by
  rw [Nat.testBit_two_pow_mul]
  by_cases h : j < k
  · simp [h]; omega
  · rw [if_neg h]
    by_cases h2 : j = k
    · subst h2; simp [Nat.testBit_zero]
    · rw [if_neg h2]
      have e : j - k = (j - k - 1) + 1 := by omega
      have h3 : decide (k ≤ j) = true := by simp; omega
      rw [h3, Bool.true_and, e, Nat.testBit_add_one]
      congr 1
      omega
theorem testBit_less (k m j : Nat) : (2 ^ k * (2 * m + 1) - 1).testBit j = (if j < k then true else if j = k then false else m.testBit (j - k - 1)) := by
  have e : 2 ^ k * (2 * m + 1) - 1 = 2 ^ k * (2 * m) + (2 ^ k - 1) := by
    have := Nat.two_pow_pos k
    rw [Nat.mul_add]; omega
  have hp := Nat.two_pow_pos k
  rw [e, Nat.testBit_two_pow_mul_add _ (by omega)]
  by_cases h : j < k
  · rw [if_pos h, if_pos h, Nat.testBit_two_pow_sub_one]; simp [h]
  · rw [if_neg h, if_neg h]
    by_cases h2 : j = k
    · subst h2; simp [Nat.testBit_zero]
    · rw [if_neg h2]
      have e : j - k = (j - k - 1) + 1 := by omega
      rw [e, Nat.testBit_add_one]
      congr 1
      omega
theorem drop_low (k m j : Nat) : ((2 ^ k * (2 * m + 1)) &&& (2 ^ k * (2 * m + 1) - 1)).testBit j = (decide (j ≠ k) && (2 ^ k * (2 * m + 1)).testBit j) := by
  rw [Nat.testBit_and, testBit_low, testBit_less]
  by_cases h : j < k
  · simp [h]
  · by_cases h2 : j = k
    · simp [h2]
    · simp [h, h2]
theorem filter_range_split (p q : Nat → Bool) (n k : Nat) (hk : k < n) (hp : p k = true) (hlow : ∀ j, j < k → p j = false) (hq : ∀ j, q j = (decide (j ≠ k) && p j)) : (List.range n).filter p = k :: (List.range n).filter q := by
  have e : List.range n = List.range k ++ k :: (List.range (n - k - 1)).map (fun j => k + 1 + j) := by
    have h1 : n = k + (1 + (n - k - 1)) := by omega
    conv => lhs; rw [h1]
    rw [List.range_add, List.range_add]
    simp [List.range_one, Function.comp_def, Nat.add_assoc]
  rw [e, List.filter_append, List.filter_append, List.filter_cons, List.filter_cons]
  have h1 : (List.range k).filter p = [] := by
    rw [List.filter_eq_nil_iff]; intro j hj; rw [hlow j (List.mem_range.1 hj)]; simp
  have h2 : (List.range k).filter q = [] := by
    rw [List.filter_eq_nil_iff]; intro j hj; rw [hq, hlow j (List.mem_range.1 hj)]; simp
  rw [h1, h2, hp, hq k]
  simp only [List.nil_append, if_true, ne_eq, not_true_eq_false, decide_false, Bool.false_and, Bool.false_eq_true, if_false]
  congr 1
  apply List.filter_congr
  intro j hj
  obtain ⟨i, _, rfl⟩ := List.mem_map.1 hj
  rw [hq]
  simp
  intro h; omega
theorem bitsW_step (x k m : Nat) (hx : x < 2 ^ 64) (e : x = 2 ^ k * (2 * m + 1)) : k < 64 ∧ bitsW x = k :: bitsW (x &&& (x - 1)) ∧ (x &&& (x - 1)) < x := by
  have hpos : 0 < x := by rw [e]; exact Nat.mul_pos (Nat.two_pow_pos k) (by omega)
  have hlt : k < 64 := by
    by_cases h : k < 64
    · exact h
    · have : 2 ^ 64 ≤ 2 ^ k := Nat.pow_le_pow_right (by omega) (by omega)
      have : 2 ^ k ≤ x := by rw [e]; exact Nat.le_mul_of_pos_right _ (by omega)
      omega
  refine ⟨hlt, ?_, ?_⟩
  · unfold bitsW
    refine filter_range_split _ _ 64 k hlt ?_ ?_ ?_
    · rw [e, testBit_low]; simp
    · intro i hi; rw [e, testBit_low, if_pos hi]
    · intro i; rw [e, drop_low]
  · have := @Nat.and_le_right x (x - 1)
    omega
end Bm

/-
  Plain facts on bitmaps: a bitmap with another bit, cut, and of bits; conditions: words below 2^64.
-/
namespace Bm

def fits (i : Int) : Bool := decide (0 ≤ i) && decide (i < 4096)
/-- without a word 0 at its end -/
def cutL (l : List Int) : List Int := (l.reverse.dropWhile (fun x => x == 0)).reverse
theorem cutL_snoc_zero (l : List Int) : cutL (l ++ [0]) = cutL l := by
  unfold cutL; rw [List.reverse_append]; simp
theorem cutL_snoc (l : List Int) (x : Int) (h : x ≠ 0) : cutL (l ++ [x]) = l ++ [x] := by
  unfold cutL; rw [List.reverse_append]; simp [h]
theorem cutL_nil : cutL [] = [] := rfl
theorem cut_ex (l : List Int) : ∃ k, l = cutL l ++ List.replicate k 0 ∧ (cutL l = [] ∨ ∃ m x, cutL l = m ++ [x] ∧ x ≠ 0) := by
  induction hn : l.length generalizing l with
  | zero => obtain rfl := List.eq_nil_of_length_eq_zero hn; exact ⟨0, rfl, .inl rfl⟩
  | succ n ih =>
    have hne : l ≠ [] := by rintro rfl; simp at hn
    obtain ⟨m, x, rfl⟩ : ∃ m x, l = m ++ [x] := ⟨l.dropLast, l.getLast hne, (List.dropLast_concat_getLast hne).symm⟩
    by_cases hx : x = 0
    · subst hx
      obtain ⟨k, h1, h2⟩ := ih m (by simpa using hn)
      rw [cutL_snoc_zero]
      refine ⟨k + 1, ?_, h2⟩
      rw [List.replicate_succ', ← List.append_assoc, ← h1]
    · rw [cutL_snoc _ _ hx]
      exact ⟨0, by simp, .inr ⟨m, x, rfl, hx⟩⟩
theorem bitAt_zeros (l : List Int) (k i : Nat) : bitAt (l ++ List.replicate k 0) i = bitAt l i := by
  unfold bitAt
  congr 2
  rw [List.getD_eq_getElem?_getD, List.getD_eq_getElem?_getD]
  by_cases h : i / 64 < l.length
  · rw [List.getElem?_append_left h]
  · rw [List.getElem?_append_right (by omega), List.getElem?_eq_none (l := l) (by omega), List.getElem?_replicate]
    split <;> rfl
theorem bitAt_cut (l : List Int) (i : Nat) : bitAt (cutL l) i = bitAt l i := by
  obtain ⟨k, h, _⟩ := cut_ex l
  conv => rhs; rw [h]
  rw [bitAt_zeros]
theorem cut_length (l : List Int) : (cutL l).length ≤ l.length := by
  obtain ⟨k, h, _⟩ := cut_ex l
  have := congrArg List.length h
  rw [List.length_append, List.length_replicate] at this
  omega
theorem cut_take (l : List Int) : cutL l = l.take (cutL l).length := by
  obtain ⟨k, h, _⟩ := cut_ex l
  conv => rhs; arg 2; rw [h]
  rw [List.take_left']
  rfl
def Words (l : List Int) : Prop := ∀ x ∈ l, 0 ≤ x ∧ x < 18446744073709551616
theorem Words.cut {l : List Int} (h : Words l) : Words (cutL l) := by
  rw [cut_take]; exact fun x hx => h x (List.mem_of_mem_take hx)

/-- the word with another bit -/
def setBit (x : Nat) (j : Nat) (on : Bool) : Nat := if on then (x &&& (18446744073709551615 - 2 ^ j)) ||| 2 ^ j else x &&& (18446744073709551615 - 2 ^ j)
def pad (l : List Int) (n : Nat) : List Int := l ++ List.replicate (n - l.length) 0
def withL (l : List Int) (i : Int) (on : Bool) : List Int :=
  if fits i then cutL ((pad l (i.toNat / 64 + 1)).set (i.toNat / 64) ((setBit ((pad l (i.toNat / 64 + 1)).getD (i.toNat / 64) 0).toNat (i.toNat % 64) on : Nat) : Int)) else cutL l
def ofL (is : List Int) : List Int := is.foldl (fun b i => if fits i then withL b i true else b) []

theorem pad_length (l : List Int) (n : Nat) : (pad l n).length = max l.length n := by unfold pad; rw [List.length_append, List.length_replicate]; omega
theorem bitAt_pad (l : List Int) (n i : Nat) : bitAt (pad l n) i = bitAt l i := bitAt_zeros _ _ _
theorem not_bit (j k : Nat) (hj : j < 64) : (18446744073709551615 - 2 ^ j).testBit k = (decide (k < 64) && decide (k ≠ j)) := by
  have h2 : 2 ^ j < 2 ^ 64 := Nat.pow_lt_pow_right (by omega) hj
  rw [show 18446744073709551615 - 2 ^ j = 2 ^ 64 - (2 ^ j + 1) from by omega, Nat.testBit_two_pow_sub_succ h2, Nat.testBit_two_pow]
  by_cases h : k = j
  · subst h; simp
  · have : ¬ j = k := fun e => h e.symm
    simp [h, this]
theorem setBit_bit (x j k : Nat) (on : Bool) (hj : j < 64) (hx : x < 18446744073709551616) : (setBit x j on).testBit k = if k = j then on else x.testBit k := by
  have hk : ¬ k < 64 → x.testBit k = false := fun h => Nat.testBit_lt_two_pow (Nat.lt_of_lt_of_le (show x < 2 ^ 64 from hx) (Nat.pow_le_pow_right (by omega) (by omega)))
  unfold setBit
  cases on
  · simp only [Bool.false_eq_true, if_false, Nat.testBit_and, not_bit j k hj]
    by_cases h : k = j
    · simp [h]
    · by_cases h2 : k < 64
      · simp [h, h2]
      · simp [h, hk h2]
  · simp only [if_true, Nat.testBit_or, Nat.testBit_and, not_bit j k hj, Nat.testBit_two_pow]
    by_cases h : k = j
    · simp [h]
    · have : ¬ j = k := fun e => h e.symm
      by_cases h2 : k < 64
      · simp [h, h2, this]
      · simp [h, hk h2, this]
theorem setBit_lt (x j : Nat) (on : Bool) (hj : j < 64) (_hx : x < 18446744073709551616) : setBit x j on < 18446744073709551616 := by
  have h2 : 2 ^ j < 2 ^ 64 := Nat.pow_lt_pow_right (by omega) hj
  have h1 : x &&& (18446744073709551615 - 2 ^ j) < 2 ^ 64 := Nat.and_lt_two_pow _ (by have := Nat.sub_le 18446744073709551615 (2 ^ j); omega)
  unfold setBit
  split
  · exact Nat.or_lt_two_pow h1 h2
  · exact h1
theorem bitAt_set (l : List Int) (k : Nat) (y : Nat) (i : Nat) (hk : k < l.length) : bitAt (l.set k (y : Int)) i = if i / 64 = k then y.testBit (i % 64) else bitAt l i := by
  unfold bitAt
  rw [List.getD_eq_getElem?_getD, List.getElem?_set]
  by_cases h : k = i / 64
  · subst h; simp [hk]
  · have : ¬ i / 64 = k := fun e => h e.symm
    simp [h, this]
theorem getD_word {l : List Int} (h : Words l) (k : Nat) : (l.getD k 0).toNat < 18446744073709551616 := by
  rw [List.getD_eq_getElem?_getD]
  cases hc : l[k]? with
  | none => simp
  | some x =>
    have := h x (List.mem_of_getElem? hc)
    simp; omega
theorem Words.pad {l : List Int} (h : Words l) (n : Nat) : Words (pad l n) := by
  intro x hx
  rcases List.mem_append.1 hx with hx | hx
  · exact h x hx
  · rw [List.mem_replicate] at hx; omega
theorem Words.set {l : List Int} (h : Words l) (k y : Nat) (hy : y < 18446744073709551616) : Words (l.set k (y : Int)) := by
  intro x hx
  rcases List.mem_or_eq_of_mem_set hx with hx | hx
  · exact h x hx
  · omega
theorem Words.withL {l : List Int} (h : Words l) (i : Int) (on : Bool) : Words (withL l i on) := by
  unfold Bm.withL
  split
  · exact Words.cut (Words.set (Words.pad h _) _ _ (setBit_lt _ _ _ (Nat.mod_lt _ (by omega)) (getD_word (Words.pad h _) _)))
  · exact h.cut
theorem bitAt_with {l : List Int} (h : Words l) (i : Int) (on : Bool) (k : Nat) : bitAt (withL l i on) k = if fits i ∧ (k : Int) = i then on else bitAt l k := by
  unfold withL
  by_cases hf : fits i
  · rw [if_pos hf, bitAt_cut, bitAt_set _ _ _ _ (by rw [pad_length]; omega)]
    have h0 : 0 ≤ i := by unfold fits at hf; simp at hf; omega
    by_cases e : k / 64 = i.toNat / 64
    · rw [if_pos e, setBit_bit _ _ _ _ (Nat.mod_lt _ (by omega)) (getD_word (h.pad _) _)]
      by_cases e2 : k % 64 = i.toNat % 64
      · rw [if_pos e2, if_pos ⟨hf, by omega⟩]
      · rw [if_neg e2, if_neg (by omega), ← bitAt_pad l (i.toNat / 64 + 1) k]
        unfold bitAt
        rw [e]
    · rw [if_neg e, if_neg (by intro h; apply e; omega), bitAt_pad]
  · rw [if_neg hf, bitAt_cut, if_neg (fun h => hf h.1)]
theorem withL_length (l : List Int) (i : Int) (on : Bool) : (withL l i on).length ≤ max l.length 64 := by
  unfold withL
  split
  · rename_i hf
    refine Nat.le_trans (cut_length _) ?_
    rw [List.length_set, pad_length]
    unfold fits at hf; simp at hf; omega
  · exact Nat.le_trans (cut_length _) (Nat.le_max_left _ _)

theorem ofL_snoc (is : List Int) (i : Int) : ofL (is ++ [i]) = if fits i then withL (ofL is) i true else ofL is := by
  unfold ofL; rw [List.foldl_append]; rfl
theorem ofL_words (is : List Int) : Words (ofL is) := by
  induction hn : is.length generalizing is with
  | zero => obtain rfl := List.eq_nil_of_length_eq_zero hn; intro x hx; cases hx
  | succ n ih =>
    have hne : is ≠ [] := by rintro rfl; simp at hn
    obtain ⟨m, x, rfl⟩ : ∃ m x, is = m ++ [x] := ⟨is.dropLast, is.getLast hne, (List.dropLast_concat_getLast hne).symm⟩
    rw [ofL_snoc]
    have := ih m (by simpa using hn)
    split
    · exact this.withL _ _
    · exact this
theorem ofL_length (is : List Int) : (ofL is).length ≤ 64 := by
  induction hn : is.length generalizing is with
  | zero => obtain rfl := List.eq_nil_of_length_eq_zero hn; exact Nat.zero_le _
  | succ n ih =>
    have hne : is ≠ [] := by rintro rfl; simp at hn
    obtain ⟨m, x, rfl⟩ : ∃ m x, is = m ++ [x] := ⟨is.dropLast, is.getLast hne, (List.dropLast_concat_getLast hne).symm⟩
    rw [ofL_snoc]
    have h1 := ih m (by simpa using hn)
    split
    · have := withL_length (ofL m) x true; omega
    · exact h1
theorem bitAt_of (is : List Int) (k : Nat) : bitAt (ofL is) k = (decide (k < 4096) && is.contains (k : Int)) := by
  induction hn : is.length generalizing is with
  | zero => obtain rfl := List.eq_nil_of_length_eq_zero hn; simp [ofL, bitAt]
  | succ n ih =>
    have hne : is ≠ [] := by rintro rfl; simp at hn
    obtain ⟨m, x, rfl⟩ : ∃ m x, is = m ++ [x] := ⟨is.dropLast, is.getLast hne, (List.dropLast_concat_getLast hne).symm⟩
    rw [ofL_snoc]
    have h1 := ih m (by simpa using hn)
    by_cases hf : fits x
    · rw [if_pos hf, bitAt_with (ofL_words m), h1]
      by_cases e : (k : Int) = x
      · rw [if_pos ⟨hf, e⟩]
        have : k < 4096 := by unfold fits at hf; simp at hf; omega
        simp [this, e]
      · rw [if_neg (fun h => e h.2)]
        simp [e]
    · rw [if_neg hf, h1]
      by_cases e : (k : Int) = x
      · have : ¬ k < 4096 := by intro h; apply hf; unfold fits; simp; omega
        simp [this]
      · simp [e]
end Bm

/-
  Words on memory, and the walks of math/bits.TrailingZeros64, of slices.Clone, of bitmap.cut, bitmap.fits and bitmap.has; conditions: what is handed in reads as told.
-/
namespace Go.Proofs.YtpnklpjjbpheeaaGreatDoor
open Go.RowKit Go.Proofs.YtpnklpjjbpheeaaGreatDoorW.PrintWords

structure Lk (p : Prop) : Prop where mk :: (out : p)
theorem ret_int {k : IntKind} {a b : Int} (h : a = b) : Ending.returned (.int k a) = .returned (.int k b) := by rw [h]
theorem ret_bool {a b : Bool} (h : a = b) : Ending.returned (.bool a) = .returned (.bool b) := by rw [h]
theorem info44 : (Tryz.prog.info? 44).map (fun i => (i.zero, i.size, i.bytes)) = some (some (.int .u64 0), 1, 8) := by kernel_rfl
theorem info3 : (Tryz.prog.info? 3).map (fun i => (i.zero, i.size, i.bytes)) = some (some (.int .i64 0), 1, 8) := by kernel_rfl
/-- the library's table lies in its variable -/
def Tab (w : World) : Prop := TabAt 7 Lib.deBruijn64tab w
theorem Tab.below {w w1 : World} (h : Tab w) (hb : Below w.heap.size w w1) : Tab w1 := fun j hj => pw_cell_below hb (h j hj)
theorem Tab.lt {w : World} (h : Tab w) : 0 < w.heap.size := by
  have := World.block_lt_of_cell? w _ (h 0 (by decide))
  omega

set_option maxHeartbeats 1000000 in
theorem tz_core (x k idx : Nat) (w : World) (hx0 : ((x : Int) == 0) = false)
    (key : IntKind.u64.wrap (bits BinOp.and IntKind.u64 (x : Int) (IntKind.u64.wrap (-(x : Int))) * 285870213051353865) / 288230376151711744 = (idx : Int))
    (hi : idx < 64) (hk : k < 64) (hcell : w.cell? ⟨7, idx, none⟩ = some (.int .u8 k)) :
    Calls Tryz.prog 119 #[.int .u64 x] w fun e w' => e = .returned (.int .i64 k) ∧ w' = w := by
  go_enter Tryz.func119, Tryz.ntmps119
  go_wp2_with (simp only [key])
  go_ret
  exact ⟨rfl, rfl⟩
theorem tz_any (x : Nat) (hx : x < 18446744073709551616) (hx0 : x ≠ 0) (w : World) (hT : Tab w) :
    Calls Tryz.prog 119 #[.int .u64 x] w fun e w' => e = .returned (.int .i64 (Lib.ctz 64 x)) ∧ w' = w := by
  obtain ⟨hlow, hk⟩ := Lib.lowest_bit 64 x hx0 hx
  obtain ⟨hi, htab⟩ := Lib.deBruijn64_at _ hk
  have hcell := hT _ hi
  rw [htab] at hcell
  exact tz_core x _ _ w (by simp; omega) (tz64_key x _ hx hx0 hlow) hi hk hcell

-- a copy of a row of words: memory of the call's own
set_option maxHeartbeats 1000000 in
theorem clone64 (A : Option Addr) (c : Nat) (l : List Int) (w : World) (hr : ReadsInt w .u64 A l.length l) (hl : l.length * 8 ≤ 140737488355328) :
    Calls Tryz.prog 84 #[.slice A l.length c] w fun e w' => ∃ v, e = .returned v ∧ w'.ownsRow w.heap.size 44 1 v l.length (nums .u64 l) ∧ Below w.heap.size w w' := by
  have q : ∀ (w : World) (a : Option Addr) (n c n' c' : Nat), (binOp .eql 54 (.slice a n c) (.slice none n' c')).run Tryz.prog w = .ok (.bool a.isNone) w := fun w a n c n' c' => Lib.run_eql_slice_nil w _ _ a n c n' c' Tryz.underlying54
  have HR := Lk.mk hr
  have HL := Lk.mk hl
  clear hr hl
  cases A with
  | none =>
    have e : l = [] := by
      rcases Nat.eq_zero_or_pos l.length with h | h
      · exact List.eq_nil_of_length_eq_zero h
      · obtain ⟨ad, h, _⟩ := HR.out.2.2 h; cases h
    subst e
    go_enter Tryz.func84, Tryz.ntmps84
    go_wp2
    go_ret
    exact ⟨_, rfl, own_nil _ _ _ _, Below.refl _ _⟩
  | some ad =>
    go_enter Tryz.func84, Tryz.ntmps84
    go_wp2_with (at_builtin; refine print_append_row (w0 := w) w.heap.size rfl _ _ 54 44 .u64 8 rfl Tryz.underlying54 info44 (by decide) (.slice (some ⟨w.heap.size, 0, none⟩) 0 0) [] l (some ad) l.length c rfl rfl ?q1 ?q2 ?q3 ?q4 ?q5 ?_)
    case q1 => exact own_lit w w.heap.size 44 .u64 [] (Nat.le_refl _) (by simp)
    case q2 => exact HR.out.below (below_alloc (Below.refl _ _) _)
    case q3 => exact below_alloc (Below.refl _ _) _
    case q4 => simp
    case q5 => simpa using HL.out
    intro v1 w1 hown hb _ _
    go_wp2
    go_ret
    exact ⟨_, rfl, by simpa using hown, hb⟩

theorem fits_any (i : Int) (w : World) : Calls Tryz.prog 64 #[.int .i64 i] w fun e w' => e = .returned (.bool (Bm.fits i)) ∧ w' = w := by
  have H := Lk.mk (show Bm.fits i = (decide (0 ≤ i) && decide (i < 4096)) from rfl)
  generalize Bm.fits i = r at *
  go_enter Tryz.func64, Tryz.ntmps64
  go_wp2
  all_goals go_ret
  all_goals refine ⟨ret_bool ?_, rfl⟩
  all_goals rw [H.out]
  all_goals clear H
  all_goals simp_all
  all_goals omega
end Go.Proofs.YtpnklpjjbpheeaaGreatDoor

/-
  The walks of bitmap.cut, bitmap.With and bitmap.Of; conditions: what is handed in reads as told, at most 2^40 words.
-/
namespace Go.Proofs.YtpnklpjjbpheeaaGreatDoor
open Go.RowKit Go.Proofs.YtpnklpjjbpheeaaGreatDoorW.PrintWords

theorem take_one {l : List Int} {k : Nat} (h : k < l.length) : l.take (k + 1) = l.take k ++ [l.getD k 0] := by
  rw [List.take_succ_eq_append_getElem h, List.getD_eq_getElem?_getD, List.getElem?_eq_getElem h]; rfl

set_option maxHeartbeats 1000000 in
theorem cut_any (A : Option Addr) (c : Nat) (l : List Int) (w : World) (hr : ReadsInt w .u64 A l.length l) (hc : l.length ≤ c) :
    Calls Tryz.prog 85 #[.slice A l.length c] w fun e w' => e = .returned (.slice A (Bm.cutL l).length c) ∧ w' = w := by
  obtain ⟨i0, hi0, hz0, hz1, hz2⟩ := info_parts info44
  have HR := Lk.mk hr
  have hm := hr.2.1
  have HC := Lk.mk hc
  have hsl : ∀ k : Nat, k + 1 ≤ l.length → ∀ W : World, (Instr.slice 54 (.slice A (k + 1) c) none (some (.int .i64 (k : Int))) none).run Tryz.prog W = .ok (.slice A k c) W := fun k hk W => by
    have h := (print_take_int (k := .u64) 54 44 Tryz.underlying54 hi0 hz1 A c (l.take (k + 1)) (k : Int) (by omega) (by rw [List.length_take]; omega) (by rw [List.length_take]; omega)).1 W
    rw [Int.toNat_natCast, List.take_take, List.length_take, List.length_take] at h
    rw [show min (k + 1) l.length = k + 1 by omega, show min (min k (k + 1)) l.length = k by omega] at h
    exact h
  have HS := Lk.mk hsl
  clear hr hc hsl hi0 hz0 hz1 hz2
  go_enter Tryz.func85, Tryz.ntmps85
  go_wp2
  go_loopg [0] l.length (fun gg v0 wr => ∃ m : Nat, m ≤ l.length ∧ m ≤ gg ∧ v0 = .slice A m c ∧ wr = w ∧ Lk (Bm.cutL (l.take m) = Bm.cutL l))
  case atStart => exact ⟨l.length, Nat.le_refl _, Nat.le_refl _, rfl, rfl, ⟨by rw [List.take_length]⟩⟩
  case round =>
    obtain ⟨m, hml, hg, rfl, rfl, HT⟩ := hrel
    cases m with
    | zero =>
      have H := Lk.mk (show (Bm.cutL l).length = 0 by rw [← HT.out]; rfl)
      go_wp2
      go_ret
      exact ⟨by rw [H.out]; rfl, rfl⟩
    | succ k =>
      obtain ⟨ad, rfl, hcell⟩ := HR.out.at_ (k : Int) (by omega) (by omega)
      have HX := Lk.mk (show rd l (k : Int) = l.getD k 0 by unfold rd; rw [Int.toNat_natCast])
      rw [Int.toNat_natCast, HX.out] at hcell
      have HTK := Lk.mk (take_one (l := l) (k := k) (by omega))
      have hs := HS.out k hml
      have hpos : (0 : Int) < (k : Int) + 1 := by omega
      have hlt : (k : Int) < (k : Int) + 1 := by omega
      by_cases hz : l.getD k 0 = 0
      · rw [hz] at hcell
        have HZ := Lk.mk hz
        clear hz
        go_wp2
        go_roundg k
        case measure => omega
        case rel => exact ⟨k, by omega, Nat.le_refl _, rfl, rfl, ⟨by rw [← HT.out, HTK.out, HZ.out, Bm.cutL_snoc_zero]⟩⟩
      · have hzb : (l.getD k 0 == 0) = false := by simpa using hz
        have H := Lk.mk (show (Bm.cutL l).length = k + 1 by rw [← HT.out, HTK.out, Bm.cutL_snoc _ _ hz, List.length_append, List.length_take]; simp; omega)
        clear hz
        generalize l.getD k 0 = x at *
        go_wp2
        go_ret
        exact ⟨by rw [H.out]; rfl, rfl⟩
end Go.Proofs.YtpnklpjjbpheeaaGreatDoor

/-
  The walk of bitmap.With; conditions: what is handed in reads as told, at most 2^40 words.
-/
namespace Go.Proofs.YtpnklpjjbpheeaaGreatDoor
open Go.RowKit Go.Proofs.YtpnklpjjbpheeaaGreatDoorW.PrintWords

theorem own_full {w : World} {base n : Nat} {e : TypeId} {k : IntKind} {v : Value} {xs : List Int} (h : w.ownsRow base e 1 v n (nums k xs)) : ∃ A c, v = .slice A n c ∧ n ≤ c ∧ xs.length = n ∧ ReadsInt w k A n xs := by
  obtain ⟨A, c, rfl, hr⟩ := own_reads h
  refine ⟨A, c, rfl, ?_, hr.1, hr⟩
  rcases h.2 with ⟨h1, h2⟩ | ⟨g, cap, cur, he, _, _, h1, _⟩
  · omega
  · injection he with _ _ hc; omega
/-- the end of With: the row cut -/
theorem own_cut {w : World} {base c : Nat} {A : Option Addr} {l : List Int} (h : w.ownsRow base 44 1 (.slice A l.length c) l.length (nums .u64 l)) : w.ownsRow base 44 1 (.slice A (Bm.cutL l).length c) (Bm.cutL l).length (nums .u64 (Bm.cutL l)) := by
  have h1 := own_take h (Bm.cut_length l)
  rw [Nat.mul_one] at h1
  have e : (nums .u64 l).take (Bm.cutL l).length = nums .u64 (Bm.cutL l) := by
    unfold nums
    rw [← List.map_take, ← Bm.cut_take]
  rwa [e] at h1

set_option maxHeartbeats 1000000 in
theorem with_unfit (A : Option Addr) (c : Nat) (l : List Int) (i : Int) (on : Bool) (w : World) (hf : Bm.fits i = false) (hr : ReadsInt w .u64 A l.length l) (hl : l.length ≤ 1099511627776) :
    Calls Tryz.prog 65 #[.slice A l.length c, .int .i64 i, .bool on] w fun e w' => ∃ v, e = .returned v ∧ w'.ownsRow w.heap.size 44 1 v (Bm.cutL l).length (nums .u64 (Bm.cutL l)) ∧ Below w.heap.size w w' := by
  have HC := Lk.mk (clone64 A c l w hr (by omega))
  have HF := Lk.mk (fun w => hf ▸ fits_any i w)
  clear hr hf
  go_enter Tryz.func65, Tryz.ntmps65
  go_wp2_with (first | (go_at_call 84; (with_reducible refine HC.out.mono ?_); rintro e w1 ⟨v, rfl, ho, hb⟩; obtain ⟨A1, c1, rfl, hc1, _, hr1⟩ := own_full ho; have HO := Lk.mk ho; have HB := Lk.mk hb; have HR1 := Lk.mk hr1; have HC1 := Lk.mk hc1; clear ho hb hr1 hc1) | (go_at_call 64; (with_reducible refine (HF.out _).mono ?_); rintro e w2 ⟨rfl, rfl⟩) | (go_at_call 85; (with_reducible refine (cut_any _ _ _ _ HR1.out HC1.out).mono ?_); rintro e w3 ⟨rfl, rfl⟩))
  go_ret
  exact ⟨_, rfl, own_cut HO.out, HB.out⟩

theorem and_not_bit (x j : Nat) (hj : j < 64) (hx : x < 18446744073709551616) : bits .andNot .u64 (x : Int) (IntKind.u64.wrap (2 ^ j)) = ((Bm.setBit x j false : Nat) : Int) := by
  have h2 : 2 ^ j < 2 ^ 64 := Nat.pow_lt_pow_right (by omega) hj
  have e : IntKind.u64.wrap ((2 : Int) ^ j) = ((2 ^ j : Nat) : Int) := by
    rw [IntKind.wrap_u64, Int.natCast_pow]
    have h3 : ((2 ^ j : Nat) : Int) < 18446744073709551616 := Int.ofNat_lt.2 (show 2 ^ j < 18446744073709551616 from h2)
    have h4 : 0 ≤ ((2 ^ j : Nat) : Int) := Int.natCast_nonneg _
    have : ((2 : Int) ^ j) = ((2 ^ j : Nat) : Int) := by rw [Int.natCast_pow]; rfl
    rw [this, ← Int.natCast_pow]
    generalize ((2 ^ j : Nat) : Int) = p at *
    exact Int.emod_eq_of_lt h4 h3
  rw [e, u64_andNot_nat _ _ hx (by omega)]
  rfl
theorem or_bit (x j : Nat) (hj : j < 64) (hx : x < 18446744073709551616) : bits .or .u64 ((Bm.setBit x j false : Nat) : Int) (IntKind.u64.wrap (2 ^ j)) = ((Bm.setBit x j true : Nat) : Int) := by
  have h2 : 2 ^ j < 2 ^ 64 := Nat.pow_lt_pow_right (by omega) hj
  have e : IntKind.u64.wrap ((2 : Int) ^ j) = ((2 ^ j : Nat) : Int) := by
    rw [IntKind.wrap_u64, Int.natCast_pow]
    have h3 : ((2 ^ j : Nat) : Int) < 18446744073709551616 := Int.ofNat_lt.2 (show 2 ^ j < 18446744073709551616 from h2)
    have h4 : 0 ≤ ((2 ^ j : Nat) : Int) := Int.natCast_nonneg _
    have : ((2 : Int) ^ j) = ((2 ^ j : Nat) : Int) := by rw [Int.natCast_pow]; rfl
    rw [this, ← Int.natCast_pow]
    generalize ((2 ^ j : Nat) : Int) = p at *
    exact Int.emod_eq_of_lt h4 h3
  rw [e, u64_or_nat _ _ (Bm.setBit_lt x j false hj hx) (by omega)]
  rfl
/-- a word of a row of one's own is stored -/
theorem own_put {w W : World} {base g n cap : Nat} {l : List Int} {q : Nat} (y : Nat) (h : W.ownsRow base 44 1 (.slice (some ⟨g, 0, none⟩) n cap) n (nums .u64 l)) (hb : Below base w W) :
    ((W.setCell ⟨g, q, none⟩ (.int .u64 (y : Int))).drew).ownsRow base 44 1 (.slice (some ⟨g, 0, none⟩) n cap) n (nums .u64 (l.set q (y : Int))) ∧ Below base w (W.setCell ⟨g, q, none⟩ (.int .u64 (y : Int))).drew := by
  have h1 := (own_store h ((q : Nat) : Int) (y : Int)).1
  rw [Int.toNat_natCast] at h1
  have hg : base ≤ g := own_base h g rfl
  exact ⟨own_move h1 (fun _ _ => rfl), below_drew (hb.setCell (p := ⟨g, q, none⟩) hg _)⟩

set_option maxHeartbeats 2000000 in
theorem with_fit (A : Option Addr) (c : Nat) (l : List Int) (i : Nat) (on : Bool) (w : World) (hi : i < 4096) (hr : ReadsInt w .u64 A l.length l) (hw : Bm.Words l) (hl : l.length ≤ 1099511627776) :
    Calls Tryz.prog 65 #[.slice A l.length c, .int .i64 i, .bool on] w fun e w' => ∃ v, e = .returned v ∧ w'.ownsRow w.heap.size 44 1 v (Bm.withL l i on).length (nums .u64 (Bm.withL l i on)) ∧ Below w.heap.size w w' := by
  have HC := Lk.mk (clone64 A c l w hr (by omega))
  have hf : Bm.fits (i : Int) = true := by unfold Bm.fits; simp; omega
  have HF := Lk.mk (fun w => hf ▸ fits_any (i : Int) w)
  have HW := Lk.mk hw
  clear hr hf hw
  go_enter Tryz.func65, Tryz.ntmps65
  go_wp2_with (first | (go_at_call 84; (with_reducible refine HC.out.mono ?_); rintro e w1 ⟨v, rfl, ho, hb⟩; have HO := Lk.mk ho; have HB := Lk.mk hb; clear ho hb) | (go_at_call 64; (with_reducible refine (HF.out _).mono ?_); rintro e w2 ⟨rfl, rfl⟩))
  go_loopg [7] (i / 64 + 1) (fun gg v7 wr => ∃ m : Nat, m ≤ i / 64 + 1 - l.length ∧ i / 64 + 1 - (l.length + m) ≤ gg ∧ Lk (wr.ownsRow w.heap.size 44 1 v7 (l ++ List.replicate m 0).length (nums .u64 (l ++ List.replicate m 0))) ∧ Lk (Below w.heap.size w wr))
  case atStart => exact ⟨0, by omega, by omega, ⟨by simpa using HO.out⟩, HB⟩
  case round =>
    obtain ⟨m, hm, hg, HO1, HB1⟩ := hrel
    have hlen : (l ++ List.replicate m (0 : Int)).length = l.length + m := by simp
    have hpad := Lk.mk (show i / 64 + 1 ≤ l.length + m → l ++ List.replicate m (0 : Int) = Bm.pad l (i / 64 + 1) by
      intro h; unfold Bm.pad; rw [show m = i / 64 + 1 - l.length by omega])
    have hsn := Lk.mk (show l ++ List.replicate (m + 1) (0 : Int) = (l ++ List.replicate m 0) ++ [0] by rw [List.replicate_succ', List.append_assoc])
    generalize l ++ List.replicate m (0 : Int) = L at *
    obtain ⟨A1, c1, rfl, hc1, _, hr1⟩ := own_full HO1.out
    have hcell0 : i / 64 < L.length → ∃ g, A1 = some ⟨g, 0, none⟩ ∧ ∀ w' : World, w'.ownsRow w.heap.size 44 1 (.slice (some ⟨g, 0, none⟩) L.length c1) L.length (nums .u64 L) → w'.cell? ⟨g, i / 64, none⟩ = some (.int .u64 (L.getD (i / 64) 0)) ∧ w'.frozen? ⟨g, i / 64, none⟩ = false := by
      intro hlt
      obtain ⟨g, cap, he, _, _⟩ := HO1.out.form (by omega)
      injection he with he1 _ _
      refine ⟨g, he1, fun w' h => ?_⟩
      have h2 := own_at h ((i / 64 : Nat) : Int) (by omega) (by omega)
      unfold rd at h2
      rwa [Int.toNat_natCast] at h2
    have HC1 := Lk.mk hc1
    have HR1 := Lk.mk hr1
    have HG := Lk.mk hcell0
    clear hc1 hr1 hcell0 HC
    by_cases hlt : L.length ≤ i / 64
    · have hltz : (L.length : Int) ≤ (i : Int) / 64 := by omega
      go_wp2_with (at_builtin; refine print_append_num (w0 := w) w.heap.size rfl _ _ 54 44 .u64 8 rfl Tryz.underlying54 info44 (by decide) (.slice A1 L.length c1) L 0 rfl rfl HO1.out HB1.out HB1.out.size (by omega) ?_; intro v1 w1 hown hb _ _; have HO2 := Lk.mk hown; have HB2 := Lk.mk hb; clear hown hb)
      go_roundg (i / 64 + 1 - (l.length + (m + 1)))
      case measure => omega
      case rel => exact ⟨m + 1, by omega, Nat.le_refl _, ⟨by rw [hsn.out]; exact HO2.out⟩, HB2⟩
    · have hltz : ¬ (L.length : Int) ≤ (i : Int) / 64 := by omega
      obtain rfl := hpad.out (by omega)
      have hPW := HW.out.pad (i / 64 + 1)
      have hwl := Lk.mk (fun on => show Bm.withL l (i : Int) on = Bm.cutL ((Bm.pad l (i / 64 + 1)).set (i / 64) ((Bm.setBit ((Bm.pad l (i / 64 + 1)).getD (i / 64) 0).toNat (i % 64) on : Nat) : Int)) by
        unfold Bm.withL; rw [if_pos (by unfold Bm.fits; simp; omega), Int.toNat_natCast])
      generalize Bm.pad l (i / 64 + 1) = L at *
      obtain ⟨g, rfl, hg1⟩ := HG.out (by omega)
      obtain ⟨hcell, hfrz⟩ := hg1 _ HO1.out
      obtain ⟨x, hx, hx1⟩ : ∃ x : Nat, L.getD (i / 64) 0 = (x : Int) ∧ x < 18446744073709551616 := by
        have := hPW (L.getD (i / 64) 0) (by rw [List.getD_eq_getElem?_getD, List.getElem?_eq_getElem (by omega)]; exact List.getElem_mem _)
        exact ⟨(L.getD (i / 64) 0).toNat, by omega, by omega⟩
      rw [hx] at hcell hwl
      rw [Int.toNat_natCast] at hwl
      have HG1 := Lk.mk hg1
      clear hx hg1 HF HW hPW HG
      have hq1 : (i : Int) / 64 < (L.length : Int) := by omega
      have hq0 : 0 ≤ (i : Int) / 64 := by omega
      have hlm : L.length ≤ 9223372036854775807 := by omega
      have hs := and_not_bit x (i % 64) (Nat.mod_lt _ (by omega)) hx1
      have hs2 := Lk.mk (or_bit x (i % 64) (Nat.mod_lt _ (by omega)) hx1)
      obtain ⟨HO2, HB2⟩ := own_put (q := i / 64) (Bm.setBit x (i % 64) false) HO1.out HB1.out
      have HO3 := Lk.mk HO2
      have HB3 := Lk.mk HB2
      have hll := Lk.mk (show (L.set (i / 64) ((Bm.setBit x (i % 64) false : Nat) : Int)).length = L.length from List.length_set)
      have hy2 := Lk.mk (show (L.set (i / 64) ((Bm.setBit x (i % 64) false : Nat) : Int)).getD (i / 64) 0 = ((Bm.setBit x (i % 64) false : Nat) : Int) by
        rw [List.getD_eq_getElem?_getD, List.getElem?_set_self (by omega)]; rfl)
      have hss := Lk.mk (fun z : Int => show (L.set (i / 64) ((Bm.setBit x (i % 64) false : Nat) : Int)).set (i / 64) z = L.set (i / 64) z from List.set_set _)
      clear hl hlen HO2 HB2 HR1 HG1
      go_wp2
      go_region
      clear hcell hfrz hs
      generalize hS0 : Bm.setBit x (i % 64) false = y0 at *
      generalize hS1 : Bm.setBit x (i % 64) true = y1 at *
      generalize ((wr.setCell { block := g, off := i / 64 } (Value.int IntKind.u64 (y0 : Int))).drew) = W1 at *
      cases on with
      | false =>
        have hfin := Lk.mk (hwl.out false)
        rw [hS0] at hfin
        generalize L.set (i / 64) (y0 : Int) = L2 at *
        have HO4 := Lk.mk (show W1.ownsRow w.heap.size 44 1 (.slice (some ⟨g, 0, none⟩) L2.length c1) L2.length (nums .u64 L2) by rw [hll.out]; exact HO3.out)
        obtain ⟨A2, c2, he, hc2, _, hr2⟩ := own_full HO4.out
        injection he with he1 _ he2
        subst he1; subst he2
        have HR4 := Lk.mk hr2
        have HCC := Lk.mk (fun w' (h : w' = W1) => hll.out ▸ cut_any (some ⟨g, 0, none⟩) c1 L2 w' (h ▸ HR4.out) hc2)
        clear hr2 hc2 hS0 hS1 hlt hm hg
        go_wp2_with (go_at_call 85; (with_reducible refine (HCC.out _ rfl).mono ?_); rintro e w3 ⟨rfl, rfl⟩)
        go_ret
        exact ⟨_, rfl, by rw [hfin.out]; exact own_cut HO4.out, HB3.out⟩
      | true =>
        have hfin := Lk.mk (hwl.out true)
        rw [hS1] at hfin
        have hs3 := hs2.out
        have HO5 := Lk.mk (show W1.ownsRow w.heap.size 44 1 (.slice (some ⟨g, 0, none⟩) L.length c1) L.length (nums .u64 (L.set (i / 64) (y0 : Int))) from HO3.out)
        obtain ⟨hcell2, hfrz2⟩ : W1.cell? ⟨g, i / 64, none⟩ = some (.int .u64 (y0 : Int)) ∧ W1.frozen? ⟨g, i / 64, none⟩ = false := by
          have h2 := own_at HO5.out ((i / 64 : Nat) : Int) (by omega) (by omega)
          unfold rd at h2
          rw [Int.toNat_natCast, hy2.out] at h2
          exact h2
        obtain ⟨HO6, HB6⟩ := own_put (q := i / 64) y1 HO5.out HB3.out
        rw [hss.out] at HO6
        have HO7 := Lk.mk HO6
        have HB7 := Lk.mk HB6
        clear HO6 HB6 hS0 hS1
        have hll2 := Lk.mk (show (L.set (i / 64) (y1 : Int)).length = L.length from List.length_set)
        generalize L.set (i / 64) (y1 : Int) = L3 at *
        go_wp2
        go_region
        clear hcell2 hfrz2 hs3
        generalize ((W1.setCell { block := g, off := i / 64 } (Value.int IntKind.u64 (y1 : Int))).drew) = W2 at *
        have HO4 := Lk.mk (show W2.ownsRow w.heap.size 44 1 (.slice (some ⟨g, 0, none⟩) L3.length c1) L3.length (nums .u64 L3) by rw [hll2.out]; exact HO7.out)
        obtain ⟨A2, c2, he, hc2, _, hr2⟩ := own_full HO4.out
        injection he with he1 _ he2
        subst he1; subst he2
        have HR4 := Lk.mk hr2
        have HCC := Lk.mk (fun w' (h : w' = W2) => hll2.out ▸ cut_any (some ⟨g, 0, none⟩) c1 L3 w' (h ▸ HR4.out) hc2)
        clear hr2 hc2 hlt hm hg
        go_wp2_with (go_at_call 85; (with_reducible refine (HCC.out _ rfl).mono ?_); rintro e w3 ⟨rfl, rfl⟩)
        go_ret
        exact ⟨_, rfl, by rw [hfin.out]; exact own_cut HO4.out, HB7.out⟩
end Go.Proofs.YtpnklpjjbpheeaaGreatDoor

/-
  The walks of bitmap.With at every number and of bitmap.Of; conditions: what is handed in reads as told.
-/
namespace Go.Proofs.YtpnklpjjbpheeaaGreatDoor
open Go.RowKit Go.Proofs.YtpnklpjjbpheeaaGreatDoorW.PrintWords

theorem with_any (A : Option Addr) (c : Nat) (l : List Int) (i : Int) (on : Bool) (w : World) (hr : ReadsInt w .u64 A l.length l) (hw : Bm.Words l) (hl : l.length ≤ 1099511627776) :
    Calls Tryz.prog 65 #[.slice A l.length c, .int .i64 i, .bool on] w fun e w' => ∃ v, e = .returned v ∧ w'.ownsRow w.heap.size 44 1 v (Bm.withL l i on).length (nums .u64 (Bm.withL l i on)) ∧ Below w.heap.size w w' := by
  cases hf : Bm.fits i with
  | false =>
    have e : Bm.withL l i on = Bm.cutL l := by unfold Bm.withL; rw [hf]; rfl
    rw [e]; exact with_unfit A c l i on w hf hr hl
  | true =>
    have h2 : 0 ≤ i ∧ i < 4096 := by unfold Bm.fits at hf; simpa using hf
    obtain ⟨j, rfl⟩ := Int.eq_ofNat_of_zero_le h2.1
    exact with_fit A c l j on w (by omega) hr hw hl

theorem rd_getD (l : List Int) (k : Nat) : rd l (k : Int) = l.getD k 0 := by unfold rd; rw [Int.toNat_natCast]
theorem ofL_more {l : List Int} {k : Nat} (h : k < l.length) : Bm.ofL (l.take (k + 1)) = if Bm.fits (l.getD k 0) then Bm.withL (Bm.ofL (l.take k)) (l.getD k 0) true else Bm.ofL (l.take k) := by
  rw [take_one h, Bm.ofL_snoc]

set_option maxHeartbeats 1000000 in
theorem of_any (A : Option Addr) (c : Nat) (is : List Int) (w : World) (hr : ReadsInt w .i64 A is.length is) :
    Calls Tryz.prog 44 #[.slice A is.length c] w fun e w' => ∃ v, e = .returned v ∧ w'.ownsRow w.heap.size 44 1 v (Bm.ofL is).length (nums .u64 (Bm.ofL is)) ∧ Below w.heap.size w w' := by
  have HR := Lk.mk hr
  have hm := hr.2.1
  clear hr
  go_enter Tryz.func44, Tryz.ntmps44
  go_wp2
  go_loopg [3, 5, 8] is.length (fun gg v3 _ v8 wr => ∃ kk : Nat, kk ≤ is.length ∧ is.length - kk ≤ gg ∧ v8 = .int .i64 kk ∧ Lk (wr.ownsRow w.heap.size 44 1 v3 (Bm.ofL (is.take kk)).length (nums .u64 (Bm.ofL (is.take kk)))) ∧ Lk (Below w.heap.size w wr))
  case atStart => exact ⟨0, by omega, by omega, rfl, ⟨own_nil _ _ _ _⟩, ⟨Below.refl _ _⟩⟩
  case round =>
    obtain ⟨kk, hk, hg, rfl, HO, HB⟩ := hrel
    by_cases hlt : kk < is.length
    · obtain ⟨ad, rfl, hcell⟩ := (HR.out.below HB.out).at_ (kk : Int) (by omega) (by omega)
      rw [Int.toNat_natCast, rd_getD] at hcell
      have HM := Lk.mk (ofL_more hlt)
      have hltz : (kk : Int) < (is.length : Int) := by omega
      have HLN := Lk.mk (Bm.ofL_length (is.take kk))
      have HWD := Lk.mk (Bm.ofL_words (is.take kk))
      generalize Bm.ofL (is.take kk) = B at *
      generalize is.getD kk 0 = x at *
      obtain ⟨A1, c1, rfl, hc1, _, hr1⟩ := own_full HO.out
      have HR1 := Lk.mk hr1
      clear hr1 hc1
      cases hf : Bm.fits x with
      | true =>
        have HF := Lk.mk (fun w => hf ▸ fits_any x w)
        have HM2 := Lk.mk (show Bm.ofL (is.take (kk + 1)) = Bm.withL B x true by rw [HM.out, if_pos hf])
        clear hf HM
        have HWT := Lk.mk (with_any A1 c1 B x true wr HR1.out HWD.out (by have := HLN.out; omega))
        go_wp2_with (first | (go_at_call 64; (with_reducible refine (HF.out _).mono ?_); rintro e w2 ⟨rfl, rfl⟩) | (go_at_call 65; (with_reducible refine (HWT.out).mono ?_); rintro e w2 ⟨v, rfl, ho, hb⟩; have HO2 := Lk.mk ho; have HB2 := Lk.mk hb; clear ho hb))
        go_roundg (is.length - (kk + 1))
        case measure => omega
        case rel => exact ⟨kk + 1, by omega, by omega, by go_num, ⟨by rw [HM2.out]; exact own_weaken HO2.out HB.out.size⟩, ⟨below_then HB.out HB.out.size HB2.out⟩⟩
      | false =>
        have HF := Lk.mk (fun w => hf ▸ fits_any x w)
        have HM2 := Lk.mk (show Bm.ofL (is.take (kk + 1)) = B by rw [HM.out, if_neg (by rw [hf]; decide)])
        clear hf HM
        go_wp2_with (first | (go_at_call 64; (with_reducible refine (HF.out _).mono ?_); rintro e w2 ⟨rfl, rfl⟩))
        go_roundg (is.length - (kk + 1))
        case measure => omega
        case rel => exact ⟨kk + 1, by omega, by omega, by go_num, ⟨by rw [HM2.out]; exact HO.out⟩, HB⟩
    · have hltz : ¬ (kk : Int) < (is.length : Int) := by omega
      obtain rfl : kk = is.length := by omega
      go_wp2
      go_ret
      exact ⟨_, rfl, by have := HO.out; rw [List.take_length] at this; exact this, HB.out⟩
end Go.Proofs.YtpnklpjjbpheeaaGreatDoor

/-
  The walks of bitmap.Bits and bitmap.Count; conditions: the words read as told, and there are at most 2^37 of them.
-/
namespace Go.Proofs.YtpnklpjjbpheeaaGreatDoor
open Go.RowKit Go.Proofs.YtpnklpjjbpheeaaGreatDoorW.PrintWords

theorem take_snoc {l : List Int} {k : Nat} (h : k < l.length) : l.take (k + 1) = l.take k ++ [l.getD k 0] := by
  rw [List.take_succ_eq_append_getElem h, List.getD_eq_getElem?_getD, List.getElem?_eq_getElem h]; rfl
theorem bits_more {l : List Int} {k : Nat} (n : Int) (h : k < l.length) : Bm.bitsL (l.take (k + 1)) n = Bm.bitsL (l.take k) n ++ Bm.wordBits k (l.getD k 0).toNat n := by
  rw [take_snoc h, Bm.bitsL_snoc, List.length_take, Nat.min_eq_left (by omega)]
theorem wordBits_zero (k : Nat) (n : Int) : Bm.wordBits k 0 n = [] := by unfold Bm.wordBits; rw [Bm.bitsW_zero]; rfl
theorem wordBits_step (k x : Nat) (n : Int) (hx : x < 18446744073709551616) (h0 : x ≠ 0) :
    Lib.ctz 64 x < 64 ∧ Bm.wordBits k x n = (if ((64 * k + Lib.ctz 64 x : Nat) : Int) < n then [((64 * k + Lib.ctz 64 x : Nat) : Int)] else []) ++ Bm.wordBits k (x &&& (x - 1)) n ∧ x &&& (x - 1) < x := by
  obtain ⟨m, e, _⟩ := Lib.ctzFrom_spec 64 x (by omega) hx
  have ek : Lib.ctz 64 x = Lib.ctzFrom 64 x := by unfold Lib.ctz; rw [if_neg h0]
  rw [← ek] at e
  obtain ⟨h1, h2, h3⟩ := Bm.bitsW_step x (Lib.ctz 64 x) m hx e
  refine ⟨h1, ?_, h3⟩
  unfold Bm.wordBits
  rw [h2, List.map_cons, List.filter_cons]
  by_cases h : ((64 * k + Lib.ctz 64 x : Nat) : Int) < n
  · rw [if_pos (by simpa using h), if_pos h]; rfl
  · rw [if_neg (by simpa using h), if_neg h]; rfl
theorem wordBits_length (k x : Nat) (n : Int) : (Bm.wordBits k x n).length ≤ 64 := by
  unfold Bm.wordBits
  rw [List.length_map]
  refine Nat.le_trans (List.length_filter_le _ _) ?_
  rw [List.length_map]; exact Bm.bitsW_length x

end Go.Proofs.YtpnklpjjbpheeaaGreatDoor

/-
  The walk of fns.may; conditions: the function reads as told, at most 2^37 words.
-/
namespace Go.Proofs.YtpnklpjjbpheeaaGreatDoor
open Go.RowKit Go.Proofs.YtpnklpjjbpheeaaGreatDoorW.PrintWords

/-- may a function be, of so many slots and these words -/
def mayB (s : Int) (l : List Int) : Bool := decide (0 ≤ s) && decide (s ≤ 1000) && decide ((Bm.bitsL l (64 * (l.length : Int))).length = (Bm.bitsL l s).length)

end Go.Proofs.YtpnklpjjbpheeaaGreatDoor

/-
  The walks of bitmap.has, of the library's IndexFunc and ContainsFunc at ints, and of bitmap.Has; conditions: what is handed in reads as told.
-/
namespace Go.Proofs.YtpnklpjjbpheeaaGreatDoor
open Go.RowKit Go.Proofs.YtpnklpjjbpheeaaGreatDoorW.PrintWords

theorem shr_and (x : Nat) (j : Nat) : (x / 2 ^ j) % 2 = (x.testBit j).toNat := by
  rw [Nat.testBit_eq_decide_div_mod_eq]
  have := Nat.mod_two_eq_zero_or_one (x / 2 ^ j)
  rcases this with h | h <;> simp [h]

theorem shr_bit (x i : Nat) (hx : x < 18446744073709551616) : bits .and .u64 ((x : Int) / 2 ^ (i % 64)) 1 = if x.testBit (i % 64) then 1 else 0 := by
  have hq : x / 2 ^ (i % 64) ≤ x := Nat.div_le_self _ _
  have e2 : (x : Int) / 2 ^ (i % 64) = ((x / 2 ^ (i % 64) : Nat) : Int) := by rw [Int.natCast_ediv, Int.natCast_pow]; rfl
  rw [e2, show (1 : Int) = ((1 : Nat) : Int) from rfl, u64_and_nat _ _ (by omega) (by omega), nat_mask1, shr_and]
  cases x.testBit (i % 64) <;> rfl

/-- the place of the first number of which p holds, or -1 -/
def idxL (p : Int → Bool) (l : List Int) : Int := if l.any p then ((l.findIdx p : Nat) : Int) else -1

-- The library's search, at any function value that answers p and leaves what lay.
set_option maxHeartbeats 1000000 in
theorem index_ints (A : Option Addr) (c : Nat) (l : List Int) (p : Int → Bool) (g : Nat) (lb : Array Value) (w : World) (eg : ∀ args w, (callFunc g args).run Tryz.prog w = .ok (.enter g args) w) (hr : ReadsInt w .i64 A l.length l)
    (hp : ∀ W x, x ∈ l → Below w.heap.size w W → Calls Tryz.prog g (#[.int .i64 x] ++ lb) W fun e W' => e = .returned (.bool (p x)) ∧ Below W.heap.size W W') :
    Calls Tryz.prog 68 #[.slice A l.length c, .func (.func g) #[] lb] w fun e w' => (∃ j : Int, e = .returned (.int .i64 j) ∧ decide (0 ≤ j) = l.any p) ∧ Below w.heap.size w w' := by
  have HR := Lk.mk hr
  have HP := Lk.mk hp
  have hm := hr.2.1
  clear hr hp
  go_enter Tryz.func68, Tryz.ntmps68
  go_wp2
  go_loopg [5, 8] l.length (fun gg _ v8 wr => ∃ kk : Nat, kk ≤ l.length ∧ l.length - kk ≤ gg ∧ v8 = .int .i64 kk ∧ Lk (∀ j, j < kk → p (l.getD j 0) = false) ∧ Lk (Below w.heap.size w wr))
  case atStart => exact ⟨0, by omega, by omega, rfl, ⟨fun j hj => absurd hj (by omega)⟩, ⟨Below.refl _ _⟩⟩
  case round =>
    obtain ⟨kk, hk, hg, rfl, HN, HB⟩ := hrel
    by_cases hlt : kk < l.length
    · obtain ⟨ad, rfl, hcell⟩ := (HR.out.below HB.out).at_ (kk : Int) (by omega) (by omega)
      have HX := Lk.mk (show rd l (kk : Int) = l.getD kk 0 by unfold rd; rw [Int.toNat_natCast])
      rw [Int.toNat_natCast, HX.out] at hcell
      have hltz : (kk : Int) < (l.length : Int) := by omega
      obtain ⟨x, hx⟩ : ∃ x, x = l.getD kk 0 := ⟨_, rfl⟩
      rw [← hx] at hcell
      have HXX := Lk.mk hx
      have HM := Lk.mk (show x ∈ l by rw [hx, List.getD_eq_getElem?_getD, List.getElem?_eq_getElem hlt]; exact List.getElem_mem hlt)
      have hq := Lk.mk (HP.out wr x HM.out HB.out)
      clear hx
      cases hpx : p x with
      | true =>
        rw [hpx] at hq
        have HPX := Lk.mk hpx
        clear hpx
        go_wp2_with (go_at_fn g; (with_reducible refine hq.out.mono ?_); rintro e w' ⟨rfl, hb⟩)
        go_ret
        refine ⟨⟨_, rfl, ?_⟩, below_then HB.out HB.out.size hb⟩
        have : l.any p = true := List.any_eq_true.2 ⟨x, HM.out, HPX.out⟩
        rw [this]; simp
      | false =>
        rw [hpx] at hq
        have HPX := Lk.mk hpx
        clear hpx
        go_wp2_with (go_at_fn g; (with_reducible refine hq.out.mono ?_); rintro e w' ⟨rfl, hb⟩)
        go_roundg (l.length - (kk + 1))
        case measure => omega
        case rel =>
          refine ⟨kk + 1, by omega, by omega, by go_num, ⟨fun j hj => ?_⟩, ⟨below_then HB.out HB.out.size hb⟩⟩
          by_cases e : j = kk
          · subst e; rw [← HXX.out]; exact HPX.out
          · exact HN.out j (by omega)
    · have hltz : ¬ (kk : Int) < (l.length : Int) := by omega
      obtain rfl : kk = l.length := by omega
      go_wp2
      go_ret
      refine ⟨⟨_, rfl, ?_⟩, HB.out⟩
      have : l.any p = false := by
        rw [List.any_eq_false]
        intro x hx
        obtain ⟨j, hj, rfl⟩ := List.getElem_of_mem hx
        have := HN.out j hj
        rw [List.getD_eq_getElem?_getD, List.getElem?_eq_getElem hj] at this
        simpa using this
      rw [this]; simp
set_option maxHeartbeats 1000000 in
theorem contains_ints (A : Option Addr) (c : Nat) (l : List Int) (p : Int → Bool) (g : Nat) (lb : Array Value) (w : World) (eg : ∀ args w, (callFunc g args).run Tryz.prog w = .ok (.enter g args) w) (hr : ReadsInt w .i64 A l.length l)
    (hp : ∀ W x, x ∈ l → Below w.heap.size w W → Calls Tryz.prog g (#[.int .i64 x] ++ lb) W fun e W' => e = .returned (.bool (p x)) ∧ Below W.heap.size W W') :
    Calls Tryz.prog 46 #[.slice A l.length c, .func (.func g) #[] lb] w fun e w' => e = .returned (.bool (l.any p)) ∧ Below w.heap.size w w' := by
  have HI := Lk.mk (index_ints A c l p g lb w eg hr hp)
  clear hr hp
  generalize l.any p = r at *
  go_enter Tryz.func46, Tryz.ntmps46
  go_wp2_with (go_at_call 68; (with_reducible refine HI.out.mono ?_); rintro e w' ⟨⟨j, rfl, hj⟩, hb⟩; have HJ := Lk.mk hj; clear hj)
  all_goals go_ret
  all_goals exact ⟨ret_bool (by rw [← HJ.out]), hb⟩
end Go.Proofs.YtpnklpjjbpheeaaGreatDoor

/-
  Rows of functions that are read; the walks of the library's IndexFunc and ContainsFunc at functions, and of fns.May; conditions: what is handed in reads as told.
-/
namespace Go.Proofs.YtpnklpjjbpheeaaGreatDoor
open Go.RowKit Go.Proofs.YtpnklpjjbpheeaaGreatDoorW.PrintWords

/-- a function's cells: its size, and its words -/
def FnR (w : World) (f : Int × List Int) (cs : List Value) : Prop := ∃ A c, cs = [.int .i64 f.1, .slice A f.2.length c] ∧ f.2.length ≤ c ∧ ReadsInt w .u64 A f.2.length f.2
theorem FnR.below {w w1 : World} {f : Int × List Int} {cs : List Value} (hb : Below w.heap.size w w1) (h : FnR w f cs) : FnR w1 f cs := by
  obtain ⟨A, c, e, hc, hr⟩ := h; exact ⟨A, c, e, hc, hr.below hb⟩
/-- a row of functions -/
def FnC (w : World) (A : Option Addr) (n : Nat) (l : List (Int × List Int)) : Prop := ReadsRow (FnR w) 2 w A n l
theorem FnC.below {w w1 : World} {A : Option Addr} {n : Nat} {l : List (Int × List Int)} (h : FnC w A n l) (hb : Below w.heap.size w w1) : FnC w1 A n l := ReadsRow.imp_ h hb (fun _ _ hp => hp.below hb)
def dF : Int × List Int := (0, [])
theorem FnC.at_ {w : World} {A : Option Addr} {n : Nat} {l : List (Int × List Int)} (h : FnC w A n l) (k : Nat) (hk : k < n) : ∃ ad A1 c1, A = some ad ∧ w.cell? (ad.add (k * 2)) = some (.int .i64 (l.getD k dF).1) ∧ w.cell? ⟨(ad.add (k * 2)).block, (ad.add (k * 2)).off + 1, none⟩ = some (.slice A1 (l.getD k dF).2.length c1) ∧ (l.getD k dF).2.length ≤ c1 ∧ ReadsInt w .u64 A1 (l.getD k dF).2.length (l.getD k dF).2 := by
  obtain ⟨ad, c, e, _, hK, hc⟩ := ReadsRow.get_ h dF (k : Int) (by omega) (by omega)
  rw [Int.toNat_natCast] at hK hc
  obtain ⟨A1, c1, rfl, hl, hr⟩ := hK
  have h0 := hc 0 _ rfl
  have h1 := hc 1 _ rfl
  rw [Nat.add_zero] at h0
  exact ⟨ad, A1, c1, e, h0, by rw [← add_field _ _ 1 (by omega)]; exact h1, hl, hr⟩
theorem getD_mem {α : Type} {l : List α} {k : Nat} (d : α) (h : k < l.length) : l.getD k d ∈ l := by
  rw [List.getD_eq_getElem?_getD, List.getElem?_eq_getElem h]; exact List.getElem_mem h

/-- every function's words are words, and there are at most 2^37 of them -/
def FnsOk (l : List (Int × List Int)) : Prop := ∀ f ∈ l, Bm.Words f.2 ∧ f.2.length ≤ 137438953472 ∧ -9223372036854775808 ≤ f.1 ∧ f.1 ≤ 9223372036854775807
def mayAll (l : List (Int × List Int)) : Bool := !(l.any fun f => !(mayB f.1 f.2))
end Go.Proofs.YtpnklpjjbpheeaaGreatDoor

/-
  The walk of fns.New; conditions: the functions read as told.
-/
namespace Go.Proofs.YtpnklpjjbpheeaaGreatDoor
open Go.RowKit Go.Proofs.YtpnklpjjbpheeaaGreatDoorW.PrintWords

/-- an entry of a table: its size, its words, its pointer slots -/
def kE : Kd (Int × (List Int × List Int)) := Kd.pair (Kd.int .i64) (Kd.pair (Kd.slice 44 (Kd.int .u64)) (Kd.slice 3 (Kd.int .i64)))
def entryOf (f : Int × List Int) : Int × (List Int × List Int) := (f.1, (Bm.ofL (Bm.bitsL f.2 f.1), Bm.bitsL f.2 f.1))
/-- a table, that a pointer leads to -/
def TblAt (w : World) (p : Value) (ent : List (Int × (List Int × List Int))) : Prop := ∃ g A c, p = .pointer (some ⟨g, 0, none⟩) ∧ w.cell? ⟨g, 0, none⟩ = some (.slice A ent.length c) ∧ ent.length ≤ c ∧ kE.C w A ent.length ent
theorem TblAt.below {w w1 : World} {p : Value} {ent : List (Int × (List Int × List Int))} (h : TblAt w p ent) (hb : Below w.heap.size w w1) : TblAt w1 p ent := by
  obtain ⟨g, A, c, rfl, h1, h2, h3⟩ := h
  exact ⟨g, A, c, rfl, pw_cell_below hb h1, h2, Kd.C_below h3 hb⟩
def newOk (l : List (Int × List Int)) : Bool := decide (1 ≤ l.length) && decide (l.length ≤ 100) && mayAll l

theorem entry_M {w2 w3 : World} {b B2 B3 m : Nat} {f : Int × List Int} {v2 v3 : Value} (h2 : w2.ownsRow B2 3 1 v2 (Bm.bitsL f.2 f.1).length (nums .i64 (Bm.bitsL f.2 f.1))) (hb : Below w2.heap.size w2 w3) (h3 : w3.ownsRow B3 44 1 v3 (Bm.ofL (Bm.bitsL f.2 f.1)).length (nums .u64 (Bm.ofL (Bm.bitsL f.2 f.1))))
    (hB2 : b ≤ B2) (hB3 : b ≤ B3) (hm2 : m ≤ B2) (hm3 : m ≤ B3) : kE.M w3 b (fun k => m ≤ k) (entryOf f) [.int .i64 f.1, v3, v2] :=
  ⟨[_], [_, _], rfl, rfl, [_], [_], rfl,
    ⟨v3, rfl, Kd.R_lower (Kd.R_of_own (h1 := fun _ => rfl) h3 (fun k hk => Nat.le_trans hm3 (own_base h3 k hk))) hB3⟩,
    ⟨v2, rfl, Kd.R_below (Kd.R_lower (Kd.R_of_own (h1 := fun _ => rfl) h2 (fun k hk => Nat.le_trans hm2 (own_base h2 k hk))) hB2) hb⟩⟩
theorem take_next {l : List (Int × List Int)} {kk : Nat} {f : Int × List Int} (h : kk < l.length) (hf : f = l.getD kk dF) : (l.take (kk + 1)).map entryOf = (l.take kk).map entryOf ++ [entryOf f] := by
  rw [List.take_add_one, List.map_append, hf, List.getD_eq_getElem?_getD, List.getElem?_eq_getElem h]; rfl
end Go.Proofs.YtpnklpjjbpheeaaGreatDoor

/-
  The walk of bitmap.Has; conditions: what is handed in reads as told.
-/
namespace Go.Proofs.YtpnklpjjbpheeaaGreatDoor
open Go.RowKit Go.Proofs.YtpnklpjjbpheeaaGreatDoorW.PrintWords

def hasAll (l is : List Int) : Bool := !(is.any fun i => !(Bm.hasL l i))
end Go.Proofs.YtpnklpjjbpheeaaGreatDoor

/-
  The walks of a table's Len, has, Size, Words, Ptr, Ptrs; conditions: the table reads as told, or is nil.
-/
namespace Go.Proofs.YtpnklpjjbpheeaaGreatDoor
open Go.RowKit Go.Proofs.YtpnklpjjbpheeaaGreatDoorW.PrintWords

/-- a table, or nil, which has no functions -/
def TblOr (w : World) (p : Value) (ent : List (Int × (List Int × List Int))) : Prop := (p = .pointer none ∧ ent = []) ∨ TblAt w p ent
theorem TblOr.below {w w1 : World} {p : Value} {ent : List (Int × (List Int × List Int))} (h : TblOr w p ent) (hb : Below w.heap.size w w1) : TblOr w1 p ent := h.imp id (fun h => h.below hb)
def dE : Int × (List Int × List Int) := (0, ([], []))
theorem kE_at {w : World} {A : Option Addr} {n : Nat} {l : List (Int × (List Int × List Int))} (h : kE.C w A n l) (k : Nat) (hk : k < n) : ∃ ad A1 c1 A2 c2, A = some ad ∧ w.cell? (ad.add (k * 3)) = some (.int .i64 (l.getD k dE).1) ∧ w.cell? ⟨(ad.add (k * 3)).block, (ad.add (k * 3)).off + 1, none⟩ = some (.slice A1 (l.getD k dE).2.1.length c1) ∧ w.cell? ⟨(ad.add (k * 3)).block, (ad.add (k * 3)).off + 2, none⟩ = some (.slice A2 (l.getD k dE).2.2.length c2) ∧ ReadsInt w .u64 A1 (l.getD k dE).2.1.length (l.getD k dE).2.1 ∧ ReadsInt w .i64 A2 (l.getD k dE).2.2.length (l.getD k dE).2.2 := by
  obtain ⟨ad, c, e, _, ⟨c0, c', rfl, rfl, c1', c2', rfl, ⟨A1, n1, rfl, hl1, h1⟩, ⟨A2, n2, rfl, hl2, h2⟩⟩, hc⟩ := ReadsRow.get_ h dE (k : Int) (by omega) (by omega)
  rw [Int.toNat_natCast] at h1 h2 hc
  have hc0 := hc 0 _ rfl
  have hc1 := hc 1 _ rfl
  have hc2 := hc 2 _ rfl
  rw [Nat.add_zero] at hc0
  refine ⟨ad, A1, n1, A2, n2, e, hc0, ?_, ?_, Kd.reads_of_C h1, Kd.reads_of_C h2⟩
  · rw [← add_field _ _ 1 (by omega)]; exact hc1
  · rw [← add_field _ _ 2 (by omega)]; exact hc2
theorem kE_len {w : World} {A : Option Addr} {n : Nat} {l : List (Int × (List Int × List Int))} (h : kE.C w A n l) : l.length = n ∧ n ≤ 9223372036854775807 := ⟨h.1, h.2.1⟩

def tHas (ent : List (Int × (List Int × List Int))) (f : Int) : Bool := decide (0 ≤ f) && decide (f < ent.length)
theorem tHas_true {ent : List (Int × (List Int × List Int))} {f : Int} (h : tHas ent f = true) : 0 ≤ f ∧ f < ent.length := by simpa [tHas] using h
def tSize (ent : List (Int × (List Int × List Int))) (f : Int) : Int := if tHas ent f then (ent.getD f.toNat dE).1 else -1
def tWords (ent : List (Int × (List Int × List Int))) (f : Int) : Int := if tHas ent f then (ent.getD f.toNat dE).1 + 2 else -1
def tPtr (ent : List (Int × (List Int × List Int))) (f i : Int) : Bool := tHas ent f && Bm.hasL (ent.getD f.toNat dE).2.1 i
def tPtrs (ent : List (Int × (List Int × List Int))) (f : Int) : List Int := if tHas ent f then (ent.getD f.toNat dE).2.2 else []
theorem TblOr.open_ {w : World} {p : Value} {ent : List (Int × (List Int × List Int))} (h : TblOr w p ent) {f : Int} (hf : tHas ent f = true) : ∃ g ad c A1 c1 A2 c2, ∃ k : Nat, p = .pointer (some ⟨g, 0, none⟩) ∧ w.cell? ⟨g, 0, none⟩ = some (.slice (some ad) ent.length c) ∧ f = k ∧ (k : Int) < ent.length ∧ w.cell? (ad.add (k * 3)) = some (.int .i64 (ent.getD k dE).1) ∧ w.cell? ⟨(ad.add (k * 3)).block, (ad.add (k * 3)).off + 1, none⟩ = some (.slice A1 (ent.getD k dE).2.1.length c1) ∧ w.cell? ⟨(ad.add (k * 3)).block, (ad.add (k * 3)).off + 2, none⟩ = some (.slice A2 (ent.getD k dE).2.2.length c2) ∧ ReadsInt w .u64 A1 (ent.getD k dE).2.1.length (ent.getD k dE).2.1 ∧ ReadsInt w .i64 A2 (ent.getD k dE).2.2.length (ent.getD k dE).2.2 := by
  obtain ⟨h0, h1⟩ := tHas_true hf
  rcases h with ⟨_, rfl⟩ | ⟨g, A, c, rfl, hc, hl, hC⟩
  · simp at h1; omega
  · obtain ⟨ad, A1, c1, A2, c2, rfl, q⟩ := kE_at hC f.toNat (by omega)
    exact ⟨g, ad, c, A1, c1, A2, c2, f.toNat, rfl, hc, by omega, by omega, q⟩

end Go.Proofs.YtpnklpjjbpheeaaGreatDoor

/-
  The walks of fns.Least, and of the layer's awake; conditions: the functions read as told.
-/
namespace Go.Proofs.YtpnklpjjbpheeaaGreatDoor
open Go.RowKit Go.Proofs.YtpnklpjjbpheeaaGreatDoorW.PrintWords

def leastL (l : List (Int × List Int)) : Int := l.foldl (fun n f => if mayB f.1 f.2 = true then max n (f.1 + 2) else n) 0
theorem least_next {l : List (Int × List Int)} {k : Nat} {f : Int × List Int} (h : k < l.length) (hf : f = l.getD k dF) : leastL (l.take (k + 1)) = if mayB f.1 f.2 = true then max (leastL (l.take k)) (f.1 + 2) else leastL (l.take k) := by
  unfold leastL
  rw [List.take_add_one, List.foldl_append, hf, List.getD_eq_getElem?_getD, List.getElem?_eq_getElem h]; rfl
theorem may_size {s : Int} {l : List Int} (h : mayB s l = true) : 0 ≤ s ∧ s ≤ 4096 := by
  unfold mayB at h
  simp at h
  omega

end Go.Proofs.YtpnklpjjbpheeaaGreatDoor

/-
  The walks of the reference's Has, Bits, Ints; conditions: what is handed in reads as told.
-/
namespace Go.Proofs.YtpnklpjjbpheeaaGreatDoor
open Go.RowKit Go.Proofs.YtpnklpjjbpheeaaGreatDoorW.PrintWords

theorem half_bit (x m : Nat) : decide (((x / 2 ^ m : Nat) : Int) % 2 = 1) = x.testBit m := by
  rw [Nat.testBit_eq_decide_div_mod_eq]
  congr 1
  apply propext
  omega
theorem half_step (x k : Nat) : x / 2 ^ k / 2 = x / 2 ^ (k + 1) := by rw [Nat.div_div_eq_div_mul, Nat.pow_succ]

/-- the bits that are found up to i -/
def bitsTo (l : List Int) (i : Nat) : List Int := ((List.range i).filter (Bm.bitAt l)).map fun (j : Nat) => (j : Int)
theorem bitsTo_next (l : List Int) (i : Nat) : bitsTo l (i + 1) = if Bm.bitAt l i = true then bitsTo l i ++ [(i : Int)] else bitsTo l i := by
  unfold bitsTo
  rw [List.range_succ, List.filter_append, List.map_append]
  by_cases h : Bm.bitAt l i = true
  · rw [if_pos h]; simp [h]
  · rw [if_neg h]; simp [h]
theorem bitsTo_length (l : List Int) (i : Nat) : (bitsTo l i).length ≤ i := by
  unfold bitsTo
  rw [List.length_map]
  exact Nat.le_trans (List.length_filter_le _ _) (by simp)
theorem bitsTo_end (l : List Int) (n : Int) (i : Nat) (h1 : (i : Int) ≤ n ∨ i = 0) (h2 : i ≤ 64 * l.length) (h : ¬ ((i : Int) < n ∧ i < 64 * l.length)) : bitsTo l i = Bm.bitsL l n := by
  unfold bitsTo Bm.bitsL Bm.bitsN
  congr 1
  have : 64 * l.length = i + (64 * l.length - i) := by omega
  rw [this, List.range_add, List.filter_append]
  have e1 : (List.range i).filter (Bm.okBit l n) = (List.range i).filter (Bm.bitAt l) := by
    apply List.filter_congr
    intro j hj
    have := List.mem_range.1 hj
    unfold Bm.okBit
    rw [show decide ((j : Int) < n) = true from decide_eq_true (by omega), Bool.and_true]
  have e2 : ((List.range (64 * l.length - i)).map (i + ·)).filter (Bm.okBit l n) = [] := by
    rw [List.filter_eq_nil_iff]
    intro j hj
    obtain ⟨k, hk, rfl⟩ := List.mem_map.1 hj
    have := List.mem_range.1 hk
    unfold Bm.okBit
    rw [show decide (((i + k : Nat) : Int) < n) = false from decide_eq_false (by omega), Bool.and_false]
    decide
  rw [e1, e2, List.append_nil]

theorem ints_at (l : List Int) (k : Nat) (m : List Int) (hm : ¬ l.getD k 0 = m.getD k 0) : decide (l = m) = false := decide_eq_false (fun e => hm (by rw [e]))
end Go.Proofs.YtpnklpjjbpheeaaGreatDoor

/-
  The walks of the reference's Great, Size, Words, Ptr, May; conditions: the functions read as told.
-/
namespace Go.Proofs.YtpnklpjjbpheeaaGreatDoor
open Go.RowKit Go.Proofs.YtpnklpjjbpheeaaGreatDoorW.PrintWords

def greatL (l : List (Int × List Int)) : Bool := decide (120 < l.length) || l.any fun f => decide (40 < f.2.length)
def lSize (l : List (Int × List Int)) (f : Int) : Int := if 0 ≤ f ∧ f < l.length then (l.getD f.toNat dF).1 else -1
def lWords (l : List (Int × List Int)) (f : Int) : Int := if lSize l f < 0 then -1 else lSize l f + 2
def lPtr (l : List (Int × List Int)) (f i : Int) : Bool := decide (0 ≤ lSize l f) && Bm.hasL (l.getD f.toNat dF).2 i
theorem may_iff (s : Int) (l : List Int) : mayB s l = true ↔ 0 ≤ s ∧ s ≤ 1000 ∧ ∀ i : Nat, s ≤ i → i < 64 * l.length → Bm.bitAt l i = false := by
  have key : (Bm.bitsL l (64 * (l.length : Int))).length = (Bm.bitsL l s).length ↔ ∀ i : Nat, s ≤ i → i < 64 * l.length → Bm.bitAt l i = false := by
    have e1 : (Bm.bitsL l (64 * (l.length : Int))).length = ((List.range (64 * l.length)).filter (Bm.bitAt l)).length := by
      unfold Bm.bitsL Bm.bitsN
      rw [List.length_map]
      congr 1
      apply List.filter_congr
      intro j hj
      have := List.mem_range.1 hj
      unfold Bm.okBit
      rw [show decide ((j : Int) < 64 * (l.length : Int)) = true from decide_eq_true (by omega), Bool.and_true]
    have e2 : (Bm.bitsL l s).length = (((List.range (64 * l.length)).filter (Bm.bitAt l)).filter (fun (j : Nat) => decide ((j : Int) < s))).length := by
      unfold Bm.bitsL Bm.bitsN
      rw [List.length_map, List.filter_filter]
      congr 1
      apply List.filter_congr
      intro j _
      unfold Bm.okBit
      rw [Bool.and_comm]
    rw [e1, e2, eq_comm, List.length_filter_eq_length_iff]
    constructor
    · intro h i h1 h2
      by_cases hb : Bm.bitAt l i = true
      · have := h i (List.mem_filter.2 ⟨List.mem_range.2 h2, hb⟩)
        simp at this
        omega
      · simpa using hb
    · intro h j hj
      obtain ⟨h1, h2⟩ := List.mem_filter.1 hj
      rw [decide_eq_true_eq]
      by_cases hs : s ≤ j
      · rw [h j hs (List.mem_range.1 h1)] at h2; cases h2
      · omega
  unfold mayB
  rw [Bool.and_eq_true, Bool.and_eq_true, decide_eq_true_eq, decide_eq_true_eq, decide_eq_true_eq, key, and_assoc]
end Go.Proofs.YtpnklpjjbpheeaaGreatDoor

/-
  The walk of the layer's awake; Fns of nil; what a table tells is what the reference tells.
-/
namespace Go.Proofs.YtpnklpjjbpheeaaGreatDoor
open Go.RowKit Go.Proofs.YtpnklpjjbpheeaaGreatDoorW.PrintWords

theorem TblAt.or {w : World} {p : Value} {ent : List (Int × (List Int × List Int))} (h : TblAt w p ent) : TblOr w p ent := Or.inr h
def lA : List (Int × List Int) := [(3, [2])]
theorem lA_ok : newOk lA = true := by decide +kernel
theorem lA_words : FnsOk lA := by
  intro f hf
  obtain rfl : f = (3, [2]) := by simpa [lA] using hf
  refine ⟨fun x hx => ?_, by decide, by decide, by decide⟩
  obtain rfl : x = 2 := by simpa using hx
  decide
theorem tA : tPtr (lA.map entryOf) 0 1 = true ∧ tPtr (lA.map entryOf) 0 0 = false ∧ tWords (lA.map entryOf) 0 = 5 := by decide +kernel
theorem entry_words {l : List (Int × List Int)} {e : Int × (List Int × List Int)} (h : e ∈ l.map entryOf) : Bm.Words e.2.1 := by
  obtain ⟨f, _, rfl⟩ := List.mem_map.1 h
  exact Bm.ofL_words _
theorem fnC_one {w : World} {ad : Addr} {s : Int} {A1 : Option Addr} {c1 : Nat} {m : List Int} (h0 : w.cell? (ad.add 0) = some (.int .i64 s)) (h1 : w.cell? (ad.add 1) = some (.slice A1 m.length c1)) (hc : m.length ≤ c1) (hr : ReadsInt w .u64 A1 m.length m) : FnC w (some ad) 1 [(s, m)] := by
  refine ⟨rfl, by decide, fun _ => ⟨ad, rfl, fun j p hj => ?_⟩⟩
  cases j with
  | zero =>
    obtain rfl : p = (s, m) := by simpa using hj.symm
    refine ⟨[.int .i64 s, .slice A1 m.length c1], rfl, ⟨A1, c1, rfl, hc, hr⟩, fun i u hu => ?_⟩
    cases i with
    | zero => obtain rfl : u = _ := by simpa using hu.symm
              simpa using h0
    | succ i => cases i with
      | zero => obtain rfl : u = _ := by simpa using hu.symm
                simpa using h1
      | succ i => simp at hu
  | succ j => simp at hj

end Go.Proofs.YtpnklpjjbpheeaaGreatDoor

/-
  Plain: what a table of functions that may be tells is what the reference tells of them. And Fns of nil.
-/
namespace Go.Proofs.YtpnklpjjbpheeaaGreatDoor
open Go.RowKit Go.Proofs.YtpnklpjjbpheeaaGreatDoorW.PrintWords

theorem newOk_may {l : List (Int × List Int)} (h : newOk l = true) : ∀ f ∈ l, mayB f.1 f.2 = true := by
  intro f hf
  unfold newOk mayAll at h
  rw [Bool.and_eq_true, Bool.and_eq_true, Bool.not_eq_true', List.any_eq_false] at h
  have := h.2 f hf
  simpa using this
theorem tHas_map (l : List (Int × List Int)) (f : Int) : tHas (l.map entryOf) f = (decide (0 ≤ f) && decide (f < l.length)) := by unfold tHas; rw [List.length_map]
theorem getD_map (l : List (Int × List Int)) (k : Nat) (h : k < l.length) : (l.map entryOf).getD k dE = entryOf (l.getD k dF) := by
  rw [List.getD_eq_getElem?_getD, List.getD_eq_getElem?_getD, List.getElem?_map, List.getElem?_eq_getElem h]; rfl
theorem tSize_map (l : List (Int × List Int)) (f : Int) : tSize (l.map entryOf) f = lSize l f := by
  unfold tSize lSize
  rw [tHas_map]
  by_cases h : 0 ≤ f ∧ f < l.length
  · rw [if_pos h, if_pos (by rw [decide_eq_true h.1, decide_eq_true h.2]; rfl), getD_map l _ (by omega)]; rfl
  · rw [if_neg h, if_neg (by rw [Bool.and_eq_true, decide_eq_true_eq, decide_eq_true_eq]; exact h)]
theorem lSize_in {l : List (Int × List Int)} (h : newOk l = true) (f : Int) : -1 ≤ lSize l f ∧ lSize l f ≤ 1000 ∧ (0 ≤ f → f < l.length → 0 ≤ lSize l f) := by
  unfold lSize
  by_cases hf : 0 ≤ f ∧ f < l.length
  · rw [if_pos hf]
    have := (may_iff _ _).1 (newOk_may h (l.getD f.toNat dF) (getD_mem _ (by omega)))
    omega
  · rw [if_neg hf]; omega
theorem tWords_map {l : List (Int × List Int)} (h : newOk l = true) (f : Int) : tWords (l.map entryOf) f = lWords l f := by
  have hs := tSize_map l f
  have hi := lSize_in h f
  unfold lWords
  unfold tWords
  unfold tSize at hs
  rw [tHas_map] at hs ⊢
  by_cases hf : 0 ≤ f ∧ f < l.length
  · have e : (decide (0 ≤ f) && decide (f < (l.length : Int))) = true := by rw [decide_eq_true hf.1, decide_eq_true hf.2]; rfl
    rw [if_pos e] at hs ⊢
    rw [hs, if_neg (by have := hi.2.2 hf.1 hf.2; omega)]
  · have e : ¬ (decide (0 ≤ f) && decide (f < (l.length : Int))) = true := by rw [Bool.and_eq_true, decide_eq_true_eq, decide_eq_true_eq]; exact hf
    rw [if_neg e] at hs ⊢
    rw [← hs, if_pos (by decide)]
theorem mem_bitsL (l : List Int) (n : Int) (k : Nat) : (k : Int) ∈ Bm.bitsL l n ↔ k < 64 * l.length ∧ Bm.bitAt l k = true ∧ (k : Int) < n := by
  unfold Bm.bitsL Bm.bitsN
  rw [List.mem_map]
  constructor
  · rintro ⟨j, hj, e⟩
    obtain rfl : j = k := by omega
    obtain ⟨h1, h2⟩ := List.mem_filter.1 hj
    unfold Bm.okBit at h2
    rw [Bool.and_eq_true, decide_eq_true_eq] at h2
    exact ⟨List.mem_range.1 h1, h2.1, h2.2⟩
  · rintro ⟨h1, h2, h3⟩
    exact ⟨k, List.mem_filter.2 ⟨List.mem_range.2 h1, by unfold Bm.okBit; rw [h2, decide_eq_true h3]; rfl⟩, rfl⟩
theorem bitAt_same {s : Int} {m : List Int} (h : mayB s m = true) (k : Nat) : Bm.bitAt (Bm.ofL (Bm.bitsL m s)) k = Bm.bitAt m k := by
  obtain ⟨h0, h1, h2⟩ := (may_iff s m).1 h
  rw [Bm.bitAt_of]
  have hm := mem_bitsL m s k
  by_cases hb : Bm.bitAt m k = true
  · have hk : k < 64 * m.length := by
      by_cases hk : k < 64 * m.length
      · exact hk
      · rw [Bm.bitAt_out m k (by omega)] at hb; cases hb
    have hs : (k : Int) < s := by
      by_cases hs : (k : Int) < s
      · exact hs
      · rw [h2 k (by omega) hk] at hb; cases hb
    rw [hb, decide_eq_true (show k < 4096 by omega), Bool.true_and, List.contains_iff_mem.2 (hm.2 ⟨hk, hb, hs⟩)]
  · have hn : ¬ (k : Int) ∈ Bm.bitsL m s := fun hx => hb (hm.1 hx).2.1
    have hb' : Bm.bitAt m k = false := by simpa using hb
    have hc : (Bm.bitsL m s).contains (k : Int) = false := by
      cases e : (Bm.bitsL m s).contains (k : Int) with
      | false => rfl
      | true => exact absurd (List.contains_iff_mem.1 e) hn
    rw [hb', hc, Bool.and_false]
theorem hasL_same {s : Int} {m : List Int} (h : mayB s m = true) (i : Int) : Bm.hasL (Bm.ofL (Bm.bitsL m s)) i = Bm.hasL m i := by
  unfold Bm.hasL
  rw [bitAt_same h]
theorem tPtr_map {l : List (Int × List Int)} (h : newOk l = true) (f i : Int) : tPtr (l.map entryOf) f i = lPtr l f i := by
  unfold tPtr lPtr
  rw [tHas_map]
  by_cases hf : 0 ≤ f ∧ f < l.length
  · rw [decide_eq_true hf.1, decide_eq_true hf.2, decide_eq_true ((lSize_in h f).2.2 hf.1 hf.2), getD_map l _ (by omega), Bool.true_and, Bool.true_and, Bool.true_and]
    exact hasL_same (newOk_may h _ (getD_mem _ (by omega))) i
  · have e : (decide (0 ≤ f) && decide (f < (l.length : Int))) = false := by
      cases q : (decide (0 ≤ f) && decide (f < (l.length : Int))) with
      | false => rfl
      | true => rw [Bool.and_eq_true, decide_eq_true_eq, decide_eq_true_eq] at q; exact absurd q hf
    rw [e, show lSize l f = -1 from if_neg hf]; rfl
def lBits (l : List (Int × List Int)) (f : Int) : List Int := if 0 ≤ f ∧ f < l.length then Bm.bitsL (l.getD f.toNat dF).2 (l.getD f.toNat dF).1 else []
theorem tPtrs_map (l : List (Int × List Int)) (f : Int) : tPtrs (l.map entryOf) f = lBits l f := by
  unfold tPtrs lBits
  rw [tHas_map]
  by_cases h : 0 ≤ f ∧ f < l.length
  · rw [if_pos h, if_pos (by rw [decide_eq_true h.1, decide_eq_true h.2]; rfl), getD_map l _ (by omega)]; rfl
  · rw [if_neg h, if_neg (by rw [Bool.and_eq_true, decide_eq_true_eq, decide_eq_true_eq]; exact h)]

end Go.Proofs.YtpnklpjjbpheeaaGreatDoor

/-
  The walks of the reference's May, All, and of both Sames where they tell true; conditions: what is handed in reads as told.
-/
namespace Go.Proofs.YtpnklpjjbpheeaaGreatDoor
open Go.RowKit Go.Proofs.YtpnklpjjbpheeaaGreatDoorW.PrintWords

theorem may_false {s : Int} {l : List Int} (h : ¬ (0 ≤ s ∧ s ≤ 1000)) : mayB s l = false := by
  cases e : mayB s l with
  | false => rfl
  | true => have := (may_iff s l).1 e; exact absurd ⟨this.1, this.2.1⟩ h
theorem mayAll_iff (l : List (Int × List Int)) : mayAll l = true ↔ ∀ f ∈ l, mayB f.1 f.2 = true := by
  unfold mayAll
  rw [Bool.not_eq_true', List.any_eq_false]
  constructor
  · intro h f hf; have := h f hf; simpa using this
  · intro h f hf; rw [h f hf]; decide
end Go.Proofs.YtpnklpjjbpheeaaGreatDoor
