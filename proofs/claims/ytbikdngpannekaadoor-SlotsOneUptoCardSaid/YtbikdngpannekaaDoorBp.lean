/-
  Plain: what a table of functions that may be tells is what the reference tells of them. And Fns of nil.
-/
import Derived.Test.YtbikdngpannekaaDoorBo
namespace Go.Proofs.YtbikdngpannekaaDoor
open Go.RowKit Go.Proofs.YtbikdngpannekaaDoorW.PrintWords

theorem newOk_may {l : List (Int × List Int)} (h : newOk l = true) : ∀ f ∈ l, mayB f.1 f.2 = true := by
  intro f hf
  unfold newOk mayAll at h
  rw [Bool.and_eq_true, Bool.and_eq_true, Bool.not_eq_true', List.any_eq_false] at h
  have := h.2 f hf
  simpa using this
theorem tHas_map (l : List (Int × List Int)) (f : Int) : tHas (l.map entryOf) f = (decide (0 ≤ f) && decide (f < l.length)) := by unfold tHas; rw [List.length_map]
theorem getD_map (l : List (Int × List Int)) (k : Nat) (h : k < l.length) : (l.map entryOf).getD k dE = entryOf (l.getD k dF) := by
  rw [List.getD_eq_getElem?_getD, List.getD_eq_getElem?_getD, List.getElem?_map, List.getElem?_eq_getElem h]; rfl
theorem tSize_map (l : List (Int × List Int)) (f : Int) : tSize (l.map entryOf) f = lSize l f := by
  unfold tSize lSize
  rw [tHas_map]
  by_cases h : 0 ≤ f ∧ f < l.length
  · rw [if_pos h, if_pos (by rw [decide_eq_true h.1, decide_eq_true h.2]; rfl), getD_map l _ (by omega)]; rfl
  · rw [if_neg h, if_neg (by rw [Bool.and_eq_true, decide_eq_true_eq, decide_eq_true_eq]; exact h)]
theorem lSize_in {l : List (Int × List Int)} (h : newOk l = true) (f : Int) : -1 ≤ lSize l f ∧ lSize l f ≤ 1000 ∧ (0 ≤ f → f < l.length → 0 ≤ lSize l f) := by
  unfold lSize
  by_cases hf : 0 ≤ f ∧ f < l.length
  · rw [if_pos hf]
    have := (may_iff _ _).1 (newOk_may h (l.getD f.toNat dF) (getD_mem _ (by omega)))
    omega
  · rw [if_neg hf]; omega
theorem tWords_map {l : List (Int × List Int)} (h : newOk l = true) (f : Int) : tWords (l.map entryOf) f = lWords l f := by
  have hs := tSize_map l f
  have hi := lSize_in h f
  unfold lWords
  unfold tWords
  unfold tSize at hs
  rw [tHas_map] at hs ⊢
  by_cases hf : 0 ≤ f ∧ f < l.length
  · have e : (decide (0 ≤ f) && decide (f < (l.length : Int))) = true := by rw [decide_eq_true hf.1, decide_eq_true hf.2]; rfl
    rw [if_pos e] at hs ⊢
    rw [hs, if_neg (by have := hi.2.2 hf.1 hf.2; omega)]
  · have e : ¬ (decide (0 ≤ f) && decide (f < (l.length : Int))) = true := by rw [Bool.and_eq_true, decide_eq_true_eq, decide_eq_true_eq]; exact hf
    rw [if_neg e] at hs ⊢
    rw [← hs, if_pos (by decide)]
theorem mem_bitsL (l : List Int) (n : Int) (k : Nat) : (k : Int) ∈ Bm.bitsL l n ↔ k < 64 * l.length ∧ Bm.bitAt l k = true ∧ (k : Int) < n := by
  unfold Bm.bitsL Bm.bitsN
  rw [List.mem_map]
  constructor
  · rintro ⟨j, hj, e⟩
    obtain rfl : j = k := by omega
    obtain ⟨h1, h2⟩ := List.mem_filter.1 hj
    unfold Bm.okBit at h2
    rw [Bool.and_eq_true, decide_eq_true_eq] at h2
    exact ⟨List.mem_range.1 h1, h2.1, h2.2⟩
  · rintro ⟨h1, h2, h3⟩
    exact ⟨k, List.mem_filter.2 ⟨List.mem_range.2 h1, by unfold Bm.okBit; rw [h2, decide_eq_true h3]; rfl⟩, rfl⟩
theorem bitAt_same {s : Int} {m : List Int} (h : mayB s m = true) (k : Nat) : Bm.bitAt (Bm.ofL (Bm.bitsL m s)) k = Bm.bitAt m k := by
  obtain ⟨h0, h1, h2⟩ := (may_iff s m).1 h
  rw [Bm.bitAt_of]
  have hm := mem_bitsL m s k
  by_cases hb : Bm.bitAt m k = true
  · have hk : k < 64 * m.length := by
      by_cases hk : k < 64 * m.length
      · exact hk
      · rw [Bm.bitAt_out m k (by omega)] at hb; cases hb
    have hs : (k : Int) < s := by
      by_cases hs : (k : Int) < s
      · exact hs
      · rw [h2 k (by omega) hk] at hb; cases hb
    rw [hb, decide_eq_true (show k < 4096 by omega), Bool.true_and, List.contains_iff_mem.2 (hm.2 ⟨hk, hb, hs⟩)]
  · have hn : ¬ (k : Int) ∈ Bm.bitsL m s := fun hx => hb (hm.1 hx).2.1
    have hb' : Bm.bitAt m k = false := by simpa using hb
    have hc : (Bm.bitsL m s).contains (k : Int) = false := by
      cases e : (Bm.bitsL m s).contains (k : Int) with
      | false => rfl
      | true => exact absurd (List.contains_iff_mem.1 e) hn
    rw [hb', hc, Bool.and_false]
theorem hasL_same {s : Int} {m : List Int} (h : mayB s m = true) (i : Int) : Bm.hasL (Bm.ofL (Bm.bitsL m s)) i = Bm.hasL m i := by
  unfold Bm.hasL
  rw [bitAt_same h]
theorem tPtr_map {l : List (Int × List Int)} (h : newOk l = true) (f i : Int) : tPtr (l.map entryOf) f i = lPtr l f i := by
  unfold tPtr lPtr
  rw [tHas_map]
  by_cases hf : 0 ≤ f ∧ f < l.length
  · rw [decide_eq_true hf.1, decide_eq_true hf.2, decide_eq_true ((lSize_in h f).2.2 hf.1 hf.2), getD_map l _ (by omega), Bool.true_and, Bool.true_and, Bool.true_and]
    exact hasL_same (newOk_may h _ (getD_mem _ (by omega))) i
  · have e : (decide (0 ≤ f) && decide (f < (l.length : Int))) = false := by
      cases q : (decide (0 ≤ f) && decide (f < (l.length : Int))) with
      | false => rfl
      | true => rw [Bool.and_eq_true, decide_eq_true_eq, decide_eq_true_eq] at q; exact absurd q hf
    rw [e, show lSize l f = -1 from if_neg hf]; rfl
def lBits (l : List (Int × List Int)) (f : Int) : List Int := if 0 ≤ f ∧ f < l.length then Bm.bitsL (l.getD f.toNat dF).2 (l.getD f.toNat dF).1 else []
theorem tPtrs_map (l : List (Int × List Int)) (f : Int) : tPtrs (l.map entryOf) f = lBits l f := by
  unfold tPtrs lBits
  rw [tHas_map]
  by_cases h : 0 ≤ f ∧ f < l.length
  · rw [if_pos h, if_pos (by rw [decide_eq_true h.1, decide_eq_true h.2]; rfl), getD_map l _ (by omega)]; rfl
  · rw [if_neg h, if_neg (by rw [Bool.and_eq_true, decide_eq_true_eq, decide_eq_true_eq]; exact h)]

end Go.Proofs.YtbikdngpannekaaDoor
