/-
  The walk of the law FnsIs; conditions: the functions read as told, the table of deBruijn stands.
-/
import Derived.Test.YtcepafllgjnngaaDoorBq
import Derived.Test.YtcepafllgjnngaaDoorBu
import Derived.Test.YtcepafllgjnngaaDoorBv
namespace Go.Proofs.YtcepafllgjnngaaDoor
open Go.RowKit Go.Proofs.YtcepafllgjnngaaDoorW.PrintWords

theorem mayAll_next {l : List (Int × List Int)} {k : Nat} {f : Int × List Int} (h : k < l.length) (hf : f = l.getD k dF) : mayAll (l.take (k + 1)) = (mayAll (l.take k) && mayB f.1 f.2) := by
  unfold mayAll
  rw [List.take_add_one, List.any_append, hf, List.getD_eq_getElem?_getD, List.getElem?_eq_getElem h]
  simp
theorem words_ext {a b : List Int} (ha : Bm.Words a) (hb : Bm.Words b) (h : ∀ k, Bm.bitAt a k = Bm.bitAt b k) (k : Nat) : a.getD k 0 = b.getD k 0 := by
  have w (m : List Int) (hm : Bm.Words m) : 0 ≤ m.getD k 0 ∧ m.getD k 0 < 18446744073709551616 := by
    rcases Nat.lt_or_ge k m.length with h | h
    · exact hm _ (getD_mem 0 h)
    · rw [getD_past m k (by omega)]; omega
  have h1 := w a ha
  have h2 := w b hb
  have e : (a.getD k 0).toNat = (b.getD k 0).toNat := by
    apply Nat.eq_of_testBit_eq
    intro j
    rcases Nat.lt_or_ge j 64 with hj | hj
    · have := h (64 * k + j)
      unfold Bm.bitAt at this
      rwa [show (64 * k + j) / 64 = k by omega, show (64 * k + j) % 64 = j by omega] at this
    · have hp : 2 ^ 64 ≤ 2 ^ j := Nat.pow_le_pow_right (by decide) hj
      rw [Nat.testBit_lt_two_pow (by omega), Nat.testBit_lt_two_pow (by omega)]
  omega
theorem table_same {l : List (Int × List Int)} (h : newOk l = true) (hI : FnsIn l) : ((l.map entryOf).map fnOf).length = l.length ∧ ∀ k, k < ((l.map entryOf).map fnOf).length → (((l.map entryOf).map fnOf).getD k dF).1 = (l.getD k dF).1 ∧ ∀ j, (((l.map entryOf).map fnOf).getD k dF).2.getD j 0 = (l.getD k dF).2.getD j 0 := by
  have hl : ((l.map entryOf).map fnOf).length = l.length := by rw [List.length_map, List.length_map]
  refine ⟨hl, fun k hk => ?_⟩
  rw [hl] at hk
  have e : ((l.map entryOf).map fnOf).getD k dF = fnOf (entryOf (l.getD k dF)) := by
    rw [List.getD_eq_getElem?_getD, List.getD_eq_getElem?_getD, List.getElem?_map, List.getElem?_map, List.getElem?_eq_getElem hk]; rfl
  rw [e]
  refine ⟨rfl, fun j => ?_⟩
  exact words_ext (Bm.ofL_words _) (hI _ (getD_mem dF hk)).1 (fun i => bitAt_same (newOk_may h _ (getD_mem dF hk)) i) j

end Go.Proofs.YtcepafllgjnngaaDoor
