/-
  The walk of frame.Push where it does not push, the words behind a push; conditions: the arena and the table read as told.
-/
import Derived.Test.YtcepafllgjnngaaDoorK2
namespace Go.Proofs.YtcepafllgjnngaaDoor
open Go.RowKit Go.Proofs.YtcepafllgjnngaaDoorW.PrintWords

theorem putW_get (ws : List Int) (a : Nat) (l : List Int) (i : Nat) (ha : a ≤ ws.length) : (putW ws a l).getD i 0 = if a ≤ i ∧ i < a + l.length then l.getD (i - a) 0 else ws.getD i 0 := by
  unfold putW
  simp only [List.getD_eq_getElem?_getD, List.getElem?_append, List.length_take, Nat.min_eq_left ha, List.getElem?_take, List.getElem?_drop]
  by_cases h1 : i < a
  · rw [if_pos h1, if_pos h1, if_neg (by omega)]
  · rw [if_neg h1]
    by_cases h2 : i - a < l.length
    · rw [if_pos h2, if_pos (by omega)]
    · rw [if_neg h2, if_neg (by omega)]
      congr 2; omega
theorem pushW_get (ws : List Int) (base n : Nat) (link f : Int) (i : Nat) (hb : base + n ≤ ws.length) (h2 : 2 ≤ n) (hl : -1 ≤ link) : (pushW ws base n link f).getD i 0 = if i = base + 1 then f + 1 else if i = base then link + 1 else if base ≤ i ∧ i < base + n then 0 else ws.getD i 0 := by
  have hlw : linkW link = link + 1 := by unfold linkW; rw [if_neg (by omega)]
  unfold pushW
  rw [putW_get _ _ _ _ (by rw [putW_length _ _ _ (by rw [List.length_replicate]; omega)]; omega), putW_get _ _ _ _ (by omega), List.length_replicate, hlw]
  by_cases h1 : i = base + 1
  · subst h1
    rw [if_pos rfl, if_pos (by simp)]
    rw [show base + 1 - base = 1 by omega]; rfl
  · rw [if_neg h1]
    by_cases h0 : i = base
    · subst h0
      rw [if_pos rfl, if_pos (by simp)]
      rw [show i - i = 0 by omega]; rfl
    · rw [if_neg h0, if_neg (by simp; omega)]
      by_cases h3 : base ≤ i ∧ i < base + n
      · rw [if_pos h3, if_pos h3, List.getD_eq_getElem?_getD, List.getElem?_replicate]
        rw [if_pos (by omega)]; rfl
      · rw [if_neg h3, if_neg h3]
theorem pushW_length (ws : List Int) (base n : Nat) (link f : Int) (hb : base + n ≤ ws.length) (h2 : 2 ≤ n) : (pushW ws base n link f).length = ws.length := by
  unfold pushW
  have h := putW_length ws base (List.replicate n 0) (by rw [List.length_replicate]; omega)
  rw [putW_length _ _ _ (by rw [h]; simp; omega), h]
end Go.Proofs.YtcepafllgjnngaaDoor
