/-
  The walk of the law FnsTells; conditions: the functions read as told, the table of deBruijn stands.
-/
import Derived.Test.YtpnklpjjbpheeaaGreatDoorK1
import Derived.Deep.RegionHeld3
namespace Go.Proofs.YtpnklpjjbpheeaaGreatDoor
open Go.RowKit Go.Proofs.YtpnklpjjbpheeaaGreatDoorW.PrintWords

/-- what the machine's types say of a row of functions -/
def FnsIn (l : List (Int × List Int)) : Prop := ∀ f ∈ l, Bm.Words f.2 ∧ -9223372036854775808 ≤ f.1 ∧ f.1 ≤ 9223372036854775807
theorem FnsIn.ok {l : List (Int × List Int)} (h : FnsIn l) (hg : greatL l = false) : FnsOk l := by
  intro f hf
  have h1 := h f hf
  unfold greatL at hg
  rw [Bool.or_eq_false_iff, List.any_eq_false] at hg
  have := hg.2 f hf
  simp at this
  exact ⟨h1.1, by omega, h1.2⟩
theorem FnsIn.len {l : List (Int × List Int)} (hg : greatL l = false) {f : Int × List Int} (hf : f ∈ l) : f.2.length ≤ 40 := by
  unfold greatL at hg
  rw [Bool.or_eq_false_iff, List.any_eq_false] at hg
  have := hg.2 f hf
  simpa using this
theorem t_nil (f i : Int) : tSize [] f = -1 ∧ tWords [] f = -1 ∧ tPtr [] f i = false ∧ tPtrs [] f = [] := by
  have h : tHas [] f = false := by
    unfold tHas
    by_cases h0 : 0 ≤ f
    · rw [decide_eq_false (show ¬ f < ((([] : List (Int × (List Int × List Int))).length : Nat) : Int) by simp; omega), Bool.and_false]
    · rw [decide_eq_false h0, Bool.false_and]
  refine ⟨?_, ?_, ?_, ?_⟩
  · unfold tSize; rw [h]; rfl
  · unfold tWords; rw [h]; rfl
  · unfold tPtr; rw [h]; rfl
  · unfold tPtrs; rw [h]; rfl

end Go.Proofs.YtpnklpjjbpheeaaGreatDoor
