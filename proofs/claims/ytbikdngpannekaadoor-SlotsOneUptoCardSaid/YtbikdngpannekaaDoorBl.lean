/-
  The walks of fns.Least, and of the layer's awake; conditions: the functions read as told.
-/
import Derived.Test.YtbikdngpannekaaDoorBk
namespace Go.Proofs.YtbikdngpannekaaDoor
open Go.RowKit Go.Proofs.YtbikdngpannekaaDoorW.PrintWords

def leastL (l : List (Int × List Int)) : Int := l.foldl (fun n f => if mayB f.1 f.2 = true then max n (f.1 + 2) else n) 0
theorem least_next {l : List (Int × List Int)} {k : Nat} {f : Int × List Int} (h : k < l.length) (hf : f = l.getD k dF) : leastL (l.take (k + 1)) = if mayB f.1 f.2 = true then max (leastL (l.take k)) (f.1 + 2) else leastL (l.take k) := by
  unfold leastL
  rw [List.take_add_one, List.foldl_append, hf, List.getD_eq_getElem?_getD, List.getElem?_eq_getElem h]; rfl
theorem may_size {s : Int} {l : List Int} (h : mayB s l = true) : 0 ≤ s ∧ s ≤ 4096 := by
  unfold mayB at h
  simp at h
  omega

end Go.Proofs.YtbikdngpannekaaDoor
