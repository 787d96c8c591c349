/-
  The walk of the walks' awake; conditions: the table of deBruijn stands.
-/
import Derived.Test.YtcepafllgjnngaaDoorK3
import Derived.Test.YtcepafllgjnngaaDoorK2
namespace Go.Proofs.YtcepafllgjnngaaDoor
open Go.RowKit Go.Proofs.YtcepafllgjnngaaDoorW.PrintWords

def lZ : List (Int × List Int) := [(0, [])]
theorem lZ_ok : newOk lZ = true := by decide +kernel
theorem lZ_words : FnsOk lZ := by
  intro f hf
  obtain rfl : f = (0, []) := by simpa [lZ] using hf
  exact ⟨(fun x hx => by cases hx), by decide, by decide, by decide⟩
theorem eZ_in : EntIn (lZ.map entryOf) := by
  intro e he
  obtain rfl : e = entryOf (0, []) := by simpa [lZ] using he
  decide +kernel
theorem f15 (g b : Nat) (p : Value) (w : World) (h : ArB w g b (List.replicate (64 * 4) 0)) (ht : TblAt w p (lZ.map entryOf)) : Calls Tryd.prog 31 #[.pointer (some ⟨g, 0, none⟩), p, .agg #[.int .i64 0, .int .i64 16, .int .i64 16]] w fun e w' => ∃ A c, e = .returned (.tuple #[.slice A 0 c, .int .i64 0]) ∧ Below w.heap.size w w' := by
  have := frames_any g b _ p (lZ.map entryOf) 0 16 16 w h ht.or eZ_in (by decide +kernel) (by decide) (by decide +kernel)
  refine this.mono ?_
  rintro e w' ⟨hb, ⟨l, A, c, hl, rfl, _⟩ | ⟨hl, _⟩⟩
  · rw [Wk.walk_end (by decide)] at hl
    injection hl with hl
    subst hl
    exact ⟨A, c, rfl, hb⟩
  · rw [Wk.walk_end (by decide)] at hl
    cases hl
end Go.Proofs.YtcepafllgjnngaaDoor
