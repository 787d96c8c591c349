/-
  The walk of the law SlotsFind; conditions: what is handed in reads as told and is small, the table of deBruijn stands.
-/
import Derived.Test.YtcepafllgjnngaaDoorK2
import Derived.Test.YtcepafllgjnngaaDoorEb
namespace Go.Proofs.YtcepafllgjnngaaDoor
open Go.RowKit Go.Proofs.YtcepafllgjnngaaDoorW.PrintWords

theorem szFun {t : List (Int × List Int)} : tSize (t.map entryOf) = lSize t := funext (tSize_map t)
theorem entIn_of {t : List (Int × List Int)} (h : newOk t = true) : EntIn (t.map entryOf) := by
  intro e he
  obtain ⟨f, hf, rfl⟩ := List.mem_map.1 he
  have := (may_iff f.1 f.2).1 (newOk_may h f hf)
  exact ⟨this.1, this.2.1⟩
theorem lSize_rng {t : List (Int × List Int)} (h : newOk t = true) : ∀ f, -1 ≤ lSize t f ∧ lSize t f ≤ 1000 := fun f => ⟨(lSize_in h f).1, (lSize_in h f).2.1⟩

end Go.Proofs.YtcepafllgjnngaaDoor
