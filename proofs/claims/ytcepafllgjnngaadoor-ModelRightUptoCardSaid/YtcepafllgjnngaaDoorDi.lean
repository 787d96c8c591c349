/-
  The walk of the frames' made; conditions: what is handed in reads as told.
-/
import Derived.Test.YtcepafllgjnngaaDoorK2
import Derived.Test.YtcepafllgjnngaaDoorK1
namespace Go.Proofs.YtcepafllgjnngaaDoor
open Go.RowKit Go.Proofs.YtcepafllgjnngaaDoorW.PrintWords

/-- an arena's words where all are noughts -/
def zw : List Int := List.replicate (64 * 4) 0
theorem zw_len : zw.length = 256 := by decide +kernel
end Go.Proofs.YtcepafllgjnngaaDoor
