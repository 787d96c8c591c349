/-
  The walk of the law WalkTop; conditions: what is handed in reads as told, the table of deBruijn stands.
-/
import Derived.Test.YtcepafllgjnngaaDoorMm
namespace Go.Proofs.YtcepafllgjnngaaDoor
open Go.RowKit Go.Proofs.YtcepafllgjnngaaDoorW.PrintWords

end Go.Proofs.YtcepafllgjnngaaDoor
