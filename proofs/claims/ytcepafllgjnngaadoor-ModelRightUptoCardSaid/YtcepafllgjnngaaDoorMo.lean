/-
  The walk of the law WalkTop where the table may be; conditions: what is handed in reads as told, the table of deBruijn stands.
-/
import Derived.Test.YtcepafllgjnngaaDoorMn
namespace Go.Proofs.YtcepafllgjnngaaDoor
open Go.RowKit Go.Proofs.YtcepafllgjnngaaDoorW.PrintWords

end Go.Proofs.YtcepafllgjnngaaDoor
