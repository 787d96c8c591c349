/-
  The law ModelBack; conditions: the table of deBruijn stands; the arguments read as told.
-/
import Derived.Test.YtcepafllgjnngaaDoorPx
import Derived.Test.YtcepafllgjnngaaDoorPk
import Derived.Test.YtcepafllgjnngaaDoorPn
import Derived.Test.YtcepafllgjnngaaDoorK8
import Derived.Test.YtcepafllgjnngaaDoorEc
namespace Go.Proofs.YtcepafllgjnngaaDoor
open Go.RowKit Go.Proofs.YtcepafllgjnngaaDoorW.PrintWords

theorem rightP_same {t : List (Int × List Int)} (hn : newOk t = true) {l : List Af} (h : RightP (lSize t) (lPtr t) l) : RightP (tSize (t.map entryOf)) (tPtr (t.map entryOf)) l := by
  have h1 : tSize (t.map entryOf) = lSize t := funext (tSize_map t)
  have h2 : tPtr (t.map entryOf) = lPtr t := funext fun f => funext (tPtr_map hn f)
  rw [h1, h2]; exact h
end Go.Proofs.YtcepafllgjnngaaDoor
