/-
  The law FloatIs; conditions: bits below 2^64, the table of deBruijn stands.
-/
import Derived.Test.YtpnklpjjbpheeaaDoorYa
import Derived.Test.YtpnklpjjbpheeaaDoorYd
import Derived.Test.YtpnklpjjbpheeaaDoorEa
namespace Go.Proofs.YtpnklpjjbpheeaaDoor
open Go.RowKit Go.Proofs.YtpnklpjjbpheeaaDoorW.PrintWords
open Go.Proofs.Fl Go.Proofs.YtpnklpjjbpheeaaDoor.Flt

theorem tab_below {w w1 : World} (hT : Tab w) (hb : Below w.heap.size w w1) : Tab w1 := hT.below hb
end Go.Proofs.YtpnklpjjbpheeaaDoor
