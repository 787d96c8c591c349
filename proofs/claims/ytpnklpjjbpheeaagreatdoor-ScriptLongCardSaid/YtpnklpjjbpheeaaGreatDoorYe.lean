/-
  The law FloatIs; conditions: bits below 2^64, the table of deBruijn stands.
-/
import Derived.Test.YtpnklpjjbpheeaaGreatDoorYa
import Derived.Test.YtpnklpjjbpheeaaGreatDoorYd
import Derived.Test.YtpnklpjjbpheeaaGreatDoorEa
namespace Go.Proofs.YtpnklpjjbpheeaaGreatDoor
open Go.RowKit Go.Proofs.YtpnklpjjbpheeaaGreatDoorW.PrintWords
open Go.Proofs.Fl Go.Proofs.YtpnklpjjbpheeaaGreatDoor.Flt

theorem tab_below {w w1 : World} (hT : Tab w) (hb : Below w.heap.size w w1) : Tab w1 := hT.below hb
end Go.Proofs.YtpnklpjjbpheeaaGreatDoor
