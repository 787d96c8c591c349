/-
  The walk of float.Class; conditions: bits below 2^64.
-/
import Derived.Test.YtpnklpjjbpheeaaGreatDoorQr
import Derived.Test.YtpnklpjjbpheeaaGreatDoorQi
import Derived.Test.YtpnklpjjbpheeaaGreatDoorY1
namespace Go.Proofs.YtpnklpjjbpheeaaGreatDoor
open Go.RowKit Go.Proofs.YtpnklpjjbpheeaaGreatDoorW.PrintWords
open Go.Proofs.Fl Go.Proofs.YtpnklpjjbpheeaaGreatDoor.Flt

end Go.Proofs.YtpnklpjjbpheeaaGreatDoor
