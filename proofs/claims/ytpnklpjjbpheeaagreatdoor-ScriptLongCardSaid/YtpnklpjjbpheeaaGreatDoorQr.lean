/-
  The walks of float.Below; conditions: the words read as told.
-/
import Derived.Test.YtpnklpjjbpheeaaGreatDoorQp
namespace Go.Proofs.YtpnklpjjbpheeaaGreatDoor
open Go.RowKit Go.Proofs.YtpnklpjjbpheeaaGreatDoorW.PrintWords
open Go.Proofs.Fl Go.Proofs.YtpnklpjjbpheeaaGreatDoor.Flt

end Go.Proofs.YtpnklpjjbpheeaaGreatDoor
