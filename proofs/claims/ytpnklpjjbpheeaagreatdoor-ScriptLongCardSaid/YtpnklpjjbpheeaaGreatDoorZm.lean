/-
  The walk of the reference's Step where its numbers are plain and its value may be; conditions: the row of slots reads as told.
-/
import Derived.Test.YtpnklpjjbpheeaaGreatDoorZl
import Derived.Lib.ConvBytes
import Derived.Laws.BytesArg
import Derived.Laws.Rows
import Derived.Deep.RegionHeld3
namespace Go.Proofs.YtpnklpjjbpheeaaGreatDoor
open Go.RowKit Go.Proofs.YtpnklpjjbpheeaaGreatDoorW.PrintWords
open Go.Proofs.Fl Go.Proofs.YtpnklpjjbpheeaaGreatDoor.Flt

end Go.Proofs.YtpnklpjjbpheeaaGreatDoor
