/-
  The walk of the reference's Step where a number isn't plain or the value may not be; conditions: none.
-/
import Derived.Test.YtpnklpjjbpheeaaGreatDoorZk
import Derived.Lib.ConvBytes
import Derived.Laws.BytesArg
import Derived.Laws.Rows
import Derived.Deep.RegionHeld3
namespace Go.Proofs.YtpnklpjjbpheeaaGreatDoor
open Go.RowKit Go.Proofs.YtpnklpjjbpheeaaGreatDoorW.PrintWords
open Go.Proofs.Fl Go.Proofs.YtpnklpjjbpheeaaGreatDoor.Flt

/-- only the fields of the kind are set -/
def restB (x : St) (n : Nat) : Bool :=
  (decide (x.k = 1) || decide (x.k = 3) || decide (x.f = 0)) && (!(decide (x.k = 1) || decide (x.k = 11) || decide (x.k = 12) || decide (x.k = 13)) || decide (x.g = 0)) && (decide (x.k = 9) || decide (n = 0) && decide (x.o = 0)) &&
  ((decide (x.k = 5) || decide (x.k = 6) || decide (x.k = 7) || decide (x.k = 8) || decide (x.k = 9)) || decide (x.d = 0)) && ((decide (x.k = 5) || decide (x.k = 6) || decide (x.k = 7) || decide (x.k = 8)) || decide (x.s = 0)) &&
  ((decide (x.k = 5) || decide (x.k = 8)) || decide (x.v0 = 0) && decide (x.v1 = 0) && decide (x.v2 = 0) && decide (x.v3 = 0)) && (!(decide (x.k = 8)) || decide (x.v0 = 1)) && (!(decide (x.k = 9)) || decide (n = 3) && decide (1 ≤ x.o) && decide (x.o ≤ 10))
def headB (x : St) : Bool := okK x.k && plain7 x && Sl.mayV x.v
def rstepB (x : St) (l : List Int) : Bool := headB x && !(l.any plN) && restB x l.length
end Go.Proofs.YtpnklpjjbpheeaaGreatDoor
