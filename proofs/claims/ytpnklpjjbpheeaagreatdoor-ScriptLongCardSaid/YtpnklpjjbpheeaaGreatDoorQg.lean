/-
  The walk of the reference's whole.
-/
import Derived.Test.YtpnklpjjbpheeaaGreatDoorQd
namespace Go.Proofs.YtpnklpjjbpheeaaGreatDoor.Flt
open Go.RowKit Go.Proofs.Fl
theorem cls_one {b : Nat} (h : FlPlain.cls b = 1) : (((FlPlain.cls b : Nat) : Int) == 1) = true := by rw [h]; rfl
theorem cls_not {b : Nat} (h : ¬ FlPlain.cls b = 1) : (((FlPlain.cls b : Nat) : Int) == 1) = false := by simp; omega
end Go.Proofs.YtpnklpjjbpheeaaGreatDoor.Flt
