/-
  The walk of the reference's edge: further operations.
-/
import Derived.Test.YtpnklpjjbpheeaaGreatDoorQe
namespace Go.Proofs.YtpnklpjjbpheeaaGreatDoor.Flt
open Go.RowKit Go.Proofs.Fl

set_option linter.unusedSimpArgs false in
theorem form_neg (a b : Nat) : edgeOf 9 a b = (if ((FlPlain.cls a : Nat) : Int) = 1 then some 9221120237041090561 else some (FlPlain.signed a (!(FlPlain.below a)))) := by
    unfold edgeOf FlPlain.flip
    simp [show (((FlPlain.cls a : Nat) : Int) = 1) ↔ FlPlain.cls a = 1 by omega, show (((FlPlain.cls b : Nat) : Int) = 1) ↔ FlPlain.cls b = 1 by omega, show (((FlPlain.cls a : Nat) : Int) = 2) ↔ FlPlain.cls a = 2 by omega, show (((FlPlain.cls b : Nat) : Int) = 2) ↔ FlPlain.cls b = 2 by omega, show (((FlPlain.cls a : Nat) : Int) = 3) ↔ FlPlain.cls a = 3 by omega, show (((FlPlain.cls b : Nat) : Int) = 3) ↔ FlPlain.cls b = 3 by omega]
set_option linter.unusedSimpArgs false in
theorem form_root (a b : Nat) : FlPlain.edgeRoot a = (if ((FlPlain.cls a : Nat) : Int) = 1 then some 9221120237041090561 else if ((FlPlain.cls a : Nat) : Int) = 3 ∨ ((FlPlain.cls a : Nat) : Int) = 2 ∧ (FlPlain.below a) = false then some a else if (FlPlain.below a) then some 9221120237041090561 else none) := by
    unfold FlPlain.edgeRoot
    simp [show (((FlPlain.cls a : Nat) : Int) = 1) ↔ FlPlain.cls a = 1 by omega, show (((FlPlain.cls b : Nat) : Int) = 1) ↔ FlPlain.cls b = 1 by omega, show (((FlPlain.cls a : Nat) : Int) = 2) ↔ FlPlain.cls a = 2 by omega, show (((FlPlain.cls b : Nat) : Int) = 2) ↔ FlPlain.cls b = 2 by omega, show (((FlPlain.cls a : Nat) : Int) = 3) ↔ FlPlain.cls a = 3 by omega, show (((FlPlain.cls b : Nat) : Int) = 3) ↔ FlPlain.cls b = 3 by omega]
end Go.Proofs.YtpnklpjjbpheeaaGreatDoor.Flt
