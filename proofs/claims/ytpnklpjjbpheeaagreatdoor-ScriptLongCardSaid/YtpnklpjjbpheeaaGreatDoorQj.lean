/-
  The walk of the reference's edge: further operations.
-/
import Derived.Test.YtpnklpjjbpheeaaGreatDoorQe
namespace Go.Proofs.YtpnklpjjbpheeaaGreatDoor.Flt
open Go.RowKit Go.Proofs.Fl

set_option linter.unusedSimpArgs false in
theorem form_mul (a b : Nat) : FlPlain.edgeMul a b = (if ((FlPlain.cls a : Nat) : Int) = 1 ∨ ((FlPlain.cls b : Nat) : Int) = 1 then some 9221120237041090561 else if ((FlPlain.cls a : Nat) : Int) = 2 ∧ ((FlPlain.cls b : Nat) : Int) = 3 ∨ ((FlPlain.cls a : Nat) : Int) = 3 ∧ ((FlPlain.cls b : Nat) : Int) = 2 then some 9221120237041090561 else if ((FlPlain.cls a : Nat) : Int) = 2 ∨ ((FlPlain.cls b : Nat) : Int) = 2 then some (FlPlain.signed 9218868437227405312 ((FlPlain.below a) != (FlPlain.below b))) else if ((FlPlain.cls a : Nat) : Int) = 3 ∨ ((FlPlain.cls b : Nat) : Int) = 3 then some (FlPlain.signed 0 ((FlPlain.below a) != (FlPlain.below b))) else none) := by
    unfold FlPlain.edgeMul
    simp [show (((FlPlain.cls a : Nat) : Int) = 1) ↔ FlPlain.cls a = 1 by omega, show (((FlPlain.cls b : Nat) : Int) = 1) ↔ FlPlain.cls b = 1 by omega, show (((FlPlain.cls a : Nat) : Int) = 2) ↔ FlPlain.cls a = 2 by omega, show (((FlPlain.cls b : Nat) : Int) = 2) ↔ FlPlain.cls b = 2 by omega, show (((FlPlain.cls a : Nat) : Int) = 3) ↔ FlPlain.cls a = 3 by omega, show (((FlPlain.cls b : Nat) : Int) = 3) ↔ FlPlain.cls b = 3 by omega]
set_option linter.unusedSimpArgs false in
theorem form_div (a b : Nat) : FlPlain.edgeDiv a b = (if ((FlPlain.cls a : Nat) : Int) = 1 ∨ ((FlPlain.cls b : Nat) : Int) = 1 then some 9221120237041090561 else if ((FlPlain.cls a : Nat) : Int) = 2 ∧ ((FlPlain.cls b : Nat) : Int) = 2 ∨ ((FlPlain.cls a : Nat) : Int) = 3 ∧ ((FlPlain.cls b : Nat) : Int) = 3 then some 9221120237041090561 else if ((FlPlain.cls a : Nat) : Int) = 2 ∨ ((FlPlain.cls b : Nat) : Int) = 3 then some (FlPlain.signed 9218868437227405312 ((FlPlain.below a) != (FlPlain.below b))) else if ((FlPlain.cls a : Nat) : Int) = 3 ∨ ((FlPlain.cls b : Nat) : Int) = 2 then some (FlPlain.signed 0 ((FlPlain.below a) != (FlPlain.below b))) else none) := by
    unfold FlPlain.edgeDiv
    simp [show (((FlPlain.cls a : Nat) : Int) = 1) ↔ FlPlain.cls a = 1 by omega, show (((FlPlain.cls b : Nat) : Int) = 1) ↔ FlPlain.cls b = 1 by omega, show (((FlPlain.cls a : Nat) : Int) = 2) ↔ FlPlain.cls a = 2 by omega, show (((FlPlain.cls b : Nat) : Int) = 2) ↔ FlPlain.cls b = 2 by omega, show (((FlPlain.cls a : Nat) : Int) = 3) ↔ FlPlain.cls a = 3 by omega, show (((FlPlain.cls b : Nat) : Int) = 3) ↔ FlPlain.cls b = 3 by omega]
end Go.Proofs.YtpnklpjjbpheeaaGreatDoor.Flt
