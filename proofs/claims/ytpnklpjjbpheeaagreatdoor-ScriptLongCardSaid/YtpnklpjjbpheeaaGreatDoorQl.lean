/-
  The walk of the reference's edge: further operations.
-/
import Derived.Test.YtpnklpjjbpheeaaGreatDoorQe
namespace Go.Proofs.YtpnklpjjbpheeaaGreatDoor.Flt
open Go.RowKit Go.Proofs.Fl

set_option linter.unusedSimpArgs false in
theorem form_min (a b : Nat) : edgeOf 7 a b = (if ((FlPlain.cls a : Nat) : Int) = 1 ∨ ((FlPlain.cls b : Nat) : Int) = 1 then some 9221120237041090561 else some (if (FlPlain.less b a) || decide (((FlPlain.cls a : Nat) : Int) = 3 ∧ ((FlPlain.cls b : Nat) : Int) = 3 ∧ (FlPlain.below b) = true) then b else a)) := by
    unfold edgeOf
    simp [show (((FlPlain.cls a : Nat) : Int) = 1) ↔ FlPlain.cls a = 1 by omega, show (((FlPlain.cls b : Nat) : Int) = 1) ↔ FlPlain.cls b = 1 by omega, show (((FlPlain.cls a : Nat) : Int) = 2) ↔ FlPlain.cls a = 2 by omega, show (((FlPlain.cls b : Nat) : Int) = 2) ↔ FlPlain.cls b = 2 by omega, show (((FlPlain.cls a : Nat) : Int) = 3) ↔ FlPlain.cls a = 3 by omega, show (((FlPlain.cls b : Nat) : Int) = 3) ↔ FlPlain.cls b = 3 by omega]
set_option linter.unusedSimpArgs false in
theorem form_max (a b : Nat) : edgeOf 8 a b = (if ((FlPlain.cls a : Nat) : Int) = 1 ∨ ((FlPlain.cls b : Nat) : Int) = 1 then some 9221120237041090561 else some (if (FlPlain.less a b) || decide (((FlPlain.cls a : Nat) : Int) = 3 ∧ ((FlPlain.cls b : Nat) : Int) = 3 ∧ (FlPlain.below a) = true) then b else a)) := by
    unfold edgeOf
    simp [show (((FlPlain.cls a : Nat) : Int) = 1) ↔ FlPlain.cls a = 1 by omega, show (((FlPlain.cls b : Nat) : Int) = 1) ↔ FlPlain.cls b = 1 by omega, show (((FlPlain.cls a : Nat) : Int) = 2) ↔ FlPlain.cls a = 2 by omega, show (((FlPlain.cls b : Nat) : Int) = 2) ↔ FlPlain.cls b = 2 by omega, show (((FlPlain.cls a : Nat) : Int) = 3) ↔ FlPlain.cls a = 3 by omega, show (((FlPlain.cls b : Nat) : Int) = 3) ↔ FlPlain.cls b = 3 by omega]
end Go.Proofs.YtpnklpjjbpheeaaGreatDoor.Flt
