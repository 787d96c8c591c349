/-
  The walk of the reference's edge: further operations.
-/
import Derived.Test.YtpnklpjjbpheeaaGreatDoorQe
namespace Go.Proofs.YtpnklpjjbpheeaaGreatDoor.Flt
open Go.RowKit Go.Proofs.Fl

set_option linter.unusedSimpArgs false in
theorem form_less (a b : Nat) : edgeOf 5 a b = (if ((FlPlain.cls a : Nat) : Int) = 1 ∨ ((FlPlain.cls b : Nat) : Int) = 1 then some 0 else some (FlPlain.truth (FlPlain.less a b))) := by
    unfold edgeOf
    simp [show (((FlPlain.cls a : Nat) : Int) = 1) ↔ FlPlain.cls a = 1 by omega, show (((FlPlain.cls b : Nat) : Int) = 1) ↔ FlPlain.cls b = 1 by omega, show (((FlPlain.cls a : Nat) : Int) = 2) ↔ FlPlain.cls a = 2 by omega, show (((FlPlain.cls b : Nat) : Int) = 2) ↔ FlPlain.cls b = 2 by omega, show (((FlPlain.cls a : Nat) : Int) = 3) ↔ FlPlain.cls a = 3 by omega, show (((FlPlain.cls b : Nat) : Int) = 3) ↔ FlPlain.cls b = 3 by omega]
set_option linter.unusedSimpArgs false in
theorem form_same (a b : Nat) : edgeOf 6 a b = (if ((FlPlain.cls a : Nat) : Int) = 1 ∨ ((FlPlain.cls b : Nat) : Int) = 1 then some 0 else some (FlPlain.truth ((a : Int) == (b : Int) || decide (((FlPlain.cls a : Nat) : Int) = 3 ∧ ((FlPlain.cls b : Nat) : Int) = 3)))) := by
    unfold edgeOf
    simp [show (((FlPlain.cls a : Nat) : Int) = 1) ↔ FlPlain.cls a = 1 by omega, show (((FlPlain.cls b : Nat) : Int) = 1) ↔ FlPlain.cls b = 1 by omega, show (((FlPlain.cls a : Nat) : Int) = 2) ↔ FlPlain.cls a = 2 by omega, show (((FlPlain.cls b : Nat) : Int) = 2) ↔ FlPlain.cls b = 2 by omega, show (((FlPlain.cls a : Nat) : Int) = 3) ↔ FlPlain.cls a = 3 by omega, show (((FlPlain.cls b : Nat) : Int) = 3) ↔ FlPlain.cls b = 3 by omega, show ((a : Int) == (b : Int)) = (a == b) by rw [Bool.eq_iff_iff]; simp; omega]
end Go.Proofs.YtpnklpjjbpheeaaGreatDoor.Flt
