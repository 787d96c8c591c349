/-
  The walk of the reference's edge: each operation.
-/
import Derived.Test.YtpnklpjjbpheeaaGreatDoorQd
namespace Go.Proofs.YtpnklpjjbpheeaaGreatDoor.Flt
open Go.RowKit Go.Proofs.Fl

def encO (o : Option Nat) : Value := .tuple #[.int .u64 ((o.getD 0 : Nat) : Int), .bool o.isSome]
/-- what edge comes to, by the operation -/
def edgeOf (op a b : Nat) : Option Nat :=
  if op = 1 then FlPlain.edgeAdd a b
  else if op = 2 then FlPlain.edgeAdd a (FlPlain.flip b)
  else if op = 3 then FlPlain.edgeMul a b
  else if op = 4 then FlPlain.edgeDiv a b
  else if op = 5 then (if FlPlain.cls a = 1 ∨ FlPlain.cls b = 1 then some 0 else some (FlPlain.truth (FlPlain.less a b)))
  else if op = 6 then (if FlPlain.cls a = 1 ∨ FlPlain.cls b = 1 then some 0 else some (FlPlain.truth (a == b || decide (FlPlain.cls a = 3 ∧ FlPlain.cls b = 3))))
  else if op = 7 then (if FlPlain.cls a = 1 ∨ FlPlain.cls b = 1 then some 9221120237041090561 else some (if FlPlain.less b a || decide (FlPlain.cls a = 3 ∧ FlPlain.cls b = 3 ∧ FlPlain.below b = true) then b else a))
  else if op = 8 then (if FlPlain.cls a = 1 ∨ FlPlain.cls b = 1 then some 9221120237041090561 else some (if FlPlain.less a b || decide (FlPlain.cls a = 3 ∧ FlPlain.cls b = 3 ∧ FlPlain.below a = true) then b else a))
  else if op = 9 then (if FlPlain.cls a = 1 then some 9221120237041090561 else some (FlPlain.flip a))
  else FlPlain.edgeRoot a

set_option linter.unusedSimpArgs false in
theorem form_add (a b : Nat) : FlPlain.edgeAdd a b = (if ((FlPlain.cls a : Nat) : Int) = 1 ∨ ((FlPlain.cls b : Nat) : Int) = 1 then some 9221120237041090561 else if ((FlPlain.cls a : Nat) : Int) = 2 ∧ ((FlPlain.cls b : Nat) : Int) = 2 ∧ (FlPlain.below a) ≠ (FlPlain.below b) then some 9221120237041090561 else if ((FlPlain.cls a : Nat) : Int) = 2 then some a else if ((FlPlain.cls b : Nat) : Int) = 2 then some b else if ((FlPlain.cls a : Nat) : Int) = 3 ∧ ((FlPlain.cls b : Nat) : Int) = 3 then some (FlPlain.signed 0 ((FlPlain.below a) && (FlPlain.below b))) else none) := by
    unfold FlPlain.edgeAdd
    simp [show (((FlPlain.cls a : Nat) : Int) = 1) ↔ FlPlain.cls a = 1 by omega, show (((FlPlain.cls b : Nat) : Int) = 1) ↔ FlPlain.cls b = 1 by omega, show (((FlPlain.cls a : Nat) : Int) = 2) ↔ FlPlain.cls a = 2 by omega, show (((FlPlain.cls b : Nat) : Int) = 2) ↔ FlPlain.cls b = 2 by omega, show (((FlPlain.cls a : Nat) : Int) = 3) ↔ FlPlain.cls a = 3 by omega, show (((FlPlain.cls b : Nat) : Int) = 3) ↔ FlPlain.cls b = 3 by omega]
end Go.Proofs.YtpnklpjjbpheeaaGreatDoor.Flt
