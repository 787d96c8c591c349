/-
  The walk of the reference's edge at any operation; of its Calc.
-/
import Derived.Test.YtpnklpjjbpheeaaGreatDoorQe
import Derived.Test.YtpnklpjjbpheeaaGreatDoorQj
import Derived.Test.YtpnklpjjbpheeaaGreatDoorQk
import Derived.Test.YtpnklpjjbpheeaaGreatDoorQl
import Derived.Test.YtpnklpjjbpheeaaGreatDoorQm
import Derived.Test.YtpnklpjjbpheeaaGreatDoorQg
namespace Go.Proofs.YtpnklpjjbpheeaaGreatDoor.Flt
open Go.RowKit Go.Proofs.Fl

theorem sub_form (a b : Nat) (hb : b < 18446744073709551616) : FlPlain.edgeAdd a (FlPlain.flip b) = if ((FlPlain.cls a : Nat) : Int) = 1 ∨ ((FlPlain.cls b : Nat) : Int) = 1 then some 9221120237041090561 else FlPlain.edgeAdd a (FlPlain.flip b) := by
  split
  · rename_i h
    unfold FlPlain.edgeAdd
    rw [FlPlain.cls_flip hb, if_pos (by omega)]
  · rfl
theorem ref_some {op a b x : Nat} (h : edgeOf op a b = some x) : FlPlain.ref op a b = x := by
  unfold edgeOf at h
  unfold FlPlain.ref
  by_cases h1 : op = 1
  · rw [if_pos h1] at h ⊢; rw [h]; rfl
  rw [if_neg h1] at h ⊢
  by_cases h2 : op = 2
  · rw [if_pos h2] at h ⊢; rw [h]; rfl
  rw [if_neg h2] at h ⊢
  by_cases h3 : op = 3
  · rw [if_pos h3] at h ⊢; rw [h]; rfl
  rw [if_neg h3] at h ⊢
  by_cases h4 : op = 4
  · rw [if_pos h4] at h ⊢; rw [h]; rfl
  rw [if_neg h4] at h ⊢
  by_cases h5 : op = 5
  · rw [if_pos h5] at h ⊢; split at h <;> (rename_i c; injection h with h; first | (rw [if_pos c]; exact h) | (rw [if_neg c]; exact h))
  rw [if_neg h5] at h ⊢
  by_cases h6 : op = 6
  · rw [if_pos h6] at h ⊢; split at h <;> (rename_i c; injection h with h; first | (rw [if_pos c]; exact h) | (rw [if_neg c]; exact h))
  rw [if_neg h6] at h ⊢
  by_cases h7 : op = 7
  · rw [if_pos h7] at h ⊢; split at h <;> (rename_i c; injection h with h; first | (rw [if_pos c]; exact h) | (rw [if_neg c]; exact h))
  rw [if_neg h7] at h ⊢
  by_cases h8 : op = 8
  · rw [if_pos h8] at h ⊢; split at h <;> (rename_i c; injection h with h; first | (rw [if_pos c]; exact h) | (rw [if_neg c]; exact h))
  rw [if_neg h8] at h ⊢
  by_cases h9 : op = 9
  · rw [if_pos h9] at h ⊢; split at h <;> (rename_i c; injection h with h; first | (rw [if_pos c]; exact h) | (rw [if_neg c]; exact h))
  rw [if_neg h9] at h ⊢
  rw [h]; rfl
theorem none_of {c : Prop} [Decidable c] {x y : Nat} (h : (if c then some x else some y) = (none : Option Nat)) : False := by split at h <;> cases h

end Go.Proofs.YtpnklpjjbpheeaaGreatDoor.Flt
