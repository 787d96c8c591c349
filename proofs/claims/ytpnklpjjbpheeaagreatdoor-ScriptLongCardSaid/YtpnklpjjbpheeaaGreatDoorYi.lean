/-
  The walk of the reference's Read of sixteen digits; conditions: none.
-/
import Derived.Test.YtpnklpjjbpheeaaGreatDoorYh
import Derived.Lib.ConvBytes
import Derived.Laws.BytesArg
namespace Go.Proofs.YtpnklpjjbpheeaaGreatDoor
open Go.RowKit Go.Proofs.YtpnklpjjbpheeaaGreatDoorW.PrintWords
open Go.Proofs.Fl Go.Proofs.YtpnklpjjbpheeaaGreatDoor.Flt

/-- what the reference's Read answers -/
def rrA (s : ByteArray) : Value := match Hx.rd s with
  | some v => .tuple #[.int .u64 (v : Nat), .bool true]
  | none => .tuple #[.int .u64 0, .bool false]
theorem wrap_nat (z : Int) : ∃ m : Nat, IntKind.u64.wrap z = (m : Int) ∧ m < 18446744073709551616 := by
  rw [IntKind.wrap_u64]
  exact ⟨(z % 18446744073709551616).toNat, by omega, by omega⟩
theorem get_list (s : ByteArray) (i : Nat) (h : i < s.size) : s.data.toList.getD i 0 = s[i]'h := by
  rw [By.get_eq s i h, List.getD_eq_getElem?_getD, List.getElem?_eq_getElem (by simpa using h)]
  rfl
end Go.Proofs.YtpnklpjjbpheeaaGreatDoor
