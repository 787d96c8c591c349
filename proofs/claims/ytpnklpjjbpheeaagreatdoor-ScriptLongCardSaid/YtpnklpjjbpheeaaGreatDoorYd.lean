/-
  The walk of the reference's Text; conditions: bits below 2^64.
-/
import Derived.Test.YtpnklpjjbpheeaaGreatDoorYc
import Derived.Lib.ConvBytes
import Derived.Laws.BytesArg
namespace Go.Proofs.YtpnklpjjbpheeaaGreatDoor
open Go.RowKit Go.Proofs.YtpnklpjjbpheeaaGreatDoorW.PrintWords
open Go.Proofs.Fl Go.Proofs.YtpnklpjjbpheeaaGreatDoor.Flt

theorem nums_cons (x : Int) (l : List Int) : strOfNums (x :: l) = strOfNums [x] ++ strOfNums l := nums_append [x] l
theorem hex_one : ∀ d, d < 16 → (⟨#[48, 49, 50, 51, 52, 53, 54, 55, 56, 57, 97, 98, 99, 100, 101, 102]⟩ : ByteArray).extract d (d + 1) = strOfNums [((Hx.dg d : Nat) : Int)] := by decide +kernel
end Go.Proofs.YtpnklpjjbpheeaaGreatDoor
