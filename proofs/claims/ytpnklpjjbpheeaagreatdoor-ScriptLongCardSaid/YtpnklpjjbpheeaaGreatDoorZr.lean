/-
  The walk of the reference's Line of a step that may be; conditions: its numbers may be written.
-/
import Derived.Test.YtpnklpjjbpheeaaGreatDoorZk
import Derived.Lib.ConvBytes
import Derived.Laws.BytesArg
import Derived.Laws.Rows
import Derived.Deep.RegionHeld3
namespace Go.Proofs.YtpnklpjjbpheeaaGreatDoor
open Go.RowKit Go.Proofs.YtpnklpjjbpheeaaGreatDoorW.PrintWords
open Go.Proofs.Fl Go.Proofs.YtpnklpjjbpheeaaGreatDoor.Flt

theorem bapp (a b c : ByteArray) : a ++ b ++ c = a ++ (b ++ c) := by
  apply ByteArray.ext
  simp [ByteArray.data_append]
theorem bnil (a : ByteArray) : a ++ (⟨#[]⟩ : ByteArray) = a := by
  apply ByteArray.ext
  simp [ByteArray.data_append]
theorem word_small : ∀ j, j < 13 → (fW j).size ≤ 6 := by decide +kernel
end Go.Proofs.YtpnklpjjbpheeaaGreatDoor
