/-
  The law FloatReads; conditions: the table of deBruijn stands.
-/
import Derived.Test.YtpnklpjjbpheeaaGreatDoorYi
import Derived.Lib.ConvBytes
import Derived.Laws.BytesArg
namespace Go.Proofs.YtpnklpjjbpheeaaGreatDoor
open Go.RowKit Go.Proofs.YtpnklpjjbpheeaaGreatDoorW.PrintWords
open Go.Proofs.Fl Go.Proofs.YtpnklpjjbpheeaaGreatDoor.Flt

/-- the text of bits -/
def tx (b : Nat) : ByteArray := strOfNums (Hx.low 16 b)
theorem tx_size (b : Nat) : (tx b).size = 16 := by unfold tx; rw [strOfNums_size, Hx.low_length]
theorem tx_list (b : Nat) : (tx b).data.toList = (Hx.low 16 b).map Hx.toB := strOfNums_data _
theorem tx_rd (b : Nat) (hb : b < 18446744073709551616) : Hx.rd (tx b) = some b := by
  rw [rd_some (tx_size b) (by unfold aH; rw [tx_list]; exact Hx.low_hex 16 b), tx_list, Hx.val_low, Nat.mod_eq_of_lt (Nat.lt_of_lt_of_le hb (by decide))]
theorem rd_tx {s : ByteArray} {v : Nat} (h : Hx.rd s = some v) : tx v = s ∧ v < 18446744073709551616 := by
  unfold Hx.rd at h
  split at h
  · rename_i hh
    have hll : s.data.toList.length = 16 := by simpa using hh.1
    have e : Hx.val s.data.toList = v := Option.some.inj h
    have h1 := Hx.low_val hh.2
    rw [hll, e] at h1
    refine ⟨?_, ?_⟩
    · apply ByteArray.ext
      apply Array.toList_inj.1
      rw [tx_list, h1]
    · have := Hx.val_lt hh.2
      rw [hll, e] at this
      exact Nat.lt_of_lt_of_le this (by decide)
  · cases h
end Go.Proofs.YtpnklpjjbpheeaaGreatDoor
