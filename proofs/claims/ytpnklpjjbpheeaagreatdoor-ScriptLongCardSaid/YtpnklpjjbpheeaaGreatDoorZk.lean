/-
  The walks of the reference's in, Words and Value of scripts; words' texts; conditions: none.
-/
import Derived.Test.YtpnklpjjbpheeaaGreatDoorZj
import Derived.Test.YtpnklpjjbpheeaaGreatDoorYd
import Derived.Test.YtpnklpjjbpheeaaGreatDoorU1
import Derived.Lib.ConvBytes
import Derived.Laws.BytesArg
import Derived.Laws.Rows
import Derived.Deep.RegionHeld3
namespace Go.Proofs.YtpnklpjjbpheeaaGreatDoor
open Go.RowKit Go.Proofs.YtpnklpjjbpheeaaGreatDoorW.PrintWords
open Go.Proofs.Fl Go.Proofs.YtpnklpjjbpheeaaGreatDoor.Flt

def wordCells : Array Value := (fWs.map Value.string).toArray
theorem word_at (j : Nat) (h : j < 13) : wordCells[j]? = some (.string (fW j)) := by
  have : j = 0 ∨ j = 1 ∨ j = 2 ∨ j = 3 ∨ j = 4 ∨ j = 5 ∨ j = 6 ∨ j = 7 ∨ j = 8 ∨ j = 9 ∨ j = 10 ∨ j = 11 ∨ j = 12 := by omega
  rcases this with rfl | rfl | rfl | rfl | rfl | rfl | rfl | rfl | rfl | rfl | rfl | rfl | rfl <;> exact rfl
/-- words with a blank ahead of each -/
def joinT : List ByteArray → ByteArray
  | [] => ⟨#[]⟩
  | x :: xs => ((⟨#[32]⟩ : ByteArray) ++ x) ++ joinT xs
theorem joinT_append : ∀ (xs ys : List ByteArray), joinT (xs ++ ys) = joinT xs ++ joinT ys
  | [], ys => by
    show joinT ys = (⟨#[]⟩ : ByteArray) ++ joinT ys
    apply ByteArray.ext
    simp [ByteArray.data_append]
  | x :: xs, ys => by
    show ((⟨#[32]⟩ : ByteArray) ++ x) ++ joinT (xs ++ ys) = (((⟨#[32]⟩ : ByteArray) ++ x) ++ joinT xs) ++ joinT ys
    rw [joinT_append xs ys]
    apply ByteArray.ext
    simp [ByteArray.data_append]
theorem joinTail_T : ∀ xs : List ByteArray, Lib.joinTail [32] (xs.map (·.data.toList)) = (joinT xs).data.toList
  | [] => by simp [Lib.joinTail, joinT]
  | x :: xs => by
    have ih := joinTail_T xs
    unfold Lib.joinTail at ih ⊢
    simp only [List.map_cons, List.flatten_cons, joinT, ByteArray.data_append, Array.toList_append, ih]
theorem joinW_cons (x : ByteArray) (xs : List ByteArray) : joinW (x :: xs) = x ++ joinT xs := by
  unfold joinW
  apply ByteArray.ext
  rw [List.map_cons, Lib.join_cons, joinTail_T, ByteArray.data_append]
  simp
/-- a blank and a number's digits -/
def sp (n : Nat) : ByteArray := (⟨#[32]⟩ : ByteArray) ++ dec n
theorem sp_size (n : Nat) : (sp n).size ≤ n + 2 := by
  unfold sp
  rw [ByteArray.size_append]
  have := dec_size n
  have h1 : (⟨#[32]⟩ : ByteArray).size = 1 := rfl
  omega
/-- a value's text -/
def vT (k : Int) (b d s : Nat) : ByteArray := joinT (vW k b d s)
theorem vT_size (k : Int) (b d s : Nat) (hd : d ≤ 1000000) (hs : s ≤ 1000000) : (vT k b d s).size ≤ 3000000 := by
  have h1 : ∀ n, n ≤ 1000000 → (dec n).size ≤ 1000001 := fun n hn => Nat.le_trans (dec_size n) (by omega)
  have h2 := tx_size b
  have h3 := h1 d hd
  have h4 := h1 s hs
  have e1 : (⟨#[32]⟩ : ByteArray).size = 1 := rfl
  have e2 : (⟨#[98, 105, 116, 115]⟩ : ByteArray).size = 4 := rfl
  have e3 : (⟨#[114, 101, 102]⟩ : ByteArray).size = 3 := rfl
  have e4 : (⟨#[110, 105, 108]⟩ : ByteArray).size = 3 := rfl
  have e5 : (⟨#[]⟩ : ByteArray).size = 0 := rfl
  unfold vT vW
  repeat' split
  all_goals simp only [joinT, ByteArray.size_append, e1, e2, e3, e4, e5]
  all_goals omega
end Go.Proofs.YtpnklpjjbpheeaaGreatDoor
