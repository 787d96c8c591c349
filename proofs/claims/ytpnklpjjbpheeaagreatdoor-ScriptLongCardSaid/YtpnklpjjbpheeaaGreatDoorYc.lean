/-
  The walk of float.Text; conditions: bits below 2^64, the table of deBruijn stands.
-/
import Derived.Test.YtpnklpjjbpheeaaGreatDoorYb
import Derived.Test.YtpnklpjjbpheeaaGreatDoorShf
import Derived.Lib.ConvBytes
import Derived.Laws.BytesArg
namespace Go.Proofs.YtpnklpjjbpheeaaGreatDoor
open Go.RowKit Go.Proofs.YtpnklpjjbpheeaaGreatDoorW.PrintWords
open Go.Proofs.Fl Go.Proofs.YtpnklpjjbpheeaaGreatDoor.Flt

theorem nums_append (a b : List Int) : strOfNums (a ++ b) = strOfNums a ++ strOfNums b := by
  apply ByteArray.ext
  simp [strOfNums, ByteArray.data_append]
theorem nums_zeros (m : Nat) : strOfNums (List.replicate m 48) = ⟨(Lib.repeatL [48] m).toArray⟩ := by
  unfold strOfNums
  congr 2
  induction m with
  | zero => rfl
  | succ m ih => rw [List.replicate_succ, List.map_cons, ih]; rfl
set_option maxRecDepth 100000 in
set_option maxHeartbeats 2000000 in
theorem ftext_any (b : Nat) (w : World) (hb : b < 18446744073709551616) (hT : Tab w) :
    Calls Tryz.prog 37 #[.int .u64 b] w fun e w' => e = .returned (.string (strOfNums (Hx.low 16 b))) ∧ Below w.heap.size w w' := by
  have HF := Lk.mk (format_any b w hb hT)
  have HR := Lk.mk (fun (m : Nat) W (hm : m ≤ 16) => Tryz.strings_Repeat ⟨#[48]⟩ m W (by omega) (by show 1 * _ ≤ _; omega))
  have HT := Lk.mk (show ∀ n m, b < 16 ^ n → m + n = 16 → strOfNums (Hx.low 16 b) = ⟨(Lib.repeatL [48] m).toArray⟩ ++ strOfNums (Hx.low n b) from fun n m h1 h2 => by
    rw [← nums_zeros, ← nums_append, ← Hx.low_pad n m b h1, Nat.add_comm n m, h2])
  have HZ := Lk.mk (show ∀ m, (⟨(Lib.repeatL [48] m).toArray⟩ : ByteArray).size = m from fun m => by rw [← nums_zeros, strOfNums_size, List.length_replicate])
  clear hb hT
  generalize strOfNums (Hx.low 16 b) = T at *
  go_enter Tryz.func37, Tryz.ntmps37
  go_wp2_with (first
    | (go_at_call 52; (with_reducible refine HF.out.mono ?_); rintro e w1 ⟨n, h1, h2, h3, rfl, hb⟩; obtain ⟨m, hm⟩ : ∃ m, m + n = 16 := ⟨16 - n, by omega⟩; have HTT := Lk.mk (HT.out n m h3 hm); have hsz : (strOfNums (Hx.low n b)).size = n := by rw [strOfNums_size, Hx.low_length]
       generalize strOfNums (Hx.low n b) = sx at *; have hwm : IntKind.i64.wrap (16 - (n : Int)) = (m : Int) := (IntWalk.i64_in _ (by omega)).trans (by omega)
       have HB := Lk.mk hb; have hmn : ¬ 9223372036854775807 < m + n := (by omega); have HM := Lk.mk (show m ≤ 16 by omega); have HZM := Lk.mk (HZ.out m); clear h1 h2 h3 hb hm HT HZ)
    | (go_at_call 53; (with_reducible refine (HR.out m _ HM.out).mono ?_); rintro e w2 ⟨rfl, hb⟩; have hrz := HZM.out; have hm16 := HM.out; have HTT2 := HTT; generalize (⟨(Lib.repeatL [48] m).toArray⟩ : ByteArray) = rr at *; have HB2 := Lk.mk (below_then HB.out HB.out.size hb); clear hb))
  go_ret
  exact ⟨by rw [HTT2.out]; rfl, HB2.out⟩
end Go.Proofs.YtpnklpjjbpheeaaGreatDoor
