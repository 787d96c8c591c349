/-
  The walks of script.num and of the reference's plain and num; conditions: the table of powers of ten stands.
-/
import Derived.Test.YtpnklpjjbpheeaaGreatDoorZc
import Derived.Test.YtpnklpjjbpheeaaGreatDoorShf
import Derived.Lib.ConvBytes
import Derived.Laws.BytesArg
import Derived.Laws.Rows
import Derived.Lib.AppendIntMem
namespace Go.Proofs.YtpnklpjjbpheeaaGreatDoor
open Go.RowKit Go.Proofs.YtpnklpjjbpheeaaGreatDoorW.PrintWords
open Go.Proofs.Fl Go.Proofs.YtpnklpjjbpheeaaGreatDoor.Flt

/-- the library's table of powers of ten stands -/
def P10 (w : World) : Prop := Lib.TabIs Tryz.prog w "internal/strconv.uint64pow10" .u64 Lib.pow10Tab
theorem P10.below {w w' : World} (h : P10 w) (hb : Below w.heap.size w w') : P10 w' := by
  unfold P10 Lib.TabIs at *
  have hg : Tryz.prog.globalNamed "internal/strconv.uint64pow10" = some 5 := by kernel_rfl
  unfold World.var? at *
  rw [hg] at h ⊢
  have hlt : 5 < w.heap.size := by
    rcases Nat.lt_or_ge 5 w.heap.size with h1 | h1
    · exact h1
    · have : w.heap[5]? = none := Array.getElem?_eq_none h1
      simp [this] at h
  have := hb.block _ hlt
  simp only [Option.bind_some] at h ⊢
  rw [this]
  exact h
set_option maxRecDepth 100000 in
set_option maxHeartbeats 2000000 in
theorem snum_any (n : Nat) (w : World) (hn : n ≤ 1000000) (hT : P10 w) : Calls Tryz.prog 35 #[.int .i64 n] w fun e w' => e = .returned (.string ⟨(Lib.decDigits n).toArray⟩) ∧ Below w.heap.size w w' := by
  have h0 := Tryz.strconv_Itoa (n : Int) (by omega) (by omega) w hT
  have hi : Lib.itoa (n : Int) = Lib.decDigits n := by unfold Lib.itoa; rw [if_neg (by omega), Int.toNat_natCast]
  rw [hi] at h0
  have HI := Lk.mk h0
  clear h0 hi hT hn
  go_enter Tryz.func35, Tryz.ntmps35
  go_wp2_with (go_at_call 51; (with_reducible refine (HI.out).mono ?_); rintro e w' ⟨rfl, k, os, rfl⟩)
  go_ret
  exact ⟨rfl, Lib.below_grow _ _ (Nat.le_refl _) k os⟩
theorem dec_small (n : Nat) (h : n < 10) : Lib.decDigits n = [UInt8.ofNat (48 + n)] := by rw [Lib.decDigits, dif_pos h]
theorem dec_big (n : Nat) (h : ¬ n < 10) : Lib.decDigits n = Lib.decDigits (n / 10) ++ [UInt8.ofNat (48 + n % 10)] := by rw [Lib.decDigits, dif_neg h]
/-- one byte as text -/
theorem one_byte (d : Nat) : strOfNums [((48 + d : Nat) : Int)] = ⟨#[UInt8.ofNat (48 + d)]⟩ := by
  unfold strOfNums
  simp only [List.map_cons, List.map_nil, Int.toNat_natCast]
theorem byte_conv (b : Nat) (W : World) : (convert 22 9 (.slice (some ⟨W.heap.size, 0, none⟩) 1 1)).run Tryz.prog (W.alloc (.cells #[.int .u8 (b : Int)] 5)) = .ok (.string (strOfNums [(b : Int)])) (W.alloc (.cells #[.int .u8 (b : Int)] 5)) :=
  run_convert_bytes_arg (P := Tryz.prog) _ 22 5 Tryz.underlying22 Tryz.underlying5 W.heap.size 0 1 1 [(b : Int)] rfl (fun i hi => by
    have h0 : i = 0 := by omega
    subst h0
    exact blk_cell (blk_new W (.cells #[.int .u8 (b : Int)] 5)) 0) 9 Tryz.underlying9
def dec (m : Nat) : ByteArray := ⟨(Lib.decDigits m).toArray⟩
theorem dec_one (n : Nat) (h : n < 10) : dec n = strOfNums [((48 + n : Nat) : Int)] := by unfold dec; rw [dec_small n h, one_byte]
theorem dec_next (n : Nat) (h : ¬ n < 10) : dec n = dec (n / 10) ++ strOfNums [((48 + n % 10 : Nat) : Int)] := by
  unfold dec
  rw [dec_big n h, one_byte]
  apply ByteArray.ext
  simp [ByteArray.data_append]
end Go.Proofs.YtpnklpjjbpheeaaGreatDoor
