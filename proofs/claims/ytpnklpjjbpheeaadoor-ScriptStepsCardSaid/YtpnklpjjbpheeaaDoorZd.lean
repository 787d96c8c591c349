/-
  The walks of script.num and of the reference's plain and num; conditions: the table of powers of ten stands.
-/
import Derived.Test.YtpnklpjjbpheeaaDoorZc
import Derived.Test.YtpnklpjjbpheeaaDoorShf
import Derived.Lib.ConvBytes
import Derived.Laws.BytesArg
import Derived.Laws.Rows
import Derived.Lib.AppendIntMem
namespace Go.Proofs.YtpnklpjjbpheeaaDoor
open Go.RowKit Go.Proofs.YtpnklpjjbpheeaaDoorW.PrintWords
open Go.Proofs.Fl Go.Proofs.YtpnklpjjbpheeaaDoor.Flt

/-- the library's table of powers of ten stands -/
def P10 (w : World) : Prop := Lib.TabIs Tryd.prog w "internal/strconv.uint64pow10" .u64 Lib.pow10Tab
theorem P10.below {w w' : World} (h : P10 w) (hb : Below w.heap.size w w') : P10 w' := by
  unfold P10 Lib.TabIs at *
  have hg : Tryd.prog.globalNamed "internal/strconv.uint64pow10" = some 1 := by kernel_rfl
  unfold World.var? at *
  rw [hg] at h ⊢
  have hlt : 1 < w.heap.size := by
    rcases Nat.lt_or_ge 1 w.heap.size with h1 | h1
    · exact h1
    · have : w.heap[1]? = none := Array.getElem?_eq_none h1
      simp [this] at h
  have := hb.block _ hlt
  simp only [Option.bind_some] at h ⊢
  rw [this]
  exact h
set_option maxRecDepth 100000 in
set_option maxHeartbeats 2000000 in
theorem snum_any (n : Nat) (w : World) (hn : n ≤ 1000000) (hT : P10 w) : Calls Tryd.prog 63 #[.int .i64 n] w fun e w' => e = .returned (.string ⟨(Lib.decDigits n).toArray⟩) ∧ Below w.heap.size w w' := by
  have h0 := Tryd.strconv_Itoa (n : Int) (by omega) (by omega) w hT
  have hi : Lib.itoa (n : Int) = Lib.decDigits n := by unfold Lib.itoa; rw [if_neg (by omega), Int.toNat_natCast]
  rw [hi] at h0
  have HI := Lk.mk h0
  clear h0 hi hT hn
  go_enter Tryd.func63, Tryd.ntmps63
  go_wp2_with (go_at_call 95; (with_reducible refine (HI.out).mono ?_); rintro e w' ⟨rfl, k, os, rfl⟩)
  go_ret
  exact ⟨rfl, Lib.below_grow _ _ (Nat.le_refl _) k os⟩
set_option maxRecDepth 100000 in
set_option maxHeartbeats 2000000 in
theorem rplain_any (n : Int) (w : World) : Calls Tryd.prog 29 #[.int .i64 n] w fun e w' => e = .returned (.bool (!(plN n))) ∧ w' = w := by
  have H := Lk.mk (show (!(plN n)) = (decide (0 ≤ n) && decide (n ≤ 1000000)) by
    unfold plN
    by_cases h1 : n < 0
    · rw [decide_eq_true h1, decide_eq_false (show ¬ 0 ≤ n by omega)]; rfl
    · rw [decide_eq_false h1, decide_eq_true (show 0 ≤ n by omega)]
      by_cases h2 : n ≤ 1000000
      · rw [decide_eq_true h2, decide_eq_false (show ¬ 1000000 < n by omega)]; rfl
      · rw [decide_eq_false h2, decide_eq_true (show 1000000 < n by omega)]; rfl)
  generalize (!(plN n)) = r at *
  go_enter Tryd.func29, Tryd.ntmps29
  go_wp2
  all_goals go_ret
  all_goals refine ⟨ret_bool ?_, rfl⟩
  all_goals rw [H.out]
  all_goals (try simp_all)
  all_goals (first | omega | (intro _; omega) | done)
theorem dec_small (n : Nat) (h : n < 10) : Lib.decDigits n = [UInt8.ofNat (48 + n)] := by rw [Lib.decDigits, dif_pos h]
theorem dec_big (n : Nat) (h : ¬ n < 10) : Lib.decDigits n = Lib.decDigits (n / 10) ++ [UInt8.ofNat (48 + n % 10)] := by rw [Lib.decDigits, dif_neg h]
/-- one byte as text -/
theorem one_byte (d : Nat) : strOfNums [((48 + d : Nat) : Int)] = ⟨#[UInt8.ofNat (48 + d)]⟩ := by
  unfold strOfNums
  simp only [List.map_cons, List.map_nil, Int.toNat_natCast]
theorem byte_conv (b : Nat) (W : World) : (convert 66 9 (.slice (some ⟨W.heap.size, 0, none⟩) 1 1)).run Tryd.prog (W.alloc (.cells #[.int .u8 (b : Int)] 5)) = .ok (.string (strOfNums [(b : Int)])) (W.alloc (.cells #[.int .u8 (b : Int)] 5)) :=
  run_convert_bytes_arg (P := Tryd.prog) _ 66 5 Tryd.underlying66 Tryd.underlying5 W.heap.size 0 1 1 [(b : Int)] rfl (fun i hi => by
    have h0 : i = 0 := by omega
    subst h0
    exact blk_cell (blk_new W (.cells #[.int .u8 (b : Int)] 5)) 0) 9 Tryd.underlying9
def dec (m : Nat) : ByteArray := ⟨(Lib.decDigits m).toArray⟩
theorem dec_one (n : Nat) (h : n < 10) : dec n = strOfNums [((48 + n : Nat) : Int)] := by unfold dec; rw [dec_small n h, one_byte]
theorem dec_next (n : Nat) (h : ¬ n < 10) : dec n = dec (n / 10) ++ strOfNums [((48 + n % 10 : Nat) : Int)] := by
  unfold dec
  rw [dec_big n h, one_byte]
  apply ByteArray.ext
  simp [ByteArray.data_append]
set_option maxRecDepth 100000 in
set_option maxHeartbeats 8000000 in
theorem rnum_any (m : Nat) (w : World) (hm : m ≤ 1000000) : Calls Tryd.prog 35 #[.int .i64 m] w fun e w' => e = .returned (.string ((⟨#[32]⟩ : ByteArray) ++ dec m)) ∧ Below w.heap.size w w' := by
  have HM := Lk.mk hm
  clear hm
  obtain ⟨Z, hZ⟩ : ∃ Z, Z = (⟨#[32]⟩ : ByteArray) ++ dec m := ⟨_, rfl⟩
  rw [← hZ]
  have HZ := Lk.mk hZ
  clear hZ
  go_enter Tryd.func35, Tryd.ntmps35
  go_wp2
  go_loopg [0, 3] m (fun gg v0 v3 wr => ∃ n : Nat, ∃ s : ByteArray, v0 = .int .i64 n ∧ v3 = .string s ∧ Lk (n ≤ gg ∧ s.size + n ≤ 1000000) ∧ Lk (dec m = dec n ++ s) ∧ Lk (Below w.heap.size w wr))
  case atStart => exact ⟨m, ⟨#[]⟩, rfl, rfl, ⟨Nat.le_refl _, by have := HM.out; show 0 + m ≤ _; omega⟩, ⟨by apply ByteArray.ext; simp [ByteArray.data_append]⟩, ⟨Below.refl _ _⟩⟩
  case round =>
    obtain ⟨n, s, rfl, rfl, HI, HS, HB⟩ := hrel
    obtain ⟨i1, i2⟩ := HI.out
    by_cases h9 : 9 < n
    · have h9z : (n : Int) > 9 := by omega
      obtain ⟨d, hd⟩ : ∃ d, d = n % 10 := ⟨_, rfl⟩
      obtain ⟨q, hq⟩ : ∃ q, q = n / 10 := ⟨_, rfl⟩
      obtain ⟨b, hb⟩ : ∃ b, b = 48 + d := ⟨_, rfl⟩
      have hrm : Int.tmod (n : Int) 10 = (d : Int) := by rw [Int.tmod_eq_emod_of_nonneg (by omega)]; omega
      have hqt : Int.tdiv (n : Int) 10 = (q : Int) := by rw [Int.tdiv_eq_ediv_of_nonneg (by omega)]; omega
      have hwb : IntKind.i64.wrap (48 + (d : Int)) = (b : Int) := (IntWalk.i64_in _ (by omega)).trans (by omega)
      have hw8 : IntKind.u8.wrap (b : Int) = (b : Int) := IntWalk.u8_in _ (by omega)
      have hwq : IntKind.i64.wrap ((n : Int) / 10) = (q : Int) := (IntWalk.i64_in _ (by omega)).trans (by omega)
      have hwq2 : IntKind.i64.wrap (q : Int) = (q : Int) := IntWalk.i64_in _ (by omega)
      have hq6 : (q : Int) ≤ 1000000 := by omega
      have hcv := byte_conv b wr
      have HN := Lk.mk (show dec m = dec q ++ (strOfNums [(b : Int)] ++ s) by
        rw [HS.out, dec_next n (by omega), hq, hb, hd]
        apply ByteArray.ext
        simp [ByteArray.data_append])
      have hxs : (strOfNums [(b : Int)]).size = 1 := by rw [strOfNums_size]; rfl
      generalize strOfNums [(b : Int)] = x at *
      have hcn : ¬ 9223372036854775807 < 1 + s.size := by omega
      have HI2 := Lk.mk (show (q ≤ q ∧ (x ++ s).size + q ≤ 1000000) ∧ q < n from ⟨⟨Nat.le_refl _, by rw [ByteArray.size_append, hxs]; omega⟩, by omega⟩)
      have HB2 := Lk.mk (below_alloc HB.out (.cells #[.int .u8 (b : Int)] 5))
      clear i1 i2 hd hq hb h9
      go_wp2
      go_roundg q
      case measure => have := HI2.out.2; have := HI.out; omega
      case rel => exact ⟨q, _, by first | rfl | go_num, rfl, ⟨HI2.out.1⟩, HN, HB2⟩
    · have h9z : ¬ (n : Int) > 9 := by omega
      obtain ⟨b, hb⟩ : ∃ b, b = 48 + n := ⟨_, rfl⟩
      have hwb : IntKind.i64.wrap (48 + (n : Int)) = (b : Int) := (IntWalk.i64_in _ (by omega)).trans (by omega)
      have hw8 : IntKind.u8.wrap (b : Int) = (b : Int) := IntWalk.u8_in _ (by omega)
      have hcv := byte_conv b wr
      have HN := Lk.mk (show Z = ((⟨#[32]⟩ : ByteArray) ++ strOfNums [(b : Int)]) ++ s by
        rw [HZ.out, HS.out, dec_one n (by omega), hb]
        apply ByteArray.ext
        simp [ByteArray.data_append])
      have hxs : (strOfNums [(b : Int)]).size = 1 := by rw [strOfNums_size]; rfl
      generalize strOfNums [(b : Int)] = x at *
      have hxx : ((⟨#[32]⟩ : ByteArray) ++ x).size = 2 := by rw [ByteArray.size_append, hxs]; rfl
      have hcn : ¬ 9223372036854775807 < 2 + s.size := by omega
      have HB2 := Lk.mk (below_alloc HB.out (.cells #[.int .u8 (b : Int)] 5))
      clear i1 i2 hb h9
      go_wp2
      go_ret
      exact ⟨by rw [HN.out]; rfl, HB2.out⟩
end Go.Proofs.YtpnklpjjbpheeaaDoor
