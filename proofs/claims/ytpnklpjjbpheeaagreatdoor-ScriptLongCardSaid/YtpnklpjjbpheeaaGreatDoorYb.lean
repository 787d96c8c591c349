/-
  The walk of the library's FormatUint to the base 16; conditions: bits below 2^64, the table of deBruijn stands.
-/
import Derived.Test.YtpnklpjjbpheeaaGreatDoorQr
import Derived.Test.YtpnklpjjbpheeaaGreatDoorY1
import Derived.Test.YtpnklpjjbpheeaaGreatDoorK1
import Derived.Test.YtpnklpjjbpheeaaGreatDoorK2
import Derived.Lib.ConvBytes
import Derived.Laws.BytesArg
namespace Go.Proofs.YtpnklpjjbpheeaaGreatDoor
open Go.RowKit Go.Proofs.YtpnklpjjbpheeaaGreatDoorW.PrintWords
open Go.Proofs.Fl Go.Proofs.YtpnklpjjbpheeaaGreatDoor.Flt

/-- the last j digits stand at the end of 65 bytes -/
def ByA (arr : Array Value) (j b : Nat) : Prop := arr.size = 65 ∧ ∀ p, p < j → arr[65 - j + p]? = some (.int .u8 ((Hx.low j b).getD p 0))
theorem ByA.next {arr : Array Value} {j b : Nat} (h : ByA arr j b) (hj : j < 65) : ByA (arr.setIfInBounds (64 - j) (.int .u8 (Hx.dg (b / 16 ^ j % 16) : Nat))) (j + 1) b := by
  obtain ⟨h1, h2⟩ := h
  refine ⟨by rw [Array.size_setIfInBounds]; exact h1, fun p hp => ?_⟩
  rw [Array.getElem?_setIfInBounds]
  cases p with
  | zero => rw [if_pos (by omega), if_pos (by omega)]; rfl
  | succ p =>
    rw [if_neg (by omega), show 65 - (j + 1) + (p + 1) = 65 - j + p by omega, h2 p (by omega)]
    rfl
theorem pow2_any (w : World) : Calls Tryz.prog 114 #[.int .i64 16] w fun e w' => e = .returned (.bool true) ∧ w' = w := by
  go_enter Tryz.func114, Tryz.ntmps114
  go_wp2
  go_ret
  exact ⟨by first | rfl | decide | simp, rfl⟩
theorem tz16 (w : World) (hT : Tab w) : Calls Tryz.prog 115 #[.int .u64 16] w fun e w' => e = .returned (.int .i64 4) ∧ w' = w := by
  have hz := tz_any 16 (by decide) (by decide) w hT
  rw [show Lib.ctz 64 16 = 4 by decide] at hz
  have HZ := Lk.mk (show Calls Tryz.prog 119 #[.int .u64 16] w fun e w' => e = .returned (.int .i64 4) ∧ w' = w from hz)
  clear hz
  go_enter Tryz.func115, Tryz.ntmps115
  go_wp2_with (go_at_call 119; (with_reducible refine (HZ.out).mono ?_); rintro e w' ⟨rfl, rfl⟩)
  go_ret
  exact ⟨rfl, rfl⟩
theorem dig_at : ∀ d, d < 16 → ∀ h : d < (⟨#[48, 49, 50, 51, 52, 53, 54, 55, 56, 57, 97, 98, 99, 100, 101, 102, 103, 104, 105, 106, 107, 108, 109, 110, 111, 112, 113, 114, 115, 116, 117, 118, 119, 120, 121, 122]⟩ : ByteArray).size, ((⟨#[48, 49, 50, 51, 52, 53, 54, 55, 56, 57, 97, 98, 99, 100, 101, 102, 103, 104, 105, 106, 107, 108, 109, 110, 111, 112, 113, 114, 115, 116, 117, 118, 119, 120, 121, 122]⟩ : ByteArray)[d]'h).toNat = Hx.dg d := by decide +kernel
theorem slice65 (g k n : Nat) (h : k + n = 65) (hn : 0 < n) (W : World) : (Instr.sliceAt 163 (.pointer (some ⟨g, 0, none⟩)) (some (.int .i64 (k : Int))) none none).run Tryz.prog W = .ok (.slice (some ⟨g, k, none⟩) n n) W := by
  have hal : Tryz.prog.arrayLen 163 = 65 := by simp [Program.arrayLen, Tryz.underlying163]
  rw [run_sliceAt_array_l W 163 ⟨g, 0, none⟩ (by simp [Program.arrayLen, Program.elem, Tryz.underlying163]) .i64 (k : Int) (by omega) (by rw [hal]; omega)]
  rw [hal]
  unfold slicedAt
  rw [Int.toNat_natCast, show 65 - k = n by omega]
  have hne : (65 = k) = False := by simp; omega
  simp only [hne, if_false]
  go_simp
set_option maxRecDepth 100000 in
set_option maxHeartbeats 8000000 in
theorem fbits_any (b : Nat) (w : World) (hb : b < 18446744073709551616) (hT : Tab w) :
    Calls Tryz.prog 98 #[.slice none 0 0, .int .u64 b, .int .i64 16, .bool false, .bool false] w fun e w' => ∃ n, 1 ≤ n ∧ n ≤ 16 ∧ b < 16 ^ n ∧ e = .returned (.tuple #[.slice none 0 0, .string (strOfNums (Hx.low n b))]) ∧ Below w.heap.size w w' := by
  have HP := Lk.mk pow2_any
  have hba := below_alloc (Below.refl w.heap.size w) (.cells Tryz.zeroCells163 163)
  have HTZ := Lk.mk (tz16 _ (hT.below hba))
  have HBa := Lk.mk hba
  have HA := Lk.mk (show ∃ arr, (w.alloc (.cells Tryz.zeroCells163 163)).heap[w.heap.size]? = some (.cells arr 163 (0, 0)) ∧ ByA arr 0 b from ⟨_, blk_new w _, by kernel_rfl, fun p hp => by omega⟩)
  have HLT := Lk.mk hb
  clear hT hb hba
  go_enter Tryz.func98, Tryz.ntmps98
  go_wp2_with (first
    | (go_at_call 114; (with_reducible refine (HP.out _).mono ?_); rintro e w' ⟨rfl, rfl⟩)
    | (go_at_call 115; (with_reducible refine (HTZ.out).mono ?_); rintro e w' ⟨rfl, rfl⟩))
  go_loopg [1, 13] 65 (fun gg v1 v13 wr => ∃ j i u : Nat, v1 = .int .u64 u ∧ v13 = .int .i64 i ∧ Lk (u = b / 16 ^ j ∧ i + j = 65 ∧ j ≤ 15) ∧ Lk (i ≤ gg) ∧ Lk (∃ arr, wr.heap[w.heap.size]? = some (.cells arr 163 (0, 0)) ∧ ByA arr j b) ∧ Lk (Below w.heap.size w wr))
  case atStart => exact ⟨0, 65, b, rfl, rfl, ⟨by rw [Nat.pow_zero, Nat.div_one], rfl, Nat.zero_le _⟩, ⟨Nat.le_refl _⟩, HA, HBa⟩
  case round =>
    clear HA HBa
    obtain ⟨j, i, u, rfl, rfl, HJ, HG, HA, HB⟩ := hrel
    obtain ⟨j1, j2, j3⟩ := HJ.out
    by_cases h16 : 16 ≤ u
    · have h16z : (u : Int) ≥ 16 := by omega
      obtain ⟨k, hk⟩ : ∃ k, i = k + 1 := ⟨i - 1, by omega⟩
      obtain ⟨d, hd⟩ : ∃ d, d = u % 16 := ⟨_, rfl⟩
      have hu6 : u < 18446744073709551616 := by have := Nat.div_le_self b (16 ^ j); have := HLT.out; omega
      have han : bits .and .u64 (u : Int) 15 = (d : Int) := by
        have := u64_and_nat u 15 hu6 (by omega)
        rw [Hx.and_low, ← hd] at this
        exact this
      have hwk : IntKind.i64.wrap ((i : Int) - 1) = (k : Int) := (IntWalk.i64_in _ (by omega)).trans (by omega)
      have hd16 : (d : Int) < 16 := by omega
      have hk65 : (k : Int) < 65 := by omega
      obtain ⟨arr, ha, hby⟩ := HA.out
      have hc := blk_cell ha k
      have hz := blk_frozen ha k
      have hge : ∃ x, arr[k]? = some x := ⟨_, Array.getElem?_eq_getElem (by rw [hby.1]; omega)⟩
      obtain ⟨x, hx⟩ := hge
      rw [hx] at hc
      have HBY := Lk.mk hby
      have HAA := Lk.mk ha
      have HD := Lk.mk (show d = b / 16 ^ j % 16 ∧ d < 16 by rw [← j1, ← hd]; exact ⟨rfl, by omega⟩)
      have HJ2 := Lk.mk (show (u / 16 = b / 16 ^ (j + 1) ∧ k + (j + 1) = 65 ∧ j + 1 ≤ 15) ∧ k < i ∧ 64 - j = k ∧ j < 65 from by
        have hr := Hx.rounds (b := b) (j := j) HLT.out (by rw [← j1]; exact h16)
        exact ⟨⟨by rw [Nat.pow_succ, ← Nat.div_div_eq_div_mul, ← j1], by omega, by omega⟩, by omega, by omega, by omega⟩)
      clear j1 j2 j3 hk hd hu6 h16 hx ha hby
      go_wp2
      go_roundg k
      case measure => have := HG.out; have := HJ2.out; omega
      case rel =>
        refine ⟨j + 1, k, u / 16, by first | rfl | go_num, by first | rfl | go_num, ⟨HJ2.out.1⟩, ⟨Nat.le_refl _⟩, ⟨⟨_, blk_put HAA.out k _ rfl, ?_⟩⟩, ⟨HB.out.setCell (p := ⟨w.heap.size, k, none⟩) (Nat.le_refl _) _⟩⟩
        have h9 := HBY.out.next HJ2.out.2.2.2
        rw [HJ2.out.2.2.1, ← HD.out.1] at h9
        rw [dig_at d HD.out.2]
        exact h9
    · have h16z : ¬ (u : Int) ≥ 16 := by omega
      obtain ⟨k, hk⟩ : ∃ k, i = k + 1 := ⟨i - 1, by omega⟩
      have hwk : IntKind.i64.wrap ((i : Int) - 1) = (k : Int) := (IntWalk.i64_in _ (by omega)).trans (by omega)
      have hu16 : (u : Int) < 16 := by omega
      have hk65 : (k : Int) < 65 := by omega
      obtain ⟨arr, ha, hby⟩ := HA.out
      have hc := blk_cell ha k
      have hz := blk_frozen ha k
      have hge : ∃ x, arr[k]? = some x := ⟨_, Array.getElem?_eq_getElem (by rw [hby.1]; omega)⟩
      obtain ⟨x, hx⟩ := hge
      rw [hx] at hc
      have hub : u = b / 16 ^ j % 16 := by rw [← j1]; omega
      have h9 := hby.next (show j < 65 by omega)
      rw [← hub, show 64 - j = k by omega] at h9
      have HBY := Lk.mk h9
      have HAA := Lk.mk (blk_put ha k (.int .u8 (Hx.dg u : Nat)) rfl)
      have HJ2 := Lk.mk (show (1 ≤ j + 1 ∧ j + 1 ≤ 16 ∧ b < 16 ^ (j + 1)) ∧ k + (j + 1) = 65 ∧ u < 16 from ⟨⟨by omega, by omega, Hx.small_of (by rw [← j1]; omega)⟩, by omega, by omega⟩)
      have HB2 := Lk.mk (HB.out.setCell (p := ⟨w.heap.size, k, none⟩) (Nat.le_refl _) (.int .u8 (Hx.dg u : Nat)))
      have hdg := dig_at u (by omega)
      obtain ⟨n, hn⟩ : ∃ n, n = j + 1 := ⟨_, rfl⟩
      rw [← hn] at HBY HJ2
      have hsl := slice65 w.heap.size k n HJ2.out.2.1 (by omega)
      have hcv : (convert 22 9 (.slice (some ⟨w.heap.size, k, none⟩) n n)).run Tryz.prog (wr.setCell ⟨w.heap.size, k, none⟩ (.int .u8 (Hx.dg u : Nat))) = .ok (.string (strOfNums (Hx.low n b))) (wr.setCell ⟨w.heap.size, k, none⟩ (.int .u8 (Hx.dg u : Nat))) :=
        run_convert_bytes_arg (P := Tryz.prog) _ 22 5 Tryz.underlying22 Tryz.underlying5 w.heap.size k n n (Hx.low n b) (Hx.low_length n b) (fun i hi => by
          rw [blk_cell HAA.out (k + i)]
          have := HBY.out.2 i hi
          rwa [show 65 - n + i = k + i by have := HJ2.out; omega] at this) 9 Tryz.underlying9
      have HN := Lk.mk HJ2.out.1
      obtain ⟨sx, hsx⟩ : ∃ sx, sx = strOfNums (Hx.low n b) := ⟨_, rfl⟩
      rw [← hsx] at hcv
      have HSX := Lk.mk hsx
      clear hsx
      clear j1 j2 j3 hk h16 hx ha hby hub h9 HA HB HJ HG hn HJ2 HBY
      go_wp2
      go_ret2
      exact ⟨n, HN.out.1, HN.out.2.1, HN.out.2.2, by rw [← HSX.out]; rfl, HB2.out⟩
set_option maxRecDepth 100000 in
set_option maxHeartbeats 2000000 in
theorem iformat_any (b : Nat) (w : World) (hb : b < 18446744073709551616) (hT : Tab w) :
    Calls Tryz.prog 71 #[.int .u64 b, .int .i64 16] w fun e w' => ∃ n, 1 ≤ n ∧ n ≤ 16 ∧ b < 16 ^ n ∧ e = .returned (.string (strOfNums (Hx.low n b))) ∧ Below w.heap.size w w' := by
  have HF := Lk.mk (fbits_any b w hb hT)
  clear hb hT
  go_enter Tryz.func71, Tryz.ntmps71
  go_wp2_with (go_at_call 98; (with_reducible refine (HF.out).mono ?_); rintro e w1 ⟨n, h1, h2, h3, rfl, hb⟩; have HN := Lk.mk (show 1 ≤ n ∧ n ≤ 16 ∧ b < 16 ^ n from ⟨h1, h2, h3⟩); have HB := Lk.mk hb; clear h1 h2 h3 hb)
  go_ret
  exact ⟨n, HN.out.1, HN.out.2.1, HN.out.2.2, rfl, HB.out⟩
set_option maxRecDepth 100000 in
set_option maxHeartbeats 2000000 in
theorem format_any (b : Nat) (w : World) (hb : b < 18446744073709551616) (hT : Tab w) :
    Calls Tryz.prog 52 #[.int .u64 b, .int .i64 16] w fun e w' => ∃ n, 1 ≤ n ∧ n ≤ 16 ∧ b < 16 ^ n ∧ e = .returned (.string (strOfNums (Hx.low n b))) ∧ Below w.heap.size w w' := by
  have HF := Lk.mk (iformat_any b w hb hT)
  clear hb hT
  go_enter Tryz.func52, Tryz.ntmps52
  go_wp2_with (go_at_call 71; (with_reducible refine (HF.out).mono ?_); rintro e w1 ⟨n, h1, h2, h3, rfl, hb⟩; have HN := Lk.mk (show 1 ≤ n ∧ n ≤ 16 ∧ b < 16 ^ n from ⟨h1, h2, h3⟩); have HB := Lk.mk hb; clear h1 h2 h3 hb)
  go_ret
  exact ⟨n, HN.out.1, HN.out.2.1, HN.out.2.2, rfl, HB.out⟩
end Go.Proofs.YtpnklpjjbpheeaaGreatDoor
