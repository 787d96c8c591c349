/-
  The walk of the reference's Text; conditions: bits below 2^64.
-/
import Derived.Test.YtpnklpjjbpheeaaDoorYc
import Derived.Lib.ConvBytes
import Derived.Laws.BytesArg
namespace Go.Proofs.YtpnklpjjbpheeaaDoor
open Go.RowKit Go.Proofs.YtpnklpjjbpheeaaDoorW.PrintWords
open Go.Proofs.Fl Go.Proofs.YtpnklpjjbpheeaaDoor.Flt

theorem nums_cons (x : Int) (l : List Int) : strOfNums (x :: l) = strOfNums [x] ++ strOfNums l := nums_append [x] l
theorem hex_one : ∀ d, d < 16 → (⟨#[48, 49, 50, 51, 52, 53, 54, 55, 56, 57, 97, 98, 99, 100, 101, 102]⟩ : ByteArray).extract d (d + 1) = strOfNums [((Hx.dg d : Nat) : Int)] := by decide +kernel
set_option maxRecDepth 100000 in
set_option maxHeartbeats 8000000 in
theorem rtext_any (b : Nat) (w : World) (hb : b < 18446744073709551616) :
    Calls Tryd.prog 11 #[.int .u64 b] w fun e w' => e = .returned (.string (strOfNums (Hx.low 16 b))) ∧ w' = w := by
  have HL := Lk.mk hb
  clear hb
  go_enter Tryd.func11, Tryd.ntmps11
  go_wp2
  go_loopg [0, 3, 4] 16 (fun gg v0 v3 v4 wr => ∃ i u : Nat, ∃ s : ByteArray, v0 = .int .u64 u ∧ v3 = .string s ∧ v4 = .int .i64 i ∧ Lk (i ≤ 16 ∧ 16 - i ≤ gg ∧ u = b / 16 ^ i ∧ u < 18446744073709551616) ∧ Lk (s = strOfNums (Hx.low i b)) ∧ wr = w)
  case atStart => exact ⟨0, b, _, rfl, rfl, rfl, ⟨Nat.zero_le _, Nat.le_refl _, by rw [Nat.pow_zero, Nat.div_one], HL.out⟩, ⟨by rfl⟩, rfl⟩
  case round =>
    obtain ⟨i, u, s, rfl, rfl, rfl, HI, HS, hwr⟩ := hrel
    subst wr
    obtain ⟨i1, i2, i3, i4⟩ := HI.out
    by_cases hlt : i < 16
    · have hltz : (i : Int) < 16 := by omega
      obtain ⟨q, hq⟩ : ∃ q, q = u / 16 := ⟨_, rfl⟩
      have hwq : IntKind.u64.wrap ((u : Int) / 16) = (q : Int) := (IntWalk.u64_in _ (by omega)).trans (by omega)
      obtain ⟨x, hx⟩ : ∃ x, x = strOfNums [((Hx.dg (u % 16) : Nat) : Int)] := ⟨_, rfl⟩
      have hex : (⟨#[48, 49, 50, 51, 52, 53, 54, 55, 56, 57, 97, 98, 99, 100, 101, 102]⟩ : ByteArray).extract (u % 16) (u % 16 + 1) = x := (hex_one (u % 16) (Nat.mod_lt _ (by decide))).trans hx.symm
      have hxs : x.size = 1 := by rw [hx, strOfNums_size]; rfl
      have hss : s.size = i := by rw [HS.out, strOfNums_size, Hx.low_length]
      have hcn : ¬ 9223372036854775807 < 1 + i := by omega
      have HS2 := Lk.mk (show x ++ s = strOfNums (Hx.low (i + 1) b) by rw [hx, HS.out, i3, ← nums_append]; rfl)
      have HI2 := Lk.mk (show (i + 1 ≤ 16 ∧ 16 - (i + 1) ≤ 16 - (i + 1) ∧ q = b / 16 ^ (i + 1) ∧ q < 18446744073709551616) ∧ 16 - (i + 1) < 16 - i from ⟨⟨by omega, Nat.le_refl _, by rw [hq, i3, Nat.pow_succ, ← Nat.div_div_eq_div_mul], by omega⟩, by omega⟩)
      clear i1 i2 i3 i4 hx hq hlt
      go_wp2
      go_roundg (16 - (i + 1))
      case measure => have := HI2.out.2; have := HI.out; omega
      case rel => exact ⟨i + 1, q, _, rfl, rfl, by go_num, ⟨HI2.out.1⟩, HS2, rfl⟩
    · have hltz : ¬ (i : Int) < 16 := by omega
      obtain rfl : i = 16 := by omega
      have HS2 := HS
      clear i1 i2 i3 i4 hlt
      go_wp2
      go_ret
      exact ⟨by rw [← HS2.out]; rfl, rfl⟩
end Go.Proofs.YtpnklpjjbpheeaaDoor
