/-
  The walks of float.Class, of float.key, of the library's comparison, of float.Order and of the reference's Order.
-/
import Derived.Test.YtgkjonnbanlagaaFloatD
namespace Go.Proofs.Ytgkjonnbanlagaa
open Go.RowKit Go.Proofs.Fl

theorem mask_mid (x i n : Nat) : x &&& ((2 ^ n - 1) * 2 ^ i) = x / 2 ^ i % 2 ^ n * 2 ^ i := by
  apply Nat.eq_of_testBit_eq
  intro j
  rw [Nat.testBit_and, ← Nat.shiftLeft_eq, ← Nat.shiftLeft_eq, Nat.testBit_shiftLeft, Nat.testBit_shiftLeft, Nat.testBit_two_pow_sub_one, Nat.testBit_mod_two_pow, Nat.testBit_div_two_pow]
  by_cases h : i ≤ j
  · have e : j - i + i = j := by omega
    simp [h, Bool.and_comm]
  · simp [h]
theorem mask_exp (b : Nat) : b &&& 9218868437227405312 = b / 4503599627370496 % 2048 * 4503599627370496 := mask_mid b 52 11
theorem mask_frac (b : Nat) : b &&& 4503599627370495 = b % 4503599627370496 := Nat.and_two_pow_sub_one_eq_mod b 52
theorem mask_sign (b : Nat) : b &&& 9223372036854775808 = b / 9223372036854775808 % 2 * 9223372036854775808 := mask_mid b 63 1
theorem or_sign (b : Nat) (h : b < 9223372036854775808) : b ||| 9223372036854775808 = b + 9223372036854775808 := by
  rw [Nat.or_comm, Nat.add_comm]
  exact (Nat.two_pow_add_eq_or_of_lt (i := 63) h 1).symm

set_option maxHeartbeats 400000 in
theorem pclass_any (b : Nat) (w : World) (h : b < 18446744073709551616) : Calls Try.prog 10 #[.int .u64 b] w fun e w' => e = .returned (.int .u8 (FlPlain.cls b : Nat)) ∧ w' = w := by
  have H := Lk.mk (cls_i b)
  have hx : bits .and .u64 (b : Int) 9218868437227405312 = (b : Int) / 4503599627370496 % 2048 * 4503599627370496 := by
    rw [show (9218868437227405312 : Int) = ((9218868437227405312 : Nat) : Int) from rfl, u64_and_nat _ _ h (by omega), mask_exp]; simp
  have hy : bits .and .u64 (b : Int) 4503599627370495 = (b : Int) % 4503599627370496 := by
    rw [show (4503599627370495 : Int) = ((4503599627370495 : Nat) : Int) from rfl, u64_and_nat _ _ h (by omega), mask_frac]; simp
  clear h
  generalize FlPlain.cls b = c at *
  generalize hE : bits .and .u64 (b : Int) 9218868437227405312 = E at *
  generalize hF : bits .and .u64 (b : Int) 4503599627370495 = F at *
  have HX := Lk.mk hx
  have HY := Lk.mk hy
  clear hx hy
  go_enter Try.func10, Try.ntmps10
  go_wp2
  all_goals go_ret
  all_goals refine ⟨ret_nat ?_, rfl⟩
  all_goals rw [H.out]
  all_goals have hx := HX.out
  all_goals have hy := HY.out
  all_goals clear H HX HY hE hF
  all_goals simp_all
  all_goals omega
end Go.Proofs.Ytgkjonnbanlagaa
