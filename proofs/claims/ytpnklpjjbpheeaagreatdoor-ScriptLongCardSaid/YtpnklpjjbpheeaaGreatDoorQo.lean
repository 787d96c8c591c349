/-
  The walks of float.Below; conditions: the words read as told.
-/
import Derived.Test.YtpnklpjjbpheeaaGreatDoorQn
namespace Go.Proofs.YtpnklpjjbpheeaaGreatDoor
open Go.RowKit Go.Proofs.YtpnklpjjbpheeaaGreatDoorW.PrintWords
open Go.Proofs.Fl Go.Proofs.YtpnklpjjbpheeaaGreatDoor.Flt

theorem and_pow (b n : Nat) : b &&& 2 ^ n = if b.testBit n then 2 ^ n else 0 := by
  apply Nat.eq_of_testBit_eq
  intro i
  rw [Nat.testBit_and, Nat.testBit_two_pow]
  by_cases h : n = i
  · subst h
    cases b.testBit n with
    | true => simp [Nat.testBit_two_pow]
    | false => simp
  · cases b.testBit n with
    | true => simp [Nat.testBit_two_pow, h]
    | false => simp [h]
theorem and_top (b : Nat) (hb : b < 18446744073709551616) : bits .and .u64 (b : Int) 9223372036854775808 = if FlPlain.below b then 9223372036854775808 else 0 := by
  have h : b &&& 9223372036854775808 = if FlPlain.below b then 9223372036854775808 else 0 := by
    have h1 := and_pow b 63
    rw [show (2 : Nat) ^ 63 = 9223372036854775808 by decide +kernel] at h1
    have h2 : b.testBit 63 = FlPlain.below b := by
      rw [Nat.testBit_eq_decide_div_mod_eq]
      unfold FlPlain.below
      apply decide_eq_decide.2
      rw [show (2 : Nat) ^ 63 = 9223372036854775808 by decide +kernel]
      omega
    rw [h1, h2]
  have h3 := u64_and_nat b 9223372036854775808 hb (by omega)
  rw [h] at h3
  cases hbb : FlPlain.below b with
  | true => rw [hbb] at h3; exact h3
  | false => rw [hbb] at h3; exact h3
end Go.Proofs.YtpnklpjjbpheeaaGreatDoor
