/-
  The walk of float.Class; conditions: bits below 2^64.
-/
import Derived.Test.YtpnklpjjbpheeaaDoorQr
import Derived.Test.YtpnklpjjbpheeaaDoorQi
import Derived.Test.YtpnklpjjbpheeaaDoorY1
namespace Go.Proofs.YtpnklpjjbpheeaaDoor
open Go.RowKit Go.Proofs.YtpnklpjjbpheeaaDoorW.PrintWords
open Go.Proofs.Fl Go.Proofs.YtpnklpjjbpheeaaDoor.Flt

set_option maxRecDepth 100000 in
set_option maxHeartbeats 2000000 in
theorem fclass_any (b : Nat) (w : World) (h : b < 18446744073709551616) : Calls Tryd.prog 6 #[.int .u64 b] w fun e w' => e = .returned (.int .u8 (FlPlain.cls b : Nat)) ∧ w' = w := by
  obtain ⟨x, hx⟩ : ∃ x, x = b / 4503599627370496 % 2048 := ⟨_, rfl⟩
  obtain ⟨f, hf⟩ : ∃ f, f = b % 4503599627370496 := ⟨_, rfl⟩
  have H := Lk.mk (show FlPlain.cls b = if x = 2047 ∧ f > 0 then 1 else if x = 2047 then 2 else if x = 0 ∧ f = 0 then 3 else if x = 0 then 4 else 5 by unfold FlPlain.cls; rw [hx, hf])
  obtain ⟨E, hE⟩ : ∃ E, E = x * 4503599627370496 := ⟨_, rfl⟩
  have he : bits .and .u64 (b : Int) 9218868437227405312 = (E : Int) := by
    have := u64_and_nat b 9218868437227405312 h (by omega)
    rw [Hx.and_expo, ← hx, ← hE] at this
    exact this
  have hfr : bits .and .u64 (b : Int) 4503599627370495 = (f : Int) := by
    have := u64_and_nat b 4503599627370495 h (by omega)
    rw [Hx.and_frac, ← hf] at this
    exact this
  have HE := Lk.mk (show (E = 9218868437227405312 ↔ x = 2047) ∧ (E = 0 ↔ x = 0) by omega)
  generalize FlPlain.cls b = c at *
  clear hx hf hE h
  have fin : ∀ n : Nat, c = n → Ending.returned (.int .u8 ((n : Nat) : Int)) = Ending.returned (.int .u8 (c : Int)) := fun n e => by rw [e]
  have HF := Lk.mk fin
  clear fin
  by_cases c1 : E = 9218868437227405312
  · subst c1
    have hx : x = 2047 := HE.out.1.1 rfl
    by_cases c2 : f = 0
    · subst c2
      have HC := Lk.mk (show c = 2 by rw [H.out, if_neg (by omega), if_pos hx])
      clear hx HE H
      go_enter Tryd.func6, Tryd.ntmps6
      go_wp2
      go_ret
      exact ⟨HF.out 2 HC.out, rfl⟩
    · have HC := Lk.mk (show c = 1 by rw [H.out, if_pos (by omega)])
      have c2b : ((f : Int) != 0) = true := by rw [bne_iff_ne]; omega
      clear hx HE H c2
      go_enter Tryd.func6, Tryd.ntmps6
      go_wp2
      go_ret
      exact ⟨HF.out 1 HC.out, rfl⟩
  · have hx : x ≠ 2047 := fun e => c1 (HE.out.1.2 e)
    have c1b : ((E : Int) == 9218868437227405312) = false := beq_false_of_ne (by omega)
    by_cases c3 : E = 0
    · subst c3
      have hx0 : x = 0 := HE.out.2.1 rfl
      by_cases c2 : f = 0
      · subst c2
        have HC := Lk.mk (show c = 3 by rw [H.out, if_neg (by omega), if_neg hx, if_pos (by omega)])
        clear hx hx0 HE H c1
        go_enter Tryd.func6, Tryd.ntmps6
        go_wp2
        go_ret
        exact ⟨HF.out 3 HC.out, rfl⟩
      · have HC := Lk.mk (show c = 4 by rw [H.out, if_neg (by omega), if_neg hx, if_neg (by omega), if_pos hx0])
        have c2b : ((f : Int) == 0) = false := beq_false_of_ne (by omega)
        clear hx hx0 HE H c1 c2
        go_enter Tryd.func6, Tryd.ntmps6
        go_wp2
        go_ret
        exact ⟨HF.out 4 HC.out, rfl⟩
    · have hx0 : x ≠ 0 := fun e => c3 (HE.out.2.2 e)
      have c3b : ((E : Int) == 0) = false := beq_false_of_ne (by omega)
      have HC := Lk.mk (show c = 5 by rw [H.out, if_neg (by omega), if_neg hx, if_neg (by omega), if_neg hx0])
      clear hx hx0 HE H c1 c3
      go_enter Tryd.func6, Tryd.ntmps6
      go_wp2
      go_ret
      exact ⟨HF.out 5 HC.out, rfl⟩
end Go.Proofs.YtpnklpjjbpheeaaDoor
