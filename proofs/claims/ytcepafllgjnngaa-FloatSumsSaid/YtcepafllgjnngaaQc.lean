/-
  The walks of float.bits and float.Calc.
-/
import Derived.Test.YtcepafllgjnngaaQb
namespace Go.Proofs.Ytcepafllgjnngaa
open Go.RowKit Go.Proofs.Fl

theorem order_self {b : Nat} (h : b < 18446744073709551616) (c : FlPlain.cls b ≠ 1) : Ieee.double.order b b = some .eq := by
  have := FlPlain.order_eq h h c c
  have hl : FlPlain.less b b = false := by unfold FlPlain.less; simp
  rw [hl] at this
  exact this
theorem order_self_nan {b : Nat} (h : b < 18446744073709551616) (c : FlPlain.cls b = 1) : Ieee.double.order b b = none := FlPlain.order_nan h h (.inl c)

set_option maxHeartbeats 400000 in
theorem bits_any (b : Nat) (w : World) (h : b < 18446744073709551616) : Calls Try.prog 16 #[.float .f64 b] w fun e w' => e = .returned (.int .u64 (FlPlain.fin b : Nat)) ∧ w' = w := by
  by_cases c : FlPlain.cls b = 1
  · have e : FlPlain.fin b = 9221120237041090561 := by unfold FlPlain.fin; rw [if_pos c]
    have E := Lk.mk e
    have ho := order_self_nan h c
    have ho' : (FloatKind.f64.format.order b b != some .eq) = true := by rw [fmt64, ho]; rfl
    clear e c h ho
    go_enter Try.func16, Try.ntmps16
    go_wp2
    go_ret
    exact ⟨by rw [E.out]; rfl, rfl⟩
  · have e : FlPlain.fin b = b := FlPlain.fin_id c
    have E := Lk.mk e
    have ho := order_self h c
    have ho' : (FloatKind.f64.format.order b b != some .eq) = false := by rw [fmt64, ho]; rfl
    have hr := bits_run b
    clear e c h ho
    go_enter Try.func16, Try.ntmps16
    go_wp2
    go_ret
    exact ⟨by rw [E.out]; rfl, rfl⟩

/-- what float.Calc answers: its bits, and its error -/
theorem calc_bad (k a b : Int) (w : World) (h : k < 1 ∨ 10 < k) : Calls Try.prog 14 #[.int .u8 k, .int .u64 a, .int .u64 b] w fun e w' => e = .returned (.tuple #[.int .u64 0, .int .i64 1]) ∧ w' = w := by
  by_cases h1 : k < 1
  · clear h
    go_enter Try.func14, Try.ntmps14
    go_wp2
    go_ret2
    exact ⟨rfl, rfl⟩
  · have h2 : 10 < k := by omega
    clear h
    go_enter Try.func14, Try.ntmps14
    go_wp2
    go_ret2
    exact ⟨rfl, rfl⟩
theorem calc_good (k : Int) (a b : Nat) (w : World) (h1 : 1 ≤ k) (h2 : k ≤ 10) (ha : a < 18446744073709551616) (hb : b < 18446744073709551616) :
    Calls Try.prog 14 #[.int .u8 k, .int .u64 a, .int .u64 b] w fun e w' => e = .returned (.tuple #[.int .u64 (FlPlain.ref k.toNat a b : Nat), .int .i64 0]) ∧ (w' = w ∨ w' = w.drew) := by
  have hc := Lk.mk (fun w => calc_any k a b w h1 h2 ha hb)
  have hr := Lk.mk (FlPlain.own_ref (op := k.toNat) ha hb)
  have ra := frombits_run a
  have rb := frombits_run b
  have k1 : ¬ k < 1 := by omega
  have k2 : ¬ 10 < k := by omega
  clear ha hb h1 h2
  go_enter Try.func14, Try.ntmps14
  go_wp2_with (first | (go_at_call 29; refine (hc.out _).mono ?_; rintro e w' ⟨r, rfl, hl, hf, hw⟩) | (go_at_call 16; refine (bits_any _ _ hl).mono ?_; rintro e w'' ⟨rfl, rfl⟩))
  go_ret2
  exact ⟨by rw [← hr.out, ← hf]; rfl, hw⟩
end Go.Proofs.Ytcepafllgjnngaa
