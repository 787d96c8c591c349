/-
  The walk of the reference's whole.
-/
import Derived.Test.YtcepafllgjnngaaQd
namespace Go.Proofs.Ytcepafllgjnngaa
open Go.RowKit Go.Proofs.Fl
theorem cls_one {b : Nat} (h : FlPlain.cls b = 1) : (((FlPlain.cls b : Nat) : Int) == 1) = true := by rw [h]; rfl
theorem cls_not {b : Nat} (h : ¬ FlPlain.cls b = 1) : (((FlPlain.cls b : Nat) : Int) == 1) = false := by simp; omega
set_option maxHeartbeats 400000 in
theorem whole_any (b : Nat) (w : World) (h : b < 18446744073709551616) : Calls Try.prog 32 #[.float .f64 b] w fun e w' => e = .returned (.int .u64 (FlPlain.fin b : Nat)) ∧ w' = w := by
  have hr := bits_run b
  have hc := Lk.mk (fun w => class_any b w h)
  by_cases c : FlPlain.cls b = 1
  · have E := Lk.mk (show FlPlain.fin b = 9221120237041090561 by unfold FlPlain.fin; rw [if_pos c])
    have c1 := cls_one c
    clear c h
    go_enter Try.func32, Try.ntmps32
    go_wp2_with (first | (go_at_call 41; (with_reducible refine (hc.out _).mono ?_); rintro e w' ⟨rfl, rfl⟩) | (go_at_call 44; (with_reducible refine (nan_any _).mono ?_); rintro e w' ⟨rfl, rfl⟩))
    go_ret
    exact ⟨by rw [E.out]; rfl, rfl⟩
  · have E := Lk.mk (show FlPlain.fin b = b from FlPlain.fin_id c)
    have c1 := cls_not c
    clear c h
    go_enter Try.func32, Try.ntmps32
    go_wp2_with (first | (go_at_call 41; (with_reducible refine (hc.out _).mono ?_); rintro e w' ⟨rfl, rfl⟩))
    go_ret
    exact ⟨by rw [E.out]; rfl, rfl⟩
end Go.Proofs.Ytcepafllgjnngaa
