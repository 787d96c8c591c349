/-
  The walks of float.bits, float.truth, float.calc, float.Calc, and of the reference's Class, Below, nan, signed, whole, truth, less.
-/
import Derived.Test.YtcepafllgjnngaaProg
import Derived.Test.YtcepafllgjnngaaQ5
namespace Go.Proofs.Ytcepafllgjnngaa
open Go.RowKit Go.Proofs.Fl

theorem frombits_run (n : Int) (w : World) : (callFunc 15 #[.int .u64 n]).run Try.prog w = .ok (.value (.float .f64 n.toNat)) w :=
  (run_callFunc_extern (e := Extern.MathFloatBits.float64frombits) Try.func15 (by kernel_rfl) (by kernel_rfl) (by kernel_rfl) (by kernel_rfl) _ w).trans rfl
theorem bits_run (n : Nat) (w : World) : (callFunc 30 #[.float .f64 n]).run Try.prog w = .ok (.value (.int .u64 n)) w :=
  (run_callFunc_extern (e := Extern.MathFloatBits.float64bits) Try.func30 (by kernel_rfl) (by kernel_rfl) (by kernel_rfl) (by kernel_rfl) _ w).trans rfl

set_option maxHeartbeats 400000 in
theorem truth_any (t : Bool) (w : World) : Calls Try.prog 40 #[.bool t] w fun e w' => e = .returned (.float .f64 (FlPlain.truth t)) ∧ w' = w := by
  cases t
  · go_enter Try.func40, Try.ntmps40
    go_wp2
    go_ret
    exact ⟨rfl, rfl⟩
  · go_enter Try.func40, Try.ntmps40
    go_wp2
    go_ret
    exact ⟨rfl, rfl⟩
end Go.Proofs.Ytcepafllgjnngaa
