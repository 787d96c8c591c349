/-
  The walks of awake and of the law FloatCalcs.
-/
import Derived.Test.YtpnklpjjbpheeaaDoorQh
namespace Go.Proofs.YtpnklpjjbpheeaaDoor.Flt
open Go.RowKit Go.Proofs.Fl

theorem drawn_of {w w' : World} (h : w' = w ∨ w' = w.drew) : ∃ n, w' = w.drewN n := by
  rcases h with rfl | rfl
  · exact ⟨0, rfl⟩
  · exact ⟨1, rfl⟩
theorem calc_good' (k : Int) (a b : Nat) (w : World) (h1 : 1 ≤ k) (h2 : k ≤ 10) (ha : a < 18446744073709551616) (hb : b < 18446744073709551616) :
    Calls Tryd.prog 25 #[.int .u8 k, .int .u64 a, .int .u64 b] w fun e w' => e = .returned (.tuple #[.int .u64 (FlPlain.ref k.toNat a b : Nat), .int .i64 0]) ∧ ∃ n, w' = w.drewN n :=
  (calc_good k a b w h1 h2 ha hb).mono fun _ _ h => ⟨h.1, drawn_of h.2⟩
theorem aw1 (w : World) : Calls Tryd.prog 25 #[.int .u8 4, .int .u64 4607182418800017408, .int .u64 9223372036854775808] w fun e w' => e = .returned (.tuple #[.int .u64 18442240474082181120, .int .i64 0]) ∧ ∃ n, w' = w.drewN n := by
  have h := calc_good' 4 4607182418800017408 9223372036854775808 w (by omega) (by omega) (by omega) (by omega)
  rw [show FlPlain.ref (4 : Int).toNat 4607182418800017408 9223372036854775808 = 18442240474082181120 by decide +kernel] at h
  exact h
theorem aw2 (w : World) : Calls Tryd.prog 25 #[.int .u8 7, .int .u64 0, .int .u64 9223372036854775808] w fun e w' => e = .returned (.tuple #[.int .u64 9223372036854775808, .int .i64 0]) ∧ ∃ n, w' = w.drewN n := by
  have h := calc_good' 7 0 9223372036854775808 w (by omega) (by omega) (by omega) (by omega)
  rw [show FlPlain.ref (7 : Int).toNat 0 9223372036854775808 = 9223372036854775808 by decide +kernel] at h
  exact h
set_option maxHeartbeats 400000 in
theorem awake_any (w : World) : Calls Tryd.prog 12 #[] w fun e w' => e = .returned (.bool true) ∧ ∃ n, w' = w.drewN n := by
  go_enter Tryd.func12, Tryd.ntmps12
  go_wp2_with (go_at_call 25; first | ((with_reducible refine (aw1 _).mono ?_); rintro e w' ⟨rfl, n, rfl⟩) | ((with_reducible refine (aw2 _).mono ?_); rintro e w' ⟨rfl, n2, rfl⟩))
  go_ret
  exact ⟨rfl, _, rfl⟩

end Go.Proofs.YtpnklpjjbpheeaaDoor.Flt
