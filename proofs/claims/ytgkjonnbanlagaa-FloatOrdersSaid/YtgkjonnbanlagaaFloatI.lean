/-
  The walks of awake and of the law FloatCalcs.
-/
import Derived.Test.YtgkjonnbanlagaaFloatH
namespace Go.Proofs.Ytgkjonnbanlagaa
open Go.RowKit Go.Proofs.Fl

theorem drawn_of {w w' : World} (h : w' = w ∨ w' = w.drew) : ∃ n, w' = w.drewN n := by
  rcases h with rfl | rfl
  · exact ⟨0, rfl⟩
  · exact ⟨1, rfl⟩
theorem calc_good' (k : Int) (a b : Nat) (w : World) (h1 : 1 ≤ k) (h2 : k ≤ 10) (ha : a < 18446744073709551616) (hb : b < 18446744073709551616) :
    Calls Try.prog 7 #[.int .u8 k, .int .u64 a, .int .u64 b] w fun e w' => e = .returned (.tuple #[.int .u64 (FlPlain.ref k.toNat a b : Nat), .int .i64 0]) ∧ ∃ n, w' = w.drewN n :=
  (calc_good k a b w h1 h2 ha hb).mono fun _ _ h => ⟨h.1, drawn_of h.2⟩
theorem rcalc_good' (k : Int) (a b : Nat) (w : World) (h1 : 1 ≤ k) (h2 : k ≤ 10) (ha : a < 18446744073709551616) (hb : b < 18446744073709551616) :
    Calls Try.prog 8 #[.int .u8 k, .int .u64 a, .int .u64 b] w fun e w' => e = .returned (.tuple #[.int .u64 (FlPlain.ref k.toNat a b : Nat), .int .i64 0]) ∧ ∃ n, w' = w.drewN n :=
  (rcalc_good k a b w h1 h2 ha hb).mono fun _ _ h => ⟨h.1, drawn_of h.2⟩
theorem aw1 (w : World) : Calls Try.prog 7 #[.int .u8 4, .int .u64 4607182418800017408, .int .u64 9223372036854775808] w fun e w' => e = .returned (.tuple #[.int .u64 18442240474082181120, .int .i64 0]) ∧ ∃ n, w' = w.drewN n := by
  have h := calc_good' 4 4607182418800017408 9223372036854775808 w (by omega) (by omega) (by omega) (by omega)
  rw [show FlPlain.ref (4 : Int).toNat 4607182418800017408 9223372036854775808 = 18442240474082181120 by decide +kernel] at h
  exact h
theorem aw2 (w : World) : Calls Try.prog 7 #[.int .u8 7, .int .u64 0, .int .u64 9223372036854775808] w fun e w' => e = .returned (.tuple #[.int .u64 9223372036854775808, .int .i64 0]) ∧ ∃ n, w' = w.drewN n := by
  have h := calc_good' 7 0 9223372036854775808 w (by omega) (by omega) (by omega) (by omega)
  rw [show FlPlain.ref (7 : Int).toNat 0 9223372036854775808 = 9223372036854775808 by decide +kernel] at h
  exact h
set_option maxHeartbeats 400000 in
theorem awake_any (w : World) : Calls Try.prog 9 #[] w fun e w' => e = .returned (.bool true) ∧ ∃ n, w' = w.drewN n := by
  go_enter Try.func9, Try.ntmps9
  go_wp2_with (go_at_call 7; first | ((with_reducible refine (aw1 _).mono ?_); rintro e w' ⟨rfl, n, rfl⟩) | ((with_reducible refine (aw2 _).mono ?_); rintro e w' ⟨rfl, n2, rfl⟩))
  go_ret
  exact ⟨rfl, _, rfl⟩

set_option maxHeartbeats 400000 in
theorem law3 (k : Int) (a b : Nat) (w : World) (ha : a < 18446744073709551616) (hb : b < 18446744073709551616) : Calls Try.prog 3 #[.int .u8 k, .int .u64 a, .int .u64 b] w fun e w' => e = .returned (.bool true) ∧ ∃ n, w' = w.drewN n := by
  by_cases h : 1 ≤ k ∧ k ≤ 10
  · have h1 := Lk.mk (fun w => calc_good' k a b w h.1 h.2 ha hb)
    have h2 := Lk.mk (fun w => rcalc_good' k a b w h.1 h.2 ha hb)
    generalize FlPlain.ref k.toNat a b = r at *
    clear h ha hb
    go_enter Try.func3, Try.ntmps3
    go_wp2_with (first | (go_at_call 7; (with_reducible refine (h1.out _).mono ?_); rintro e w' ⟨rfl, n, rfl⟩) | (go_at_call 8; (with_reducible refine (h2.out _).mono ?_); rintro e w' ⟨rfl, n2, rfl⟩) | (go_at_call 9; (with_reducible refine (awake_any _).mono ?_); rintro e w' ⟨rfl, n3, rfl⟩))
    go_ret
    exact ⟨rfl, _, rfl⟩
  · have h1 := Lk.mk (fun w => calc_bad k a b w (by omega))
    have h2 := Lk.mk (fun w => rcalc_bad k a b w (by omega))
    clear h ha hb
    go_enter Try.func3, Try.ntmps3
    go_wp2_with (first | (go_at_call 7; (with_reducible refine (h1.out _).mono ?_); rintro e w' ⟨rfl, rfl⟩) | (go_at_call 8; (with_reducible refine (h2.out _).mono ?_); rintro e w' ⟨rfl, rfl⟩) | (go_at_call 9; (with_reducible refine (awake_any _).mono ?_); rintro e w' ⟨rfl, n3, rfl⟩))
    go_ret
    exact ⟨rfl, n3, rfl⟩
end Go.Proofs.Ytgkjonnbanlagaa
