/-
  The walk of the law FloatOne.
-/
import Derived.Test.YtgkjonnbanlagaaFloatI
import Derived.Test.YtgkjonnbanlagaaFloatK
namespace Go.Proofs.Ytgkjonnbanlagaa
open Go.RowKit Go.Proofs.Fl

theorem orNan_lt {o : Option Nat} (h : ∀ r, o = some r → r < 18446744073709551616) : FlPlain.orNan o < 18446744073709551616 := by
  cases o with
  | none => show 9221120237041090561 < _; omega
  | some r =>
    have := h r rfl
    show FlPlain.fin r < _
    unfold FlPlain.fin
    split <;> omega
theorem some_lt {x : Nat} (h : x < 18446744073709551616) : ∀ r, some x = some r → r < 18446744073709551616 := fun r e => by injection e with e; omega
theorem ref_lt (op a b : Nat) (ha : a < 18446744073709551616) (hb : b < 18446744073709551616) : FlPlain.ref op a b < 18446744073709551616 := by
  rw [← FlPlain.own_ref ha hb]
  apply orNan_lt
  unfold FlPlain.own
  by_cases h1 : op = 1
  · rw [if_pos h1]; exact fun r h => by rw [← width64]; exact Ieee.Format.add_lt _ h
  rw [if_neg h1]
  by_cases h2 : op = 2
  · rw [if_pos h2]; exact fun r h => by rw [← width64]; exact Ieee.Format.sub_lt _ h
  rw [if_neg h2]
  by_cases h3 : op = 3
  · rw [if_pos h3]; exact fun r h => by rw [← width64]; exact Ieee.Format.mul_lt _ h
  rw [if_neg h3]
  by_cases h4 : op = 4
  · rw [if_pos h4]; exact fun r h => by rw [← width64]; exact Ieee.Format.div_lt _ h
  rw [if_neg h4]
  by_cases h5 : op = 5
  · rw [if_pos h5]; exact some_lt (truth_lt _)
  rw [if_neg h5]
  by_cases h6 : op = 6
  · rw [if_pos h6]; exact some_lt (truth_lt _)
  rw [if_neg h6]
  by_cases h7 : op = 7
  · rw [if_pos h7]; exact fun r h => least2_lt ha hb h
  rw [if_neg h7]
  by_cases h8 : op = 8
  · rw [if_pos h8]; exact fun r h => most2_lt ha hb h
  rw [if_neg h8]
  by_cases h9 : op = 9
  · rw [if_pos h9]; exact some_lt (by rw [FlPlain.xor_flip ha]; exact FlPlain.flip_lt ha)
  rw [if_neg h9]
  exact fun r h => by rw [← width64]; exact Ieee.Format.sqrt_lt _ h
theorem ref_one (op a b : Nat) (ha : a < 18446744073709551616) (hb : b < 18446744073709551616) (h : FlPlain.cls (FlPlain.ref op a b) = 1) : FlPlain.ref op a b = 9221120237041090561 := by
  rw [← FlPlain.own_ref ha hb] at *
  exact FlPlain.orNan_one _ h
theorem truth_two (t : Bool) : FlPlain.truth t = 0 ∨ FlPlain.truth t = 4607182418800017408 := by cases t <;> decide
theorem ref_cmp (op a b : Nat) (h : op = 5 ∨ op = 6) : FlPlain.ref op a b = 0 ∨ (FlPlain.ref op a b = 4607182418800017408 ∧ FlPlain.cls a ≠ 1 ∧ FlPlain.cls b ≠ 1) := by
  by_cases n : FlPlain.cls a = 1 ∨ FlPlain.cls b = 1
  · left; rcases h with rfl | rfl <;> (unfold FlPlain.ref; simp [n])
  · have n1 : FlPlain.cls a ≠ 1 := fun e => n (.inl e)
    have n2 : FlPlain.cls b ≠ 1 := fun e => n (.inr e)
    rcases h with rfl | rfl
    · have e : FlPlain.ref 5 a b = FlPlain.truth (FlPlain.less a b) := by unfold FlPlain.ref; simp [n]
      rw [e]
      rcases truth_two (FlPlain.less a b) with h | h <;> simp [h, n1, n2]
    · have e : FlPlain.ref 6 a b = FlPlain.truth (a == b || decide (FlPlain.cls a = 3 ∧ FlPlain.cls b = 3)) := by unfold FlPlain.ref; simp [n]
      generalize (a == b || decide (FlPlain.cls a = 3 ∧ FlPlain.cls b = 3)) = t at e
      rw [e]
      rcases truth_two t with h | h <;> simp [h, n1, n2]

/-- the part of the law behind float.Calc -/
theorem law4_bad (k : Int) (a b : Nat) (w : World) (h : ¬ (1 ≤ k ∧ k ≤ 10)) : Calls Try.prog 4 #[.int .u8 k, .int .u64 a, .int .u64 b] w fun e w' => e = .returned (.bool true) ∧ ∃ n, w' = w.drewN n := by
  have h1 := Lk.mk (fun w => calc_bad k a b w (by omega))
  clear h
  go_enter Try.func4, Try.ntmps4
  go_wp2_with (first | (go_at_call 7; (with_reducible refine (h1.out _).mono ?_); rintro e w' ⟨rfl, rfl⟩) | (go_at_call 9; (with_reducible refine (awake_any _).mono ?_); rintro e w' ⟨rfl, n3, rfl⟩))
  go_ret
  exact ⟨rfl, _, rfl⟩
set_option maxHeartbeats 400000 in
theorem law4_plain (k : Int) (a b r c : Nat) (w : World) (k5 : (k == 5) = false) (k6 : (k == 6) = false)
    (h1 : Lk (∀ w, Calls Try.prog 7 #[.int .u8 k, .int .u64 a, .int .u64 b] w fun e w' => e = .returned (.tuple #[.int .u64 (r : Nat), .int .i64 0]) ∧ ∃ n, w' = w.drewN n))
    (h2 : Lk (∀ w, Calls Try.prog 10 #[.int .u64 r] w fun e w' => e = .returned (.int .u8 (c : Nat)) ∧ w' = w)) (hc : ((c : Int) == 1) = false) :
    Calls Try.prog 4 #[.int .u8 k, .int .u64 a, .int .u64 b] w fun e w' => e = .returned (.bool true) ∧ ∃ n, w' = w.drewN n := by
  go_enter Try.func4, Try.ntmps4
  go_wp2_with (first | (go_at_call 7; (with_reducible refine (h1.out _).mono ?_); rintro e w' ⟨rfl, n, rfl⟩) | (go_at_call 10; (with_reducible refine (h2.out _).mono ?_); rintro e w' ⟨rfl, rfl⟩) | (go_at_call 9; (with_reducible refine (awake_any _).mono ?_); rintro e w' ⟨rfl, n3, rfl⟩))
  go_ret
  exact ⟨rfl, _, rfl⟩
set_option maxHeartbeats 400000 in
theorem law4_nan (k : Int) (a b : Nat) (w : World) (k5 : (k == 5) = false) (k6 : (k == 6) = false)
    (h1 : Lk (∀ w, Calls Try.prog 7 #[.int .u8 k, .int .u64 a, .int .u64 b] w fun e w' => e = .returned (.tuple #[.int .u64 9221120237041090561, .int .i64 0]) ∧ ∃ n, w' = w.drewN n))
    (h2 : Lk (∀ w, Calls Try.prog 10 #[.int .u64 9221120237041090561] w fun e w' => e = .returned (.int .u8 1) ∧ w' = w)) :
    Calls Try.prog 4 #[.int .u8 k, .int .u64 a, .int .u64 b] w fun e w' => e = .returned (.bool true) ∧ ∃ n, w' = w.drewN n := by
  go_enter Try.func4, Try.ntmps4
  go_wp2_with (first | (go_at_call 7; (with_reducible refine (h1.out _).mono ?_); rintro e w' ⟨rfl, n, rfl⟩) | (go_at_call 10; (with_reducible refine (h2.out _).mono ?_); rintro e w' ⟨rfl, rfl⟩) | (go_at_call 9; (with_reducible refine (awake_any _).mono ?_); rintro e w' ⟨rfl, n3, rfl⟩))
  go_ret
  exact ⟨rfl, _, rfl⟩
set_option maxHeartbeats 400000 in
theorem law4_zero (k : Int) (a b : Nat) (w : World) (hk : k = 5 ∨ k = 6)
    (h1 : Lk (∀ w, Calls Try.prog 7 #[.int .u8 k, .int .u64 a, .int .u64 b] w fun e w' => e = .returned (.tuple #[.int .u64 0, .int .i64 0]) ∧ ∃ n, w' = w.drewN n))
    (h2 : Lk (∀ w, Calls Try.prog 10 #[.int .u64 0] w fun e w' => e = .returned (.int .u8 3) ∧ w' = w))
    (h3 : Lk (∀ w, Calls Try.prog 10 #[.int .u64 a] w fun e w' => e = .returned (.int .u8 (FlPlain.cls a : Nat)) ∧ w' = w))
    (h4 : Lk (∀ w, Calls Try.prog 10 #[.int .u64 b] w fun e w' => e = .returned (.int .u8 (FlPlain.cls b : Nat)) ∧ w' = w)) :
    Calls Try.prog 4 #[.int .u8 k, .int .u64 a, .int .u64 b] w fun e w' => e = .returned (.bool true) ∧ ∃ n, w' = w.drewN n := by
  generalize FlPlain.cls a = ca at *
  generalize FlPlain.cls b = cb at *
  rcases hk with rfl | rfl
  all_goals
    go_enter Try.func4, Try.ntmps4
    go_wp2_with (first | (go_at_call 7; (with_reducible refine (h1.out _).mono ?_); rintro e w' ⟨rfl, n, rfl⟩) | (go_at_call 10; first | ((with_reducible refine (h2.out _).mono ?_); rintro e w' ⟨rfl, rfl⟩) | ((with_reducible refine (h3.out _).mono ?_); rintro e w' ⟨rfl, rfl⟩) | ((with_reducible refine (h4.out _).mono ?_); rintro e w' ⟨rfl, rfl⟩)) | (go_at_call 9; (with_reducible refine (awake_any _).mono ?_); rintro e w' ⟨rfl, n3, rfl⟩))
    all_goals go_ret
    all_goals exact ⟨rfl, _, rfl⟩
set_option maxHeartbeats 400000 in
theorem law4_one (k : Int) (a b ca cb : Nat) (w : World) (hk : k = 5 ∨ k = 6)
    (h1 : Lk (∀ w, Calls Try.prog 7 #[.int .u8 k, .int .u64 a, .int .u64 b] w fun e w' => e = .returned (.tuple #[.int .u64 4607182418800017408, .int .i64 0]) ∧ ∃ n, w' = w.drewN n))
    (h2 : Lk (∀ w, Calls Try.prog 10 #[.int .u64 4607182418800017408] w fun e w' => e = .returned (.int .u8 5) ∧ w' = w))
    (h3 : Lk (∀ w, Calls Try.prog 10 #[.int .u64 a] w fun e w' => e = .returned (.int .u8 (ca : Nat)) ∧ w' = w))
    (h4 : Lk (∀ w, Calls Try.prog 10 #[.int .u64 b] w fun e w' => e = .returned (.int .u8 (cb : Nat)) ∧ w' = w)) (ha : ((ca : Int) == 1) = false) (hb : ((cb : Int) == 1) = false) :
    Calls Try.prog 4 #[.int .u8 k, .int .u64 a, .int .u64 b] w fun e w' => e = .returned (.bool true) ∧ ∃ n, w' = w.drewN n := by
  rcases hk with rfl | rfl
  all_goals
    go_enter Try.func4, Try.ntmps4
    go_wp2_with (first | (go_at_call 7; (with_reducible refine (h1.out _).mono ?_); rintro e w' ⟨rfl, n, rfl⟩) | (go_at_call 10; first | ((with_reducible refine (h2.out _).mono ?_); rintro e w' ⟨rfl, rfl⟩) | ((with_reducible refine (h3.out _).mono ?_); rintro e w' ⟨rfl, rfl⟩) | ((with_reducible refine (h4.out _).mono ?_); rintro e w' ⟨rfl, rfl⟩)) | (go_at_call 9; (with_reducible refine (awake_any _).mono ?_); rintro e w' ⟨rfl, n3, rfl⟩))
    all_goals go_ret
    all_goals exact ⟨rfl, _, rfl⟩

theorem law4 (k : Int) (a b : Nat) (w : World) (ha : a < 18446744073709551616) (hb : b < 18446744073709551616) : Calls Try.prog 4 #[.int .u8 k, .int .u64 a, .int .u64 b] w fun e w' => e = .returned (.bool true) ∧ ∃ n, w' = w.drewN n := by
  by_cases h : 1 ≤ k ∧ k ≤ 10
  · have h1 := fun w => calc_good' k a b w h.1 h.2 ha hb
    have h3 := Lk.mk (fun w => pclass_any a w ha)
    have h4 := Lk.mk (fun w => pclass_any b w hb)
    by_cases hk : k = 5 ∨ k = 6
    · rcases ref_cmp k.toNat a b (by omega) with hr | ⟨hr, na, nb⟩
      · rw [hr] at h1
        exact law4_zero k a b w hk ⟨h1⟩ ⟨fun w => pclass_any 0 w (by omega)⟩ h3 h4
      · rw [hr] at h1
        exact law4_one k a b _ _ w hk ⟨h1⟩ ⟨fun w => pclass_any 4607182418800017408 w (by omega)⟩ h3 h4 (cls_not na) (cls_not nb)
    · have hl := ref_lt k.toNat a b ha hb
      by_cases hc : FlPlain.cls (FlPlain.ref k.toNat a b) = 1
      · have hr := ref_one k.toNat a b ha hb hc
        rw [hr] at h1
        exact law4_nan k a b w (by simp; omega) (by simp; omega) ⟨h1⟩ ⟨fun w => pclass_any 9221120237041090561 w (by omega)⟩
      · exact law4_plain k a b _ _ w (by simp; omega) (by simp; omega) ⟨h1⟩ ⟨fun w => pclass_any _ w hl⟩ (cls_not hc)
  · exact law4_bad k a b w h
end Go.Proofs.Ytgkjonnbanlagaa
