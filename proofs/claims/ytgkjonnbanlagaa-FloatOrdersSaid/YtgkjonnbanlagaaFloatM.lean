/-
  The walks of float.key, of the library's comparison, of float.Order and of the reference's Order, and of the law FloatOrders.
-/
import Derived.Test.YtgkjonnbanlagaaFloatI
import Derived.Test.YtgkjonnbanlagaaFloatK
namespace Go.Proofs.Ytgkjonnbanlagaa
open Go.RowKit Go.Proofs.Fl

/-- a number that rises in the order of bits -/
def keyN (b : Nat) : Nat := if FlPlain.below b then 18446744073709551615 - b else b + 9223372036854775808
def ordN (a b : Nat) : Int := if keyN a < keyN b then -1 else if keyN b < keyN a then 1 else 0
theorem key_inj {a b : Nat} (ha : a < 18446744073709551616) (hb : b < 18446744073709551616) (h : keyN a = keyN b) : a = b := by
  unfold keyN FlPlain.below at h
  by_cases h1 : 9223372036854775808 ≤ a <;> by_cases h2 : 9223372036854775808 ≤ b <;> simp [h1, h2] at h <;> omega
theorem not_u64 (b : Nat) (h : b < 18446744073709551616) : bits .xor .u64 18446744073709551615 (b : Int) = ((18446744073709551615 - b : Nat) : Int) := by
  rw [show (18446744073709551615 : Int) = ((18446744073709551615 : Nat) : Int) from rfl, u64_xor_nat _ _ (by omega) h]
  congr 1
  apply Nat.eq_of_testBit_eq
  intro j
  have e : 18446744073709551615 - b = 2 ^ 64 - (b + 1) := by omega
  rw [Nat.testBit_xor, e, Nat.testBit_two_pow_sub_succ (show b < 2 ^ 64 from h), show (18446744073709551615 : Nat) = 2 ^ 64 - 1 from rfl, Nat.testBit_two_pow_sub_one]
  by_cases hj : j < 64
  · simp [hj]
  · have : b.testBit j = false := Nat.testBit_lt_two_pow (Nat.lt_of_lt_of_le (show b < 2 ^ 64 from h) (Nat.pow_le_pow_right (by omega) (by omega)))
    simp [hj, this]

set_option maxHeartbeats 400000 in
theorem key_any (b : Nat) (w : World) (h : b < 18446744073709551616) : Calls Try.prog 26 #[.int .u64 b] w fun e w' => e = .returned (.int .u64 (keyN b : Nat)) ∧ w' = w := by
  by_cases hb : 9223372036854775808 ≤ b
  · have H := Lk.mk (show keyN b = 18446744073709551615 - b by unfold keyN FlPlain.below; simp [hb])
    have hx : bits .and .u64 (b : Int) 9223372036854775808 = 9223372036854775808 := by
      rw [show (9223372036854775808 : Int) = ((9223372036854775808 : Nat) : Int) from rfl, u64_and_nat _ _ h (by omega), mask_sign]; congr 1; omega
    have HU := Lk.mk (show bits .xor .u64 IntKind.u64.max (b : Int) = ((18446744073709551615 - b : Nat) : Int) from not_u64 b h)
    clear hb h
    generalize keyN b = k at *
    go_enter Try.func26, Try.ntmps26
    go_wp2
    go_ret
    exact ⟨ret_nat (by rw [HU.out, H.out]), rfl⟩
  · have H := Lk.mk (show keyN b = b + 9223372036854775808 by unfold keyN FlPlain.below; simp [hb])
    have hx : bits .and .u64 (b : Int) 9223372036854775808 = 0 := by
      rw [show (9223372036854775808 : Int) = ((9223372036854775808 : Nat) : Int) from rfl, u64_and_nat _ _ h (by omega), mask_sign]
      have : b / 9223372036854775808 = 0 := by omega
      simp [this]
    have hy : bits .or .u64 (b : Int) 9223372036854775808 = ((b + 9223372036854775808 : Nat) : Int) := by
      rw [show (9223372036854775808 : Int) = ((9223372036854775808 : Nat) : Int) from rfl, u64_or_nat _ _ h (by omega), or_sign b (by omega)]
    have HY := Lk.mk hy
    clear hb h hy
    generalize keyN b = k at *
    go_enter Try.func26, Try.ntmps26
    go_wp2
    go_ret
    exact ⟨ret_nat (by rw [HY.out, H.out]), rfl⟩
theorem isnan_any (x : Int) (w : World) : Calls Try.prog 36 #[.int .u64 x] w fun e w' => e = .returned (.bool false) ∧ w' = w := by
  go_enter Try.func36, Try.ntmps36
  go_wp2
  go_ret
  exact ⟨by simp, rfl⟩
theorem ret_int {k : IntKind} {a b : Int} (h : a = b) : Ending.returned (.int k a) = .returned (.int k b) := by rw [h]
set_option maxHeartbeats 400000 in
theorem compare_any (x y : Int) (w : World) : Calls Try.prog 25 #[.int .u64 x, .int .u64 y] w fun e w' => e = .returned (.int .i64 (if x < y then -1 else if y < x then 1 else 0)) ∧ w' = w := by
  obtain ⟨r, hr⟩ : ∃ r : Int, r = (if x < y then -1 else if y < x then 1 else 0) := ⟨_, rfl⟩
  rw [← hr]
  have H := Lk.mk hr
  clear hr
  go_enter Try.func25, Try.ntmps25
  go_wp2_with (go_at_call 36; (with_reducible refine (isnan_any _ _).mono ?_); rintro e w' ⟨rfl, rfl⟩)
  all_goals go_ret
  all_goals refine ⟨ret_int ?_, rfl⟩
  all_goals rw [H.out]
  all_goals clear H
  all_goals (first | (rw [if_pos (by omega)]; done) | (rw [if_neg (by omega), if_pos (by omega)]; done) | (rw [if_neg (by omega), if_neg (by omega)]; done))
set_option maxHeartbeats 400000 in
theorem order_any (a b : Nat) (w : World) (ha : a < 18446744073709551616) (hb : b < 18446744073709551616) : Calls Try.prog 15 #[.int .u64 a, .int .u64 b] w fun e w' => e = .returned (.int .i64 (ordN a b)) ∧ w' = w := by
  have KA := Lk.mk (fun w => key_any a w ha)
  have KB := Lk.mk (fun w => key_any b w hb)
  have C := Lk.mk (fun w => compare_any ((keyN a : Nat) : Int) ((keyN b : Nat) : Int) w)
  have H := Lk.mk (show ordN a b = (if ((keyN a : Nat) : Int) < ((keyN b : Nat) : Int) then -1 else if ((keyN b : Nat) : Int) < ((keyN a : Nat) : Int) then 1 else 0) by unfold ordN; simp only [Int.ofNat_lt])
  clear ha hb
  generalize keyN a = x at *
  generalize keyN b = y at *
  generalize (if ((x : Nat) : Int) < ((y : Nat) : Int) then -1 else if ((y : Nat) : Int) < ((x : Nat) : Int) then 1 else 0 : Int) = r at *
  go_enter Try.func15, Try.ntmps15
  go_wp2_with (first | (go_at_call 26; first | ((with_reducible refine (KA.out _).mono ?_); rintro e w' ⟨rfl, rfl⟩) | ((with_reducible refine (KB.out _).mono ?_); rintro e w' ⟨rfl, rfl⟩)) | (go_at_call 25; (with_reducible refine (C.out _).mono ?_); rintro e w' ⟨rfl, rfl⟩))
  go_ret
  exact ⟨by rw [H.out]; rfl, rfl⟩
theorem ord_ref (a b : Nat) (ha : a < 18446744073709551616) (hb : b < 18446744073709551616) : ordN a b = (if (a : Int) = (b : Int) then 0 else if FlPlain.below a ≠ FlPlain.below b then (if FlPlain.below a then -1 else 1) else if FlPlain.below a = decide ((b : Int) < (a : Int)) then -1 else 1) := by
  unfold ordN keyN FlPlain.below
  by_cases h1 : 9223372036854775808 ≤ a <;> by_cases h2 : 9223372036854775808 ≤ b <;> simp [h1, h2] <;> (repeat' split) <;> omega
set_option maxHeartbeats 400000 in
theorem rorder_any (a b : Nat) (w : World) (ha : a < 18446744073709551616) (hb : b < 18446744073709551616) : Calls Try.prog 16 #[.int .u64 a, .int .u64 b] w fun e w' => e = .returned (.int .i64 (ordN a b)) ∧ w' = w := by
  have BA := Lk.mk (fun w => below_any a w)
  have BB := Lk.mk (fun w => below_any b w)
  have H := Lk.mk (ord_ref a b ha hb)
  clear ha hb
  generalize ordN a b = r at *
  generalize FlPlain.below a = ba at *
  generalize FlPlain.below b = bb at *
  go_enter Try.func16, Try.ntmps16
  go_wp2_with (go_at_call 11; first | ((with_reducible refine (BA.out _).mono ?_); rintro e w' ⟨rfl, rfl⟩) | ((with_reducible refine (BB.out _).mono ?_); rintro e w' ⟨rfl, rfl⟩))
  all_goals go_ret
  all_goals refine ⟨ret_int ?_, rfl⟩
  all_goals rw [H.out]
  all_goals clear H BA BB
  all_goals simp_all
theorem ord_bound (a b : Nat) : ordN a b = -1 ∨ ordN a b = 0 ∨ ordN a b = 1 := by unfold ordN; repeat' split <;> omega
theorem ord_swap (a b : Nat) : ordN b a = - ordN a b := by unfold ordN; repeat' split <;> omega
theorem ord_zero {a b : Nat} (ha : a < 18446744073709551616) (hb : b < 18446744073709551616) : ordN a b = 0 ↔ a = b := by
  constructor
  · intro h
    apply key_inj ha hb
    unfold ordN at h
    repeat' split at h
    all_goals omega
  · rintro rfl
    unfold ordN; simp
theorem ord_trans (a b c : Nat) : 0 < ordN a b ∨ 0 < ordN b c ∨ ordN a c ≤ 0 := by unfold ordN; repeat' split <;> omega

set_option maxHeartbeats 1000000 in
theorem law6_any (a b c x y z : Int) (w : World) (hx : x = -1 ∨ x = 0 ∨ x = 1) (h0 : (x == 0) = (a == b)) (ht : 0 < x ∨ 0 < y ∨ z ≤ 0)
    (h1 : Lk (∀ w, Calls Try.prog 15 #[.int .u64 a, .int .u64 b] w fun e w' => e = .returned (.int .i64 x) ∧ w' = w))
    (h2 : Lk (∀ w, Calls Try.prog 16 #[.int .u64 a, .int .u64 b] w fun e w' => e = .returned (.int .i64 x) ∧ w' = w))
    (h3 : Lk (∀ w, Calls Try.prog 15 #[.int .u64 b, .int .u64 a] w fun e w' => e = .returned (.int .i64 (-x)) ∧ w' = w))
    (h4 : Lk (∀ w, Calls Try.prog 15 #[.int .u64 b, .int .u64 c] w fun e w' => e = .returned (.int .i64 y) ∧ w' = w))
    (h5 : Lk (∀ w, Calls Try.prog 15 #[.int .u64 a, .int .u64 c] w fun e w' => e = .returned (.int .i64 z) ∧ w' = w)) :
    Calls Try.prog 6 #[.int .u64 a, .int .u64 b, .int .u64 c] w fun e w' => e = .returned (.bool true) ∧ ∃ n, w' = w.drewN n := by
  have T := Lk.mk ht
  have X := Lk.mk hx
  clear ht hx
  rcases X.out with rfl | rfl | rfl
  · have hab : (a == b) = false := by rw [← h0]; rfl
    clear h0
    by_cases hy : 0 < y
    · clear T
      go_enter Try.func6, Try.ntmps6
      go_wp2_with (first | (go_at_call 15; first | ((with_reducible refine (h1.out _).mono ?_); rintro e w' ⟨rfl, rfl⟩) | ((with_reducible refine (h3.out _).mono ?_); rintro e w' ⟨rfl, rfl⟩) | ((with_reducible refine (h4.out _).mono ?_); rintro e w' ⟨rfl, rfl⟩) | ((with_reducible refine (h5.out _).mono ?_); rintro e w' ⟨rfl, rfl⟩)) | (go_at_call 16; (with_reducible refine (h2.out _).mono ?_); rintro e w' ⟨rfl, rfl⟩) | (go_at_call 9; (with_reducible refine (awake_any _).mono ?_); rintro e w' ⟨rfl, n3, rfl⟩))
      all_goals go_ret
      all_goals exact ⟨rfl, _, rfl⟩
    · have hz : z ≤ 0 := by have := T.out; omega
      clear T
      go_enter Try.func6, Try.ntmps6
      go_wp2_with (first | (go_at_call 15; first | ((with_reducible refine (h1.out _).mono ?_); rintro e w' ⟨rfl, rfl⟩) | ((with_reducible refine (h3.out _).mono ?_); rintro e w' ⟨rfl, rfl⟩) | ((with_reducible refine (h4.out _).mono ?_); rintro e w' ⟨rfl, rfl⟩) | ((with_reducible refine (h5.out _).mono ?_); rintro e w' ⟨rfl, rfl⟩)) | (go_at_call 16; (with_reducible refine (h2.out _).mono ?_); rintro e w' ⟨rfl, rfl⟩) | (go_at_call 9; (with_reducible refine (awake_any _).mono ?_); rintro e w' ⟨rfl, n3, rfl⟩))
      all_goals go_ret
      all_goals exact ⟨rfl, _, rfl⟩
  · have hab : (a == b) = true := by rw [← h0]; rfl
    clear h0
    by_cases hy : 0 < y
    · clear T
      go_enter Try.func6, Try.ntmps6
      go_wp2_with (first | (go_at_call 15; first | ((with_reducible refine (h1.out _).mono ?_); rintro e w' ⟨rfl, rfl⟩) | ((with_reducible refine (h3.out _).mono ?_); rintro e w' ⟨rfl, rfl⟩) | ((with_reducible refine (h4.out _).mono ?_); rintro e w' ⟨rfl, rfl⟩) | ((with_reducible refine (h5.out _).mono ?_); rintro e w' ⟨rfl, rfl⟩)) | (go_at_call 16; (with_reducible refine (h2.out _).mono ?_); rintro e w' ⟨rfl, rfl⟩) | (go_at_call 9; (with_reducible refine (awake_any _).mono ?_); rintro e w' ⟨rfl, n3, rfl⟩))
      all_goals go_ret
      all_goals exact ⟨rfl, _, rfl⟩
    · have hz : z ≤ 0 := by have := T.out; omega
      clear T
      go_enter Try.func6, Try.ntmps6
      go_wp2_with (first | (go_at_call 15; first | ((with_reducible refine (h1.out _).mono ?_); rintro e w' ⟨rfl, rfl⟩) | ((with_reducible refine (h3.out _).mono ?_); rintro e w' ⟨rfl, rfl⟩) | ((with_reducible refine (h4.out _).mono ?_); rintro e w' ⟨rfl, rfl⟩) | ((with_reducible refine (h5.out _).mono ?_); rintro e w' ⟨rfl, rfl⟩)) | (go_at_call 16; (with_reducible refine (h2.out _).mono ?_); rintro e w' ⟨rfl, rfl⟩) | (go_at_call 9; (with_reducible refine (awake_any _).mono ?_); rintro e w' ⟨rfl, n3, rfl⟩))
      all_goals go_ret
      all_goals exact ⟨rfl, _, rfl⟩
  · have hab : (a == b) = false := by rw [← h0]; rfl
    clear h0 T
    · go_enter Try.func6, Try.ntmps6
      go_wp2_with (first | (go_at_call 15; first | ((with_reducible refine (h1.out _).mono ?_); rintro e w' ⟨rfl, rfl⟩) | ((with_reducible refine (h3.out _).mono ?_); rintro e w' ⟨rfl, rfl⟩) | ((with_reducible refine (h4.out _).mono ?_); rintro e w' ⟨rfl, rfl⟩) | ((with_reducible refine (h5.out _).mono ?_); rintro e w' ⟨rfl, rfl⟩)) | (go_at_call 16; (with_reducible refine (h2.out _).mono ?_); rintro e w' ⟨rfl, rfl⟩) | (go_at_call 9; (with_reducible refine (awake_any _).mono ?_); rintro e w' ⟨rfl, n3, rfl⟩))
      all_goals go_ret
      all_goals exact ⟨rfl, _, rfl⟩
theorem law6 (a b c : Nat) (w : World) (ha : a < 18446744073709551616) (hb : b < 18446744073709551616) (hc : c < 18446744073709551616) :
    Calls Try.prog 6 #[.int .u64 a, .int .u64 b, .int .u64 c] w fun e w' => e = .returned (.bool true) ∧ ∃ n, w' = w.drewN n := by
  refine law6_any a b c (ordN a b) (ordN b c) (ordN a c) w (ord_bound a b) ?_ (ord_trans a b c) ⟨fun w => order_any a b w ha hb⟩ ⟨fun w => rorder_any a b w ha hb⟩ ⟨fun w => ?_⟩ ⟨fun w => order_any b c w hb hc⟩ ⟨fun w => order_any a c w ha hc⟩
  · rw [Bool.eq_iff_iff]
    have := ord_zero ha hb
    simp only [beq_iff_eq]
    omega
  · rw [← ord_swap a b]; exact order_any b a w hb ha
end Go.Proofs.Ytgkjonnbanlagaa
