/-
  The walks of the walks' references: Is, Size, May, Same; conditions: what is handed in reads as told.
-/
import Derived.Test.YtcepafllgjnngaaDoorN1
import Derived.Test.YtcepafllgjnngaaDoorK3
import Derived.Test.YtcepafllgjnngaaDoorPa
namespace Go.Proofs.YtcepafllgjnngaaDoor
open Go.RowKit Go.Proofs.YtcepafllgjnngaaDoorW.PrintWords

theorem isB_nat (n : Nat) (h : n < 9223372036854775808) : isB (n : Int) = Wk.isP n := by
  unfold isB Wk.isP
  rcases Nat.eq_zero_or_pos n with h0 | h0
  · subst h0; rfl
  · rw [Wk.bits_and n h0 h]
    rw [decide_eq_true h0, decide_eq_true (show (0 : Int) < (n : Int) by omega), Bool.true_and, Bool.true_and]
    generalize n &&& (n - 1) = x
    by_cases hx : x = 0
    · subst hx; rfl
    · rw [beq_false_of_ne hx, beq_false_of_ne (show (x : Int) ≠ 0 by omega)]
theorem isB_neg (n : Int) (h : ¬ 0 < n) : isB n = false := by unfold isB; rw [decide_eq_false h]; rfl
theorem beq_dec (k n : Nat) : ((k : Int) == (n : Int)) = decide (k = n) := by
  by_cases h : k = n
  · subst h; simp
  · rw [decide_eq_false h, beq_false_of_ne (by omega)]
set_option maxRecDepth 100000 in
set_option maxHeartbeats 2000000 in
theorem refIs_any (n : Int) (w : World) (hn : -9223372036854775808 ≤ n ∧ n ≤ 9223372036854775807) : Calls Tryd.prog 169 #[.int .i64 n] w fun e w' => e = .returned (.bool (isB n)) ∧ w' = w := by
  by_cases hp : 0 < n
  · obtain ⟨m, rfl⟩ := Int.eq_ofNat_of_zero_le (show 0 ≤ n by omega)
    have HQ := Lk.mk (isB_nat m (by omega))
    generalize isB (m : Int) = r at *
    go_enter Tryd.func169, Tryd.ntmps169
    go_wp2
    go_loopg [0] m (fun gg v0 wr => ∃ k : Nat, k ≤ gg ∧ k < 9223372036854775808 ∧ v0 = .int .i64 k ∧ Lk (r = Wk.isP k) ∧ wr = w)
    case atStart => exact ⟨m, by omega, by omega, rfl, HQ, rfl⟩
    case round =>
      obtain ⟨k, hg, hk, rfl, HR, rfl⟩ := hrel
      by_cases h1 : 1 < k
      · have h1z : (1 : Int) < (k : Int) := by omega
        by_cases h2 : k % 2 = 0
        · have h2z : (k : Int) % 2 = 0 := by omega
          have HN := Lk.mk (HR.out.trans (Wk.isP_half k h1 h2).symm)
          go_wp2
          go_roundg (k / 2)
          case measure => omega
          case rel => exact ⟨k / 2, by omega, by omega, by go_num, HN, rfl⟩
        · have h2z : ¬ (k : Int) % 2 = 0 := by omega
          have HN := Lk.mk (HR.out.trans (Wk.isP_end k (.inr (by omega))))
          go_wp2
          go_ret
          refine ⟨ret_bool ?_, rfl⟩
          rw [HN.out]
          exact beq_dec k 1
      · have h1z : ¬ (1 : Int) < (k : Int) := by omega
        have HN := Lk.mk (HR.out.trans (Wk.isP_end k (.inl (by omega))))
        go_wp2
        go_ret
        refine ⟨ret_bool ?_, rfl⟩
        rw [HN.out]
        exact beq_dec k 1
  · have HQ := Lk.mk (isB_neg n hp)
    have hz : ¬ 1 < n := by omega
    have hz1 : ¬ n = 1 := by omega
    generalize isB n = r at *
    go_enter Tryd.func169, Tryd.ntmps169
    go_wp2
    go_loopg [0] 1 (fun gg v0 wr => v0 = .int .i64 n ∧ wr = w)
    case atStart => exact ⟨rfl, rfl⟩
    case round =>
      obtain ⟨rfl, rfl⟩ := hrel
      go_wp2
      go_ret
      exact ⟨ret_bool (by rw [HQ.out]; exact beq_false_of_ne hz1), rfl⟩
/-- is there a stack of so many words -/
def szB (n : Int) : Bool := decide (16 ≤ n) && isB n
theorem szB_all (n : Int) : szAll [n] = szB n := by
  unfold szAll isAll szB
  simp only [List.any_cons, List.any_nil, Bool.or_false, Bool.not_not]
  by_cases h : 16 ≤ n
  · rw [decide_eq_true h, decide_eq_false (show ¬ n < 16 by omega)]; simp
  · rw [decide_eq_false h, decide_eq_true (show n < 16 by omega)]; simp
set_option maxRecDepth 100000 in
set_option maxHeartbeats 2000000 in
theorem refSize12_any (n : Int) (w : World) (hn : -9223372036854775808 ≤ n ∧ n ≤ 9223372036854775807) : Calls Tryd.prog 149 #[.int .i64 n] w fun e w' => e = .returned (.bool (szB n)) ∧ w' = w := by
  have H := Lk.mk (refIs_any n w hn)
  have HS := Lk.mk (show szB n = (decide (16 ≤ n) && isB n) from rfl)
  generalize szB n = r at *
  generalize isB n = q at *
  by_cases h : 16 ≤ n
  · go_enter Tryd.func149, Tryd.ntmps149
    go_wp2_with (go_at_call 169; (with_reducible refine (H.out).mono ?_); rintro e w' ⟨rfl, hw⟩; obtain rfl := hw.symm; clear hw)
    go_ret
    exact ⟨ret_bool (by rw [HS.out, decide_eq_true (show (16 : Int) ≤ n by omega)]; rfl), rfl⟩
  · go_enter Tryd.func149, Tryd.ntmps149
    go_wp2
    go_ret
    exact ⟨ret_bool (by rw [HS.out, decide_eq_false (show ¬ (16 : Int) ≤ n by omega)]; rfl), rfl⟩
set_option maxRecDepth 100000 in
set_option maxHeartbeats 2000000 in
theorem refSMay_any (x : Int × (Int × Int)) (n : Nat) (w : World) (hn : n ≤ 65536) (hx : -9223372036854775808 ≤ x.2.1 ∧ x.2.1 ≤ 9223372036854775807) :
    Calls Tryd.prog 105 #[.agg #[.int .i64 x.1, .int .i64 x.2.1, .int .i64 x.2.2], .int .i64 n] w fun e w' => e = .returned (.bool (mayS n x)) ∧ Below w.heap.size w w' := by
  obtain ⟨lo, sz, sp⟩ := x
  dsimp only at hx ⊢
  have H0 := Lk.mk (below_alloc (Below.refl w.heap.size w) (.cells #[.int .i64 lo, .int .i64 sz, .int .i64 sp] 41))
  have HX0 := Lk.mk (blk_new w (.cells #[.int .i64 lo, .int .i64 sz, .int .i64 sp] 41))
  have HS := Lk.mk (fun W => refSize12_any sz W hx)
  have HM := Lk.mk (show mayS n (lo, (sz, sp)) = (szB sz && inL n lo sz && decide (lo ≤ sp) && decide (sp ≤ lo + sz)) from by unfold mayS; rw [szB_all])
  have HI := Lk.mk (show inL n lo sz = (decide (0 ≤ sz) && decide (0 ≤ lo) && decide (lo ≤ n) && decide (sz ≤ n - lo)) from rfl)
  have HZ := Lk.mk (show szB sz = true → 16 ≤ sz from fun h => by unfold szB at h; simp only [Bool.and_eq_true, decide_eq_true_eq] at h; exact h.1)
  generalize mayS n (lo, (sz, sp)) = r at *
  generalize inL n lo sz = q at *
  obtain ⟨d0, d1, d2, _, _, _⟩ := cells3c HX0.out
  cases hs : szB sz with
  | false =>
    rw [hs] at HS HM
    clear hs
    go_enter Tryd.func105, Tryd.ntmps105
    go_wp2_with (go_at_call 149; (with_reducible refine (HS.out _).mono ?_); rintro e w' ⟨rfl, hw⟩; obtain rfl := hw.symm; clear hw)
    go_ret
    exact ⟨ret_bool (by rw [HM.out]; rfl), H0.out⟩
  | true =>
    have h16 := HZ.out hs
    rw [hs] at HS HM
    clear hs HZ
    by_cases h1 : sz ≤ n
    · by_cases h2 : 0 ≤ lo
      · have hwr : IntKind.i64.wrap ((n : Int) - sz) = n - sz := IntWalk.i64_in _ (by omega)
        by_cases h3 : lo ≤ n - sz
        · have hwr2 : IntKind.i64.wrap (lo + sz) = lo + sz := IntWalk.i64_in _ (by omega)
          by_cases h4 : lo ≤ sp
          · by_cases h5 : sp ≤ lo + sz
            · go_enter Tryd.func105, Tryd.ntmps105
              go_wp2_with (go_at_call 149; (with_reducible refine (HS.out _).mono ?_); rintro e w' ⟨rfl, hw⟩; obtain rfl := hw.symm; clear hw)
              go_ret
              exact ⟨ret_bool (by rw [HM.out, HI.out]; simp; omega), H0.out⟩
            · go_enter Tryd.func105, Tryd.ntmps105
              go_wp2_with (go_at_call 149; (with_reducible refine (HS.out _).mono ?_); rintro e w' ⟨rfl, hw⟩; obtain rfl := hw.symm; clear hw)
              go_ret
              exact ⟨ret_bool (by rw [HM.out, HI.out]; simp; omega), H0.out⟩
          · go_enter Tryd.func105, Tryd.ntmps105
            go_wp2_with (go_at_call 149; (with_reducible refine (HS.out _).mono ?_); rintro e w' ⟨rfl, hw⟩; obtain rfl := hw.symm; clear hw)
            go_ret
            exact ⟨ret_bool (by rw [HM.out, HI.out]; simp; omega), H0.out⟩
        · go_enter Tryd.func105, Tryd.ntmps105
          go_wp2_with (go_at_call 149; (with_reducible refine (HS.out _).mono ?_); rintro e w' ⟨rfl, hw⟩; obtain rfl := hw.symm; clear hw)
          go_ret
          exact ⟨ret_bool (by rw [HM.out, HI.out]; simp; omega), H0.out⟩
      · go_enter Tryd.func105, Tryd.ntmps105
        go_wp2_with (go_at_call 149; (with_reducible refine (HS.out _).mono ?_); rintro e w' ⟨rfl, hw⟩; obtain rfl := hw.symm; clear hw)
        go_ret
        exact ⟨ret_bool (by rw [HM.out, HI.out]; simp; omega), H0.out⟩
    · go_enter Tryd.func105, Tryd.ntmps105
      go_wp2_with (go_at_call 149; (with_reducible refine (HS.out _).mono ?_); rintro e w' ⟨rfl, hw⟩; obtain rfl := hw.symm; clear hw)
      go_ret
      exact ⟨ret_bool (by rw [HM.out, HI.out]; simp; omega), H0.out⟩
end Go.Proofs.YtcepafllgjnngaaDoor
