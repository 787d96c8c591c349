/-
  The walks of the walks' references: Is, Size, May, Same; conditions: what is handed in reads as told.
-/
import Derived.Test.YtbikdngpannekaaDoorN1
import Derived.Test.YtbikdngpannekaaDoorK3
import Derived.Test.YtbikdngpannekaaDoorPa
namespace Go.Proofs.YtbikdngpannekaaDoor
open Go.RowKit Go.Proofs.YtbikdngpannekaaDoorW.PrintWords

theorem isB_nat (n : Nat) (h : n < 9223372036854775808) : isB (n : Int) = Wk.isP n := by
  unfold isB Wk.isP
  rcases Nat.eq_zero_or_pos n with h0 | h0
  · subst h0; rfl
  · rw [Wk.bits_and n h0 h]
    rw [decide_eq_true h0, decide_eq_true (show (0 : Int) < (n : Int) by omega), Bool.true_and, Bool.true_and]
    generalize n &&& (n - 1) = x
    by_cases hx : x = 0
    · subst hx; rfl
    · rw [beq_false_of_ne hx, beq_false_of_ne (show (x : Int) ≠ 0 by omega)]
theorem isB_neg (n : Int) (h : ¬ 0 < n) : isB n = false := by unfold isB; rw [decide_eq_false h]; rfl
theorem beq_dec (k n : Nat) : ((k : Int) == (n : Int)) = decide (k = n) := by
  by_cases h : k = n
  · subst h; simp
  · rw [decide_eq_false h, beq_false_of_ne (by omega)]
set_option maxRecDepth 100000 in
set_option maxHeartbeats 2000000 in
theorem refIs_any (n : Int) (w : World) (hn : -9223372036854775808 ≤ n ∧ n ≤ 9223372036854775807) : Calls Tryd.prog 138 #[.int .i64 n] w fun e w' => e = .returned (.bool (isB n)) ∧ w' = w := by
  by_cases hp : 0 < n
  · obtain ⟨m, rfl⟩ := Int.eq_ofNat_of_zero_le (show 0 ≤ n by omega)
    have HQ := Lk.mk (isB_nat m (by omega))
    generalize isB (m : Int) = r at *
    go_enter Tryd.func138, Tryd.ntmps138
    go_wp2
    go_loopg [0] m (fun gg v0 wr => ∃ k : Nat, k ≤ gg ∧ k < 9223372036854775808 ∧ v0 = .int .i64 k ∧ Lk (r = Wk.isP k) ∧ wr = w)
    case atStart => exact ⟨m, by omega, by omega, rfl, HQ, rfl⟩
    case round =>
      obtain ⟨k, hg, hk, rfl, HR, rfl⟩ := hrel
      by_cases h1 : 1 < k
      · have h1z : (1 : Int) < (k : Int) := by omega
        by_cases h2 : k % 2 = 0
        · have h2z : (k : Int) % 2 = 0 := by omega
          have HN := Lk.mk (HR.out.trans (Wk.isP_half k h1 h2).symm)
          go_wp2
          go_roundg (k / 2)
          case measure => omega
          case rel => exact ⟨k / 2, by omega, by omega, by go_num, HN, rfl⟩
        · have h2z : ¬ (k : Int) % 2 = 0 := by omega
          have HN := Lk.mk (HR.out.trans (Wk.isP_end k (.inr (by omega))))
          go_wp2
          go_ret
          refine ⟨ret_bool ?_, rfl⟩
          rw [HN.out]
          exact beq_dec k 1
      · have h1z : ¬ (1 : Int) < (k : Int) := by omega
        have HN := Lk.mk (HR.out.trans (Wk.isP_end k (.inl (by omega))))
        go_wp2
        go_ret
        refine ⟨ret_bool ?_, rfl⟩
        rw [HN.out]
        exact beq_dec k 1
  · have HQ := Lk.mk (isB_neg n hp)
    have hz : ¬ 1 < n := by omega
    have hz1 : ¬ n = 1 := by omega
    generalize isB n = r at *
    go_enter Tryd.func138, Tryd.ntmps138
    go_wp2
    go_loopg [0] 1 (fun gg v0 wr => v0 = .int .i64 n ∧ wr = w)
    case atStart => exact ⟨rfl, rfl⟩
    case round =>
      obtain ⟨rfl, rfl⟩ := hrel
      go_wp2
      go_ret
      exact ⟨ret_bool (by rw [HQ.out]; exact beq_false_of_ne hz1), rfl⟩
/-- is there a stack of so many words -/
def szB (n : Int) : Bool := decide (16 ≤ n) && isB n
theorem szB_all (n : Int) : szAll [n] = szB n := by
  unfold szAll isAll szB
  simp only [List.any_cons, List.any_nil, Bool.or_false, Bool.not_not]
  by_cases h : 16 ≤ n
  · rw [decide_eq_true h, decide_eq_false (show ¬ n < 16 by omega)]; simp
  · rw [decide_eq_false h, decide_eq_true (show n < 16 by omega)]; simp
set_option maxRecDepth 100000 in
set_option maxHeartbeats 2000000 in
theorem refSize12_any (n : Int) (w : World) (hn : -9223372036854775808 ≤ n ∧ n ≤ 9223372036854775807) : Calls Tryd.prog 106 #[.int .i64 n] w fun e w' => e = .returned (.bool (szB n)) ∧ w' = w := by
  have H := Lk.mk (refIs_any n w hn)
  have HS := Lk.mk (show szB n = (decide (16 ≤ n) && isB n) from rfl)
  generalize szB n = r at *
  generalize isB n = q at *
  by_cases h : 16 ≤ n
  · go_enter Tryd.func106, Tryd.ntmps106
    go_wp2_with (go_at_call 138; (with_reducible refine (H.out).mono ?_); rintro e w' ⟨rfl, hw⟩; obtain rfl := hw.symm; clear hw)
    go_ret
    exact ⟨ret_bool (by rw [HS.out, decide_eq_true (show (16 : Int) ≤ n by omega)]; rfl), rfl⟩
  · go_enter Tryd.func106, Tryd.ntmps106
    go_wp2
    go_ret
    exact ⟨ret_bool (by rw [HS.out, decide_eq_false (show ¬ (16 : Int) ≤ n by omega)]; rfl), rfl⟩
set_option maxRecDepth 100000 in
set_option maxHeartbeats 2000000 in
theorem refSMay_any (x : Int × (Int × Int)) (n : Nat) (w : World) (hn : n ≤ 65536) (hx : -9223372036854775808 ≤ x.2.1 ∧ x.2.1 ≤ 9223372036854775807) :
    Calls Tryd.prog 58 #[.agg #[.int .i64 x.1, .int .i64 x.2.1, .int .i64 x.2.2], .int .i64 n] w fun e w' => e = .returned (.bool (mayS n x)) ∧ Below w.heap.size w w' := by
  obtain ⟨lo, sz, sp⟩ := x
  dsimp only at hx ⊢
  have H0 := Lk.mk (below_alloc (Below.refl w.heap.size w) (.cells #[.int .i64 lo, .int .i64 sz, .int .i64 sp] 88))
  have HX0 := Lk.mk (blk_new w (.cells #[.int .i64 lo, .int .i64 sz, .int .i64 sp] 88))
  have HS := Lk.mk (fun W => refSize12_any sz W hx)
  have HM := Lk.mk (show mayS n (lo, (sz, sp)) = (szB sz && inL n lo sz && decide (lo ≤ sp) && decide (sp ≤ lo + sz)) from by unfold mayS; rw [szB_all])
  have HI := Lk.mk (show inL n lo sz = (decide (0 ≤ sz) && decide (0 ≤ lo) && decide (lo ≤ n) && decide (sz ≤ n - lo)) from rfl)
  have HZ := Lk.mk (show szB sz = true → 16 ≤ sz from fun h => by unfold szB at h; simp only [Bool.and_eq_true, decide_eq_true_eq] at h; exact h.1)
  generalize mayS n (lo, (sz, sp)) = r at *
  generalize inL n lo sz = q at *
  obtain ⟨d0, d1, d2, _, _, _⟩ := cells3c HX0.out
  cases hs : szB sz with
  | false =>
    rw [hs] at HS HM
    clear hs
    go_enter Tryd.func58, Tryd.ntmps58
    go_wp2_with (go_at_call 106; (with_reducible refine (HS.out _).mono ?_); rintro e w' ⟨rfl, hw⟩; obtain rfl := hw.symm; clear hw)
    go_ret
    exact ⟨ret_bool (by rw [HM.out]; rfl), H0.out⟩
  | true =>
    have h16 := HZ.out hs
    rw [hs] at HS HM
    clear hs HZ
    by_cases h1 : sz ≤ n
    · by_cases h2 : 0 ≤ lo
      · have hwr : IntKind.i64.wrap ((n : Int) - sz) = n - sz := IntWalk.i64_in _ (by omega)
        by_cases h3 : lo ≤ n - sz
        · have hwr2 : IntKind.i64.wrap (lo + sz) = lo + sz := IntWalk.i64_in _ (by omega)
          by_cases h4 : lo ≤ sp
          · by_cases h5 : sp ≤ lo + sz
            · go_enter Tryd.func58, Tryd.ntmps58
              go_wp2_with (go_at_call 106; (with_reducible refine (HS.out _).mono ?_); rintro e w' ⟨rfl, hw⟩; obtain rfl := hw.symm; clear hw)
              go_ret
              exact ⟨ret_bool (by rw [HM.out, HI.out]; simp; omega), H0.out⟩
            · go_enter Tryd.func58, Tryd.ntmps58
              go_wp2_with (go_at_call 106; (with_reducible refine (HS.out _).mono ?_); rintro e w' ⟨rfl, hw⟩; obtain rfl := hw.symm; clear hw)
              go_ret
              exact ⟨ret_bool (by rw [HM.out, HI.out]; simp; omega), H0.out⟩
          · go_enter Tryd.func58, Tryd.ntmps58
            go_wp2_with (go_at_call 106; (with_reducible refine (HS.out _).mono ?_); rintro e w' ⟨rfl, hw⟩; obtain rfl := hw.symm; clear hw)
            go_ret
            exact ⟨ret_bool (by rw [HM.out, HI.out]; simp; omega), H0.out⟩
        · go_enter Tryd.func58, Tryd.ntmps58
          go_wp2_with (go_at_call 106; (with_reducible refine (HS.out _).mono ?_); rintro e w' ⟨rfl, hw⟩; obtain rfl := hw.symm; clear hw)
          go_ret
          exact ⟨ret_bool (by rw [HM.out, HI.out]; simp; omega), H0.out⟩
      · go_enter Tryd.func58, Tryd.ntmps58
        go_wp2_with (go_at_call 106; (with_reducible refine (HS.out _).mono ?_); rintro e w' ⟨rfl, hw⟩; obtain rfl := hw.symm; clear hw)
        go_ret
        exact ⟨ret_bool (by rw [HM.out, HI.out]; simp; omega), H0.out⟩
    · go_enter Tryd.func58, Tryd.ntmps58
      go_wp2_with (go_at_call 106; (with_reducible refine (HS.out _).mono ?_); rintro e w' ⟨rfl, hw⟩; obtain rfl := hw.symm; clear hw)
      go_ret
      exact ⟨ret_bool (by rw [HM.out, HI.out]; simp; omega), H0.out⟩
set_option maxRecDepth 100000 in
set_option maxHeartbeats 2000000 in
theorem refSame15_any (A : Option Addr) (c : Nat) (l : List Sl.Fr) (B : Option Addr) (d : Nat) (m : List Sl.Fr) (w : World) (hr : kFr.C w A l.length l) (hr2 : kFr.C w B m.length m) :
    Calls Tryd.prog 56 #[.slice A l.length c, .slice B m.length d] w fun e w' => e = .returned (.bool (decide (l = m))) ∧ Below w.heap.size w w' := by
  have hm1 := hr.2.1
  have hm2 := hr2.2.1
  have HR := Lk.mk hr
  have HR2 := Lk.mk hr2
  clear hr hr2
  by_cases hlen : l.length = m.length
  · rw [← hlen] at HR2 hm2 ⊢
    have HLEN := Lk.mk hlen
    clear hlen
    go_enter Tryd.func56, Tryd.ntmps56
    go_wp2
    go_loopg [13] l.length (fun gg v13 wr => ∃ k : Nat, k ≤ l.length ∧ l.length - k ≤ gg ∧ v13 = .int .i64 k ∧ Lk (SmTo Sl.dFr l m k) ∧ Lk (Below w.heap.size w wr))
    case atStart => exact ⟨0, by omega, by omega, rfl, ⟨SmTo.zero _ _ _⟩, ⟨Below.refl _ _⟩⟩
    case round =>
      obtain ⟨k, hk, hg, rfl, HE, HB⟩ := hrel
      by_cases hlt : k < l.length
      · have hltz : (k : Int) < (l.length : Int) := by omega
        obtain ⟨ad1, rfl, a0, a1, a2⟩ := kFr_at (Kd.C_below HR.out HB.out) k hlt
        obtain ⟨ad2, rfl, b0, b1, b2⟩ := kFr_at (Kd.C_below HR2.out HB.out) k hlt
        have HX := Lk.mk (fun h : l.getD k Sl.dFr = m.getD k Sl.dFr => HE.out.next h)
        have H := Lk.mk (sm_ne Sl.dFr l m k)
        generalize l.getD k Sl.dFr = x at *
        generalize m.getD k Sl.dFr = y at *
        obtain ⟨x0, x1, x2⟩ := x
        obtain ⟨y0, y1, y2⟩ := y
        dsimp only at *
        by_cases hxy : x0 = y0 ∧ x1 = y1 ∧ x2 = y2
        · obtain ⟨rfl, rfl, rfl⟩ := hxy
          go_wp2
          go_region
          go_wp2
          go_roundg (l.length - (k + 1))
          case measure => omega
          case rel => exact ⟨k + 1, by omega, by omega, by go_num, ⟨HX.out (by first | rfl | trivial)⟩, ⟨below_drew HB.out⟩⟩
        · have H2 := Lk.mk (H.out (fun e => hxy (by injection e with e1 e2; injection e2 with e2 e3; exact ⟨e1, e2, e3⟩)))
          by_cases e0 : x0 = y0
          · by_cases e1 : x1 = y1
            · have e2 : ¬ x2 = y2 := fun h => hxy ⟨e0, e1, h⟩
              clear hxy HX H
              go_wp2
              go_region
              go_wp2
              go_ret
              exact ⟨ret_bool (by rw [H2.out]), below_drew HB.out⟩
            · clear hxy HX H
              go_wp2
              go_region
              go_wp2
              go_ret
              exact ⟨ret_bool (by rw [H2.out]), below_drew HB.out⟩
          · clear hxy HX H
            go_wp2
            go_region
            go_wp2
            go_ret
            exact ⟨ret_bool (by rw [H2.out]), below_drew HB.out⟩
      · have hltz : ¬ (k : Int) < (l.length : Int) := by omega
        obtain rfl : k = l.length := by omega
        go_wp2
        go_ret
        exact ⟨ret_bool (sm_all Sl.dFr HLEN.out HE.out).symm, HB.out⟩
  · have hlz : ¬ (l.length : Int) = (m.length : Int) := by omega
    have H := Lk.mk (sm_len l m hlen)
    generalize decide (l = m) = r at *
    go_enter Tryd.func56, Tryd.ntmps56
    go_wp2
    go_ret
    exact ⟨ret_bool (by rw [H.out]), Below.refl _ _⟩
end Go.Proofs.YtbikdngpannekaaDoor
