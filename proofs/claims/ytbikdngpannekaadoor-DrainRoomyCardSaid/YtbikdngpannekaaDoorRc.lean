/-
  The walks of policy.Grow and of the references' Limit, First, Grow, Pages; conditions: of sizes.
-/
import Derived.Test.YtbikdngpannekaaDoorRb
namespace Go.Proofs.YtbikdngpannekaaDoor
open Go.RowKit Go.Proofs.YtbikdngpannekaaDoorW.PrintWords

theorem limB_sz {n : Nat} (hp : Wk.isP n = true) (h0 : 16 ≤ n) (h1 : n ≤ 65536) : limB (n : Int) = true ∧ szB (n : Int) = true := by
  unfold limB szB
  rw [isB_nat n (by omega), hp, decide_eq_true (show (16 : Int) ≤ (n : Int) by omega), decide_eq_true (show (n : Int) ≤ 65536 by omega)]
  exact ⟨rfl, rfl⟩
theorem limB_pow {L : Int} (h : limB L = true) : ∃ m : Nat, L = (m : Int) ∧ Wk.isP m = true ∧ 16 ≤ m ∧ m ≤ 65536 := by
  have hr := limB_in h
  obtain ⟨m, rfl⟩ := Int.eq_ofNat_of_zero_le (show 0 ≤ L by omega)
  unfold limB szB at h
  simp only [Bool.and_eq_true] at h
  refine ⟨m, rfl, ?_, by omega, by omega⟩
  rw [← isB_nat m (by omega)]
  exact h.1.2
set_option maxRecDepth 100000 in
set_option maxHeartbeats 2000000 in
theorem grow_ok (s u v m : Nat) (w : World) (hL : limB (m : Int) = true) (hp : Wk.isP s = true) (h0 : 16 ≤ s) (h1 : s ≤ m) (hu : u ≤ s) (h : u + v ≤ m) : Calls Tryd.prog 100 #[.int .i64 s, .int .i64 u, .int .i64 v, .int .i64 m] w fun e w' => e = .returned (.tuple #[.int .i64 (Rk.rnd s (u + v) : Nat), .int .i64 0]) ∧ Below w.heap.size w w' := by
  have hr := limB_in hL
  have HLm := Lk.mk (limit2 m s w hL (limB_sz hp h0 (by omega)).1)
  have HR := Lk.mk (Rk.rnd_grow (s := s) (w := u + v) hp (by omega))
  have HU := Lk.mk (fun W => up_any (u + v) W (by omega))
  have g1 : ¬ (m : Int) < (s : Int) := by omega
  have g2 : ¬ (u : Int) < 0 := by omega
  have g3 : ¬ (s : Int) < (u : Int) := by omega
  have g4 : ¬ (v : Int) < 0 := by omega
  have g5 : IntKind.i64.wrap ((m : Int) - (u : Int)) = (m : Int) - (u : Int) := IntWalk.i64_in _ (by omega)
  have g6 : ¬ (m : Int) - (u : Int) < (v : Int) := by omega
  have g7 : IntKind.i64.wrap ((u : Int) + (v : Int)) = (u : Int) + (v : Int) := IntWalk.i64_in _ (by omega)
  rw [show ((u + v : Nat) : Int) = (u : Int) + (v : Int) from rfl] at HU
  generalize Rk.upN (u + v) = q at *
  have HM := Lk.mk (show (max (s : Int) (q : Int)) = ((Rk.rnd s (u + v) : Nat) : Int) by rw [← HR.out]; omega)
  clear hL hp h0 h1 hu h hr HR
  by_cases hq : (s : Int) ≤ (q : Int)
  · have HQ := Lk.mk (show max (s : Int) (q : Int) = q by omega)
    go_enter Tryd.func100, Tryd.ntmps100
    go_wp2_with (first
      | (go_at_call 130; (with_reducible refine (HLm.out).mono ?_); rintro e w1 ⟨rfl, hb⟩; have HB := Lk.mk hb; clear hb)
      | (go_at_call 131; (with_reducible refine (HU.out _).mono ?_); rintro e w' ⟨rfl, hw⟩; obtain rfl := hw.symm; clear hw))
    go_ret2
    exact ⟨by rw [← HM.out, HQ.out]; rfl, HB.out⟩
  · have HQ := Lk.mk (show max (s : Int) (q : Int) = s by omega)
    go_enter Tryd.func100, Tryd.ntmps100
    go_wp2_with (first
      | (go_at_call 130; (with_reducible refine (HLm.out).mono ?_); rintro e w1 ⟨rfl, hb⟩; have HB := Lk.mk hb; clear hb)
      | (go_at_call 131; (with_reducible refine (HU.out _).mono ?_); rintro e w' ⟨rfl, hw⟩; obtain rfl := hw.symm; clear hw))
    go_ret2
    exact ⟨by rw [← HM.out, HQ.out]; rfl, HB.out⟩
set_option maxRecDepth 100000 in
set_option maxHeartbeats 2000000 in
theorem grow_over (s u v m : Nat) (w : World) (hL : limB (m : Int) = true) (hp : Wk.isP s = true) (h0 : 16 ≤ s) (h1 : s ≤ m) (hu : u ≤ s) (h : ¬ u + v ≤ m) : Calls Tryd.prog 100 #[.int .i64 s, .int .i64 u, .int .i64 v, .int .i64 m] w fun e w' => e = .returned (.tuple #[.int .i64 0, .int .i64 4]) ∧ Below w.heap.size w w' := by
  have hr := limB_in hL
  have HLm := Lk.mk (limit2 m s w hL (limB_sz hp h0 (by omega)).1)
  have g1 : ¬ (m : Int) < (s : Int) := by omega
  have g2 : ¬ (u : Int) < 0 := by omega
  have g3 : ¬ (s : Int) < (u : Int) := by omega
  have g4 : ¬ (v : Int) < 0 := by omega
  have g5 : IntKind.i64.wrap ((m : Int) - (u : Int)) = (m : Int) - (u : Int) := IntWalk.i64_in _ (by omega)
  have g6 : (m : Int) - (u : Int) < (v : Int) := by omega
  clear hL hp h0 h1 hu h hr
  go_enter Tryd.func100, Tryd.ntmps100
  go_wp2_with (go_at_call 130; (with_reducible refine (HLm.out).mono ?_); rintro e w1 ⟨rfl, hb⟩; have HB := Lk.mk hb; clear hb)
  go_ret2
  exact ⟨rfl, HB.out⟩
set_option maxRecDepth 100000 in
set_option maxHeartbeats 2000000 in
theorem rlimit_any (n : Int) (w : World) (hn : -9223372036854775808 ≤ n ∧ n ≤ 9223372036854775807) : Calls Tryd.prog 132 #[.int .i64 n] w fun e w' => e = .returned (.bool (limB n)) ∧ w' = w := by
  have HS := Lk.mk (fun W => refSize12_any n W hn)
  have H := Lk.mk (show limB n = (szB n && decide (n ≤ 65536)) from rfl)
  generalize limB n = r at *
  cases hs : szB n with
  | true =>
    rw [hs] at HS H
    clear hs hn
    go_enter Tryd.func132, Tryd.ntmps132
    go_wp2_with (go_at_call 106; (with_reducible refine (HS.out _).mono ?_); rintro e w' ⟨rfl, hw⟩; obtain rfl := hw.symm; clear hw)
    go_ret
    exact ⟨ret_bool (by rw [H.out]; rfl), rfl⟩
  | false =>
    rw [hs] at HS H
    clear hs hn
    go_enter Tryd.func132, Tryd.ntmps132
    go_wp2_with (go_at_call 106; (with_reducible refine (HS.out _).mono ?_); rintro e w' ⟨rfl, hw⟩; obtain rfl := hw.symm; clear hw)
    go_ret
    exact ⟨ret_bool (by rw [H.out]; rfl), rfl⟩
set_option maxRecDepth 100000 in
set_option maxHeartbeats 2000000 in
theorem rpages_any (n : Int) (w : World) (hn : -9223372036854775808 ≤ n ∧ n ≤ 9223372036854775807) : Calls Tryd.prog 51 #[.int .i64 n] w fun e w' => e = .returned (.int .i64 (pagesZ n)) ∧ w' = w := by
  have HS := Lk.mk (fun W => refSize12_any n W hn)
  have HP := Lk.mk (show pagesZ n = if szB n = true then (if n < 256 then 4 else n / 64) else 0 from rfl)
  generalize pagesZ n = r at *
  cases hs : szB n with
  | false =>
    rw [hs] at HS HP
    clear hs
    go_enter Tryd.func51, Tryd.ntmps51
    go_wp2_with (go_at_call 106; (with_reducible refine (HS.out _).mono ?_); rintro e w' ⟨rfl, hw⟩; obtain rfl := hw.symm; clear hw)
    go_ret
    exact ⟨by rw [HP.out]; rfl, rfl⟩
  | true =>
    rw [hs, if_pos rfl] at HP
    rw [hs] at HS
    unfold szB at hs
    simp only [Bool.and_eq_true, decide_eq_true_eq] at hs
    obtain ⟨m, rfl⟩ := Int.eq_ofNat_of_zero_le (show 0 ≤ n by omega)
    clear hs
    by_cases h : (m : Int) < 256
    · rw [if_pos h] at HP
      go_enter Tryd.func51, Tryd.ntmps51
      go_wp2_with (go_at_call 106; (with_reducible refine (HS.out _).mono ?_); rintro e w' ⟨rfl, hw⟩; obtain rfl := hw.symm; clear hw)
      go_ret
      exact ⟨by rw [HP.out]; rfl, rfl⟩
    · rw [if_neg h] at HP
      go_enter Tryd.func51, Tryd.ntmps51
      go_wp2_with (go_at_call 106; (with_reducible refine (HS.out _).mono ?_); rintro e w' ⟨rfl, hw⟩; obtain rfl := hw.symm; clear hw)
      go_ret
      exact ⟨by rw [HP.out]; rfl, rfl⟩
set_option maxRecDepth 100000 in
set_option maxHeartbeats 2000000 in
theorem rfirst_ok (u m : Nat) (w : World) (hL : limB (m : Int) = true) (h0 : 1 ≤ u) (h1 : u ≤ m) : Calls Tryd.prog 102 #[.int .i64 u, .int .i64 m] w fun e w' => e = .returned (.tuple #[.int .i64 (Rk.rnd 16 u : Nat), .int .i64 0]) ∧ w' = w := by
  have hr := limB_in hL
  have HL := Lk.mk (fun W => rlimit_any (m : Int) W (by omega))
  rw [hL] at HL
  have g1 : ¬ (u : Int) < 1 := by omega
  have g2 : ¬ (m : Int) < (u : Int) := by omega
  have HU := Lk.mk (show u ≤ 65536 by omega)
  clear hL h0 h1 hr
  go_enter Tryd.func102, Tryd.ntmps102
  go_wp2_with (go_at_call 132; (with_reducible refine (HL.out _).mono ?_); rintro e w' ⟨rfl, hw⟩; obtain rfl := hw.symm; clear hw)
  go_loopg [6] 200000 (fun gg v6 wr => ∃ s : Nat, v6 = .int .i64 s ∧ 200000 - s ≤ gg ∧ Lk (Wk.isP s = true) ∧ Lk (Rk.rnd s u = Rk.rnd 16 u) ∧ Lk (16 ≤ s ∧ s < 131073) ∧ wr = w)
  case atStart => exact ⟨16, rfl, by omega, ⟨by decide⟩, ⟨rfl⟩, ⟨by omega⟩, rfl⟩
  case round =>
    obtain ⟨s, rfl, hg, HP, HE, HI, rfl⟩ := hrel
    by_cases h : s < u
    · have hz : (s : Int) < (u : Int) := by omega
      have HN := Lk.mk (Rk.rnd_next HP.out h (by have := HU.out; omega))
      have HH := Lk.mk h
      have hwr : IntKind.i64.wrap (2 * (s : Int)) = 2 * (s : Int) := IntWalk.i64_in _ (by have := HI.out; omega)
      clear h
      go_wp2
      go_roundg (200000 - 2 * s)
      case measure => have := HI.out; have := HH.out; have := HU.out; omega
      case rel => exact ⟨2 * s, rfl, by omega, ⟨by rw [Wk.isP_even _ (by have := HI.out; omega)]; exact HP.out⟩, ⟨HN.out.trans HE.out⟩, ⟨by have := HI.out; have := HH.out; have := HU.out; omega⟩, rfl⟩
    · have hz : ¬ (s : Int) < (u : Int) := by omega
      have HN := Lk.mk ((Rk.rnd_end h).symm.trans HE.out)
      clear h
      go_wp2
      go_ret2
      exact ⟨by rw [← HN.out]; rfl, rfl⟩
set_option maxRecDepth 100000 in
set_option maxHeartbeats 2000000 in
theorem rgrow_ok (s0 u v m : Nat) (w : World) (hL : limB (m : Int) = true) (hp : Wk.isP s0 = true) (h0 : 16 ≤ s0) (h1 : s0 ≤ m) (hu : u ≤ s0) (h : u + v ≤ m) : Calls Tryd.prog 103 #[.int .i64 s0, .int .i64 u, .int .i64 v, .int .i64 m] w fun e w' => e = .returned (.tuple #[.int .i64 (Rk.rnd s0 (u + v) : Nat), .int .i64 0]) ∧ w' = w := by
  have hr := limB_in hL
  have HL := Lk.mk (fun W => rlimit_any (m : Int) W (by omega))
  rw [hL] at HL
  have HS := Lk.mk (fun W => refSize12_any (s0 : Int) W (by omega))
  rw [(limB_sz hp h0 (by omega)).2] at HS
  have g1 : ¬ (m : Int) < (s0 : Int) := by omega
  have g2 : ¬ (u : Int) < 0 := by omega
  have g3 : ¬ (s0 : Int) < (u : Int) := by omega
  have g4 : ¬ (v : Int) < 0 := by omega
  have g5 : ¬ (m : Int) < (v : Int) := by omega
  have g7 : IntKind.i64.wrap ((u : Int) + (v : Int)) = (u : Int) + (v : Int) := IntWalk.i64_in _ (by omega)
  have g6 : ¬ (m : Int) < (u : Int) + (v : Int) := by omega
  have HU := Lk.mk (show u + v ≤ 65536 by omega)
  have HP0 := Lk.mk hp
  have HI0 := Lk.mk (show 16 ≤ s0 ∧ s0 < 131073 by omega)
  clear hL hp h0 h1 hu h hr
  go_enter Tryd.func103, Tryd.ntmps103
  go_wp2_with (first
    | (go_at_call 132; (with_reducible refine (HL.out _).mono ?_); rintro e w' ⟨rfl, hw⟩; obtain rfl := hw.symm; clear hw)
    | (go_at_call 106; (with_reducible refine (HS.out _).mono ?_); rintro e w' ⟨rfl, hw⟩; obtain rfl := hw.symm; clear hw))
  go_loopg [0] 200000 (fun gg v0 wr => ∃ s : Nat, v0 = .int .i64 s ∧ 200000 - s ≤ gg ∧ Lk (Wk.isP s = true) ∧ Lk (Rk.rnd s (u + v) = Rk.rnd s0 (u + v)) ∧ Lk (16 ≤ s ∧ s < 131073) ∧ wr = w)
  case atStart => exact ⟨s0, rfl, by omega, HP0, ⟨rfl⟩, HI0, rfl⟩
  case round =>
    obtain ⟨s, rfl, hg, HP, HE, HI, rfl⟩ := hrel
    by_cases h : s < u + v
    · have hz : (s : Int) < (u : Int) + (v : Int) := by omega
      have HN := Lk.mk (Rk.rnd_next HP.out h (by have := HU.out; omega))
      have HH := Lk.mk h
      have hwr : IntKind.i64.wrap (2 * (s : Int)) = 2 * (s : Int) := IntWalk.i64_in _ (by have := HI.out; omega)
      clear h
      go_wp2
      go_roundg (200000 - 2 * s)
      case measure => have := HI.out; have := HH.out; have := HU.out; omega
      case rel => exact ⟨2 * s, rfl, by omega, ⟨by rw [Wk.isP_even _ (by have := HI.out; omega)]; exact HP.out⟩, ⟨HN.out.trans HE.out⟩, ⟨by have := HI.out; have := HH.out; have := HU.out; omega⟩, rfl⟩
    · have hz : ¬ (s : Int) < (u : Int) + (v : Int) := by omega
      have HN := Lk.mk ((Rk.rnd_end h).symm.trans HE.out)
      clear h
      go_wp2
      go_ret2
      exact ⟨by rw [← HN.out]; rfl, rfl⟩
end Go.Proofs.YtbikdngpannekaaDoor
