/-
  The walks of num.Log, num.Up, num.Order, drain.Pages, policy.Limit, policy.First, policy.Grow; conditions: none, but of sizes.
-/
import Derived.Test.YtbikdngpannekaaDoorR1
import Derived.Test.YtbikdngpannekaaDoorMr
import Derived.Test.YtbikdngpannekaaDoorSh
namespace Go.Proofs.YtbikdngpannekaaDoor
open Go.RowKit Go.Proofs.YtbikdngpannekaaDoorW.PrintWords

set_option maxRecDepth 100000 in
set_option maxHeartbeats 2000000 in
theorem log_any (n : Nat) (w : World) (h0 : 1 ≤ n) (h1 : n < 9223372036854775808) : Calls Tryd.prog 136 #[.int .i64 n] w fun e w' => e = .returned (.int .i64 ((Lib.bitLen n : Nat) - 1 : Int)) ∧ w' = w := by
  have HL := Lk.mk (fun W => Tryd.bits_Len (n : Int) W (by omega) (by omega))
  rw [Int.toNat_natCast] at HL
  have hw : IntKind.u64.wrap (n : Int) = (n : Int) := by rw [IntKind.wrap_u64]; omega
  have hl : Lib.bitLen n ≤ 64 := by
    obtain ⟨a, b, c⟩ := Rk.len_spec (x := n) (by omega) (by omega)
    have := Rk.pow_lt (a := Lib.bitLen n - 1) (b := 64) (by rw [show (2 : Nat) ^ 64 = 18446744073709551616 by decide +kernel]; omega)
    omega
  have hn : ¬ (n : Int) < 1 := by omega
  clear h0 h1
  generalize Lib.bitLen n = k at *
  have hw2 : IntKind.i64.wrap ((k : Int) - 1) = (k : Int) - 1 := IntWalk.i64_in _ (by omega)
  clear hl
  go_enter Tryd.func136, Tryd.ntmps136
  go_wp2_with (go_at_call 151; (with_reducible refine (HL.out _).mono ?_); rintro e w' ⟨rfl, hw⟩; obtain rfl := hw.symm; clear hw)
  go_ret
  exact ⟨rfl, rfl⟩
set_option maxRecDepth 100000 in
set_option maxHeartbeats 2000000 in
theorem up_any (n : Nat) (w : World) (h1 : n ≤ 1000000) : Calls Tryd.prog 131 #[.int .i64 n] w fun e w' => e = .returned (.int .i64 (Rk.upN n : Nat)) ∧ w' = w := by
  by_cases h : n < 2
  · have hz : (n : Int) < 2 := by omega
    have HU := Lk.mk (show Rk.upN n = 1 by unfold Rk.upN; rw [if_pos h])
    clear h
    go_enter Tryd.func131, Tryd.ntmps131
    go_wp2
    go_ret
    exact ⟨by rw [HU.out]; rfl, rfl⟩
  · obtain ⟨m, rfl⟩ : ∃ m, n = m + 1 := ⟨n - 1, by omega⟩
    have HU := Lk.mk (show Rk.upN (m + 1) = 2 ^ Lib.bitLen m by unfold Rk.upN; rw [if_neg h]; rfl)
    have HL := Lk.mk (fun W => Tryd.bits_Len (m : Int) W (by omega) (by omega))
    rw [Int.toNat_natCast] at HL
    have hw : IntKind.u64.wrap (m : Int) = (m : Int) := by rw [IntKind.wrap_u64]; omega
    have hl : Lib.bitLen m ≤ 20 := by
      obtain ⟨a, b, c⟩ := Rk.len_spec (x := m) (by omega) (by omega)
      have := Rk.pow_lt (a := Lib.bitLen m - 1) (b := 20) (by rw [show (2 : Nat) ^ 20 = 1048576 by decide +kernel]; omega)
      omega
    have hn : ¬ ((m + 1 : Nat) : Int) < 2 := by omega
    have hn2 : ¬ (4611686018427387904 : Int) < ((m + 1 : Nat) : Int) := by omega
    have hm0 : ((m + 1 : Nat) : Int) - 1 = (m : Int) := by omega
    generalize hN : ((m + 1 : Nat) : Int) = N at *
    have hm1 : IntKind.i64.wrap (N - 1) = (m : Int) := by rw [hm0]; exact IntWalk.i64_in _ (by omega)
    clear h h1 hm0 hN
    generalize Lib.bitLen m = k at *
    go_enter Tryd.func131, Tryd.ntmps131
    go_wp2_with (go_at_call 151; (with_reducible refine (HL.out _).mono ?_); rintro e w' ⟨rfl, hw⟩; obtain rfl := hw.symm; clear hw)
    go_ret
    refine ⟨?_, rfl⟩
    have hp : 2 ^ k ≤ 2 ^ 20 := Nat.pow_le_pow_right (by decide) hl
    rw [show (2 : Nat) ^ 20 = 1048576 by decide +kernel] at hp
    have hi : (2 : Int) ^ k = ((2 ^ k : Nat) : Int) := by rw [Int.natCast_pow]; rfl
    have hx : wrap64 ((2 : Int) ^ k) = ((2 ^ k : Nat) : Int) := by rw [hi]; generalize 2 ^ k = z at *; unfold wrap64; omega
    rw [HU.out, ← hx]
    rfl
set_option maxRecDepth 100000 in
set_option maxHeartbeats 2000000 in
theorem order_any (n : Nat) (w : World) (hp : isB (n : Int) = true) (h0 : 16 ≤ n) (h1 : n < 9223372036854775808) : Calls Tryd.prog 105 #[.int .i64 n] w fun e w' => (∃ r : Int, e = .returned (.int .i64 r) ∧ (0 ≤ r ↔ n < 256)) ∧ w' = w := by
  have HL := Lk.mk (fun W => log_any n W (by omega) h1)
  have HL16 := Lk.mk (fun W => log_any 16 W (by omega) (by omega))
  have HI := Lk.mk (fun W => is_any (n : Int) W ⟨by omega, by omega⟩)
  rw [hp] at HI
  rw [isB_nat n h1] at hp
  obtain ⟨k, hk⟩ := Rk.pow_of n hp
  have hbl : Lib.bitLen n = k + 1 := by rw [hk]; exact Rk.log_pow (by omega)
  rw [hbl, show (((k + 1 : Nat) : Int) - 1) = (k : Int) by omega] at HL
  rw [show (((Lib.bitLen 16 : Nat) : Int) - 1) = 4 by decide +kernel, show ((16 : Nat) : Int) = 16 from rfl] at HL16
  have hk4 : 4 ≤ k := by
    have := Rk.pow_lt (a := 3) (b := k) (by rw [← hk]; omega)
    omega
  have hk63 : k < 63 := Rk.pow_lt (by rw [← hk, show (2 : Nat) ^ 63 = 9223372036854775808 by decide +kernel]; exact h1)
  have hk8 : k < 8 ↔ n < 256 := by
    rw [hk, show (256 : Nat) = 2 ^ 8 by decide +kernel]
    exact (Nat.pow_lt_pow_iff_right (by decide)).symm
  have HK := Lk.mk hk8
  obtain ⟨j, rfl⟩ : ∃ j, k = j + 4 := ⟨k - 4, by omega⟩
  have hw : IntKind.i64.wrap (((j + 4 : Nat) : Int) - 4) = (j : Int) := by rw [show (((j + 4 : Nat) : Int) - 4) = (j : Int) by omega]; exact IntWalk.i64_in _ (by omega)
  generalize hJ : ((j + 4 : Nat) : Int) = J at *
  have hj60 : j < 60 := by omega
  clear hp h0 h1 hk hbl hk4 hk63 hk8
  by_cases hj : j < 4
  · have hjz : ¬ (4 : Int) ≤ (j : Int) := by omega
    have HJ := Lk.mk hj
    clear hj hJ hj60
    go_enter Tryd.func105, Tryd.ntmps105
    go_wp2_with (first
      | (go_at_call 136; (with_reducible refine (HL.out _).mono ?_); rintro e w' ⟨rfl, hw⟩; obtain rfl := hw.symm; clear hw)
      | (go_at_call 136; (with_reducible refine (HL16.out _).mono ?_); rintro e w' ⟨rfl, hw⟩; obtain rfl := hw.symm; clear hw)
      | (go_at_call 137; (with_reducible refine (HI.out _).mono ?_); rintro e w' ⟨rfl, hw⟩; obtain rfl := hw.symm; clear hw))
    go_ret
    exact ⟨⟨_, rfl, ⟨fun _ => HK.out.1 (by have := HJ.out; omega), fun _ => by omega⟩⟩, rfl⟩
  · have hjz : (4 : Int) ≤ (j : Int) := by omega
    have HJ := Lk.mk hj
    clear hj hJ hj60
    go_enter Tryd.func105, Tryd.ntmps105
    go_wp2_with (first
      | (go_at_call 136; (with_reducible refine (HL.out _).mono ?_); rintro e w' ⟨rfl, hw⟩; obtain rfl := hw.symm; clear hw)
      | (go_at_call 136; (with_reducible refine (HL16.out _).mono ?_); rintro e w' ⟨rfl, hw⟩; obtain rfl := hw.symm; clear hw)
      | (go_at_call 137; (with_reducible refine (HI.out _).mono ?_); rintro e w' ⟨rfl, hw⟩; obtain rfl := hw.symm; clear hw))
    go_ret
    exact ⟨⟨_, rfl, ⟨fun h => by omega, fun h => by have := HK.out.2 h; have := HJ.out; omega⟩⟩, rfl⟩
theorem lit1 (W : World) (x : Int) : ReadsInt (W.alloc (.cells #[.int .i64 x] 3)) .i64 (some ⟨W.heap.size, 0, none⟩) ([x] : List Int).length [x] := own_reads' (own_lit W W.heap.size 3 .i64 [x] (Nat.le_refl _) (by simp))
theorem lit2 (W : World) (x y : Int) : ReadsInt (W.alloc (.cells #[.int .i64 x, .int .i64 y] 3)) .i64 (some ⟨W.heap.size, 0, none⟩) ([x, y] : List Int).length [x, y] := own_reads' (own_lit W W.heap.size 3 .i64 [x, y] (Nat.le_refl _) (by simp))
def pagesZ (n : Int) : Int := if szB n = true then (if n < 256 then 4 else n / 64) else 0
set_option maxRecDepth 100000 in
set_option maxHeartbeats 2000000 in
theorem dpages_any (n : Int) (w : World) (hn : -9223372036854775808 ≤ n ∧ n ≤ 9223372036854775807) : Calls Tryd.prog 50 #[.int .i64 n] w fun e w' => e = .returned (.int .i64 (pagesZ n)) ∧ Below w.heap.size w w' := by
  have H0 := Lk.mk (below_alloc (Below.refl w.heap.size w) (.cells #[.int .i64 n] 3))
  have HS := Lk.mk (sizes_any _ 1 [n] _ (lit1 w n) (fun x hx => by obtain rfl : x = n := (by simpa using hx); exact hn))
  rw [szB_all, show ([n] : List Int).length = 1 from rfl] at HS
  have HP := Lk.mk (show pagesZ n = if szB n = true then (if n < 256 then 4 else n / 64) else 0 from rfl)
  generalize pagesZ n = r at *
  cases hs : szB n with
  | false =>
    rw [hs] at HS HP
    clear hs
    go_enter Tryd.func50, Tryd.ntmps50
    go_wp2_with (go_at_call 104; (with_reducible refine (HS.out).mono ?_); rintro e w1 ⟨rfl, hb⟩; have HB := Lk.mk (below_then H0.out H0.out.size hb); clear hb)
    go_ret
    exact ⟨by rw [HP.out]; rfl, HB.out⟩
  | true =>
    rw [hs, if_pos rfl] at HP
    rw [hs] at HS
    unfold szB at hs
    simp only [Bool.and_eq_true, decide_eq_true_eq] at hs
    obtain ⟨m, rfl⟩ := Int.eq_ofNat_of_zero_le (show 0 ≤ n by omega)
    have HO := Lk.mk (fun W => order_any m W hs.2 (by omega) (by omega))
    clear hs
    by_cases h : m < 256
    · rw [if_pos (by omega)] at HP
      have HH := Lk.mk h
      clear h
      go_enter Tryd.func50, Tryd.ntmps50
      go_wp2_with (first
        | (go_at_call 104; (with_reducible refine (HS.out).mono ?_); rintro e w1 ⟨rfl, hb⟩; have HB := Lk.mk (below_then H0.out H0.out.size hb); clear hb)
        | (go_at_call 105; (with_reducible refine (HO.out _).mono ?_); rintro e w2 ⟨⟨r2, rfl, hr⟩, hw⟩; obtain rfl := hw.symm; clear hw; have hr2 : 0 ≤ r2 := hr.2 HH.out; clear hr))
      go_ret
      exact ⟨by rw [HP.out]; rfl, HB.out⟩
    · rw [if_neg (by omega)] at HP
      have HH := Lk.mk h
      clear h
      go_enter Tryd.func50, Tryd.ntmps50
      go_wp2_with (first
        | (go_at_call 104; (with_reducible refine (HS.out).mono ?_); rintro e w1 ⟨rfl, hb⟩; have HB := Lk.mk (below_then H0.out H0.out.size hb); clear hb)
        | (go_at_call 105; (with_reducible refine (HO.out _).mono ?_); rintro e w2 ⟨⟨r2, rfl, hr⟩, hw⟩; obtain rfl := hw.symm; clear hw; have hr2 : ¬ 0 ≤ r2 := fun h => HH.out (hr.1 h); clear hr))
      go_ret
      exact ⟨by rw [HP.out]; rfl, HB.out⟩
end Go.Proofs.YtbikdngpannekaaDoor
