/-
  The walk of the sort's rotate at parts; conditions: the row's block is its own.
-/
import Derived.Test.YtcepafllgjnngaaJb
import Derived.Deep.RegionHeld3
namespace Go.Proofs.Ytcepafllgjnngaa
open Go.RowKit Go.Proofs.YtcepafllgjnngaaW.PrintWords
open So

set_option maxRecDepth 100000 in
set_option maxHeartbeats 8000000 in
theorem rot_any (g N c : Nat) (q : Nat → Q) (a m b : Nat) (F : Value) (w : World) (hp : Par w g N q) (ham : a < m) (hmb : m < b) (hbN : b ≤ N) (hN : N ≤ 1000000) :
    Calls Try.prog 50 #[.slice (some ⟨g, 0, none⟩) N c, .int .i64 a, .int .i64 m, .int .i64 b, F] w fun e w' => e = .returned (.tuple #[]) ∧ KeepW g w w' ∧ Par w' g N (Rot q a m b) := by
  have HP := Lk.mk hp
  obtain ⟨i0, hi0⟩ : ∃ i0, m = a + i0 := ⟨m - a, by omega⟩
  obtain ⟨j0, hj0⟩ : ∃ j0, b = m + j0 := ⟨b - m, by omega⟩
  have HQ := Lk.mk (show Rot q (m - i0) m (m + j0) = Rot q a m b by rw [hj0, show m - i0 = a by omega])
  have HS := Lk.mk (fun (r : Nat → Q) (a' b' n : Nat) (W : World) (h : Par W g N r) (h1 : a' + n ≤ b') (h2 : b' + n ≤ N) => swr_any g N c r a' b' n F W h h1 h2 hN)
  have hw1 : IntKind.i64.wrap ((m : Int) - (a : Int)) = (i0 : Int) := (IntWalk.i64_in _ (by omega)).trans (by omega)
  have hw2 : IntKind.i64.wrap ((b : Int) - (m : Int)) = (j0 : Int) := (IntWalk.i64_in _ (by omega)).trans (by omega)
  have HI := Lk.mk (show 0 < i0 ∧ i0 ≤ m ∧ 0 < j0 ∧ m + j0 ≤ N by omega)
  generalize Rot q a m b = T at *
  clear hp hi0 hj0
  go_enter Try.func50, Try.ntmps50
  go_wp2
  clear hw1 hw2
  go_loopg [10, 11] (i0 + j0) (fun gg v10 v11 wr => ∃ (i j : Nat) (r : Nat → Q), v10 = .int .i64 i ∧ v11 = .int .i64 j ∧ Lk (0 < i ∧ i ≤ m ∧ 0 < j ∧ m + j ≤ N) ∧ Lk (i + j ≤ gg) ∧ Lk (Par wr g N r) ∧ Lk (Rot r (m - i) m (m + j) = T) ∧ Lk (KeepW g w wr))
  case atStart => exact ⟨i0, j0, q, rfl, rfl, HI, ⟨Nat.le_refl _⟩, HP, HQ, ⟨KeepW.refl g w⟩⟩
  case round =>
    obtain ⟨i, j, r, rfl, rfl, HB, HG, HR, HT, HK⟩ := hrel
    obtain ⟨h1, h2, h3, h4⟩ := HB.out
    rcases Nat.lt_trichotomy i j with hc | hc | hc
    · have hne : ((i : Int) != (j : Int)) = true := by rw [bne_iff_ne]; omega
      have hng : ¬ (i : Int) > (j : Int) := by omega
      obtain ⟨x, hx⟩ : ∃ x, x = m - i := ⟨_, rfl⟩
      obtain ⟨s, hs⟩ : ∃ s, s = m + j := ⟨_, rfl⟩
      obtain ⟨y, hy⟩ : ∃ y, y = m + j - i := ⟨_, rfl⟩
      obtain ⟨d, hd⟩ : ∃ d, d = j - i := ⟨_, rfl⟩
      have hwx : IntKind.i64.wrap ((m : Int) - (i : Int)) = (x : Int) := (IntWalk.i64_in _ (by omega)).trans (by omega)
      have hws : IntKind.i64.wrap ((m : Int) + (j : Int)) = (s : Int) := (IntWalk.i64_in _ (by omega)).trans (by omega)
      have hwy : IntKind.i64.wrap ((s : Int) - (i : Int)) = (y : Int) := (IntWalk.i64_in _ (by omega)).trans (by omega)
      have hwd : IntKind.i64.wrap ((j : Int) - (i : Int)) = (d : Int) := (IntWalk.i64_in _ (by omega)).trans (by omega)
      have HC := Lk.mk (HS.out r x y i wr HR.out (by omega) (by omega))
      have HT2 := Lk.mk (show Rot (SR r x y i) (m - i) m (m + d) = T by rw [hx, hy, hd, Rot_lt r m i j h2 hc]; exact HT.out)
      have HB2 := Lk.mk (show (0 < i ∧ i ≤ m ∧ 0 < d ∧ m + d ≤ N) ∧ i + d < i + j by omega)
      clear hx hs hy hd h1 h2 h3 h4 hc ham hmb hbN
      go_wp2_with (go_at_call 51; (with_reducible refine (HC.out).mono ?_); rintro e w' ⟨rfl, hk, hp⟩; have HK2 := Lk.mk (HK.out.trans hk); have HR2 := Lk.mk hp; clear hk hp)
      go_roundg (i + d)
      case measure => have := HB2.out.2; have := HG.out; omega
      case rel => exact ⟨i, d, _, rfl, rfl, ⟨HB2.out.1⟩, ⟨Nat.le_refl _⟩, HR2, HT2, HK2⟩
    · subst hc
      have hne : ((i : Int) != (i : Int)) = false := by rw [bne_self_eq_false]
      obtain ⟨x, hx⟩ : ∃ x, x = m - i := ⟨_, rfl⟩
      have hwx : IntKind.i64.wrap ((m : Int) - (i : Int)) = (x : Int) := (IntWalk.i64_in _ (by omega)).trans (by omega)
      have HC := Lk.mk (HS.out r x m i wr HR.out (by omega) (by omega))
      have HT2 := Lk.mk (show SR r x m i = T by rw [hx, Rot_eq r m i h2]; exact HT.out)
      clear hx h1 h2 h3 h4 ham hmb hbN
      go_wp2_with (go_at_call 51; (with_reducible refine (HC.out).mono ?_); rintro e w' ⟨rfl, hk, hp⟩; rw [HT2.out] at hp; have HK2 := Lk.mk (HK.out.trans hk); have HR2 := Lk.mk hp; clear hk hp)
      refine ⟨rfl, .tuple #[], ?_, rfl, HK2.out, HR2.out⟩
      simp [results, Try.results50, go_sem]
    · have hne : ((i : Int) != (j : Int)) = true := by rw [bne_iff_ne]; omega
      have hng : (i : Int) > (j : Int) := by omega
      obtain ⟨x, hx⟩ : ∃ x, x = m - i := ⟨_, rfl⟩
      obtain ⟨d, hd⟩ : ∃ d, d = i - j := ⟨_, rfl⟩
      have hwx : IntKind.i64.wrap ((m : Int) - (i : Int)) = (x : Int) := (IntWalk.i64_in _ (by omega)).trans (by omega)
      have hwd : IntKind.i64.wrap ((i : Int) - (j : Int)) = (d : Int) := (IntWalk.i64_in _ (by omega)).trans (by omega)
      have HC := Lk.mk (HS.out r x m j wr HR.out (by omega) (by omega))
      have HT2 := Lk.mk (show Rot (SR r x m j) (m - d) m (m + j) = T by rw [hx, hd, Rot_gt r m i j h2 hc]; exact HT.out)
      have HB2 := Lk.mk (show (0 < d ∧ d ≤ m ∧ 0 < j ∧ m + j ≤ N) ∧ d + j < i + j by omega)
      clear hx hd h1 h2 h3 h4 hc ham hmb hbN
      go_wp2_with (go_at_call 51; (with_reducible refine (HC.out).mono ?_); rintro e w' ⟨rfl, hk, hp⟩; have HK2 := Lk.mk (HK.out.trans hk); have HR2 := Lk.mk hp; clear hk hp)
      go_roundg (d + j)
      case measure => have := HB2.out.2; have := HG.out; omega
      case rel => exact ⟨d, j, _, rfl, rfl, ⟨HB2.out.1⟩, ⟨Nat.le_refl _⟩, HR2, HT2, HK2⟩
end Go.Proofs.Ytcepafllgjnngaa
