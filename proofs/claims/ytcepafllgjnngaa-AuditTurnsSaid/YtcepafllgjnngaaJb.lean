/-
  The walks of the sort's swapRange and rotate at parts; conditions: the row's block is its own.
-/
import Derived.Test.YtcepafllgjnngaaJa
import Derived.Deep.RegionHeld3
namespace Go.Proofs.Ytcepafllgjnngaa
open Go.RowKit Go.Proofs.YtcepafllgjnngaaW.PrintWords
open So

/-- what the walk of a swap is handed -/
structure SwF (W : World) (g i j : Nat) (x y : Q) : Prop where
  c : W.cell? ⟨g, i * 4, none⟩ = some (.int .u8 x.1) ∧ W.cell? ⟨g, i * 4 + 1, none⟩ = some (.int .i64 x.2.1) ∧ W.cell? ⟨g, i * 4 + 2, none⟩ = some (.int .i64 x.2.2.1) ∧ W.cell? ⟨g, i * 4 + 3, none⟩ = some (.int .i64 x.2.2.2)
  d : W.cell? ⟨g, j * 4, none⟩ = some (.int .u8 y.1) ∧ W.cell? ⟨g, j * 4 + 1, none⟩ = some (.int .i64 y.2.1) ∧ W.cell? ⟨g, j * 4 + 2, none⟩ = some (.int .i64 y.2.2.1) ∧ W.cell? ⟨g, j * 4 + 3, none⟩ = some (.int .i64 y.2.2.2)
  e : W.frozen? ⟨g, i * 4, none⟩ = false ∧ W.frozen? ⟨g, i * 4 + 1, none⟩ = false ∧ W.frozen? ⟨g, i * 4 + 2, none⟩ = false ∧ W.frozen? ⟨g, i * 4 + 3, none⟩ = false
  f : W.frozen? ⟨g, j * 4, none⟩ = false ∧ W.frozen? ⟨g, j * 4 + 1, none⟩ = false ∧ W.frozen? ⟨g, j * 4 + 2, none⟩ = false ∧ W.frozen? ⟨g, j * 4 + 3, none⟩ = false
theorem Par.drew {W : World} {g N : Nat} {q : Nat → Q} (h : Par W g N q) : Par W.drew g N q := by
  obtain ⟨arr, h1, h2⟩ := h
  exact ⟨arr, blk_drew h1, h2⟩
theorem Par.swf {W : World} {g N : Nat} {q : Nat → Q} (h : Par W g N q) (i j : Nat) (hi : i < N) (hj : j < N) : SwF W g i j (q i) (q j) := ⟨h.at_ i hi, h.at_ j hj, h.free i, h.free j⟩
set_option maxRecDepth 100000 in
set_option maxHeartbeats 8000000 in
theorem swr_any (g N c : Nat) (q : Nat → Q) (a b n : Nat) (F : Value) (w : World) (hp : Par w g N q) (hab : a + n ≤ b) (hbn : b + n ≤ N) (hN : N ≤ 1000000) :
    Calls Try.prog 51 #[.slice (some ⟨g, 0, none⟩) N c, .int .i64 a, .int .i64 b, .int .i64 n, F] w fun e w' => e = .returned (.tuple #[]) ∧ KeepW g w w' ∧ Par w' g N (SR q a b n) := by
  have HP := Lk.mk (show Par w g N (SR q a b 0) from (SR_zero q a b).symm ▸ hp)
  clear hp
  go_enter Try.func51, Try.ntmps51
  go_wp2
  go_loopg [10] n (fun gg v10 wr => ∃ i : Nat, i ≤ n ∧ n - i ≤ gg ∧ v10 = .int .i64 i ∧ Lk (Par wr g N (SR q a b i)) ∧ Lk (KeepW g w wr))
  case atStart => exact ⟨0, by omega, by omega, rfl, HP, ⟨KeepW.refl g w⟩⟩
  case round =>
    obtain ⟨i, hin, hg, rfl, HR, HK⟩ := hrel
    by_cases hlt : i < n
    · have hltz : (i : Int) < (n : Int) := by omega
      obtain ⟨x, hx⟩ : ∃ x, x = a + i := ⟨_, rfl⟩
      obtain ⟨y, hy⟩ : ∃ y, y = b + i := ⟨_, rfl⟩
      have hwx : IntKind.i64.wrap ((a : Int) + (i : Int)) = (x : Int) := (IntWalk.i64_in _ (by omega)).trans (by omega)
      have hwy : IntKind.i64.wrap ((b : Int) + (i : Int)) = (y : Int) := (IntWalk.i64_in _ (by omega)).trans (by omega)
      have hxl : (x : Int) < (N : Int) := by omega
      have hyl : (y : Int) < (N : Int) := by omega
      have hxy : (x : Int) < (y : Int) := by omega
      have hn6 : (n : Int) ≤ 1000000 := by omega
      have HN := Lk.mk (show Par (swW wr g x y (SR q a b i x) (SR q a b i y)) g N (SR q a b (i + 1)) from by
        have := HR.out.swap x y (by omega) (by omega)
        rwa [hx, hy, SR_step q a b i (by omega), ← hx, ← hy] at this)
      have HK2 := Lk.mk (keep_swap HK.out x y (SR q a b i x) (SR q a b i y))
      have HL := Lk.mk (show i + 1 ≤ n from hlt)
      obtain ⟨⟨a0, a1, a2, a3⟩, ⟨b0, b1, b2, b3⟩, ⟨f0, f1, f2, f3⟩, ⟨f4, f5, f6, f7⟩⟩ := HR.out.swf x y (by omega) (by omega)
      obtain ⟨⟨p0, p1, p2, p3⟩, ⟨q0, q1, q2, q3⟩, ⟨z0, z1, z2, z3⟩, ⟨z4, z5, z6, z7⟩⟩ := HR.out.drew.swf x y (by omega) (by omega)
      generalize SR q a b i x = X at *
      generalize SR q a b i y = Y at *
      obtain ⟨X0, X1, X2, X3⟩ := X
      obtain ⟨Y0, Y1, Y2, Y3⟩ := Y
      dsimp only at a0 a1 a2 a3 b0 b1 b2 b3 p0 p1 p2 p3 q0 q1 q2 q3
      clear hx hy hlt hin hab hbn
      go_wp2
      go_region
      go_wp2
      go_roundg (n - (i + 1))
      case measure => have := HL.out; omega
      case rel => exact ⟨i + 1, HL.out, Nat.le_refl _, by go_num, ⟨HN.out.drew⟩, ⟨KeepW.then_ HK2.out (below_drew (Below.refl _ _))⟩⟩
    · obtain rfl : i = n := by omega
      have hltz : ¬ (i : Int) < (i : Int) := by omega
      go_wp2
      refine ⟨rfl, .tuple #[], ?_, rfl, HK.out, HR.out⟩
      simp [results, Try.results51, go_sem]
end Go.Proofs.Ytcepafllgjnngaa
