/-
  The walk of the sort's symMerge at parts, where one is on either side; conditions: the row's block is its own.
-/
import Derived.Test.YtcepafllgjnngaaJd
import Derived.Deep.RegionHeld3
namespace Go.Proofs.Ytcepafllgjnngaa
open Go.RowKit Go.Proofs.YtcepafllgjnngaaW.PrintWords
open So

theorem mid_of (i j s h : Nat) (hb : i + j ≤ 2000000) (hs : s = i + j) (hh : h = s / 2) : IntKind.i64.wrap ((i : Int) + (j : Int)) = (s : Int) ∧ IntKind.u64.wrap (s : Int) = (s : Int) ∧ IntKind.i64.wrap ((s : Int) / 2) = (h : Int) ∧ RowKit.wrap64 ((s : Int) / 2) = (h : Int) ∧ IntKind.i64.wrap ((h : Int) + 1) = ((h + 1 : Nat) : Int) :=
  ⟨(IntWalk.i64_in _ (by omega)).trans (by omega), IntWalk.u64_in _ (by omega), (IntWalk.i64_in _ (by omega)).trans (by omega), (IntWalk.wrap64_in _ (by omega)).trans (by omega), (IntWalk.i64_in _ (by omega)).trans (by omega)⟩
set_option maxRecDepth 100000 in
set_option maxHeartbeats 8000000 in
theorem symL_any (g N c : Nat) (q : Nat → Q) (a b : Nat) (w : World) (hp : Par w g N q) (hab : a + 1 < b) (hbN : b ≤ N) (hN : N ≤ 1000000) (hs : Srt q (a + 1) b) :
    Calls Try.prog 49 #[.slice (some ⟨g, 0, none⟩) N c, .int .i64 a, .int .i64 ((a + 1 : Nat) : Int), .int .i64 b, .func (.func 27) #[] #[]] w fun e w' => e = .returned (.tuple #[]) ∧ KeepW g w w' ∧ ∃ r, Par w' g N r ∧ Sw a b q r ∧ Srt r a b := by
  have HP := Lk.mk hp
  have HS := Lk.mk hs
  obtain ⟨m, hm⟩ : ∃ m, m = a + 1 := ⟨_, rfl⟩
  rw [← hm] at HS ⊢
  have hma : IntKind.i64.wrap ((m : Int) - (a : Int)) = 1 := (IntWalk.i64_in _ (by omega)).trans (by omega)
  have HI := Lk.mk (show m = a + 1 ∧ a + 1 < b ∧ b ≤ N ∧ N ≤ 1000000 from ⟨hm, hab, hbN, hN⟩)
  have haN : (a : Int) < (N : Int) := by omega
  clear hp hs hm hab hbN hN
  go_enter Try.func49, Try.ntmps49
  go_wp2
  go_loopg [10, 11, 12] N (fun gg v10 v11 _ wr => ∃ (i j : Nat), v10 = .int .i64 i ∧ v11 = .int .i64 j ∧ Lk (m ≤ i ∧ i ≤ j ∧ j ≤ b) ∧ Lk (j - i ≤ gg) ∧ Lk (∀ p, m ≤ p → p < i → key (q p) < key (q a)) ∧ Lk (∀ p, j ≤ p → p < b → key (q a) ≤ key (q p)) ∧ Lk (Par wr g N q) ∧ Lk (KeepW g w wr))
  case atStart => exact ⟨m, b, rfl, rfl, by have := HI.out; exact ⟨by omega⟩, by have := HI.out; exact ⟨by omega⟩, ⟨fun p h1 h2 => by omega⟩, ⟨fun p h1 h2 => by omega⟩, HP, ⟨KeepW.refl g w⟩⟩
  case round =>
    obtain ⟨i, j, rfl, rfl, HJ, HG, HL, HH, HR, HK⟩ := hrel
    obtain ⟨i1, i2, i3, i4⟩ := HI.out
    obtain ⟨j1, j2, j3⟩ := HJ.out
    by_cases hij : i < j
    · have hijz : (i : Int) < (j : Int) := by omega
      obtain ⟨s, hs⟩ : ∃ s, s = i + j := ⟨_, rfl⟩
      obtain ⟨h, hh⟩ : ∃ h, h = s / 2 := ⟨_, rfl⟩
      have HMI := Lk.mk (mid_of i j s h (by omega) hs hh)
      have hxN : (h : Int) < (N : Int) := by omega
      have hxN' : h < N := by omega
      have hyN' : a < N := by omega
      by_cases hk : key (q h) < key (q a)
      · have hz : cmpQ (q h) (q a) < 0 := by
          have := cmpQ_lt (q h) (q a)
          rw [decide_eq_true hk] at this
          exact of_decide_eq_true this
        have HJ2 := Lk.mk (show (m ≤ h + 1 ∧ h + 1 ≤ j ∧ j ≤ b) ∧ j - (h + 1) < j - i by omega)
        have HL2 := Lk.mk (show ∀ p, m ≤ p → p < h + 1 → key (q p) < key (q a) from fun p k1 k2 => Int.lt_of_le_of_lt (HS.out p h k1 (by omega) (by omega)) hk)
        clear HL
        have HCE := Lk.mk (fun (W : World) (hpw : Par W g N q) => part8 hpw h a hxN' hyN')
        unfold P8 at HCE
        generalize q h = X at *
        generalize q a = Y at *
        obtain ⟨X0, X1, X2, X3⟩ := X
        obtain ⟨Y0, Y1, Y2, Y3⟩ := Y
        have HC := Lk.mk (fun W => cmp4_any X0 X1 X2 X3 Y0 Y1 Y2 Y3 W)
        generalize cmpQ (X0, X1, X2, X3) (Y0, Y1, Y2, Y3) = z at *
        dsimp only at HCE
        have HR2d := Lk.mk HR.out.drew
        clear i1 i2 i3 i4 j1 j2 j3 hs hh hk hij hxN' hyN'
        obtain ⟨hws, hus, hsh, hsh2, hw1⟩ := HMI.out
        go_wp2
        clear hws hus hsh hsh2
        go_region_held3 (fun W' => W'.cell? ⟨g, h * 4, none⟩ = some (.int .u8 X0) ∧ W'.cell? ⟨g, h * 4 + 1, none⟩ = some (.int .i64 X1) ∧ W'.cell? ⟨g, h * 4 + 2, none⟩ = some (.int .i64 X2) ∧ W'.cell? ⟨g, h * 4 + 3, none⟩ = some (.int .i64 X3) ∧ W'.cell? ⟨g, a * 4, none⟩ = some (.int .u8 Y0) ∧ W'.cell? ⟨g, a * 4 + 1, none⟩ = some (.int .i64 Y1) ∧ W'.cell? ⟨g, a * 4 + 2, none⟩ = some (.int .i64 Y2) ∧ W'.cell? ⟨g, a * 4 + 3, none⟩ = some (.int .i64 Y3)) (first | with_reducible exact HCE.out _ HR2d.out | with_reducible exact HCE.out _ (HR2d.out.below HB3.out)) (first
          | (go_at_call 27; (with_reducible refine (HC.out _).mono ?_); rintro e w3 ⟨rfl, hb⟩; have HB3 := Lk.mk hb; clear hb))
        have HR3 := Lk.mk (HR2d.out.below HB3.out)
        have HK3 := Lk.mk (KeepW.then_ HK.out (below_then (below_drew (Below.refl _ _)) (by first | exact Nat.le_refl _ | exact HB3.out.size) HB3.out))
        go_wp2
        all_goals try (rename_i hzz; exfalso; simp at hzz; omega)
        go_roundg (j - (h + 1))
        case measure => have := HJ2.out.2; have := HG.out; omega
        case rel => exact ⟨h + 1, j, by go_num, rfl, ⟨HJ2.out.1⟩, ⟨Nat.le_refl _⟩, HL2, HH, HR3, HK3⟩
      · have hz : ¬ cmpQ (q h) (q a) < 0 := by
          have := cmpQ_lt (q h) (q a)
          rw [decide_eq_false hk] at this
          exact of_decide_eq_false this
        have HJ2 := Lk.mk (show (m ≤ i ∧ i ≤ h ∧ h ≤ b) ∧ h - i < j - i by omega)
        have HH2 := Lk.mk (show ∀ p, h ≤ p → p < b → key (q a) ≤ key (q p) from fun p k1 k2 => Int.le_trans (Int.not_lt.1 hk) (HS.out h p (by omega) k1 k2))
        clear HH
        have HCE := Lk.mk (fun (W : World) (hpw : Par W g N q) => part8 hpw h a hxN' hyN')
        unfold P8 at HCE
        generalize q h = X at *
        generalize q a = Y at *
        obtain ⟨X0, X1, X2, X3⟩ := X
        obtain ⟨Y0, Y1, Y2, Y3⟩ := Y
        have HC := Lk.mk (fun W => cmp4_any X0 X1 X2 X3 Y0 Y1 Y2 Y3 W)
        generalize cmpQ (X0, X1, X2, X3) (Y0, Y1, Y2, Y3) = z at *
        dsimp only at HCE
        have HR2d := Lk.mk HR.out.drew
        clear i1 i2 i3 i4 j1 j2 j3 hs hh hk hij hxN' hyN'
        obtain ⟨hws, hus, hsh, hsh2, hw1⟩ := HMI.out
        go_wp2
        clear hws hus hsh hsh2
        go_region_held3 (fun W' => W'.cell? ⟨g, h * 4, none⟩ = some (.int .u8 X0) ∧ W'.cell? ⟨g, h * 4 + 1, none⟩ = some (.int .i64 X1) ∧ W'.cell? ⟨g, h * 4 + 2, none⟩ = some (.int .i64 X2) ∧ W'.cell? ⟨g, h * 4 + 3, none⟩ = some (.int .i64 X3) ∧ W'.cell? ⟨g, a * 4, none⟩ = some (.int .u8 Y0) ∧ W'.cell? ⟨g, a * 4 + 1, none⟩ = some (.int .i64 Y1) ∧ W'.cell? ⟨g, a * 4 + 2, none⟩ = some (.int .i64 Y2) ∧ W'.cell? ⟨g, a * 4 + 3, none⟩ = some (.int .i64 Y3)) (first | with_reducible exact HCE.out _ HR2d.out | with_reducible exact HCE.out _ (HR2d.out.below HB3.out)) (first
          | (go_at_call 27; (with_reducible refine (HC.out _).mono ?_); rintro e w3 ⟨rfl, hb⟩; have HB3 := Lk.mk hb; clear hb))
        have HR3 := Lk.mk (HR2d.out.below HB3.out)
        have HK3 := Lk.mk (KeepW.then_ HK.out (below_then (below_drew (Below.refl _ _)) (by first | exact Nat.le_refl _ | exact HB3.out.size) HB3.out))
        go_wp2
        all_goals try (rename_i hzz; exfalso; simp at hzz; omega)
        go_roundg (h - i)
        case measure => have := HJ2.out.2; have := HG.out; omega
        case rel => exact ⟨i, h, rfl, by go_num, ⟨HJ2.out.1⟩, ⟨Nat.le_refl _⟩, HL, HH2, HR3, HK3⟩
    · have hijz : ¬ (i : Int) < (j : Int) := by omega
      obtain ⟨n, hn⟩ : ∃ n, i = n + 1 := ⟨i - 1, by omega⟩
      have hwn : IntKind.i64.wrap ((i : Int) - 1) = (n : Int) := (IntWalk.i64_in _ (by omega)).trans (by omega)
      have HSR := Lk.mk (show Srt (SL q a n) a b by
        have := SL_srt (i := i) (i1 ▸ HS.out) (by omega) (by omega) (fun p k1 k2 => HL.out p (by omega) k2) (fun p k1 k2 => HH.out p (by omega) k2)
        rwa [hn, Nat.add_sub_cancel] at this)
      have HSW := Lk.mk (show Sw a b q (SL q a n) from (SL_sw q a n (by omega)).mono (Nat.le_refl _) (by omega))
      have HE := Lk.mk (show a ≤ n ∧ n + 1 ≤ N ∧ N ≤ 1000000 by omega)
      have HR0 := Lk.mk (show Par _ g N (SL q a a) from (SL_zero q a).symm ▸ HR.out)
      clear i1 i2 i3 i4 j1 j2 j3 hij hn HL HH
      go_wp2
      go_loopg [13] n (fun gg v13 wr2 => ∃ k : Nat, v13 = .int .i64 k ∧ Lk (a ≤ k ∧ k ≤ n) ∧ Lk (n - k ≤ gg) ∧ Lk (Par wr2 g N (SL q a k)) ∧ Lk (KeepW g w wr2))
      case atStart => exact ⟨a, rfl, ⟨Nat.le_refl _, HE.out.1⟩, ⟨by omega⟩, HR0, HK⟩
      case round =>
        clear HR HK HR0
        obtain ⟨k, rfl, HQ, HG2, HR, HK⟩ := hrel
        obtain ⟨k1, k2⟩ := HQ.out
        obtain ⟨e1, e2, e3⟩ := HE.out
        by_cases hkn : k < n
        · obtain ⟨y, hy⟩ : ∃ y, y = k + 1 := ⟨_, rfl⟩
          have hknz : (k : Int) < (n : Int) := by omega
          have hwy : IntKind.i64.wrap ((k : Int) + 1) = (y : Int) := (IntWalk.i64_in _ (by omega)).trans (by omega)
          have hkN : (k : Int) < (N : Int) := by omega
          have hyN : (y : Int) < (N : Int) := by omega
          have hky : (k : Int) < (y : Int) := by omega
          have HN := Lk.mk (show Par (swW _ g k y (SL q a k k) (SL q a k y)) g N (SL q a y) by
            have := HR.out.swap k y (by omega) (by omega)
            rwa [hy, SL_step q a k k1, ← hy] at this)
          have HK2 := Lk.mk (keep_swap HK.out k y (SL q a k k) (SL q a k y))
          have HQ2 := Lk.mk (show (a ≤ y ∧ y ≤ n) ∧ n - y < n - k by omega)
          obtain ⟨⟨c0, c1, c2, c3⟩, ⟨d0, d1, d2, d3⟩, ⟨f0, f1, f2, f3⟩, ⟨f4, f5, f6, f7⟩⟩ := HR.out.swf k y (by omega) (by omega)
          obtain ⟨⟨p0, p1, p2, p3⟩, ⟨q0, q1, q2, q3⟩, ⟨z0, z1, z2, z3⟩, ⟨z4, z5, z6, z7⟩⟩ := HR.out.drew.swf k y (by omega) (by omega)
          generalize SL q a k k = X at *
          generalize SL q a k y = Y at *
          obtain ⟨X0, X1, X2, X3⟩ := X
          obtain ⟨Y0, Y1, Y2, Y3⟩ := Y
          dsimp only at c0 c1 c2 c3 d0 d1 d2 d3 p0 p1 p2 p3 q0 q1 q2 q3
          clear k1 k2 e1 e2 e3 hkn hy
          go_wp2
          go_region
          go_wp2
          go_roundg (n - y)
          case measure => have := HQ2.out.2; have := HG2.out; omega
          case rel => exact ⟨y, by go_num, ⟨HQ2.out.1⟩, ⟨Nat.le_refl _⟩, ⟨HN.out.drew⟩, ⟨KeepW.then_ HK2.out (below_drew (Below.refl _ _))⟩⟩
        · have hknz : ¬ (k : Int) < (n : Int) := by omega
          obtain rfl : k = n := by omega
          clear k1 k2 e1 e2 e3 hkn
          go_wp2
          refine ⟨rfl, .tuple #[], ?_, rfl, HK.out, _, HR.out, HSW.out, HSR.out⟩
          simp [results, Try.results49, go_sem]

set_option maxRecDepth 100000 in
set_option maxHeartbeats 8000000 in
theorem symR_any (g N c : Nat) (q : Nat → Q) (a m : Nat) (w : World) (hp : Par w g N q) (ham : a < m) (hma : m ≠ a + 1) (hbN : m + 1 ≤ N) (hN : N ≤ 1000000) (hs : Srt q a m) :
    Calls Try.prog 49 #[.slice (some ⟨g, 0, none⟩) N c, .int .i64 a, .int .i64 m, .int .i64 ((m + 1 : Nat) : Int), .func (.func 27) #[] #[]] w fun e w' => e = .returned (.tuple #[]) ∧ KeepW g w w' ∧ ∃ r, Par w' g N r ∧ Sw a (m + 1) q r ∧ Srt r a (m + 1) := by
  have HP := Lk.mk hp
  have HS := Lk.mk hs
  obtain ⟨b, hb⟩ : ∃ b, b = m + 1 := ⟨_, rfl⟩
  rw [← hb]
  obtain ⟨d, hd⟩ : ∃ d, d = m - a := ⟨_, rfl⟩
  have hmd : IntKind.i64.wrap ((m : Int) - (a : Int)) = (d : Int) := (IntWalk.i64_in _ (by omega)).trans (by omega)
  have hd1 : ((d : Int) == 1) = false := beq_false_of_ne (by omega)
  have hbm : IntKind.i64.wrap ((b : Int) - (m : Int)) = 1 := (IntWalk.i64_in _ (by omega)).trans (by omega)
  have HI := Lk.mk (show b = m + 1 ∧ a < m ∧ b ≤ N ∧ N ≤ 1000000 from ⟨hb, ham, by omega, hN⟩)
  have hmN : (m : Int) < (N : Int) := by omega
  clear hp hs hb hd ham hma hbN hN
  go_enter Try.func49, Try.ntmps49
  go_wp2
  go_loopg [14, 15, 16] N (fun gg v14 v15 _ wr => ∃ (i j : Nat), v14 = .int .i64 i ∧ v15 = .int .i64 j ∧ Lk (a ≤ i ∧ i ≤ j ∧ j ≤ m) ∧ Lk (j - i ≤ gg) ∧ Lk (∀ p, a ≤ p → p < i → key (q p) ≤ key (q m)) ∧ Lk (∀ p, j ≤ p → p < m → key (q m) < key (q p)) ∧ Lk (Par wr g N q) ∧ Lk (KeepW g w wr))
  case atStart => exact ⟨a, m, rfl, rfl, by have := HI.out; exact ⟨by omega⟩, by have := HI.out; exact ⟨by omega⟩, ⟨fun p h1 h2 => by omega⟩, ⟨fun p h1 h2 => by omega⟩, HP, ⟨KeepW.refl g w⟩⟩
  case round =>
    obtain ⟨i, j, rfl, rfl, HJ, HG, HL, HH, HR, HK⟩ := hrel
    obtain ⟨i1, i2, i3, i4⟩ := HI.out
    obtain ⟨j1, j2, j3⟩ := HJ.out
    by_cases hij : i < j
    · have hijz : (i : Int) < (j : Int) := by omega
      obtain ⟨s, hs⟩ : ∃ s, s = i + j := ⟨_, rfl⟩
      obtain ⟨h, hh⟩ : ∃ h, h = s / 2 := ⟨_, rfl⟩
      have HMI := Lk.mk (mid_of i j s h (by omega) hs hh)
      have hxN : (h : Int) < (N : Int) := by omega
      have hxN' : m < N := by omega
      have hyN' : h < N := by omega
      by_cases hk : key (q m) < key (q h)
      · have hz : cmpQ (q m) (q h) < 0 := by
          have := cmpQ_lt (q m) (q h)
          rw [decide_eq_true hk] at this
          exact of_decide_eq_true this
        have HJ2 := Lk.mk (show (a ≤ i ∧ i ≤ h ∧ h ≤ m) ∧ h - i < j - i by omega)
        have HH2 := Lk.mk (show ∀ p, h ≤ p → p < m → key (q m) < key (q p) from fun p k1 k2 => Int.lt_of_lt_of_le hk (HS.out h p (by omega) k1 k2))
        clear HH
        have HCE := Lk.mk (fun (W : World) (hpw : Par W g N q) => part8 hpw m h hxN' hyN')
        unfold P8 at HCE
        generalize q m = X at *
        generalize q h = Y at *
        obtain ⟨X0, X1, X2, X3⟩ := X
        obtain ⟨Y0, Y1, Y2, Y3⟩ := Y
        have HC := Lk.mk (fun W => cmp4_any X0 X1 X2 X3 Y0 Y1 Y2 Y3 W)
        generalize cmpQ (X0, X1, X2, X3) (Y0, Y1, Y2, Y3) = z at *
        dsimp only at HCE
        have HR2d := Lk.mk HR.out.drew
        clear i1 i2 i3 i4 j1 j2 j3 hs hh hk hij hxN' hyN'
        obtain ⟨hws, hus, hsh, hsh2, hw1⟩ := HMI.out
        go_wp2
        clear hws hus hsh hsh2
        go_region_held3 (fun W' => W'.cell? ⟨g, m * 4, none⟩ = some (.int .u8 X0) ∧ W'.cell? ⟨g, m * 4 + 1, none⟩ = some (.int .i64 X1) ∧ W'.cell? ⟨g, m * 4 + 2, none⟩ = some (.int .i64 X2) ∧ W'.cell? ⟨g, m * 4 + 3, none⟩ = some (.int .i64 X3) ∧ W'.cell? ⟨g, h * 4, none⟩ = some (.int .u8 Y0) ∧ W'.cell? ⟨g, h * 4 + 1, none⟩ = some (.int .i64 Y1) ∧ W'.cell? ⟨g, h * 4 + 2, none⟩ = some (.int .i64 Y2) ∧ W'.cell? ⟨g, h * 4 + 3, none⟩ = some (.int .i64 Y3)) (first | with_reducible exact HCE.out _ HR2d.out | with_reducible exact HCE.out _ (HR2d.out.below HB3.out)) (first
          | (go_at_call 27; (with_reducible refine (HC.out _).mono ?_); rintro e w3 ⟨rfl, hb⟩; have HB3 := Lk.mk hb; clear hb))
        have HR3 := Lk.mk (HR2d.out.below HB3.out)
        have HK3 := Lk.mk (KeepW.then_ HK.out (below_then (below_drew (Below.refl _ _)) (by first | exact Nat.le_refl _ | exact HB3.out.size) HB3.out))
        go_wp2
        all_goals try (rename_i hzz; exfalso; simp at hzz; omega)
        go_roundg (h - i)
        case measure => have := HJ2.out.2; have := HG.out; omega
        case rel => exact ⟨i, h, rfl, by go_num, ⟨HJ2.out.1⟩, ⟨Nat.le_refl _⟩, HL, HH2, HR3, HK3⟩
      · have hz : ¬ cmpQ (q m) (q h) < 0 := by
          have := cmpQ_lt (q m) (q h)
          rw [decide_eq_false hk] at this
          exact of_decide_eq_false this
        have HJ2 := Lk.mk (show (a ≤ h + 1 ∧ h + 1 ≤ j ∧ j ≤ m) ∧ j - (h + 1) < j - i by omega)
        have HL2 := Lk.mk (show ∀ p, a ≤ p → p < h + 1 → key (q p) ≤ key (q m) from fun p k1 k2 => Int.le_trans (HS.out p h k1 (by omega) (by omega)) (Int.not_lt.1 hk))
        clear HL
        have HCE := Lk.mk (fun (W : World) (hpw : Par W g N q) => part8 hpw m h hxN' hyN')
        unfold P8 at HCE
        generalize q m = X at *
        generalize q h = Y at *
        obtain ⟨X0, X1, X2, X3⟩ := X
        obtain ⟨Y0, Y1, Y2, Y3⟩ := Y
        have HC := Lk.mk (fun W => cmp4_any X0 X1 X2 X3 Y0 Y1 Y2 Y3 W)
        generalize cmpQ (X0, X1, X2, X3) (Y0, Y1, Y2, Y3) = z at *
        dsimp only at HCE
        have HR2d := Lk.mk HR.out.drew
        clear i1 i2 i3 i4 j1 j2 j3 hs hh hk hij hxN' hyN'
        obtain ⟨hws, hus, hsh, hsh2, hw1⟩ := HMI.out
        go_wp2
        clear hws hus hsh hsh2
        go_region_held3 (fun W' => W'.cell? ⟨g, m * 4, none⟩ = some (.int .u8 X0) ∧ W'.cell? ⟨g, m * 4 + 1, none⟩ = some (.int .i64 X1) ∧ W'.cell? ⟨g, m * 4 + 2, none⟩ = some (.int .i64 X2) ∧ W'.cell? ⟨g, m * 4 + 3, none⟩ = some (.int .i64 X3) ∧ W'.cell? ⟨g, h * 4, none⟩ = some (.int .u8 Y0) ∧ W'.cell? ⟨g, h * 4 + 1, none⟩ = some (.int .i64 Y1) ∧ W'.cell? ⟨g, h * 4 + 2, none⟩ = some (.int .i64 Y2) ∧ W'.cell? ⟨g, h * 4 + 3, none⟩ = some (.int .i64 Y3)) (first | with_reducible exact HCE.out _ HR2d.out | with_reducible exact HCE.out _ (HR2d.out.below HB3.out)) (first
          | (go_at_call 27; (with_reducible refine (HC.out _).mono ?_); rintro e w3 ⟨rfl, hb⟩; have HB3 := Lk.mk hb; clear hb))
        have HR3 := Lk.mk (HR2d.out.below HB3.out)
        have HK3 := Lk.mk (KeepW.then_ HK.out (below_then (below_drew (Below.refl _ _)) (by first | exact Nat.le_refl _ | exact HB3.out.size) HB3.out))
        go_wp2
        all_goals try (rename_i hzz; exfalso; simp at hzz; omega)
        go_roundg (j - (h + 1))
        case measure => have := HJ2.out.2; have := HG.out; omega
        case rel => exact ⟨h + 1, j, by go_num, rfl, ⟨HJ2.out.1⟩, ⟨Nat.le_refl _⟩, HL2, HH, HR3, HK3⟩
    · have hijz : ¬ (i : Int) < (j : Int) := by omega
      have HSR := Lk.mk (show Srt (SU q i m) a b by
        have := SU_srt (i := i) HS.out j1 (by omega) (fun p k1 k2 => HL.out p k1 k2) (fun p k1 k2 => HH.out p (by omega) k2)
        rwa [← i1] at this)
      have HSW := Lk.mk (show Sw a b q (SU q i m) by
        have := SU_sw q m (m - i) (by omega)
        rw [show m - (m - i) = i by omega] at this
        exact this.mono j1 (by omega))
      have HE := Lk.mk (show i ≤ m ∧ m + 1 ≤ N ∧ N ≤ 1000000 by omega)
      have HR0 := Lk.mk (show Par _ g N (SU q m m) from (SU_zero q m).symm ▸ HR.out)
      clear i1 i2 i3 i4 j1 j2 j3 hij HL HH
      go_wp2
      go_loopg [17] m (fun gg v17 wr2 => ∃ k : Nat, v17 = .int .i64 k ∧ Lk (i ≤ k ∧ k ≤ m) ∧ Lk (k ≤ gg) ∧ Lk (Par wr2 g N (SU q k m)) ∧ Lk (KeepW g w wr2))
      case atStart => exact ⟨m, rfl, ⟨HE.out.1, Nat.le_refl _⟩, ⟨Nat.le_refl _⟩, HR0, HK⟩
      case round =>
        clear HR HK HR0
        obtain ⟨k, rfl, HQ, HG2, HR, HK⟩ := hrel
        obtain ⟨k1, k2⟩ := HQ.out
        obtain ⟨e1, e2, e3⟩ := HE.out
        by_cases hkn : i < k
        · obtain ⟨y, hy⟩ : ∃ y, k = y + 1 := ⟨k - 1, by omega⟩
          have hknz : (i : Int) < (k : Int) := by omega
          have hwy : IntKind.i64.wrap ((k : Int) - 1) = (y : Int) := (IntWalk.i64_in _ (by omega)).trans (by omega)
          have hkN : (k : Int) < (N : Int) := by omega
          have hyN : (y : Int) < (N : Int) := by omega
          have hky : (y : Int) < (k : Int) := by omega
          have HN := Lk.mk (show Par (swW _ g k y (SU q k m k) (SU q k m y)) g N (SU q y m) by
            have := HR.out.swap k y (by omega) (by omega)
            have h9 := SU_step q y m (by omega)
            rw [← hy] at h9
            rwa [h9] at this)
          have HK2 := Lk.mk (keep_swap HK.out k y (SU q k m k) (SU q k m y))
          have HQ2 := Lk.mk (show (i ≤ y ∧ y ≤ m) ∧ y < k by omega)
          obtain ⟨⟨c0, c1, c2, c3⟩, ⟨d0, d1, d2, d3⟩, ⟨f0, f1, f2, f3⟩, ⟨f4, f5, f6, f7⟩⟩ := HR.out.swf k y (by omega) (by omega)
          obtain ⟨⟨p0, p1, p2, p3⟩, ⟨q0, q1, q2, q3⟩, ⟨z0, z1, z2, z3⟩, ⟨z4, z5, z6, z7⟩⟩ := HR.out.drew.swf k y (by omega) (by omega)
          generalize SU q k m k = X at *
          generalize SU q k m y = Y at *
          obtain ⟨X0, X1, X2, X3⟩ := X
          obtain ⟨Y0, Y1, Y2, Y3⟩ := Y
          dsimp only at c0 c1 c2 c3 d0 d1 d2 d3 p0 p1 p2 p3 q0 q1 q2 q3
          clear k1 k2 e1 e2 e3 hkn hy
          go_wp2
          go_region
          go_wp2
          go_roundg y
          case measure => have := HQ2.out.2; have := HG2.out; omega
          case rel => exact ⟨y, by go_num, ⟨HQ2.out.1⟩, ⟨Nat.le_refl _⟩, ⟨HN.out.drew⟩, ⟨KeepW.then_ HK2.out (below_drew (Below.refl _ _))⟩⟩
        · have hknz : ¬ (i : Int) < (k : Int) := by omega
          obtain rfl : k = i := by omega
          clear k1 k2 e1 e2 e3 hkn
          go_wp2
          refine ⟨rfl, .tuple #[], ?_, rfl, HK.out, _, HR.out, HSW.out, HSR.out⟩
          simp [results, Try.results49, go_sem]
end Go.Proofs.Ytcepafllgjnngaa
