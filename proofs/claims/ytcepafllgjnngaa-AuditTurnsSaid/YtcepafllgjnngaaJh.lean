/-
  The walk of the sort's symMerge at parts where more than one is on either side, the left side ends behind the middle; conditions: the row's block is its own, both halves are sorted.
-/
import Derived.Test.YtcepafllgjnngaaJf
import Derived.Deep.RegionHeld3
namespace Go.Proofs.Ytcepafllgjnngaa
open Go.RowKit Go.Proofs.YtcepafllgjnngaaW.PrintWords
open So

set_option maxRecDepth 100000 in
set_option maxHeartbeats 8000000 in
theorem symB_any (g N c : Nat) (q : Nat → Q) (a m b : Nat) (w : World) (hp : Par w g N q) (ham : a < m) (hmb : m < b) (hm1 : m ≠ a + 1) (hb1 : b ≠ m + 1) (hbN : b ≤ N) (hN : N ≤ 1000000) (hA : Srt q a m) (hB : Srt q m b)
    (hcase : (a + b) / 2 < m) (hE : SymR g N c a b) :
    Calls Try.prog 49 #[.slice (some ⟨g, 0, none⟩) N c, .int .i64 a, .int .i64 m, .int .i64 b, .func (.func 27) #[] #[]] w (Mrg g N a b q w) := by
  show Calls Try.prog 49 #[.slice (some ⟨g, 0, none⟩) N c, .int .i64 a, .int .i64 m, .int .i64 b, .func (.func 27) #[] #[]] w fun e w' => e = .returned (.tuple #[]) ∧ KeepW g w w' ∧ ∃ r, Par w' g N r ∧ Sw a b q r ∧ Srt r a b
  have HP := Lk.mk hp
  have HE := Lk.mk hE
  have HA := Lk.mk hA
  have HB := Lk.mk hB
  obtain ⟨f1, hf1⟩ : ∃ f1, m = a + f1 := ⟨m - a, by omega⟩
  obtain ⟨f2, hf2⟩ : ∃ f2, b = m + f2 := ⟨b - m, by omega⟩
  have hk1 := sub_of m a f1 hf1 (by omega)
  have hk2 := sub_of b m f2 hf2 (by omega)
  have hq1 : ((f1 : Int) == 1) = false := beq_false_of_ne (by omega)
  have hq2 : ((f2 : Int) == 1) = false := beq_false_of_ne (by omega)
  obtain ⟨s0, hs0⟩ : ∃ s0, s0 = a + b := ⟨_, rfl⟩
  obtain ⟨h, hh⟩ : ∃ h, h = s0 / 2 := ⟨_, rfl⟩
  obtain ⟨n, hn⟩ : ∃ n, n = h + m := ⟨_, rfl⟩
  obtain ⟨p, hpn⟩ : ∃ p, p = n - 1 := ⟨_, rfl⟩
  obtain ⟨lo, hlo⟩ : ∃ lo, n = b + lo := ⟨n - b, by omega⟩
  have hk3 := sub_of n b lo hlo (by omega)
  have hgt : (m : Int) > (h : Int) := by omega
  have HRG := Lk.mk (show Rng a m b lo h by unfold Rng; omega)
  have HI := Lk.mk (show h = (a + b) / 2 ∧ n = h + m ∧ p = (a + b) / 2 + m - 1 ∧ a < m ∧ m < b ∧ b ≤ N ∧ N ≤ 1000000 by omega)
  have HM2 := Lk.mk (mid2_of a b m s0 h n (by omega) hs0 hh hn (by omega))
  have HPN := Lk.mk hpn
  clear hp hE hA hB hf1 hf2 hs0 hh hn hpn ham hmb hm1 hb1 hbN hN hcase hlo
  obtain ⟨k1, k2, k3, k4, k5, k6⟩ := HM2.out
  rw [← HPN.out] at k6
  go_enter Try.func49, Try.ntmps49
  go_wp2
  clear k1 k2 k3 k4 k5 k6 hk1 hk2 hq1 hq2 hgt hk3
  go_loopg [20, 21, 23] N (fun gg v20 v21 _ wr => ∃ (i j : Nat), v20 = .int .i64 i ∧ v21 = .int .i64 j ∧ Lk (j - i ≤ gg) ∧ Lk (Seek q a m b lo h ((a + b) / 2 + m - 1) i j) ∧ Lk (Par wr g N q) ∧ Lk (KeepW g w wr))
  case atStart => exact ⟨lo, h, rfl, rfl, ⟨by have := HI.out; have := HRG.out.at_; omega⟩, ⟨Seek.start q HRG.out⟩, HP, ⟨KeepW.refl g w⟩⟩
  case round =>
    obtain ⟨i, j, rfl, rfl, HG, HSK, HR, HK⟩ := hrel
    obtain ⟨i1, i2, i3, i4, i5, i6, i7⟩ := HI.out
    have j1 := HSK.out.los
    have j2 := HSK.out.sr
    have j3 := HSK.out.rhi
    have j4 := HRG.out.at_
    by_cases hij : i < j
    · have hijz : (i : Int) < (j : Int) := by omega
      obtain ⟨s, hs⟩ : ∃ s, s = i + j := ⟨_, rfl⟩
      obtain ⟨x, hx⟩ : ∃ x, x = s / 2 := ⟨_, rfl⟩
      have HMI := Lk.mk (mid_of i j s x (by omega) hs hx)
      have j5 := j4.2.2.2 x (by omega) (by omega)
      obtain ⟨y, hy⟩ : ∃ y, p = x + y := ⟨p - x, by omega⟩
      have HSB := Lk.mk (sub_of p x y hy (by omega))
      have hxN : (x : Int) < (N : Int) := by omega
      have hyN : (y : Int) < (N : Int) := by omega
      have hxN' : y < N := by omega
      have hyN' : x < N := by omega
      have HXY := Lk.mk (show x = (i + j) / 2 ∧ y = (a + b) / 2 + m - 1 - (i + j) / 2 by omega)
      by_cases hk : key (q y) < key (q x)
      · have hz : cmpQ (q y) (q x) < 0 := by
          have := cmpQ_lt (q y) (q x)
          rw [decide_eq_true hk] at this
          exact of_decide_eq_true this
        have HSK2 := Lk.mk (show Seek q a m b lo h ((a + b) / 2 + m - 1) i x by
          rw [HXY.out.1]
          exact Seek.down HRG.out HSK.out hij HA.out HB.out (by rw [← HXY.out.2, ← HXY.out.1]; exact hk))
        have HJ2 := Lk.mk (show x - i < j - i by omega)
        clear HXY
        have HCE := Lk.mk (fun (W : World) (hpw : Par W g N q) => part8 hpw y x hxN' hyN')
        unfold P8 at HCE
        generalize q y = X at *
        generalize q x = Y at *
        obtain ⟨X0, X1, X2, X3⟩ := X
        obtain ⟨Y0, Y1, Y2, Y3⟩ := Y
        have HC := Lk.mk (fun W => cmp4_any X0 X1 X2 X3 Y0 Y1 Y2 Y3 W)
        generalize cmpQ (X0, X1, X2, X3) (Y0, Y1, Y2, Y3) = z at *
        dsimp only at HCE
        have HR2d := Lk.mk HR.out.drew
        clear i1 i2 i3 i4 i5 i6 i7 j1 j2 j3 j4 j5 hs hx hy hk hij hxN' hyN'
        obtain ⟨hws, hus, hsh, hsh2, hw1⟩ := HMI.out
        have hwy := HSB.out
        go_wp2
        clear hws hus hsh hsh2
        go_region_held3 (fun W' => W'.cell? ⟨g, y * 4, none⟩ = some (.int .u8 X0) ∧ W'.cell? ⟨g, y * 4 + 1, none⟩ = some (.int .i64 X1) ∧ W'.cell? ⟨g, y * 4 + 2, none⟩ = some (.int .i64 X2) ∧ W'.cell? ⟨g, y * 4 + 3, none⟩ = some (.int .i64 X3) ∧ W'.cell? ⟨g, x * 4, none⟩ = some (.int .u8 Y0) ∧ W'.cell? ⟨g, x * 4 + 1, none⟩ = some (.int .i64 Y1) ∧ W'.cell? ⟨g, x * 4 + 2, none⟩ = some (.int .i64 Y2) ∧ W'.cell? ⟨g, x * 4 + 3, none⟩ = some (.int .i64 Y3)) (first | with_reducible exact HCE.out _ HR2d.out | with_reducible exact HCE.out _ (HR2d.out.below HB3.out)) (first
          | (go_at_call 27; (with_reducible refine (HC.out _).mono ?_); rintro e w3 ⟨rfl, hb⟩; have HB3 := Lk.mk hb; clear hb))
        have HR3 := Lk.mk (HR2d.out.below HB3.out)
        have HK3 := Lk.mk (KeepW.then_ HK.out (below_then (below_drew (Below.refl _ _)) (by first | exact Nat.le_refl _ | exact HB3.out.size) HB3.out))
        go_wp2
        all_goals try (rename_i hzz; exfalso; simp at hzz; omega)
        go_roundg (x - i)
        case measure => have := HJ2.out; have := HG.out; omega
        case rel => exact ⟨i, x, rfl, by go_num, ⟨Nat.le_refl _⟩, HSK2, HR3, HK3⟩
      · have hz : ¬ cmpQ (q y) (q x) < 0 := by
          have := cmpQ_lt (q y) (q x)
          rw [decide_eq_false hk] at this
          exact of_decide_eq_false this
        have HSK2 := Lk.mk (show Seek q a m b lo h ((a + b) / 2 + m - 1) (x + 1) j by
          rw [HXY.out.1]
          exact Seek.up HRG.out HSK.out hij HA.out HB.out (by rw [← HXY.out.2, ← HXY.out.1]; omega))
        have HJ2 := Lk.mk (show j - (x + 1) < j - i by omega)
        clear HXY
        have HCE := Lk.mk (fun (W : World) (hpw : Par W g N q) => part8 hpw y x hxN' hyN')
        unfold P8 at HCE
        generalize q y = X at *
        generalize q x = Y at *
        obtain ⟨X0, X1, X2, X3⟩ := X
        obtain ⟨Y0, Y1, Y2, Y3⟩ := Y
        have HC := Lk.mk (fun W => cmp4_any X0 X1 X2 X3 Y0 Y1 Y2 Y3 W)
        generalize cmpQ (X0, X1, X2, X3) (Y0, Y1, Y2, Y3) = z at *
        dsimp only at HCE
        have HR2d := Lk.mk HR.out.drew
        clear i1 i2 i3 i4 i5 i6 i7 j1 j2 j3 j4 j5 hs hx hy hk hij hxN' hyN'
        obtain ⟨hws, hus, hsh, hsh2, hw1⟩ := HMI.out
        have hwy := HSB.out
        go_wp2
        clear hws hus hsh hsh2
        go_region_held3 (fun W' => W'.cell? ⟨g, y * 4, none⟩ = some (.int .u8 X0) ∧ W'.cell? ⟨g, y * 4 + 1, none⟩ = some (.int .i64 X1) ∧ W'.cell? ⟨g, y * 4 + 2, none⟩ = some (.int .i64 X2) ∧ W'.cell? ⟨g, y * 4 + 3, none⟩ = some (.int .i64 X3) ∧ W'.cell? ⟨g, x * 4, none⟩ = some (.int .u8 Y0) ∧ W'.cell? ⟨g, x * 4 + 1, none⟩ = some (.int .i64 Y1) ∧ W'.cell? ⟨g, x * 4 + 2, none⟩ = some (.int .i64 Y2) ∧ W'.cell? ⟨g, x * 4 + 3, none⟩ = some (.int .i64 Y3)) (first | with_reducible exact HCE.out _ HR2d.out | with_reducible exact HCE.out _ (HR2d.out.below HB3.out)) (first
          | (go_at_call 27; (with_reducible refine (HC.out _).mono ?_); rintro e w3 ⟨rfl, hb⟩; have HB3 := Lk.mk hb; clear hb))
        have HR3 := Lk.mk (HR2d.out.below HB3.out)
        have HK3 := Lk.mk (KeepW.then_ HK.out (below_then (below_drew (Below.refl _ _)) (by first | exact Nat.le_refl _ | exact HB3.out.size) HB3.out))
        go_wp2
        all_goals try (rename_i hzz; exfalso; simp at hzz; omega)
        go_roundg (j - (x + 1))
        case measure => have := HJ2.out; have := HG.out; omega
        case rel => exact ⟨x + 1, j, by go_num, rfl, ⟨Nat.le_refl _⟩, HSK2, HR3, HK3⟩
    · have hijz : ¬ (i : Int) < (j : Int) := by omega
      have hcut := Seek.cut HRG.out HSK.out hij
      obtain ⟨s, hs⟩ : ∃ s, s = i := ⟨_, rfl⟩
      obtain ⟨e, he⟩ : ∃ e, e = (a + b) / 2 + m - i := ⟨_, rfl⟩
      rw [← he, ← hs] at hcut
      have x1 := hcut.as_
      have x2 := hcut.sm
      have x3 := hcut.me
      have x4 := hcut.eb
      have HNE := Lk.mk (sub_of n s e (by omega) (by omega))
      have hhe : s + (e - m) = h := by omega
      obtain ⟨q1, hq1⟩ : ∃ q1, q1 = Rot q s m e := ⟨_, rfl⟩
      have HQ1 := Lk.mk hq1
      have hpt := hcut.parts HA.out HB.out
      rw [hhe, ← hq1] at hpt
      have HPT := Lk.mk hpt
      have HX := Lk.mk (show ∀ r, Sw a h q1 r → Srt r h e ∧ Srt r e b from fun r hr => ⟨HPT.out.2.2.1.same fun t t1 _ => hr.out t (by omega), HPT.out.2.2.2.same fun t t1 _ => hr.out t (by omega)⟩)
      have HMG := Lk.mk (show ∀ r2 r3, Sw a h q1 r2 → Srt r2 a h → Sw h b r2 r3 → Srt r3 h b → Sw a b q r3 ∧ Srt r3 a b from fun r2 r3 w1 s1 w2 s2 => hcut.merge HA.out HB.out (by rw [hhe, ← hq1]; exact w1) (by rw [hhe]; exact s1) (by rw [hhe]; exact w2) (by rw [hhe]; exact s2))
      have HROT := Lk.mk (show ∀ W, Par W g N q → s < m → m < e → _ from fun W hw l1 l2 => HE.out.rot q s m e W hw l1 l2 (by omega))
      have HREC1 := Lk.mk (show ∀ W, Par W g N q1 → a < s → s < h → _ from fun W hw l1 l2 => HE.out.rec_ q1 a s h W hw l1 l2 (by omega) (by omega) HPT.out.1 HPT.out.2.1)
      have HREC2 := Lk.mk (show ∀ W r, Par W g N r → Sw a h q1 r → h < e → e < b → _ from fun W r hw hr l1 l2 => HE.out.rec_ r h e b W hw l1 l2 (by omega) (by omega) (HX.out r hr).1 (HX.out r hr).2)
      rw [← hq1] at HROT
      clear hq1 hpt hcut he HSK HRG HA HB HE j4
      subst hs
      by_cases c1 : s < m
      · by_cases c2 : s < h
        · by_cases c3 : a < s
          · by_cases c4 : e < b
            · have d1 : (s : Int) < (m : Int) := by omega
              have d2 : (m : Int) < (e : Int) := by omega
              have d3 : (a : Int) < (s : Int) := by omega
              have d4 : (s : Int) < (h : Int) := by omega
              have d5 : (h : Int) < (e : Int) := by omega
              have d6 : (e : Int) < (b : Int) := by omega
              have HCR := Lk.mk (HROT.out wr HR.out c1 (by omega))
              have HC1 := Lk.mk (fun W hw => HREC1.out W hw c3 c2)
              have HC2 := Lk.mk (fun W r hw hr => HREC2.out W r hw hr (by omega) c4)
              clear i1 i2 i3 i4 j1 j2 j3 hhe c1 c2 c3 c4 hij
              have hne := HNE.out
              go_wp2_with (first
                | (go_at_call 50; (with_reducible refine HCR.out.mono ?_); rintro e9 w1 ⟨rfl, hk, hp⟩; have HK1 := Lk.mk (HK.out.trans hk); have HR1 := Lk.mk hp; clear hk hp)
                | (go_at_call 49; (with_reducible refine (HC1.out _ HR1.out).mono ?_); rintro e9 w2 ⟨rfl, hk, r2, hp, hsw, hsr⟩; have HK2 := Lk.mk (HK1.out.trans hk); have HR2 := Lk.mk hp; have HW2 := Lk.mk hsw; have HS2 := Lk.mk hsr; clear hk hp hsw hsr)
                | (go_at_call 49; (with_reducible refine (HC2.out _ _ HR2.out HW2.out).mono ?_); rintro e9 w4 ⟨rfl, hk, r4, hp, hsw, hsr⟩; have HK4 := Lk.mk (HK2.out.trans hk); have HR4 := Lk.mk hp; have HW4 := Lk.mk hsw; have HS4 := Lk.mk hsr; clear hk hp hsw hsr))
              have HF := HMG.out _ _ HW2.out HS2.out HW4.out HS4.out
              refine ⟨rfl, .tuple #[], ?_, rfl, HK4.out, _, HR4.out, HF.1, HF.2⟩
              simp [results, Try.results49, go_sem]
            · have d1 : (s : Int) < (m : Int) := by omega
              have d2 : (m : Int) < (e : Int) := by omega
              have d3 : (a : Int) < (s : Int) := by omega
              have d4 : (s : Int) < (h : Int) := by omega
              have d5 : (h : Int) < (e : Int) := by omega
              have d6 : ¬ (e : Int) < (b : Int) := by omega
              have HX3 := Lk.mk (show ∀ r, Sw a h q1 r → Srt r h b from fun r hr => by have h9 := (HX.out r hr).1; rwa [show e = b by omega] at h9)
              have HCR := Lk.mk (HROT.out wr HR.out c1 (by omega))
              have HC1 := Lk.mk (fun W hw => HREC1.out W hw c3 c2)
              clear i1 i2 i3 i4 j1 j2 j3 hhe c1 c2 c3 c4 hij
              have hne := HNE.out
              go_wp2_with (first
                | (go_at_call 50; (with_reducible refine HCR.out.mono ?_); rintro e9 w1 ⟨rfl, hk, hp⟩; have HK1 := Lk.mk (HK.out.trans hk); have HR1 := Lk.mk hp; clear hk hp)
                | (go_at_call 49; (with_reducible refine (HC1.out _ HR1.out).mono ?_); rintro e9 w2 ⟨rfl, hk, r2, hp, hsw, hsr⟩; have HK2 := Lk.mk (HK1.out.trans hk); have HR2 := Lk.mk hp; have HW2 := Lk.mk hsw; have HS2 := Lk.mk hsr; clear hk hp hsw hsr; have HR4 := HR2; have HK4 := HK2; have HW4 := Lk.mk (Sw.refl (a := h) (b := b) (q := r2)); have HS4 := Lk.mk (HX3.out _ HW2.out)))
              have HF := HMG.out _ _ HW2.out HS2.out HW4.out HS4.out
              refine ⟨rfl, .tuple #[], ?_, rfl, HK4.out, _, HR4.out, HF.1, HF.2⟩
              simp [results, Try.results49, go_sem]
          · by_cases c4 : e < b
            · have d1 : (s : Int) < (m : Int) := by omega
              have d2 : (m : Int) < (e : Int) := by omega
              have d3 : ¬ (a : Int) < (s : Int) := by omega
              have d4 : (s : Int) < (h : Int) := by omega
              have d5 : (h : Int) < (e : Int) := by omega
              have d6 : (e : Int) < (b : Int) := by omega
              have HS2 := Lk.mk (show Srt q1 a h by have h9 := HPT.out.2.1; rwa [show s = a by omega] at h9)
              have HCR := Lk.mk (HROT.out wr HR.out c1 (by omega))
              have HC2 := Lk.mk (fun W r hw hr => HREC2.out W r hw hr (by omega) c4)
              clear i1 i2 i3 i4 j1 j2 j3 hhe c1 c2 c3 c4 hij
              have hne := HNE.out
              go_wp2_with (first
                | (go_at_call 50; (with_reducible refine HCR.out.mono ?_); rintro e9 w1 ⟨rfl, hk, hp⟩; have HK1 := Lk.mk (HK.out.trans hk); have HR1 := Lk.mk hp; clear hk hp; have HR2 := HR1; have HK2 := HK1; have HW2 := Lk.mk (Sw.refl (a := a) (b := h) (q := q1)))
                | (go_at_call 49; (with_reducible refine (HC2.out _ _ HR2.out HW2.out).mono ?_); rintro e9 w4 ⟨rfl, hk, r4, hp, hsw, hsr⟩; have HK4 := Lk.mk (HK2.out.trans hk); have HR4 := Lk.mk hp; have HW4 := Lk.mk hsw; have HS4 := Lk.mk hsr; clear hk hp hsw hsr))
              have HF := HMG.out _ _ HW2.out HS2.out HW4.out HS4.out
              refine ⟨rfl, .tuple #[], ?_, rfl, HK4.out, _, HR4.out, HF.1, HF.2⟩
              simp [results, Try.results49, go_sem]
            · have d1 : (s : Int) < (m : Int) := by omega
              have d2 : (m : Int) < (e : Int) := by omega
              have d3 : ¬ (a : Int) < (s : Int) := by omega
              have d4 : (s : Int) < (h : Int) := by omega
              have d5 : (h : Int) < (e : Int) := by omega
              have d6 : ¬ (e : Int) < (b : Int) := by omega
              have HS2 := Lk.mk (show Srt q1 a h by have h9 := HPT.out.2.1; rwa [show s = a by omega] at h9)
              have HX3 := Lk.mk (show ∀ r, Sw a h q1 r → Srt r h b from fun r hr => by have h9 := (HX.out r hr).1; rwa [show e = b by omega] at h9)
              have HCR := Lk.mk (HROT.out wr HR.out c1 (by omega))
              clear i1 i2 i3 i4 j1 j2 j3 hhe c1 c2 c3 c4 hij
              have hne := HNE.out
              go_wp2_with (first
                | (go_at_call 50; (with_reducible refine HCR.out.mono ?_); rintro e9 w1 ⟨rfl, hk, hp⟩; have HK1 := Lk.mk (HK.out.trans hk); have HR1 := Lk.mk hp; clear hk hp; have HR2 := HR1; have HK2 := HK1; have HW2 := Lk.mk (Sw.refl (a := a) (b := h) (q := q1)); have HR4 := HR2; have HK4 := HK2; have HW4 := Lk.mk (Sw.refl (a := h) (b := b) (q := q1)); have HS4 := Lk.mk (HX3.out _ HW2.out)))
              have HF := HMG.out _ _ HW2.out HS2.out HW4.out HS4.out
              refine ⟨rfl, .tuple #[], ?_, rfl, HK4.out, _, HR4.out, HF.1, HF.2⟩
              simp [results, Try.results49, go_sem]
        · by_cases c3 : a < s
          · by_cases c4 : e < b
            · have d1 : (s : Int) < (m : Int) := by omega
              have d2 : ¬ (m : Int) < (e : Int) := by omega
              have d3 : (a : Int) < (s : Int) := by omega
              have d4 : ¬ (s : Int) < (h : Int) := by omega
              have d5 : (h : Int) < (e : Int) := by omega
              have d6 : (e : Int) < (b : Int) := by omega
              have HQE := Lk.mk (show Par wr g N q1 by rw [HQ1.out, show e = m by omega, Rot_right q s m (by omega)]; exact HR.out)
              have HS2 := Lk.mk (show Srt q1 a h by have h9 := HPT.out.1; rwa [show s = h by omega] at h9)
              have HC2 := Lk.mk (fun W r hw hr => HREC2.out W r hw hr (by omega) c4)
              clear i1 i2 i3 i4 j1 j2 j3 hhe c1 c2 c3 c4 hij
              have HR1 := HQE
              have HK1 := HK
              have HR2 := HR1
              have HK2 := HK1
              have HW2 := Lk.mk (Sw.refl (a := a) (b := h) (q := q1))
              have hne := HNE.out
              go_wp2_with (first
                | (go_at_call 49; (with_reducible refine (HC2.out _ _ HR2.out HW2.out).mono ?_); rintro e9 w4 ⟨rfl, hk, r4, hp, hsw, hsr⟩; have HK4 := Lk.mk (HK2.out.trans hk); have HR4 := Lk.mk hp; have HW4 := Lk.mk hsw; have HS4 := Lk.mk hsr; clear hk hp hsw hsr))
              have HF := HMG.out _ _ HW2.out HS2.out HW4.out HS4.out
              refine ⟨rfl, .tuple #[], ?_, rfl, HK4.out, _, HR4.out, HF.1, HF.2⟩
              simp [results, Try.results49, go_sem]
            · have d1 : (s : Int) < (m : Int) := by omega
              have d2 : ¬ (m : Int) < (e : Int) := by omega
              have d3 : (a : Int) < (s : Int) := by omega
              have d4 : ¬ (s : Int) < (h : Int) := by omega
              have d5 : (h : Int) < (e : Int) := by omega
              have d6 : ¬ (e : Int) < (b : Int) := by omega
              have HQE := Lk.mk (show Par wr g N q1 by rw [HQ1.out, show e = m by omega, Rot_right q s m (by omega)]; exact HR.out)
              have HS2 := Lk.mk (show Srt q1 a h by have h9 := HPT.out.1; rwa [show s = h by omega] at h9)
              have HX3 := Lk.mk (show ∀ r, Sw a h q1 r → Srt r h b from fun r hr => by have h9 := (HX.out r hr).1; rwa [show e = b by omega] at h9)
              clear i1 i2 i3 i4 j1 j2 j3 hhe c1 c2 c3 c4 hij
              have HR1 := HQE
              have HK1 := HK
              have HR2 := HR1
              have HK2 := HK1
              have HW2 := Lk.mk (Sw.refl (a := a) (b := h) (q := q1))
              have HR4 := HR2
              have HK4 := HK2
              have HW4 := Lk.mk (Sw.refl (a := h) (b := b) (q := q1))
              have HS4 := Lk.mk (HX3.out _ HW2.out)
              have hne := HNE.out
              go_wp2
              have HF := HMG.out _ _ HW2.out HS2.out HW4.out HS4.out
              refine ⟨rfl, .tuple #[], ?_, rfl, HK4.out, _, HR4.out, HF.1, HF.2⟩
              simp [results, Try.results49, go_sem]
          · by_cases c4 : e < b
            · have d1 : (s : Int) < (m : Int) := by omega
              have d2 : ¬ (m : Int) < (e : Int) := by omega
              have d3 : ¬ (a : Int) < (s : Int) := by omega
              have d4 : ¬ (s : Int) < (h : Int) := by omega
              have d5 : (h : Int) < (e : Int) := by omega
              have d6 : (e : Int) < (b : Int) := by omega
              have HQE := Lk.mk (show Par wr g N q1 by rw [HQ1.out, show e = m by omega, Rot_right q s m (by omega)]; exact HR.out)
              have HS2 := Lk.mk (show Srt q1 a h by have h9 := HPT.out.2.1; rwa [show s = a by omega] at h9)
              have HC2 := Lk.mk (fun W r hw hr => HREC2.out W r hw hr (by omega) c4)
              clear i1 i2 i3 i4 j1 j2 j3 hhe c1 c2 c3 c4 hij
              have HR1 := HQE
              have HK1 := HK
              have HR2 := HR1
              have HK2 := HK1
              have HW2 := Lk.mk (Sw.refl (a := a) (b := h) (q := q1))
              have hne := HNE.out
              go_wp2_with (first
                | (go_at_call 49; (with_reducible refine (HC2.out _ _ HR2.out HW2.out).mono ?_); rintro e9 w4 ⟨rfl, hk, r4, hp, hsw, hsr⟩; have HK4 := Lk.mk (HK2.out.trans hk); have HR4 := Lk.mk hp; have HW4 := Lk.mk hsw; have HS4 := Lk.mk hsr; clear hk hp hsw hsr))
              have HF := HMG.out _ _ HW2.out HS2.out HW4.out HS4.out
              refine ⟨rfl, .tuple #[], ?_, rfl, HK4.out, _, HR4.out, HF.1, HF.2⟩
              simp [results, Try.results49, go_sem]
            · have d1 : (s : Int) < (m : Int) := by omega
              have d2 : ¬ (m : Int) < (e : Int) := by omega
              have d3 : ¬ (a : Int) < (s : Int) := by omega
              have d4 : ¬ (s : Int) < (h : Int) := by omega
              have d5 : (h : Int) < (e : Int) := by omega
              have d6 : ¬ (e : Int) < (b : Int) := by omega
              have HQE := Lk.mk (show Par wr g N q1 by rw [HQ1.out, show e = m by omega, Rot_right q s m (by omega)]; exact HR.out)
              have HS2 := Lk.mk (show Srt q1 a h by have h9 := HPT.out.2.1; rwa [show s = a by omega] at h9)
              have HX3 := Lk.mk (show ∀ r, Sw a h q1 r → Srt r h b from fun r hr => by have h9 := (HX.out r hr).1; rwa [show e = b by omega] at h9)
              clear i1 i2 i3 i4 j1 j2 j3 hhe c1 c2 c3 c4 hij
              have HR1 := HQE
              have HK1 := HK
              have HR2 := HR1
              have HK2 := HK1
              have HW2 := Lk.mk (Sw.refl (a := a) (b := h) (q := q1))
              have HR4 := HR2
              have HK4 := HK2
              have HW4 := Lk.mk (Sw.refl (a := h) (b := b) (q := q1))
              have HS4 := Lk.mk (HX3.out _ HW2.out)
              have hne := HNE.out
              go_wp2
              have HF := HMG.out _ _ HW2.out HS2.out HW4.out HS4.out
              refine ⟨rfl, .tuple #[], ?_, rfl, HK4.out, _, HR4.out, HF.1, HF.2⟩
              simp [results, Try.results49, go_sem]
      · by_cases c2 : s < h
        · by_cases c3 : a < s
          · by_cases c4 : e < b
            · have d1 : ¬ (s : Int) < (m : Int) := by omega
              have d2 : (m : Int) < (e : Int) := by omega
              have d3 : (a : Int) < (s : Int) := by omega
              have d4 : (s : Int) < (h : Int) := by omega
              have d5 : ¬ (h : Int) < (e : Int) := by omega
              have d6 : (e : Int) < (b : Int) := by omega
              have HQE := Lk.mk (show Par wr g N q1 by rw [HQ1.out, show s = m by omega, Rot_left q m e (by omega)]; exact HR.out)
              have HX3 := Lk.mk (show ∀ r, Sw a h q1 r → Srt r h b from fun r hr => by have h9 := (HX.out r hr).2; rwa [show e = h by omega] at h9)
              have HC1 := Lk.mk (fun W hw => HREC1.out W hw c3 c2)
              clear i1 i2 i3 i4 j1 j2 j3 hhe c1 c2 c3 c4 hij
              have HR1 := HQE
              have HK1 := HK
              have hne := HNE.out
              go_wp2_with (first
                | (go_at_call 49; (with_reducible refine (HC1.out _ HR1.out).mono ?_); rintro e9 w2 ⟨rfl, hk, r2, hp, hsw, hsr⟩; have HK2 := Lk.mk (HK1.out.trans hk); have HR2 := Lk.mk hp; have HW2 := Lk.mk hsw; have HS2 := Lk.mk hsr; clear hk hp hsw hsr; have HR4 := HR2; have HK4 := HK2; have HW4 := Lk.mk (Sw.refl (a := h) (b := b) (q := r2)); have HS4 := Lk.mk (HX3.out _ HW2.out)))
              have HF := HMG.out _ _ HW2.out HS2.out HW4.out HS4.out
              refine ⟨rfl, .tuple #[], ?_, rfl, HK4.out, _, HR4.out, HF.1, HF.2⟩
              simp [results, Try.results49, go_sem]
            · have d1 : ¬ (s : Int) < (m : Int) := by omega
              have d2 : (m : Int) < (e : Int) := by omega
              have d3 : (a : Int) < (s : Int) := by omega
              have d4 : (s : Int) < (h : Int) := by omega
              have d5 : ¬ (h : Int) < (e : Int) := by omega
              have d6 : ¬ (e : Int) < (b : Int) := by omega
              have HQE := Lk.mk (show Par wr g N q1 by rw [HQ1.out, show s = m by omega, Rot_left q m e (by omega)]; exact HR.out)
              have HX3 := Lk.mk (show ∀ r, Sw a h q1 r → Srt r h b from fun r hr => by have h9 := (HX.out r hr).2; rwa [show e = h by omega] at h9)
              have HC1 := Lk.mk (fun W hw => HREC1.out W hw c3 c2)
              clear i1 i2 i3 i4 j1 j2 j3 hhe c1 c2 c3 c4 hij
              have HR1 := HQE
              have HK1 := HK
              have hne := HNE.out
              go_wp2_with (first
                | (go_at_call 49; (with_reducible refine (HC1.out _ HR1.out).mono ?_); rintro e9 w2 ⟨rfl, hk, r2, hp, hsw, hsr⟩; have HK2 := Lk.mk (HK1.out.trans hk); have HR2 := Lk.mk hp; have HW2 := Lk.mk hsw; have HS2 := Lk.mk hsr; clear hk hp hsw hsr; have HR4 := HR2; have HK4 := HK2; have HW4 := Lk.mk (Sw.refl (a := h) (b := b) (q := r2)); have HS4 := Lk.mk (HX3.out _ HW2.out)))
              have HF := HMG.out _ _ HW2.out HS2.out HW4.out HS4.out
              refine ⟨rfl, .tuple #[], ?_, rfl, HK4.out, _, HR4.out, HF.1, HF.2⟩
              simp [results, Try.results49, go_sem]
          · by_cases c4 : e < b
            · have d1 : ¬ (s : Int) < (m : Int) := by omega
              have d2 : (m : Int) < (e : Int) := by omega
              have d3 : ¬ (a : Int) < (s : Int) := by omega
              have d4 : (s : Int) < (h : Int) := by omega
              have d5 : ¬ (h : Int) < (e : Int) := by omega
              have d6 : (e : Int) < (b : Int) := by omega
              have HQE := Lk.mk (show Par wr g N q1 by rw [HQ1.out, show s = m by omega, Rot_left q m e (by omega)]; exact HR.out)
              have HS2 := Lk.mk (show Srt q1 a h by have h9 := HPT.out.2.1; rwa [show s = a by omega] at h9)
              have HX3 := Lk.mk (show ∀ r, Sw a h q1 r → Srt r h b from fun r hr => by have h9 := (HX.out r hr).2; rwa [show e = h by omega] at h9)
              clear i1 i2 i3 i4 j1 j2 j3 hhe c1 c2 c3 c4 hij
              have HR1 := HQE
              have HK1 := HK
              have HR2 := HR1
              have HK2 := HK1
              have HW2 := Lk.mk (Sw.refl (a := a) (b := h) (q := q1))
              have HR4 := HR2
              have HK4 := HK2
              have HW4 := Lk.mk (Sw.refl (a := h) (b := b) (q := q1))
              have HS4 := Lk.mk (HX3.out _ HW2.out)
              have hne := HNE.out
              go_wp2
              have HF := HMG.out _ _ HW2.out HS2.out HW4.out HS4.out
              refine ⟨rfl, .tuple #[], ?_, rfl, HK4.out, _, HR4.out, HF.1, HF.2⟩
              simp [results, Try.results49, go_sem]
            · have d1 : ¬ (s : Int) < (m : Int) := by omega
              have d2 : (m : Int) < (e : Int) := by omega
              have d3 : ¬ (a : Int) < (s : Int) := by omega
              have d4 : (s : Int) < (h : Int) := by omega
              have d5 : ¬ (h : Int) < (e : Int) := by omega
              have d6 : ¬ (e : Int) < (b : Int) := by omega
              have HQE := Lk.mk (show Par wr g N q1 by rw [HQ1.out, show s = m by omega, Rot_left q m e (by omega)]; exact HR.out)
              have HS2 := Lk.mk (show Srt q1 a h by have h9 := HPT.out.2.1; rwa [show s = a by omega] at h9)
              have HX3 := Lk.mk (show ∀ r, Sw a h q1 r → Srt r h b from fun r hr => by have h9 := (HX.out r hr).2; rwa [show e = h by omega] at h9)
              clear i1 i2 i3 i4 j1 j2 j3 hhe c1 c2 c3 c4 hij
              have HR1 := HQE
              have HK1 := HK
              have HR2 := HR1
              have HK2 := HK1
              have HW2 := Lk.mk (Sw.refl (a := a) (b := h) (q := q1))
              have HR4 := HR2
              have HK4 := HK2
              have HW4 := Lk.mk (Sw.refl (a := h) (b := b) (q := q1))
              have HS4 := Lk.mk (HX3.out _ HW2.out)
              have hne := HNE.out
              go_wp2
              have HF := HMG.out _ _ HW2.out HS2.out HW4.out HS4.out
              refine ⟨rfl, .tuple #[], ?_, rfl, HK4.out, _, HR4.out, HF.1, HF.2⟩
              simp [results, Try.results49, go_sem]
        · by_cases c3 : a < s
          · by_cases c4 : e < b
            · have d1 : ¬ (s : Int) < (m : Int) := by omega
              have d2 : ¬ (m : Int) < (e : Int) := by omega
              have d3 : (a : Int) < (s : Int) := by omega
              have d4 : ¬ (s : Int) < (h : Int) := by omega
              have d5 : ¬ (h : Int) < (e : Int) := by omega
              have d6 : (e : Int) < (b : Int) := by omega
              have HQE := Lk.mk (show Par wr g N q1 by rw [HQ1.out, show s = m by omega, Rot_left q m e (by omega)]; exact HR.out)
              have HS2 := Lk.mk (show Srt q1 a h by have h9 := HPT.out.1; rwa [show s = h by omega] at h9)
              have HX3 := Lk.mk (show ∀ r, Sw a h q1 r → Srt r h b from fun r hr => by have h9 := (HX.out r hr).2; rwa [show e = h by omega] at h9)
              clear i1 i2 i3 i4 j1 j2 j3 hhe c1 c2 c3 c4 hij
              have HR1 := HQE
              have HK1 := HK
              have HR2 := HR1
              have HK2 := HK1
              have HW2 := Lk.mk (Sw.refl (a := a) (b := h) (q := q1))
              have HR4 := HR2
              have HK4 := HK2
              have HW4 := Lk.mk (Sw.refl (a := h) (b := b) (q := q1))
              have HS4 := Lk.mk (HX3.out _ HW2.out)
              have hne := HNE.out
              go_wp2
              have HF := HMG.out _ _ HW2.out HS2.out HW4.out HS4.out
              refine ⟨rfl, .tuple #[], ?_, rfl, HK4.out, _, HR4.out, HF.1, HF.2⟩
              simp [results, Try.results49, go_sem]
            · have d1 : ¬ (s : Int) < (m : Int) := by omega
              have d2 : ¬ (m : Int) < (e : Int) := by omega
              have d3 : (a : Int) < (s : Int) := by omega
              have d4 : ¬ (s : Int) < (h : Int) := by omega
              have d5 : ¬ (h : Int) < (e : Int) := by omega
              have d6 : ¬ (e : Int) < (b : Int) := by omega
              have HQE := Lk.mk (show Par wr g N q1 by rw [HQ1.out, show s = m by omega, Rot_left q m e (by omega)]; exact HR.out)
              have HS2 := Lk.mk (show Srt q1 a h by have h9 := HPT.out.1; rwa [show s = h by omega] at h9)
              have HX3 := Lk.mk (show ∀ r, Sw a h q1 r → Srt r h b from fun r hr => by have h9 := (HX.out r hr).2; rwa [show e = h by omega] at h9)
              clear i1 i2 i3 i4 j1 j2 j3 hhe c1 c2 c3 c4 hij
              have HR1 := HQE
              have HK1 := HK
              have HR2 := HR1
              have HK2 := HK1
              have HW2 := Lk.mk (Sw.refl (a := a) (b := h) (q := q1))
              have HR4 := HR2
              have HK4 := HK2
              have HW4 := Lk.mk (Sw.refl (a := h) (b := b) (q := q1))
              have HS4 := Lk.mk (HX3.out _ HW2.out)
              have hne := HNE.out
              go_wp2
              have HF := HMG.out _ _ HW2.out HS2.out HW4.out HS4.out
              refine ⟨rfl, .tuple #[], ?_, rfl, HK4.out, _, HR4.out, HF.1, HF.2⟩
              simp [results, Try.results49, go_sem]
          · by_cases c4 : e < b
            · have d1 : ¬ (s : Int) < (m : Int) := by omega
              have d2 : ¬ (m : Int) < (e : Int) := by omega
              have d3 : ¬ (a : Int) < (s : Int) := by omega
              have d4 : ¬ (s : Int) < (h : Int) := by omega
              have d5 : ¬ (h : Int) < (e : Int) := by omega
              have d6 : (e : Int) < (b : Int) := by omega
              have HQE := Lk.mk (show Par wr g N q1 by rw [HQ1.out, show s = m by omega, Rot_left q m e (by omega)]; exact HR.out)
              have HS2 := Lk.mk (show Srt q1 a h by have h9 := HPT.out.2.1; rwa [show s = a by omega] at h9)
              have HX3 := Lk.mk (show ∀ r, Sw a h q1 r → Srt r h b from fun r hr => by have h9 := (HX.out r hr).2; rwa [show e = h by omega] at h9)
              clear i1 i2 i3 i4 j1 j2 j3 hhe c1 c2 c3 c4 hij
              have HR1 := HQE
              have HK1 := HK
              have HR2 := HR1
              have HK2 := HK1
              have HW2 := Lk.mk (Sw.refl (a := a) (b := h) (q := q1))
              have HR4 := HR2
              have HK4 := HK2
              have HW4 := Lk.mk (Sw.refl (a := h) (b := b) (q := q1))
              have HS4 := Lk.mk (HX3.out _ HW2.out)
              have hne := HNE.out
              go_wp2
              have HF := HMG.out _ _ HW2.out HS2.out HW4.out HS4.out
              refine ⟨rfl, .tuple #[], ?_, rfl, HK4.out, _, HR4.out, HF.1, HF.2⟩
              simp [results, Try.results49, go_sem]
            · have d1 : ¬ (s : Int) < (m : Int) := by omega
              have d2 : ¬ (m : Int) < (e : Int) := by omega
              have d3 : ¬ (a : Int) < (s : Int) := by omega
              have d4 : ¬ (s : Int) < (h : Int) := by omega
              have d5 : ¬ (h : Int) < (e : Int) := by omega
              have d6 : ¬ (e : Int) < (b : Int) := by omega
              have HQE := Lk.mk (show Par wr g N q1 by rw [HQ1.out, show s = m by omega, Rot_left q m e (by omega)]; exact HR.out)
              have HS2 := Lk.mk (show Srt q1 a h by have h9 := HPT.out.2.1; rwa [show s = a by omega] at h9)
              have HX3 := Lk.mk (show ∀ r, Sw a h q1 r → Srt r h b from fun r hr => by have h9 := (HX.out r hr).2; rwa [show e = h by omega] at h9)
              clear i1 i2 i3 i4 j1 j2 j3 hhe c1 c2 c3 c4 hij
              have HR1 := HQE
              have HK1 := HK
              have HR2 := HR1
              have HK2 := HK1
              have HW2 := Lk.mk (Sw.refl (a := a) (b := h) (q := q1))
              have HR4 := HR2
              have HK4 := HK2
              have HW4 := Lk.mk (Sw.refl (a := h) (b := b) (q := q1))
              have HS4 := Lk.mk (HX3.out _ HW2.out)
              have hne := HNE.out
              go_wp2
              have HF := HMG.out _ _ HW2.out HS2.out HW4.out HS4.out
              refine ⟨rfl, .tuple #[], ?_, rfl, HK4.out, _, HR4.out, HF.1, HF.2⟩
              simp [results, Try.results49, go_sem]
end Go.Proofs.Ytcepafllgjnngaa
