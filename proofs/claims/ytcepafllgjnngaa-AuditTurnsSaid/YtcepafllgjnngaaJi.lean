/-
  The walks of the sort's symMerge, stable and SortStableFunc at parts; conditions: the row's block is its own.
-/
import Derived.Test.YtcepafllgjnngaaJg
import Derived.Test.YtcepafllgjnngaaJh
import Derived.Deep.RegionHeld3
namespace Go.Proofs.Ytcepafllgjnngaa
open Go.RowKit Go.Proofs.YtcepafllgjnngaaW.PrintWords
open So

theorem sym_any (g N c : Nat) (hN : N ≤ 1000000) : ∀ (k : Nat) (q : Nat → Q) (a m b : Nat) (w : World), b - a ≤ k → Par w g N q → a < m → m < b → b ≤ N → Srt q a m → Srt q m b →
    Calls Try.prog 49 #[.slice (some ⟨g, 0, none⟩) N c, .int .i64 a, .int .i64 m, .int .i64 b, .func (.func 27) #[] #[]] w (Mrg g N a b q w) := by
  intro k
  induction k with
  | zero => intro q a m b w hk; intros; omega
  | succ k ih =>
    intro q a m b w hk hp ham hmb hbN hA hB
    by_cases h1 : m = a + 1
    · subst h1
      exact symL_any g N c q a b w hp (by omega) hbN hN hB
    · by_cases h2 : b = m + 1
      · subst h2
        exact symR_any g N c q a m w hp ham h1 hbN hN hA
      · have hE : SymR g N c a b := ⟨fun q a m b W h l1 l2 l3 => rot_any g N c q a m b _ W h l1 l2 l3 hN, fun q a' m' b' W h l1 l2 l3 l4 s1 s2 => ih q a' m' b' W (by omega) h l1 l2 l3 s1 s2⟩
        rcases Nat.lt_or_ge ((a + b) / 2) m with hc | hc
        · exact symB_any g N c q a m b w hp ham hmb h1 h2 hbN hN hA hB hc hE
        · exact symA_any g N c q a m b w hp ham hmb h1 h2 hbN hN hA hB hc hE

set_option maxRecDepth 100000 in
set_option maxHeartbeats 8000000 in
theorem stable_any (g N c : Nat) (q : Nat → Q) (w : World) (hp : Par w g N q) (hN : N ≤ 100000) :
    Calls Try.prog 38 #[.slice (some ⟨g, 0, none⟩) N c, .int .i64 N, .func (.func 27) #[] #[]] w (Mrg g N 0 N q w) := by
  show Calls Try.prog 38 #[.slice (some ⟨g, 0, none⟩) N c, .int .i64 N, .func (.func 27) #[] #[]] w fun e w' => e = .returned (.tuple #[]) ∧ KeepW g w w' ∧ ∃ r, Par w' g N r ∧ Sw 0 N q r ∧ Srt r 0 N
  have HP := Lk.mk hp
  have HIN := Lk.mk (fun (r : Nat → Q) (a b : Nat) (W : World) (h : Par W g N r) (l1 : a ≤ b) (l2 : b ≤ N) => ins_any g N c r a b W h l1 l2 (by omega))
  have HSY := Lk.mk (fun (r : Nat → Q) (a m b : Nat) (W : World) (h : Par W g N r) (l1 : a < m) (l2 : m < b) (l3 : b ≤ N) (s1 : Srt r a m) (s2 : Srt r m b) => sym_any g N c (by omega) (b - a) r a m b W (Nat.le_refl _) h l1 l2 l3 s1 s2)
  have HN := Lk.mk hN
  clear hp hN
  go_enter Try.func38, Try.ntmps38
  go_wp2
  go_loopg [7, 8] N (fun gg v7 v8 wr => ∃ (a b : Nat) (r : Nat → Q), v7 = .int .i64 a ∧ v8 = .int .i64 b ∧ Lk (b = a + 20 ∧ a ≤ N ∧ N - a ≤ gg) ∧ Lk (Par wr g N r) ∧ Lk (Sw 0 N q r) ∧ Lk (Pr r 20 a) ∧ Lk (KeepW g w wr))
  case atStart => exact ⟨0, 20, q, rfl, rfl, ⟨rfl, Nat.zero_le _, by omega⟩, HP, ⟨.refl⟩, ⟨.zero⟩, ⟨KeepW.refl g w⟩⟩
  case round =>
    obtain ⟨a, b, r, rfl, rfl, HAB, HR, HW, HPR, HK⟩ := hrel
    obtain ⟨e1, e2, e3⟩ := HAB.out
    have hN := HN.out
    by_cases hbN : b ≤ N
    · have hbz : (b : Int) ≤ (N : Int) := by omega
      obtain ⟨b2, hb2⟩ : ∃ b2, b2 = b + 20 := ⟨_, rfl⟩
      have HWB := Lk.mk (show IntKind.i64.wrap ((b : Int) + 20) = (b2 : Int) from (IntWalk.i64_in _ (by omega)).trans (by omega))
      have HC := Lk.mk (HIN.out r a b wr HR.out (by omega) hbN)
      have HB2 := Lk.mk (show (b2 = b + 20 ∧ b ≤ N ∧ N - b ≤ N - b) ∧ N - b < N - a ∧ b = a + 20 ∧ a ≤ b by omega)
      clear e1 e2 e3 hN hbN hb2
      have hwb := HWB.out
      go_wp2_with (go_at_call 48; (with_reducible refine (HC.out).mono ?_); rintro e9 w1 ⟨rfl, hk, r1, hp1, hsw, hsr⟩; have HK1 := Lk.mk (HK.out.trans hk); have HR1 := Lk.mk hp1; have HW1 := Lk.mk hsw; have HS1 := Lk.mk hsr; clear hk hp1 hsw hsr)
      clear hwb
      go_roundg (N - b)
      case measure => have := HB2.out.2; have := HAB.out; omega
      case rel =>
        refine ⟨b, b2, r1, rfl, rfl, ⟨HB2.out.1⟩, HR1, ⟨HW.out.trans (HW1.out.mono (Nat.zero_le _) HB2.out.1.2.1)⟩, ⟨?_⟩, HK1⟩
        have h9 := (HPR.out.same (r := r1) (fun p hp => HW1.out.out p (.inl hp))).snoc (by have := HS1.out; rwa [HB2.out.2.2.1] at this)
        rwa [← HB2.out.2.2.1] at h9
    · have hbz : ¬ (b : Int) ≤ (N : Int) := by omega
      have HC := Lk.mk (HIN.out r a N wr HR.out e2 (Nat.le_refl _))
      have HBE := Lk.mk (show N ≤ a + 20 by omega)
      clear e1 e2 e3 hN hbN
      go_wp2_with (go_at_call 48; (with_reducible refine (HC.out).mono ?_); rintro e9 w1 ⟨rfl, hk, r1, hp1, hsw, hsr⟩; have HK1 := Lk.mk (HK.out.trans hk); have HR1 := Lk.mk hp1; have HW1 := Lk.mk hsw; have HS1 := Lk.mk hsr; clear hk hp1 hsw hsr)
      have HBL := Lk.mk (show Bl r1 20 0 N from (HPR.out.same (r := r1) (fun p hp => HW1.out.out p (.inl hp))).join (.last HBE.out HS1.out))
      have HWW := Lk.mk (show Sw 0 N q r1 from HW.out.trans (HW1.out.mono (Nat.zero_le _) (Nat.le_refl _)))
      clear HBE HW1 HS1 HW HPR HK HR HAB HC hbz
      go_loopg [6, 7, 8, 9] N (fun gg v6 _ _ _ wr2 => ∃ (B : Nat) (r : Nat → Q), v6 = .int .i64 B ∧ Lk (0 < B ∧ B ≤ 200000 ∧ N - B ≤ gg) ∧ Lk (Par wr2 g N r) ∧ Lk (Sw 0 N q r) ∧ Lk (Bl r B 0 N) ∧ Lk (KeepW g w wr2))
      case atStart => exact ⟨20, r1, rfl, ⟨by omega, by omega, by omega⟩, HR1, HWW, HBL, HK1⟩
      case round =>
        clear HR1 HWW HBL HK1
        obtain ⟨B, r, rfl, HB, HR, HW, HBL, HK⟩ := hrel
        obtain ⟨b1, b2, b3⟩ := HB.out
        have hN := HN.out
        by_cases hlt : B < N
        · have hltz : (B : Int) < (N : Int) := by omega
          obtain ⟨D, hD⟩ : ∃ D, D = 2 * B := ⟨_, rfl⟩
          have HWD := Lk.mk (show IntKind.i64.wrap (2 * (B : Int)) = (D : Int) ∧ IntKind.i64.wrap ((B : Int) * 2) = (D : Int) from ⟨(IntWalk.i64_in _ (by omega)).trans (by omega), (IntWalk.i64_in _ (by omega)).trans (by omega)⟩)
          have HD := Lk.mk (show D = 2 * B ∧ 0 < B ∧ B < N ∧ N ≤ 100000 ∧ N - D < N - B by omega)
          have hwd := HWD.out.1
          clear b1 b2 b3 hN hlt hD
          go_wp2
          clear hwd
          go_loopg [7, 8] N (fun gg v7 v8 wr3 => ∃ (a b : Nat) (r3 : Nat → Q), v7 = .int .i64 a ∧ v8 = .int .i64 b ∧ Lk (b = a + D ∧ a ≤ N ∧ N - a ≤ gg) ∧ Lk (Par wr3 g N r3) ∧ Lk (Sw 0 N q r3) ∧ Lk (Pr r3 D a) ∧ Lk (Bl r3 B a N) ∧ Lk (KeepW g w wr3))
          case atStart => exact ⟨0, D, r, rfl, rfl, ⟨by omega, Nat.zero_le _, by omega⟩, HR, HW, ⟨.zero⟩, HBL, HK⟩
          case round =>
            clear HR HW HBL HK
            obtain ⟨a, b, r3, rfl, rfl, HAB, HR, HW, HPR, HBL, HK⟩ := hrel
            obtain ⟨e1, e2, e3⟩ := HAB.out
            obtain ⟨d1, d2, d3, d4, d5⟩ := HD.out
            by_cases hbN : b ≤ N
            · have hbz : (b : Int) ≤ (N : Int) := by omega
              obtain ⟨m, hm⟩ : ∃ m, m = a + B := ⟨_, rfl⟩
              obtain ⟨b2, hb2⟩ : ∃ b2, b2 = b + D := ⟨_, rfl⟩
              have HWB := Lk.mk (show IntKind.i64.wrap ((b : Int) + (D : Int)) = (b2 : Int) ∧ IntKind.i64.wrap ((a : Int) + (B : Int)) = (m : Int) from ⟨(IntWalk.i64_in _ (by omega)).trans (by omega), (IntWalk.i64_in _ (by omega)).trans (by omega)⟩)
              have htw := HBL.out.two d2 (by omega)
              have HC := Lk.mk (HSY.out r3 a m b wr HR.out (by omega) (by omega) hbN (by rw [hm]; exact htw.1) (by rw [hm, e1, d1]; exact htw.2.1))
              have HTW := Lk.mk (show Bl r3 B b N by rw [e1, d1]; exact htw.2.2)
              have HB2 := Lk.mk (show (b2 = b + D ∧ b ≤ N ∧ N - b ≤ N - b) ∧ N - b < N - a ∧ b = a + D ∧ a ≤ b ∧ 0 < B by omega)
              clear e1 e2 e3 d1 d2 d3 d4 d5 hbN hb2 hm htw
              have hwb := HWB.out.1
              have hwb2 := HWB.out.2
              have hwd := HWD.out.1
              go_wp2_with (go_at_call 49; (with_reducible refine (HC.out).mono ?_); rintro e9 w1 ⟨rfl, hk, r1, hp1, hsw, hsr⟩; have HK1 := Lk.mk (HK.out.trans hk); have HR1 := Lk.mk hp1; have HW1 := Lk.mk hsw; have HS1 := Lk.mk hsr; clear hk hp1 hsw hsr)
              clear hwb hwb2 hwd
              go_roundg (N - b)
              case measure => have := HB2.out.2; have := HAB.out; omega
              case rel =>
                refine ⟨b, b2, r1, rfl, rfl, ⟨HB2.out.1⟩, HR1, ⟨HW.out.trans (HW1.out.mono (Nat.zero_le _) HB2.out.1.2.1)⟩, ⟨?_⟩, ⟨HTW.out.same HB2.out.2.2.2.2 (fun p hp => HW1.out.out p (.inr hp))⟩, HK1⟩
                have h9 := (HPR.out.same (r := r1) (fun p hp => HW1.out.out p (.inl hp))).snoc (by have := HS1.out; rwa [HB2.out.2.2.1] at this)
                rwa [← HB2.out.2.2.1] at h9
            · have hbz : ¬ (b : Int) ≤ (N : Int) := by omega
              obtain ⟨m, hm⟩ : ∃ m, m = a + B := ⟨_, rfl⟩
              have HWB := Lk.mk (show IntKind.i64.wrap ((a : Int) + (B : Int)) = (m : Int) from (IntWalk.i64_in _ (by omega)).trans (by omega))
              have HBE := Lk.mk (show N ≤ a + D ∧ (0 < D ∧ D ≤ 200000) ∧ N - D < N - B by omega)
              by_cases hmN : m < N
              · have hmz : (m : Int) < (N : Int) := by omega
                have htw := HBL.out.part (by omega) (by omega)
                have HC := Lk.mk (HSY.out r3 a m N wr HR.out (by omega) hmN (Nat.le_refl _) (by rw [hm]; exact htw.1) (by rw [hm]; exact htw.2))
                clear e1 e2 e3 d1 d2 d3 d4 d5 hbN hm htw hmN
                have hwb := HWB.out
                have hwd := HWD.out.2
                go_wp2_with (go_at_call 49; (with_reducible refine (HC.out).mono ?_); rintro e9 w1 ⟨rfl, hk, r1, hp1, hsw, hsr⟩; have HK1 := Lk.mk (HK.out.trans hk); have HR1 := Lk.mk hp1; have HW1 := Lk.mk hsw; have HS1 := Lk.mk hsr; clear hk hp1 hsw hsr)
                clear hwb hwd
                go_roundg (N - D)
                case measure => have := HB.out; have := HBE.out; omega
                case rel => exact ⟨D, r1, rfl, ⟨HBE.out.2.1.1, HBE.out.2.1.2, Nat.le_refl _⟩, HR1, ⟨HW.out.trans (HW1.out.mono (Nat.zero_le _) (Nat.le_refl _))⟩, ⟨(HPR.out.same (r := r1) (fun p hp => HW1.out.out p (.inl hp))).join (.last HBE.out.1 HS1.out)⟩, HK1⟩
              · have hmz : ¬ (m : Int) < (N : Int) := by omega
                have HON := Lk.mk (HBL.out.one (by omega))
                clear e1 e2 e3 d1 d2 d3 d4 d5 hbN hm hmN
                have hwb := HWB.out
                have hwd := HWD.out.2
                go_wp2
                clear hwb hwd
                go_roundg (N - D)
                case measure => have := HB.out; have := HBE.out; omega
                case rel => exact ⟨D, r3, rfl, ⟨HBE.out.2.1.1, HBE.out.2.1.2, Nat.le_refl _⟩, HR, HW, ⟨HPR.out.join (.last HBE.out.1 HON.out)⟩, HK⟩
        · have hltz : ¬ (B : Int) < (N : Int) := by omega
          have HON := Lk.mk (HBL.out.one (by omega))
          clear b1 b2 b3 hN hlt
          go_wp2
          refine ⟨rfl, .tuple #[], ?_, rfl, HK.out, r, HR.out, HW.out, HON.out⟩
          simp [results, Try.results38, go_sem]
theorem sort_any (g N c : Nat) (q : Nat → Q) (w : World) (hp : Par w g N q) (hN : N ≤ 100000) :
    Calls Try.prog 26 #[.slice (some ⟨g, 0, none⟩) N c, .func (.func 27) #[] #[]] w (Mrg g N 0 N q w) := by
  show Calls Try.prog 26 #[.slice (some ⟨g, 0, none⟩) N c, .func (.func 27) #[] #[]] w fun e w' => e = .returned (.tuple #[]) ∧ KeepW g w w' ∧ ∃ r, Par w' g N r ∧ Sw 0 N q r ∧ Srt r 0 N
  have HC := Lk.mk (stable_any g N c q w hp hN)
  clear hp hN
  go_enter Try.func26, Try.ntmps26
  go_wp2_with (go_at_call 38; (with_reducible refine (HC.out).mono ?_); rintro e9 w1 ⟨rfl, hk, r1, hp1, hsw, hsr⟩; have HK1 := Lk.mk hk; have HR1 := Lk.mk hp1; have HW1 := Lk.mk hsw; have HS1 := Lk.mk hsr; clear hk hp1 hsw hsr)
  refine ⟨rfl, .tuple #[], ?_, rfl, HK1.out, r1, HR1.out, HW1.out, HS1.out⟩
  simp [results, Try.results26, go_sem]
end Go.Proofs.Ytcepafllgjnngaa
