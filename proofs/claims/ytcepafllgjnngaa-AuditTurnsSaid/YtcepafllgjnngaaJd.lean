/-
  The walk of the sort's insertionSort at parts; conditions: the row's block is its own.
-/
import Derived.Test.YtcepafllgjnngaaJb
import Derived.Deep.RegionHeld3
namespace Go.Proofs.Ytcepafllgjnngaa
open Go.RowKit Go.Proofs.YtcepafllgjnngaaW.PrintWords
open So

def P8 (W : World) (g i j : Nat) (x y : Q) : Prop := W.cell? ⟨g, i * 4, none⟩ = some (.int .u8 x.1) ∧ W.cell? ⟨g, i * 4 + 1, none⟩ = some (.int .i64 x.2.1) ∧ W.cell? ⟨g, i * 4 + 2, none⟩ = some (.int .i64 x.2.2.1) ∧ W.cell? ⟨g, i * 4 + 3, none⟩ = some (.int .i64 x.2.2.2) ∧ W.cell? ⟨g, j * 4, none⟩ = some (.int .u8 y.1) ∧ W.cell? ⟨g, j * 4 + 1, none⟩ = some (.int .i64 y.2.1) ∧ W.cell? ⟨g, j * 4 + 2, none⟩ = some (.int .i64 y.2.2.1) ∧ W.cell? ⟨g, j * 4 + 3, none⟩ = some (.int .i64 y.2.2.2)
theorem part8 {W : World} {g N : Nat} {q : Nat → Q} (h : Par W g N q) (i j : Nat) (hi : i < N) (hj : j < N) : P8 W g i j (q i) (q j) := by
  obtain ⟨a, b, c, d⟩ := h.at_ i hi
  exact ⟨a, b, c, d, h.at_ j hj⟩
set_option maxRecDepth 100000 in
set_option maxHeartbeats 8000000 in
theorem ins_any (g N c : Nat) (q : Nat → Q) (a b : Nat) (w : World) (hp : Par w g N q) (hab : a ≤ b) (hbN : b ≤ N) (hN : N ≤ 1000000) :
    Calls Try.prog 48 #[.slice (some ⟨g, 0, none⟩) N c, .int .i64 a, .int .i64 b, .func (.func 27) #[] #[]] w fun e w' => e = .returned (.tuple #[]) ∧ KeepW g w w' ∧ ∃ r, Par w' g N r ∧ Sw a b q r ∧ Srt r a b := by
  have HP := Lk.mk hp
  have HCM := Lk.mk cmp4_any
  clear hp
  have ha1 : IntKind.i64.wrap ((a : Int) + 1) = ((a + 1 : Nat) : Int) := (IntWalk.i64_in _ (by omega)).trans (by omega)
  go_enter Try.func48, Try.ntmps48
  go_wp2
  clear ha1
  go_loopg [8, 9] (N + 1) (fun gg v8 _ wr => ∃ (i : Nat) (r : Nat → Q), v8 = .int .i64 i ∧ a + 1 ≤ i ∧ (i ≤ b ∨ i = a + 1) ∧ N + 1 - i ≤ gg ∧ Lk (Par wr g N r) ∧ Lk (Sw a b q r) ∧ Lk (Srt r a i) ∧ Lk (KeepW g w wr))
  case atStart => exact ⟨a + 1, q, by go_num, by omega, by omega, by omega, HP, ⟨.refl⟩, ⟨Srt.one _ _ _ (by omega)⟩, ⟨KeepW.refl g w⟩⟩
  case round =>
    obtain ⟨i, r, rfl, hai, hib, hg, HR, HW, HS, HK⟩ := hrel
    by_cases hlt : i < b
    · have hltz : (i : Int) < (b : Int) := by omega
      go_wp2
      have HI := Lk.mk (show a + 1 ≤ i ∧ i < b ∧ b ≤ N ∧ N ≤ 1000000 from ⟨hai, hlt, hbN, hN⟩)
      have HG := Lk.mk hg
      clear hai hib hg hlt hab hltz hbN hN
      go_loopg [9] i (fun gg v9 wr2 => ∃ (j : Nat) (r2 : Nat → Q), v9 = .int .i64 j ∧ a ≤ j ∧ j ≤ i ∧ Lk (j ≤ gg) ∧ Lk (Par wr2 g N r2) ∧ Lk (Sw a b q r2) ∧ Lk (Ins r2 a i j) ∧ Lk (KeepW g w wr2))
      case atStart => exact ⟨i, r, rfl, by have := HI.out; omega, by omega, ⟨by omega⟩, HR, HW, ⟨Ins.start HS.out⟩, HK⟩
      case round =>
        obtain ⟨j, r2, rfl, haj, hji, HG2, HR2, HW2, HIN, HK2⟩ := hrel
        obtain ⟨i1, i2, i3, i4⟩ := HI.out
        by_cases hj : j = a
        · have HSN := Lk.mk (HIN.out.stop haj hji (.inl hj))
          subst hj
          have hwi : IntKind.i64.wrap ((i : Int) + 1) = ((i + 1 : Nat) : Int) := (IntWalk.i64_in _ (by omega)).trans (by omega)
          clear i1 i2 i3 i4 haj hji
          go_wp2
          go_region
          go_wp2
          go_roundg (N + 1 - (i + 1))
          case measure => have := HG.out; have := HI.out; omega
          case rel => exact ⟨i + 1, r2, by go_num, by have := HI.out; omega, by have := HI.out; omega, Nat.le_refl _, ⟨HR2.out.drew⟩, HW2, HSN, ⟨KeepW.then_ HK2.out (below_drew (Below.refl _ _))⟩⟩
        · obtain ⟨y, hy⟩ : ∃ y, j = y + 1 := ⟨j - 1, by omega⟩
          have hjz : (a : Int) < (j : Int) := by omega
          have hjd : decide (a < j) = true := decide_eq_true (by omega)
          have hwy : IntKind.i64.wrap ((j : Int) - 1) = (y : Int) := (IntWalk.i64_in _ (by omega)).trans (by omega)
          have hwi : IntKind.i64.wrap ((i : Int) + 1) = ((i + 1 : Nat) : Int) := (IntWalk.i64_in _ (by omega)).trans (by omega)
          have hjN : (j : Int) < (N : Int) := by omega
          have hyN : (y : Int) < (N : Int) := by omega
          have hyj : (y : Int) < (j : Int) := by omega
          have hjN' : j < N := by omega
          have hyN' : y < N := by omega
          have HLT := Lk.mk (cmpQ_lt (r2 j) (r2 y))
          by_cases hk : key (r2 j) < key (r2 y)
          · have hz : cmpQ (r2 j) (r2 y) < 0 := by
              have := HLT.out
              rw [decide_eq_true hk] at this
              exact of_decide_eq_true this
            have HNX := Lk.mk (show Ins (sw r2 j y) a i y by
              rw [hy] at hk ⊢
              exact (hy ▸ HIN.out).next (by omega) (by omega) hk)
            have HSW := Lk.mk (HW2.out.step j y (by omega) (by omega) (by omega) (by omega))
            have HM := Lk.mk (show a ≤ y ∧ y ≤ i ∧ y < j by omega)
            have HCE := Lk.mk (fun (W : World) (h : Par W g N r2) => part8 h j y hjN' hyN')
            have HSF := Lk.mk (fun (W : World) (h : Par W g N r2) => (⟨h.swf j y hjN' hyN', h.drew.swf j y hjN' hyN', h.swap j y hjN' hyN'⟩ : SwF W g j y (r2 j) (r2 y) ∧ SwF W.drew g j y (r2 j) (r2 y) ∧ Par (swW W g j y (r2 j) (r2 y)) g N (sw r2 j y)))
            have HKS := Lk.mk (fun (W : World) (h : KeepW g w W) => keep_swap h j y (r2 j) (r2 y))
            unfold P8 at HCE
            generalize r2 j = X at *
            generalize r2 y = Y at *
            obtain ⟨X0, X1, X2, X3⟩ := X
            obtain ⟨Y0, Y1, Y2, Y3⟩ := Y
            have HC := Lk.mk (fun W => HCM.out X0 X1 X2 X3 Y0 Y1 Y2 Y3 W)
            generalize cmpQ (X0, X1, X2, X3) (Y0, Y1, Y2, Y3) = z at *
            dsimp only at HCE
            have HR2d := Lk.mk HR2.out.drew
            clear i1 i2 i3 i4 hj haj hji hk hy hjN' hyN'
            go_wp2
            go_region_held3 (fun W' => W'.cell? ⟨g, j * 4, none⟩ = some (.int .u8 X0) ∧ W'.cell? ⟨g, j * 4 + 1, none⟩ = some (.int .i64 X1) ∧ W'.cell? ⟨g, j * 4 + 2, none⟩ = some (.int .i64 X2) ∧ W'.cell? ⟨g, j * 4 + 3, none⟩ = some (.int .i64 X3) ∧ W'.cell? ⟨g, y * 4, none⟩ = some (.int .u8 Y0) ∧ W'.cell? ⟨g, y * 4 + 1, none⟩ = some (.int .i64 Y1) ∧ W'.cell? ⟨g, y * 4 + 2, none⟩ = some (.int .i64 Y2) ∧ W'.cell? ⟨g, y * 4 + 3, none⟩ = some (.int .i64 Y3)) (first | with_reducible exact HCE.out _ HR2d.out | with_reducible exact HCE.out _ (HR2d.out.below HB3.out)) (first
              | (go_at_call 27; (with_reducible refine (HC.out _).mono ?_); rintro e w3 ⟨rfl, hb⟩; have HB3 := Lk.mk hb; clear hb))
            have hR3 : Par w3 g N r2 := HR2.out.drew.below HB3.out
            have HK3 := Lk.mk (KeepW.then_ HK2.out (below_then (below_drew (Below.refl _ _)) (by first | exact Nat.le_refl _ | exact HB3.out.size) HB3.out))
            obtain ⟨⟨⟨c0, c1, c2, c3⟩, ⟨d0, d1, d2, d3⟩, ⟨f0, f1, f2, f3⟩, ⟨f4, f5, f6, f7⟩⟩, ⟨⟨p0, p1, p2, p3⟩, ⟨q0, q1, q2, q3⟩, ⟨z0, z1, z2, z3⟩, ⟨z4, z5, z6, z7⟩⟩, hsp⟩ := HSF.out w3 hR3
            have HSP := Lk.mk hsp
            dsimp only at c0 c1 c2 c3 d0 d1 d2 d3 p0 p1 p2 p3 q0 q1 q2 q3
            clear hsp hR3
            go_wp2
            go_region
            go_wp2
            go_roundg y
            case measure => have := HM.out; have := HG2.out; omega
            case rel => exact ⟨y, _, by go_num, HM.out.1, HM.out.2.1, ⟨Nat.le_refl _⟩, ⟨HSP.out.drew⟩, HSW, HNX, ⟨KeepW.then_ (HKS.out w3 HK3.out) (below_drew (Below.refl _ _))⟩⟩
          · have hz : ¬ cmpQ (r2 j) (r2 y) < 0 := by
              have := HLT.out
              rw [decide_eq_false hk] at this
              exact of_decide_eq_false this
            have HSN := Lk.mk (HIN.out.stop haj hji (.inr (by rw [hy] at hk ⊢; rw [Nat.add_sub_cancel]; omega)))
            have HCE := Lk.mk (fun (W : World) (h : Par W g N r2) => part8 h j y hjN' hyN')
            unfold P8 at HCE
            generalize r2 j = X at *
            generalize r2 y = Y at *
            obtain ⟨X0, X1, X2, X3⟩ := X
            obtain ⟨Y0, Y1, Y2, Y3⟩ := Y
            have HC := Lk.mk (fun W => HCM.out X0 X1 X2 X3 Y0 Y1 Y2 Y3 W)
            generalize cmpQ (X0, X1, X2, X3) (Y0, Y1, Y2, Y3) = z at *
            dsimp only at HCE
            have HR2d := Lk.mk HR2.out.drew
            clear i1 i2 i3 i4 hj haj hji hk hy hjN' hyN'
            go_wp2
            go_region_held3 (fun W' => W'.cell? ⟨g, j * 4, none⟩ = some (.int .u8 X0) ∧ W'.cell? ⟨g, j * 4 + 1, none⟩ = some (.int .i64 X1) ∧ W'.cell? ⟨g, j * 4 + 2, none⟩ = some (.int .i64 X2) ∧ W'.cell? ⟨g, j * 4 + 3, none⟩ = some (.int .i64 X3) ∧ W'.cell? ⟨g, y * 4, none⟩ = some (.int .u8 Y0) ∧ W'.cell? ⟨g, y * 4 + 1, none⟩ = some (.int .i64 Y1) ∧ W'.cell? ⟨g, y * 4 + 2, none⟩ = some (.int .i64 Y2) ∧ W'.cell? ⟨g, y * 4 + 3, none⟩ = some (.int .i64 Y3)) (first | with_reducible exact HCE.out _ HR2d.out | with_reducible exact HCE.out _ (HR2d.out.below HB3.out)) (first
              | (go_at_call 27; (with_reducible refine (HC.out _).mono ?_); rintro e w3 ⟨rfl, hb⟩; have HB3 := Lk.mk hb; clear hb))
            have HR3 := Lk.mk (HR2.out.drew.below HB3.out)
            have HK3 := Lk.mk (KeepW.then_ HK2.out (below_then (below_drew (Below.refl _ _)) (by first | exact Nat.le_refl _ | exact HB3.out.size) HB3.out))
            go_wp2
            go_roundg (N + 1 - (i + 1))
            case measure => have := HG.out; have := HI.out; omega
            case rel => exact ⟨i + 1, r2, by go_num, by have := HI.out; omega, by have := HI.out; omega, Nat.le_refl _, HR3, HW2, HSN, HK3⟩
    · have hltz : ¬ (i : Int) < (b : Int) := by omega
      have HSN := Lk.mk (HS.out.sub (Nat.le_refl a) (show b ≤ i by omega))
      go_wp2
      refine ⟨rfl, .tuple #[], ?_, rfl, HK.out, r, HR.out, HW.out, HSN.out⟩
      simp [results, Try.results48, go_sem]
end Go.Proofs.Ytcepafllgjnngaa
