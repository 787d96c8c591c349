/-
  The walk of the reference's Right at rows of frames; conditions: the functions and the row read as told.
-/
import Derived.Test.YtcepafllgjnngaaDoorPm
namespace Go.Proofs.YtcepafllgjnngaaDoor
open Go.RowKit Go.Proofs.YtcepafllgjnngaaDoorW.PrintWords

set_option maxRecDepth 100000 in
set_option maxHeartbeats 2000000 in
theorem rright_any (T : Option Addr) (ct : Nat) (t : List (Int × List Int)) (A : Option Addr) (c : Nat) (l : List Af) (w : World) (ht : FnC w T t.length t) (hw : ∀ f ∈ t, Bm.Words f.2) (hr : kAf.C w A l.length l) (hv : AfIn l) :
    Calls Tryd.prog 26 #[.slice T t.length ct, .slice A l.length c] w fun e w' => (∃ b : Bool, e = .returned (.bool b) ∧ (b = true ↔ RightP (lSize t) (lPtr t) l)) ∧ Below w.heap.size w w' := by
  have hm := hr.2.1
  have HRC := Lk.mk hr
  have HS := Lk.mk (fun W f (hb : Below w.heap.size w W) => refSize_any T ct t f W (ht.below hb))
  have HF := Lk.mk (fun W (k : Nat) (s : Int) v (hb : Below w.heap.size w W) (hk : k < l.length) (hs : s ≤ 9223372036854775807) (hv : VlIn v) => rfits_any T ct t A c l k s v W (ht.below hb) hw (Kd.C_below hr hb) hk hs hv)
  have HV := Lk.mk hv
  clear ht hw hr hv
  go_enter Tryd.func26, Tryd.ntmps26
  go_wp2
  go_loopg [11] l.length (fun gg v11 wr => ∃ k : Nat, k ≤ l.length ∧ l.length - k ≤ gg ∧ v11 = .int .i64 k ∧ Lk (∀ d, d < k → lSize t (l.getD d dAf).1 = (l.getD d dAf).2.length) ∧ Lk (Below w.heap.size w wr))
  case atStart => exact ⟨0, by omega, by omega, rfl, ⟨fun d hd => absurd hd (by omega)⟩, ⟨Below.refl _ _⟩⟩
  case round =>
    obtain ⟨k, hk, hg, rfl, HE, HB⟩ := hrel
    obtain ⟨wo, rfl⟩ : ∃ wo : World, wo = wr := ⟨_, rfl⟩
    by_cases hlt : k < l.length
    · have hltz : (k : Int) < (l.length : Int) := by omega
      obtain ⟨ad, A1, c1, rfl, b0, b1, _, _⟩ := kAf_at (Kd.C_below HRC.out HB.out) k hlt
      have HX := Lk.mk (fun (h : lSize t (l.getD k dAf).1 = (l.getD k dAf).2.length) => (fun d hd => by
        by_cases e : d = k
        · subst e; exact h
        · exact HE.out d (by omega) : ∀ d, d < k + 1 → lSize t (l.getD d dAf).1 = (l.getD d dAf).2.length))
      have HNO := Lk.mk (fun (h : ¬ lSize t (l.getD k dAf).1 = (l.getD k dAf).2.length) (hR : RightP (lSize t) (lPtr t) l) => h (hR.1 k hlt))
      have HC := Lk.mk (HS.out wo (l.getD k dAf).1 HB.out)
      generalize lSize t (l.getD k dAf).1 = z at *
      generalize l.getD k dAf = f at *
      obtain ⟨f0, f1⟩ := f
      dsimp only at *
      by_cases h0 : z < 0
      · have HN := Lk.mk (HNO.out (by omega))
        clear HX HNO
        go_wp2_with (go_at_call 66; (with_reducible refine (HC.out).mono ?_); rintro e w' ⟨rfl, hw⟩; obtain rfl := hw.symm; clear hw)
        go_ret
        exact ⟨⟨false, rfl, ⟨fun h => (by cases h), fun h => (HN.out h).elim⟩⟩, HB.out⟩
      · by_cases h1 : z = (f1.length : Int)
        · subst h1
          have HE2 := Lk.mk (HX.out rfl)
          clear HX HNO h0
          go_wp2_with (go_at_call 66; (with_reducible refine (HC.out).mono ?_); rintro e w' ⟨rfl, hw⟩; obtain rfl := hw.symm; clear hw)
          go_roundg (l.length - (k + 1))
          case measure => omega
          case rel => exact ⟨k + 1, by omega, by omega, by go_num, HE2, HB⟩
        · have HN := Lk.mk (HNO.out h1)
          have hbne : (z != (f1.length : Int)) = true := bne_iff_ne.2 h1
          clear HX HNO
          go_wp2_with (go_at_call 66; (with_reducible refine (HC.out).mono ?_); rintro e w' ⟨rfl, hw⟩; obtain rfl := hw.symm; clear hw)
          go_ret
          exact ⟨⟨false, rfl, ⟨fun h => (by cases h), fun h => (HN.out h).elim⟩⟩, HB.out⟩
    · have hltz : ¬ (k : Int) < (l.length : Int) := by omega
      obtain rfl : k = l.length := by omega
      clear hltz hlt hk hg
      go_wp2
      go_loopg [36] l.length (fun gg v36 W2 => ∃ d : Nat, d ≤ l.length ∧ l.length - d ≤ gg ∧ v36 = .int .i64 d ∧ Lk (∀ j i : Nat, j < d → i < (l.getD j dAf).2.length → fitsN (lPtr t) l j i (slotV l j i) = 0) ∧ Lk (Below w.heap.size w W2))
      case atStart => exact ⟨0, by omega, by omega, rfl, ⟨fun j i hj => absurd hj (by omega)⟩, HB⟩
      case round =>
        obtain ⟨d, hd, hg2, rfl, HE2, HB2⟩ := hrel
        obtain ⟨w2, rfl⟩ : ∃ w2 : World, w2 = wr := ⟨_, rfl⟩
        by_cases hdl : d < l.length
        · have hdz : (d : Int) < (l.length : Int) := by omega
          obtain ⟨ad, A1, c1, rfl, b0, b1, _, hC1⟩ := kAf_at (Kd.C_below HRC.out HB2.out) d hdl
          have HCV := Lk.mk hC1
          have hmx := hC1.2.1
          have HB1c := Lk.mk b1
          have HVI := Lk.mk (HV.out _ (getD_mem dAf hdl))
          have HX := Lk.mk (fun (h : ∀ i : Nat, i < (l.getD d dAf).2.length → fitsN (lPtr t) l d i (slotV l d i) = 0) => (fun j i hj hi => by
            by_cases e : j = d
            · subst e; exact h i hi
            · exact HE2.out j i (by omega) hi : ∀ j i : Nat, j < d + 1 → i < (l.getD j dAf).2.length → fitsN (lPtr t) l j i (slotV l j i) = 0))
          have HNO := Lk.mk (fun (i : Nat) (hi : i < (l.getD d dAf).2.length) (h : ¬ fitsN (lPtr t) l d i (slotV l d i) = 0) (hR : RightP (lSize t) (lPtr t) l) => h (hR.2 d i hdl hi))
          unfold slotV at HX HNO
          have HFI := Lk.mk (fun W (s : Int) v hb hs hv => HF.out W d s v hb hdl hs hv)
          generalize l.getD d dAf = f at *
          obtain ⟨f0, f1⟩ := f
          dsimp only at *
          clear hC1
          go_wp2
          go_loopg [45] f1.length (fun gg v45 W3 => ∃ i : Nat, i ≤ f1.length ∧ f1.length - i ≤ gg ∧ v45 = .int .i64 i ∧ Lk (∀ j : Nat, j < i → fitsN (lPtr t) l d j (f1.getD j Sl.dVl) = 0) ∧ Lk (Below w2.heap.size w2 W3))
          case atStart => exact ⟨0, by omega, by omega, rfl, ⟨fun j hj => absurd hj (by omega)⟩, ⟨Below.refl _ _⟩⟩
          case round =>
            obtain ⟨i, hi, hg3, rfl, HE3, HB3⟩ := hrel
            obtain ⟨w3, rfl⟩ : ∃ w3 : World, w3 = wr := ⟨_, rfl⟩
            clear b0 b1
            have b1 := pw_cell_below HB3.out HB1c.out
            have HB4 := Lk.mk (below_then HB2.out HB2.out.size HB3.out)
            by_cases hil : i < f1.length
            · have hiz : (i : Int) < (f1.length : Int) := by omega
              obtain ⟨ad1, rfl, e0, e1, e2, e3⟩ := kVl_at (Kd.C_below HCV.out HB3.out) i hil
              have HFx := Lk.mk (HFI.out w3 (i : Int) (f1.getD i Sl.dVl) HB4.out (by omega) (HVI.out _ (getD_mem _ hil)))
              have HX3 := Lk.mk (fun (h : fitsN (lPtr t) l d i (f1.getD i Sl.dVl) = 0) => (fun j hj => by
                by_cases e : j = i
                · subst e; exact h
                · exact HE3.out j (by omega) : ∀ j : Nat, j < i + 1 → fitsN (lPtr t) l d j (f1.getD j Sl.dVl) = 0))
              have HN3 := Lk.mk (HNO.out i hil)
              generalize fitsN (lPtr t) l d i (f1.getD i Sl.dVl) = z at *
              generalize f1.getD i Sl.dVl = v at *
              obtain ⟨v0, v1, v2, v3⟩ := v
              dsimp only at *
              by_cases hz : z = 0
              · subst hz
                have HE4 := Lk.mk (HX3.out rfl)
                clear HX3 HN3
                go_wp2_with (go_at_call 70; (with_reducible refine (HFx.out).mono ?_); rintro e w4 ⟨rfl, hb⟩; have HB5 := Lk.mk (below_then HB3.out HB3.out.size hb); clear hb)
                go_roundg (f1.length - (i + 1))
                case measure => omega
                case rel => exact ⟨i + 1, by omega, by omega, by go_num, HE4, HB5⟩
              · have HN := Lk.mk (HN3.out hz)
                have hbne : (z != 0) = true := bne_iff_ne.2 hz
                clear HX3 HN3
                go_wp2_with (go_at_call 70; (with_reducible refine (HFx.out).mono ?_); rintro e w4 ⟨rfl, hb⟩; have HB5 := Lk.mk (below_then HB4.out HB4.out.size hb); clear hb)
                go_ret
                exact ⟨⟨false, rfl, ⟨fun h => (by cases h), fun h => (HN.out h).elim⟩⟩, HB5.out⟩
            · have hiz : ¬ (i : Int) < (f1.length : Int) := by omega
              obtain rfl : i = f1.length := by omega
              have HE5 := Lk.mk (HX.out HE3.out)
              clear HX HNO
              go_wp2
              go_roundg (l.length - (d + 1))
              case measure => omega
              case rel => exact ⟨d + 1, by omega, by omega, by go_num, HE5, HB4⟩
        · have hdz : ¬ (d : Int) < (l.length : Int) := by omega
          obtain rfl : d = l.length := by omega
          go_wp2
          go_ret
          exact ⟨.inr ⟨rfl, ⟨HE.out, fun j i hj hi => HE2.out j i hj hi⟩⟩, HB2.out⟩
end Go.Proofs.YtcepafllgjnngaaDoor
