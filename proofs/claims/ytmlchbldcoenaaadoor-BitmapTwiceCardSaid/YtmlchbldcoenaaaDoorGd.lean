/-
  The walks of the laws BitmapTells, BitmapWith, BitmapTwice; conditions: what is handed in reads as told, the table of deBruijn stands.
-/
import Derived.Test.YtmlchbldcoenaaaDoorGc
namespace Go.Proofs.YtmlchbldcoenaaaDoor
open Go.RowKit Go.Proofs.YtmlchbldcoenaaaDoorW.PrintWords

set_option maxRecDepth 100000 in
set_option maxHeartbeats 2000000 in
theorem lawOfBitmapTells (A : Option Addr) (c : Nat) (l : List Int) (n : Int) (w : World) (hr : ReadsInt w .u64 A l.length l) (hw : Bm.Words l) (_ : l.length ≤ c) (_ : -9223372036854775808 ≤ n ∧ n ≤ 9223372036854775807) (hT : Tab w) :
    Calls Tryd.prog 8 #[.slice A l.length c, .int .i64 n] w fun e w' => e = .returned (.bool true) ∧ Below w.heap.size w w' := by
  have hm := hr.2.1
  have HT := Lk.mk hT
  by_cases h70 : 70 < l.length
  · have h70z : (70 : Int) < (l.length : Int) := by omega
    clear hr hw hT
    go_enter Tryd.func8, Tryd.ntmps8
    go_wp2_with (go_at_call 31; (with_reducible refine (awake03_any _ HT.out).mono ?_); rintro e w1 ⟨rfl, hb⟩)
    go_ret
    exact ⟨rfl, hb⟩
  · have h70z : ¬ (70 : Int) < (l.length : Int) := by omega
    have HR := Lk.mk hr
    have HW := Lk.mk hw
    have HRB := Lk.mk (fun W (hb : Below w.heap.size w W) => refBits_any A c l n W (hr.below hb) hw (by omega))
    have HPB := Lk.mk (fun W (hb : Below w.heap.size w W) => bits_any A c l n W (hr.below hb) hw (by omega) (hT.below hb))
    have HC := Lk.mk (fun W (hb : Below w.heap.size w W) => count_any A c l n W (hr.below hb) hw (by omega) (hT.below hb))
    have HX := Lk.mk (fun W (hb : Below w.heap.size w W) => text_any A c l n W (hr.below hb) hw (by omega) (hT.below hb))
    have HRX := Lk.mk (fun W (hb : Below w.heap.size w W) => refText_any A c l n W (hr.below hb) hw)
    clear hr hw hT
    generalize strOfNums (Bm.digs l (textM n)) = tx at *
    generalize Bm.bitsL l n = bs at *
    go_enter Tryd.func8, Tryd.ntmps8
    go_wp2_with (at_builtin; refine print_append_row (w0 := w) w.heap.size rfl _ _ 26 23 .u64 8 rfl Tryd.underlying26 info23 (by decide) (.slice (some ⟨w.heap.size, 0, none⟩) 0 0) [] l A l.length c rfl rfl ?q1 ?q2 ?q3 ?q4 ?q5 ?_)
    case q1 => exact own_lit w w.heap.size 23 .u64 [] (Nat.le_refl _) (by simp)
    case q2 => exact HR.out.below (below_alloc (Below.refl _ _) _)
    case q3 => exact below_alloc (Below.refl _ _) _
    case q5 => omega
    intro v1 w1 hown hb _ _
    obtain ⟨A1, c1, rfl, hr1⟩ := own_reads hown
    have HB := Lk.mk hb
    have HWas := Lk.mk hr1
    clear hown hb hr1
    go_wp2_with (first
      | (go_at_call 18; (with_reducible refine (HRB.out _ HB.out).mono ?_); rintro e w2 ⟨v2, rfl, ho, hb⟩; obtain ⟨A2, c2, rfl, hr2⟩ := own_reads ho; have HL := Lk.mk hr2; have HWas2 := Lk.mk (HWas.out.below hb); have HB2 := Lk.mk (below_then HB.out HB.out.size hb); have HQ := Lk.mk (Below.refl w2.heap.size w2); clear ho hb hr2)
      | (go_at_call 38; (with_reducible refine (HC.out _ (below_then HB2.out HB2.out.size HQ.out)).mono ?_); rintro e w3 ⟨rfl, hb⟩; have HQ := Lk.mk (below_then HQ.out HQ.out.size hb); clear hb)
      | (go_at_call 39; (with_reducible refine (HPB.out _ (below_then HB2.out HB2.out.size HQ.out)).mono ?_); rintro e w3 ⟨v3, rfl, ho, hb⟩; obtain ⟨A3, c3, rfl, hr3⟩ := own_reads ho; have HL3 := Lk.mk hr3; have HQ := Lk.mk (below_then HQ.out HQ.out.size hb); clear ho hb hr3)
      | (go_at_call 17; (with_reducible refine (refInts_any _ _ bs _ _ bs _ HL3.out (HL.out.below HQ.out)).mono ?_); rw [decide_eq_true rfl]; rintro e w' ⟨rfl, hb⟩; have HQ := Lk.mk (below_then HQ.out HQ.out.size hb); clear hb)
      | (go_at_call 40; (with_reducible refine (HX.out _ (below_then HB2.out HB2.out.size HQ.out)).mono ?_); rintro e w3 ⟨rfl, hb⟩; have HQ := Lk.mk (below_then HQ.out HQ.out.size hb); clear hb)
      | (go_at_call 41; (with_reducible refine (HRX.out _ (below_then HB2.out HB2.out.size HQ.out)).mono ?_); rintro e w3 ⟨rfl, hb⟩; have HQ := Lk.mk (below_then HQ.out HQ.out.size hb); clear hb)
      | (go_at_call 35; (with_reducible refine (same03_true _ _ l _ _ l _ (HWas2.out.below HQ.out) (HR.out.below (below_then HB2.out HB2.out.size HQ.out)) (fun _ => rfl)).mono ?_); rintro e w' ⟨rfl, hw⟩; obtain rfl := hw.symm; clear hw)
      | (go_at_call 31; (with_reducible refine (awake03_any _ (HT.out.below (below_then HB2.out HB2.out.size HQ.out))).mono ?_); rintro e w1 ⟨rfl, hb⟩; have HQ := Lk.mk (below_then HQ.out HQ.out.size hb); clear hb))
    go_ret
    exact ⟨rfl, below_then HB2.out HB2.out.size HQ.out⟩

set_option maxRecDepth 100000 in
set_option maxHeartbeats 2000000 in
theorem lawOfBitmapTwice (A : Option Addr) (c : Nat) (l : List Int) (i k : Int) (on off : Bool) (w : World) (hr : ReadsInt w .u64 A l.length l) (hw : Bm.Words l) (_ : l.length ≤ c) (_ : -9223372036854775808 ≤ i ∧ i ≤ 9223372036854775807) (_ : -9223372036854775808 ≤ k ∧ k ≤ 9223372036854775807) (hT : Tab w) :
    Calls Tryd.prog 10 #[.slice A l.length c, .int .i64 i, .int .i64 k, .bool on, .bool off] w fun e w' => e = .returned (.bool true) ∧ Below w.heap.size w w' := by
  have hm := hr.2.1
  have HT := Lk.mk hT
  by_cases h70 : 70 < l.length
  · have h70z : (70 : Int) < (l.length : Int) := by omega
    clear hr hw hT
    go_enter Tryd.func10, Tryd.ntmps10
    go_wp2_with (go_at_call 31; (with_reducible refine (awake03_any _ HT.out).mono ?_); rintro e w1 ⟨rfl, hb⟩)
    go_ret
    exact ⟨rfl, hb⟩
  · have h70z : ¬ (70 : Int) < (l.length : Int) := by omega
    by_cases hik : i = k
    · subst hik
      clear hr hw hT
      go_enter Tryd.func10, Tryd.ntmps10
      go_wp2_with (go_at_call 31; (with_reducible refine (awake03_any _ HT.out).mono ?_); rintro e w1 ⟨rfl, hb⟩)
      go_ret
      exact ⟨rfl, hb⟩
    · have hikb : (i == k) = false := by simpa using hik
      have HR := Lk.mk hr
      have hX := Bm.Words.withL hw i on
      have hY := Bm.Words.withL hw k off
      have hlX := Bm.withL_length l i on
      have hlY := Bm.withL_length l k off
      have HWX := Lk.mk (fun W (hb : Below w.heap.size w W) => with_any A c l i on W (hr.below hb) hw (by omega))
      have HWY := Lk.mk (fun W (hb : Below w.heap.size w W) => with_any A c l k off W (hr.below hb) hw (by omega))
      have HXY := Lk.mk (fun A c W (hr : ReadsInt W .u64 A (Bm.withL l i on).length (Bm.withL l i on)) => with_any A c (Bm.withL l i on) k off W hr hX (by omega))
      have HYX := Lk.mk (fun A c W (hr : ReadsInt W .u64 A (Bm.withL l k off).length (Bm.withL l k off)) => with_any A c (Bm.withL l k off) i on W hr hY (by omega))
      have HS := Lk.mk (show Bm.sameB (Bm.withL (Bm.withL l i on) k off) (Bm.withL (Bm.withL l k off) i on) = true by
        apply Bm.same_bits (Bm.Words.withL hX k off) (Bm.Words.withL hY i on)
        intro j
        rw [Bm.bitAt_with hX, Bm.bitAt_with hw, Bm.bitAt_with hY, Bm.bitAt_with hw]
        by_cases e1 : Bm.fits k = true ∧ (j : Int) = k
        · rw [if_pos e1, if_neg (show ¬ (Bm.fits i = true ∧ (j : Int) = i) from fun h => hik (by omega)), if_pos e1]
        · rw [if_neg e1, if_neg e1])
      have HTi := Lk.mk (Bm.tight_with (Bm.withL l i on) k off)
      clear hr hw hT hX hY hlX hlY
      generalize Bm.withL (Bm.withL l i on) k off = xx at *
      generalize Bm.withL (Bm.withL l k off) i on = yy at *
      generalize Bm.withL l i on = x1 at *
      generalize Bm.withL l k off = y1 at *
      go_enter Tryd.func10, Tryd.ntmps10
      have HB := Lk.mk (Below.refl w.heap.size w)
      go_wp2_with (first
        | (go_at_call 42; (with_reducible refine (HWX.out _ HB.out).mono ?_); rintro e w1 ⟨v1, rfl, ho, hb⟩; obtain ⟨A1, c1, rfl, hc1, _, hr1⟩ := own_full ho; have HB := Lk.mk (below_then HB.out HB.out.size hb); have H1 := Lk.mk hr1; clear ho hb hr1 hc1)
        | (go_at_call 42; (with_reducible refine (HXY.out _ _ _ H1.out).mono ?_); rintro e w2 ⟨v2, rfl, ho, hb⟩; obtain ⟨A2, c2, rfl, hc2, _, hr2⟩ := own_full ho; have HB := Lk.mk (below_then HB.out HB.out.size hb); have H2 := Lk.mk hr2; have HC2 := Lk.mk hc2; clear ho hb hr2 hc2)
        | (go_at_call 42; (with_reducible refine (HWY.out _ HB.out).mono ?_); rintro e w3 ⟨v3, rfl, ho, hb⟩; obtain ⟨A3, c3, rfl, hc3, _, hr3⟩ := own_full ho; have HB := Lk.mk (below_then HB.out HB.out.size hb); have H3 := Lk.mk hr3; have H2 := Lk.mk (H2.out.below hb); clear ho hb hr3 hc3)
        | (go_at_call 42; (with_reducible refine (HYX.out _ _ _ H3.out).mono ?_); rintro e w4 ⟨v4, rfl, ho, hb⟩; obtain ⟨A4, c4, rfl, hc4, _, hr4⟩ := own_full ho; have HB := Lk.mk (below_then HB.out HB.out.size hb); have H4 := Lk.mk hr4; have HC4 := Lk.mk hc4; have H2 := Lk.mk (H2.out.below hb); clear ho hb hr4 hc4)
        | (go_at_call 43; (with_reducible refine (HS.out ▸ bsame_any _ _ xx _ _ yy _ H2.out H4.out HC2.out HC4.out).mono ?_); rintro e w5 ⟨rfl, hb⟩; have HB := Lk.mk (below_then HB.out HB.out.size hb); have H2 := Lk.mk (H2.out.below hb); have H4 := Lk.mk (H4.out.below hb); clear hb)
        | (go_at_call 35; (with_reducible refine (HS.out ▸ same03_any _ _ xx _ _ yy _ H2.out H4.out).mono ?_); rintro e w' ⟨rfl, hw⟩; obtain rfl := hw.symm; clear hw)
        | (go_at_call 36; (with_reducible refine (HTi.out ▸ tight_any _ _ xx _ H2.out).mono ?_); rintro e w' ⟨rfl, hw⟩; obtain rfl := hw.symm; clear hw)
        | (go_at_call 31; (with_reducible refine (awake03_any _ (HT.out.below HB.out)).mono ?_); rintro e w1 ⟨rfl, hb⟩; have HB := Lk.mk (below_then HB.out HB.out.size hb); clear hb))
      go_ret
      exact ⟨rfl, HB.out⟩

set_option maxRecDepth 100000 in
set_option maxHeartbeats 2000000 in
theorem lawOfBitmapWith (A : Option Addr) (c : Nat) (l : List Int) (i : Int) (on : Bool) (k : Int) (w : World) (hr : ReadsInt w .u64 A l.length l) (hw : Bm.Words l) (hc : l.length ≤ c) (hi : -9223372036854775808 ≤ i ∧ i ≤ 9223372036854775807) (hk : -9223372036854775808 ≤ k ∧ k ≤ 9223372036854775807) (hT : Tab w) :
    Calls Tryd.prog 9 #[.slice A l.length c, .int .i64 i, .bool on, .int .i64 k] w fun e w' => e = .returned (.bool true) ∧ Below w.heap.size w w' := by
  have hm := hr.2.1
  have HT := Lk.mk hT
  by_cases h70 : 70 < l.length
  · have h70z : (70 : Int) < (l.length : Int) := by omega
    clear hr hw hT hc
    go_enter Tryd.func9, Tryd.ntmps9
    go_wp2_with (go_at_call 31; (with_reducible refine (awake03_any _ HT.out).mono ?_); rintro e w1 ⟨rfl, hb⟩)
    go_ret
    exact ⟨rfl, hb⟩
  · have h70z : ¬ (70 : Int) < (l.length : Int) := by omega
    have HR := Lk.mk hr
    have hX := Bm.Words.withL hw i on
    have HWX := Lk.mk (fun W (hb : Below w.heap.size w W) => with_any A c l i on W (hr.below hb) hw (by omega))
    have HTi := Lk.mk (Bm.tight_with l i on)
    have HHi := Lk.mk (fun A c W (hr : ReadsInt W .u64 A (Bm.withL l i on).length (Bm.withL l i on)) => has_one A c (Bm.withL l i on) i W hr hX hi.2)
    have HHk := Lk.mk (fun A c W (hr : ReadsInt W .u64 A (Bm.withL l i on).length (Bm.withL l i on)) => has_one A c (Bm.withL l i on) k W hr hX hk.2)
    have HRi := Lk.mk (fun W (hb : Below w.heap.size w W) => refHas_any A c l i W (hr.below hb) hw hi.2)
    have HRk := Lk.mk (fun W (hb : Below w.heap.size w W) => refHas_any A c l k W (hr.below hb) hw hk.2)
    have HC := Lk.mk hc
    -- the bit that was set, and the others
    have e1 : Bm.hasL (Bm.withL l i on) i = if 0 ≤ i ∧ i < 4096 then on else Bm.hasL l i := by
      unfold Bm.hasL
      by_cases h0 : i < 0
      · rw [if_pos h0, if_neg (by omega), if_pos h0]
      · rw [if_neg h0, Bm.bitAt_with hw]
        by_cases h1 : i < 4096
        · rw [if_pos ⟨by unfold Bm.fits; simp; omega, by omega⟩, if_pos (by omega)]
        · rw [if_neg (fun h => h1 (by have := h.1; unfold Bm.fits at this; simp at this; omega)), if_neg (by omega), if_neg h0]
    have e2 : ¬ k = i → Bm.hasL (Bm.withL l i on) k = Bm.hasL l k := by
      intro hki
      unfold Bm.hasL
      by_cases h0 : k < 0
      · rw [if_pos h0, if_pos h0]
      · rw [if_neg h0, if_neg h0, Bm.bitAt_with hw, if_neg (fun h => hki (by have := h.2; omega))]
    rw [e1] at HHi
    have E2 := Lk.mk e2
    clear hr hw hT hX hc e1 e2
    generalize Bm.hasL (Bm.withL l i on) k = hkx at *
    generalize Bm.hasL l i = hli at *
    generalize Bm.hasL l k = hlk at *
    generalize Bm.withL l i on = x1 at *
    generalize hsm : Bm.sameB x1 l = sm
    have HSM := Lk.mk hsm
    clear hsm
    have HB := Lk.mk (Below.refl w.heap.size w)
    have hfi : (0 ≤ i ∧ i < 4096) ∨ i < 0 ∨ 4096 ≤ i := by omega
    by_cases hki : k = i
    · subst hki
      rcases hfi with ⟨f1, f2⟩ | f1 | f1
      · rw [if_pos ⟨f1, f2⟩] at HHi
        go_enter Tryd.func9, Tryd.ntmps9
        go_wp2_with (first
          | (go_at_call 42; (with_reducible refine (HWX.out _ HB.out).mono ?_); rintro e w1 ⟨v1, rfl, ho, hb⟩; obtain ⟨A1, c1, rfl, hc1, _, hr1⟩ := own_full ho; have HB := Lk.mk (below_then HB.out HB.out.size hb); have H1 := Lk.mk hr1; have HC1 := Lk.mk hc1; clear ho hb hr1 hc1)
          | (go_at_call 36; (with_reducible refine (HTi.out ▸ tight_any _ _ x1 _ H1.out).mono ?_); rintro e w' ⟨rfl, hw⟩; obtain rfl := hw.symm; clear hw)
          | (go_at_call 37; (with_reducible refine (HHi.out _ _ _ H1.out).mono ?_); rintro e w3 ⟨rfl, hb⟩; have HB := Lk.mk (below_then HB.out HB.out.size hb); have H1 := Lk.mk (H1.out.below hb); clear hb)
          | (go_at_call 37; (with_reducible refine (HHk.out _ _ _ H1.out).mono ?_); rintro e w3 ⟨rfl, hb⟩; have HB := Lk.mk (below_then HB.out HB.out.size hb); have H1 := Lk.mk (H1.out.below hb); clear hb)
          | (go_at_call 34; (with_reducible refine (HRi.out _ HB.out).mono ?_); rintro e w' ⟨rfl, hw⟩; obtain rfl := hw.symm; clear hw)
          | (go_at_call 34; (with_reducible refine (HRk.out _ HB.out).mono ?_); rintro e w' ⟨rfl, hw⟩; obtain rfl := hw.symm; clear hw)
          | (go_at_call 43; (with_reducible refine (HSM.out ▸ bsame_any _ _ x1 _ _ l _ H1.out (HR.out.below HB.out) HC1.out HC.out).mono ?_); rintro e w5 ⟨rfl, hb⟩; have HB := Lk.mk (below_then HB.out HB.out.size hb); have H1 := Lk.mk (H1.out.below hb); clear hb)
          | (go_at_call 35; (with_reducible refine (HSM.out ▸ same03_any _ _ x1 _ _ l _ H1.out (HR.out.below HB.out)).mono ?_); rintro e w' ⟨rfl, hw⟩; obtain rfl := hw.symm; clear hw)
          | (go_at_call 31; (with_reducible refine (awake03_any _ (HT.out.below HB.out)).mono ?_); rintro e w1 ⟨rfl, hb⟩; have HB := Lk.mk (below_then HB.out HB.out.size hb); clear hb))
        all_goals go_ret
        all_goals exact ⟨rfl, HB.out⟩
      · rw [if_neg (by omega)] at HHi
        go_enter Tryd.func9, Tryd.ntmps9
        go_wp2_with (first
          | (go_at_call 42; (with_reducible refine (HWX.out _ HB.out).mono ?_); rintro e w1 ⟨v1, rfl, ho, hb⟩; obtain ⟨A1, c1, rfl, hc1, _, hr1⟩ := own_full ho; have HB := Lk.mk (below_then HB.out HB.out.size hb); have H1 := Lk.mk hr1; have HC1 := Lk.mk hc1; clear ho hb hr1 hc1)
          | (go_at_call 36; (with_reducible refine (HTi.out ▸ tight_any _ _ x1 _ H1.out).mono ?_); rintro e w' ⟨rfl, hw⟩; obtain rfl := hw.symm; clear hw)
          | (go_at_call 37; (with_reducible refine (HHi.out _ _ _ H1.out).mono ?_); rintro e w3 ⟨rfl, hb⟩; have HB := Lk.mk (below_then HB.out HB.out.size hb); have H1 := Lk.mk (H1.out.below hb); clear hb)
          | (go_at_call 37; (with_reducible refine (HHk.out _ _ _ H1.out).mono ?_); rintro e w3 ⟨rfl, hb⟩; have HB := Lk.mk (below_then HB.out HB.out.size hb); have H1 := Lk.mk (H1.out.below hb); clear hb)
          | (go_at_call 34; (with_reducible refine (HRi.out _ HB.out).mono ?_); rintro e w' ⟨rfl, hw⟩; obtain rfl := hw.symm; clear hw)
          | (go_at_call 34; (with_reducible refine (HRk.out _ HB.out).mono ?_); rintro e w' ⟨rfl, hw⟩; obtain rfl := hw.symm; clear hw)
          | (go_at_call 43; (with_reducible refine (HSM.out ▸ bsame_any _ _ x1 _ _ l _ H1.out (HR.out.below HB.out) HC1.out HC.out).mono ?_); rintro e w5 ⟨rfl, hb⟩; have HB := Lk.mk (below_then HB.out HB.out.size hb); have H1 := Lk.mk (H1.out.below hb); clear hb)
          | (go_at_call 35; (with_reducible refine (HSM.out ▸ same03_any _ _ x1 _ _ l _ H1.out (HR.out.below HB.out)).mono ?_); rintro e w' ⟨rfl, hw⟩; obtain rfl := hw.symm; clear hw)
          | (go_at_call 31; (with_reducible refine (awake03_any _ (HT.out.below HB.out)).mono ?_); rintro e w1 ⟨rfl, hb⟩; have HB := Lk.mk (below_then HB.out HB.out.size hb); clear hb))
        all_goals go_ret
        all_goals exact ⟨rfl, HB.out⟩
      · rw [if_neg (by omega)] at HHi
        go_enter Tryd.func9, Tryd.ntmps9
        go_wp2_with (first
          | (go_at_call 42; (with_reducible refine (HWX.out _ HB.out).mono ?_); rintro e w1 ⟨v1, rfl, ho, hb⟩; obtain ⟨A1, c1, rfl, hc1, _, hr1⟩ := own_full ho; have HB := Lk.mk (below_then HB.out HB.out.size hb); have H1 := Lk.mk hr1; have HC1 := Lk.mk hc1; clear ho hb hr1 hc1)
          | (go_at_call 36; (with_reducible refine (HTi.out ▸ tight_any _ _ x1 _ H1.out).mono ?_); rintro e w' ⟨rfl, hw⟩; obtain rfl := hw.symm; clear hw)
          | (go_at_call 37; (with_reducible refine (HHi.out _ _ _ H1.out).mono ?_); rintro e w3 ⟨rfl, hb⟩; have HB := Lk.mk (below_then HB.out HB.out.size hb); have H1 := Lk.mk (H1.out.below hb); clear hb)
          | (go_at_call 37; (with_reducible refine (HHk.out _ _ _ H1.out).mono ?_); rintro e w3 ⟨rfl, hb⟩; have HB := Lk.mk (below_then HB.out HB.out.size hb); have H1 := Lk.mk (H1.out.below hb); clear hb)
          | (go_at_call 34; (with_reducible refine (HRi.out _ HB.out).mono ?_); rintro e w' ⟨rfl, hw⟩; obtain rfl := hw.symm; clear hw)
          | (go_at_call 34; (with_reducible refine (HRk.out _ HB.out).mono ?_); rintro e w' ⟨rfl, hw⟩; obtain rfl := hw.symm; clear hw)
          | (go_at_call 43; (with_reducible refine (HSM.out ▸ bsame_any _ _ x1 _ _ l _ H1.out (HR.out.below HB.out) HC1.out HC.out).mono ?_); rintro e w5 ⟨rfl, hb⟩; have HB := Lk.mk (below_then HB.out HB.out.size hb); have H1 := Lk.mk (H1.out.below hb); clear hb)
          | (go_at_call 35; (with_reducible refine (HSM.out ▸ same03_any _ _ x1 _ _ l _ H1.out (HR.out.below HB.out)).mono ?_); rintro e w' ⟨rfl, hw⟩; obtain rfl := hw.symm; clear hw)
          | (go_at_call 31; (with_reducible refine (awake03_any _ (HT.out.below HB.out)).mono ?_); rintro e w1 ⟨rfl, hb⟩; have HB := Lk.mk (below_then HB.out HB.out.size hb); clear hb))
        all_goals go_ret
        all_goals exact ⟨rfl, HB.out⟩
    · have hkib : (k == i) = false := by simpa using hki
      obtain rfl := E2.out hki
      clear E2
      rcases hfi with ⟨f1, f2⟩ | f1 | f1
      · rw [if_pos ⟨f1, f2⟩] at HHi
        go_enter Tryd.func9, Tryd.ntmps9
        go_wp2_with (first
          | (go_at_call 42; (with_reducible refine (HWX.out _ HB.out).mono ?_); rintro e w1 ⟨v1, rfl, ho, hb⟩; obtain ⟨A1, c1, rfl, hc1, _, hr1⟩ := own_full ho; have HB := Lk.mk (below_then HB.out HB.out.size hb); have H1 := Lk.mk hr1; have HC1 := Lk.mk hc1; clear ho hb hr1 hc1)
          | (go_at_call 36; (with_reducible refine (HTi.out ▸ tight_any _ _ x1 _ H1.out).mono ?_); rintro e w' ⟨rfl, hw⟩; obtain rfl := hw.symm; clear hw)
          | (go_at_call 37; (with_reducible refine (HHi.out _ _ _ H1.out).mono ?_); rintro e w3 ⟨rfl, hb⟩; have HB := Lk.mk (below_then HB.out HB.out.size hb); have H1 := Lk.mk (H1.out.below hb); clear hb)
          | (go_at_call 37; (with_reducible refine (HHk.out _ _ _ H1.out).mono ?_); rintro e w3 ⟨rfl, hb⟩; have HB := Lk.mk (below_then HB.out HB.out.size hb); have H1 := Lk.mk (H1.out.below hb); clear hb)
          | (go_at_call 34; (with_reducible refine (HRi.out _ HB.out).mono ?_); rintro e w' ⟨rfl, hw⟩; obtain rfl := hw.symm; clear hw)
          | (go_at_call 34; (with_reducible refine (HRk.out _ HB.out).mono ?_); rintro e w' ⟨rfl, hw⟩; obtain rfl := hw.symm; clear hw)
          | (go_at_call 43; (with_reducible refine (HSM.out ▸ bsame_any _ _ x1 _ _ l _ H1.out (HR.out.below HB.out) HC1.out HC.out).mono ?_); rintro e w5 ⟨rfl, hb⟩; have HB := Lk.mk (below_then HB.out HB.out.size hb); have H1 := Lk.mk (H1.out.below hb); clear hb)
          | (go_at_call 35; (with_reducible refine (HSM.out ▸ same03_any _ _ x1 _ _ l _ H1.out (HR.out.below HB.out)).mono ?_); rintro e w' ⟨rfl, hw⟩; obtain rfl := hw.symm; clear hw)
          | (go_at_call 31; (with_reducible refine (awake03_any _ (HT.out.below HB.out)).mono ?_); rintro e w1 ⟨rfl, hb⟩; have HB := Lk.mk (below_then HB.out HB.out.size hb); clear hb))
        all_goals go_ret
        all_goals exact ⟨rfl, HB.out⟩
      · rw [if_neg (by omega)] at HHi
        go_enter Tryd.func9, Tryd.ntmps9
        go_wp2_with (first
          | (go_at_call 42; (with_reducible refine (HWX.out _ HB.out).mono ?_); rintro e w1 ⟨v1, rfl, ho, hb⟩; obtain ⟨A1, c1, rfl, hc1, _, hr1⟩ := own_full ho; have HB := Lk.mk (below_then HB.out HB.out.size hb); have H1 := Lk.mk hr1; have HC1 := Lk.mk hc1; clear ho hb hr1 hc1)
          | (go_at_call 36; (with_reducible refine (HTi.out ▸ tight_any _ _ x1 _ H1.out).mono ?_); rintro e w' ⟨rfl, hw⟩; obtain rfl := hw.symm; clear hw)
          | (go_at_call 37; (with_reducible refine (HHi.out _ _ _ H1.out).mono ?_); rintro e w3 ⟨rfl, hb⟩; have HB := Lk.mk (below_then HB.out HB.out.size hb); have H1 := Lk.mk (H1.out.below hb); clear hb)
          | (go_at_call 37; (with_reducible refine (HHk.out _ _ _ H1.out).mono ?_); rintro e w3 ⟨rfl, hb⟩; have HB := Lk.mk (below_then HB.out HB.out.size hb); have H1 := Lk.mk (H1.out.below hb); clear hb)
          | (go_at_call 34; (with_reducible refine (HRi.out _ HB.out).mono ?_); rintro e w' ⟨rfl, hw⟩; obtain rfl := hw.symm; clear hw)
          | (go_at_call 34; (with_reducible refine (HRk.out _ HB.out).mono ?_); rintro e w' ⟨rfl, hw⟩; obtain rfl := hw.symm; clear hw)
          | (go_at_call 43; (with_reducible refine (HSM.out ▸ bsame_any _ _ x1 _ _ l _ H1.out (HR.out.below HB.out) HC1.out HC.out).mono ?_); rintro e w5 ⟨rfl, hb⟩; have HB := Lk.mk (below_then HB.out HB.out.size hb); have H1 := Lk.mk (H1.out.below hb); clear hb)
          | (go_at_call 35; (with_reducible refine (HSM.out ▸ same03_any _ _ x1 _ _ l _ H1.out (HR.out.below HB.out)).mono ?_); rintro e w' ⟨rfl, hw⟩; obtain rfl := hw.symm; clear hw)
          | (go_at_call 31; (with_reducible refine (awake03_any _ (HT.out.below HB.out)).mono ?_); rintro e w1 ⟨rfl, hb⟩; have HB := Lk.mk (below_then HB.out HB.out.size hb); clear hb))
        all_goals go_ret
        all_goals exact ⟨rfl, HB.out⟩
      · rw [if_neg (by omega)] at HHi
        go_enter Tryd.func9, Tryd.ntmps9
        go_wp2_with (first
          | (go_at_call 42; (with_reducible refine (HWX.out _ HB.out).mono ?_); rintro e w1 ⟨v1, rfl, ho, hb⟩; obtain ⟨A1, c1, rfl, hc1, _, hr1⟩ := own_full ho; have HB := Lk.mk (below_then HB.out HB.out.size hb); have H1 := Lk.mk hr1; have HC1 := Lk.mk hc1; clear ho hb hr1 hc1)
          | (go_at_call 36; (with_reducible refine (HTi.out ▸ tight_any _ _ x1 _ H1.out).mono ?_); rintro e w' ⟨rfl, hw⟩; obtain rfl := hw.symm; clear hw)
          | (go_at_call 37; (with_reducible refine (HHi.out _ _ _ H1.out).mono ?_); rintro e w3 ⟨rfl, hb⟩; have HB := Lk.mk (below_then HB.out HB.out.size hb); have H1 := Lk.mk (H1.out.below hb); clear hb)
          | (go_at_call 37; (with_reducible refine (HHk.out _ _ _ H1.out).mono ?_); rintro e w3 ⟨rfl, hb⟩; have HB := Lk.mk (below_then HB.out HB.out.size hb); have H1 := Lk.mk (H1.out.below hb); clear hb)
          | (go_at_call 34; (with_reducible refine (HRi.out _ HB.out).mono ?_); rintro e w' ⟨rfl, hw⟩; obtain rfl := hw.symm; clear hw)
          | (go_at_call 34; (with_reducible refine (HRk.out _ HB.out).mono ?_); rintro e w' ⟨rfl, hw⟩; obtain rfl := hw.symm; clear hw)
          | (go_at_call 43; (with_reducible refine (HSM.out ▸ bsame_any _ _ x1 _ _ l _ H1.out (HR.out.below HB.out) HC1.out HC.out).mono ?_); rintro e w5 ⟨rfl, hb⟩; have HB := Lk.mk (below_then HB.out HB.out.size hb); have H1 := Lk.mk (H1.out.below hb); clear hb)
          | (go_at_call 35; (with_reducible refine (HSM.out ▸ same03_any _ _ x1 _ _ l _ H1.out (HR.out.below HB.out)).mono ?_); rintro e w' ⟨rfl, hw⟩; obtain rfl := hw.symm; clear hw)
          | (go_at_call 31; (with_reducible refine (awake03_any _ (HT.out.below HB.out)).mono ?_); rintro e w1 ⟨rfl, hb⟩; have HB := Lk.mk (below_then HB.out HB.out.size hb); clear hb))
        all_goals go_ret
        all_goals exact ⟨rfl, HB.out⟩
end Go.Proofs.YtmlchbldcoenaaaDoor
