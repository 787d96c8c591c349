/-
  The walk of the reference's Get of slots; conditions: what is handed in reads as told.
-/
import Derived.Test.YtcepafllgjnngaaDoorSb
import Derived.Test.YtcepafllgjnngaaDoorK2
namespace Go.Proofs.YtcepafllgjnngaaDoor
open Go.RowKit Go.Proofs.YtcepafllgjnngaaDoorW.PrintWords

set_option maxRecDepth 100000 in
set_option maxHeartbeats 2000000 in
theorem rget_any (V : Option Addr) (c0 : Nat) (ws : List Int) (T : Option Addr) (ct : Nat) (t : List (Int × List Int)) (A : Option Addr) (c : Nat) (l : List Sl.Fr) (d s : Int) (w : World) (hz : ReadsInt w .u64 V ws.length ws) (hzw : Bm.Words ws) (ht : FnC w T t.length t) (htw : ∀ f ∈ t, Bm.Words f.2) (hr : kFr.C w A l.length l) (he : ∀ f, -1 ≤ lSize t f ∧ lSize t f ≤ 1000) :
    Calls Tryd.prog 67 #[.slice V ws.length c0, .slice T t.length ct, .slice A l.length c, .int .i64 d, .int .i64 s] w fun e w' => GetL (getV (lSize t) (lPtr t) ws l d s) w e w' := by
  unfold GetL
  have hm := hr.2.1
  have h00 := below_alloc (Below.refl w.heap.size w) (.cells #[.int .u8 0, .int .u64 0, .int .i64 0, .int .i64 0] 56)
  have H0 := Lk.mk h00
  have HX0 := Lk.mk (blk_new w (.cells #[.int .u8 0, .int .u64 0, .int .i64 0, .int .i64 0] 56))
  have hmz := hz.2.1
  have HAd := Lk.mk (refAddress_any T ct t A c l d s _ (ht.below h00) (Kd.C_below hr h00) he)
  cases ho : Sl.addrOk (lSize t) l d s with
  | false =>
    have HG := Lk.mk (show getV (lSize t) (lPtr t) ws l d s = (Sl.dVl, 2) by unfold getV; rw [ho]; rfl)
    have had : Sl.addr (lSize t) l d s = -1 := by unfold Sl.addr; rw [ho]; rfl
    rw [HG.out]
    rw [had] at HAd
    clear hz hzw ht htw hr he ho had h00
    go_enter Tryd.func67, Tryd.ntmps67
    go_wp2_with (go_at_call 107; (with_reducible refine (HAd.out).mono ?_); rintro e w1 ⟨rfl, hb⟩; have HX := Lk.mk (blk_below HX0.out hb); obtain ⟨c0, c1, c2, c3, z0, z1, z2, z3⟩ := cells4z HX.out; have HB := Lk.mk (below_then H0.out H0.out.size hb); clear hb)
    exact bodyPost_ret (results_ct Tryd.results67 _ _ w.heap.size 56 #[.int .u8 0, .int .u64 0, .int .i64 0, .int .i64 0] (0, 0) _ rfl (set4 HX.out _ _ _ _) Tryd.underlying56 rfl (by kernel_rfl)) rfl ⟨rfl, below4 HB.out _ _ _ _⟩
  | true =>
    have hd := addrOk_true ho
    have ha := addr_nn ho (fun f => (he f).2)
    obtain ⟨dn, rfl⟩ : ∃ dn : Nat, d = (dn : Int) := ⟨d.toNat, by omega⟩
    have HG := Lk.mk (show getV (lSize t) (lPtr t) ws l dn s = _ by unfold getV; rw [ho, if_pos rfl])
    have had : Sl.addr (lSize t) l dn s = (l.getD dn Sl.dFr).1 + 2 + s := by unfold Sl.addr; rw [ho, if_pos rfl, Int.toNat_natCast]
    rw [had] at HAd
    rw [Int.toNat_natCast] at *
    have hdl : (dn : Int) < (l.length : Int) := hd.2.1
    obtain ⟨ad, rfl, _, hc1, _⟩ := kFr_at hr dn (by omega)
    have HC := Lk.mk (fun W (hb : Below w.heap.size w W) => pw_cell_below hb hc1)
    have hs9 : s ≤ 9223372036854775807 := by
      have h4 := sizeS_in hd.2.2.1 hd.2.2.2
      have := (he (l.getD dn Sl.dFr).2.1).2
      omega
    have HP := Lk.mk (fun W (hb : Below w.heap.size w W) => refPtr_any T ct t (l.getD dn Sl.dFr).2.1 s W (ht.below hb) htw hs9)
    obtain ⟨at_, hat⟩ : ∃ at_ : Nat, (l.getD dn Sl.dFr).1 + 2 + s = (at_ : Int) := ⟨((l.getD dn Sl.dFr).1 + 2 + s).toNat, by omega⟩
    rw [hat] at HAd ha
    rw [hat, Int.toNat_natCast] at HG
    have HF := Lk.mk (fun W (x : Int) (hb : Below w.heap.size w W) => refFind_any T ct t (some ad) c l x W (ht.below hb) (Kd.C_below hr hb) he)
    have hx : 0 ≤ ws.getD at_ 0 ∧ ws.getD at_ 0 < 18446744073709551616 := by
      rw [List.getD_eq_getElem?_getD]
      cases hk : ws[at_]? with
      | none => exact ⟨by decide, by decide⟩
      | some x => exact hzw x (List.mem_of_getElem? hk)
    have HX := Lk.mk (show at_ < ws.length → ∃ adw, V = some adw ∧ w.cell? (adw.add at_) = some (.int .u64 (ws.getD at_ 0)) from fun h => by
      obtain ⟨adw, e1, e2⟩ := hz.at_ (at_ : Int) (by omega) (by omega)
      rw [Int.toNat_natCast, rdk] at e2
      exact ⟨adw, e1, e2⟩)
    clear hz hzw ht htw hr he ho hat had h00
    generalize (l.getD dn Sl.dFr).2.1 = f at *
    generalize lPtr t f s = pt at *
    generalize getV (lSize t) (lPtr t) ws l dn s = r at *
    by_cases hlt : at_ < ws.length
    · obtain ⟨adw, rfl, hcw⟩ := HX.out hlt
      have HCW := Lk.mk (fun W (hb : Below w.heap.size w W) => pw_cell_below hb hcw)
      have hltz : (at_ : Int) < (ws.length : Int) := by omega
      rw [if_pos (by omega)] at HG
      generalize ws.getD at_ 0 = x at *
      clear hlt HX hc1 hcw
      cases pt with
      | false =>
        rw [if_neg (by decide)] at HG
        rw [HG.out]
        go_enter Tryd.func67, Tryd.ntmps67
        go_wp2_with (first
          | (go_at_call 107; (with_reducible refine (HAd.out).mono ?_); rintro e w1 ⟨rfl, hb⟩; have HX := Lk.mk (blk_below HX0.out hb); obtain ⟨c0, c1, c2, c3, z0, z1, z2, z3⟩ := cells4z HX.out; have HB := Lk.mk (below_then H0.out H0.out.size hb); have f1 := HC.out _ HB.out; clear hb)
          | (go_at_call 108; (with_reducible refine (HP.out _ HB.out).mono ?_); rintro e w2 ⟨rfl, hb⟩; have HX := Lk.mk (blk_below HX.out hb); obtain ⟨c0, c1, c2, c3, z0, z1, z2, z3⟩ := cells4z HX.out; have HB := Lk.mk (below_then HB.out HB.out.size hb); have f2 := HCW.out _ HB.out; clear hb))
        exact bodyPost_ret (results_ct Tryd.results67 _ _ w.heap.size 56 #[.int .u8 1, .int .u64 x, .int .i64 0, .int .i64 0] (0, 0) _ rfl (set4 HX.out _ _ _ _) Tryd.underlying56 rfl (by kernel_rfl)) rfl ⟨rfl, below4 HB.out _ _ _ _⟩
      | true =>
        rw [if_pos rfl] at HG
        by_cases h0 : x = 0
        · subst h0
          rw [if_pos rfl] at HG
          rw [HG.out]
          go_enter Tryd.func67, Tryd.ntmps67
          go_wp2_with (first
            | (go_at_call 107; (with_reducible refine (HAd.out).mono ?_); rintro e w1 ⟨rfl, hb⟩; have HX := Lk.mk (blk_below HX0.out hb); obtain ⟨c0, c1, c2, c3, z0, z1, z2, z3⟩ := cells4z HX.out; have HB := Lk.mk (below_then H0.out H0.out.size hb); have f1 := HC.out _ HB.out; clear hb)
            | (go_at_call 108; (with_reducible refine (HP.out _ HB.out).mono ?_); rintro e w2 ⟨rfl, hb⟩; have HX := Lk.mk (blk_below HX.out hb); obtain ⟨c0, c1, c2, c3, z0, z1, z2, z3⟩ := cells4z HX.out; have HB := Lk.mk (below_then HB.out HB.out.size hb); have f2 := HCW.out _ HB.out; clear hb))
          exact bodyPost_ret (results_ct Tryd.results67 _ _ w.heap.size 56 #[.int .u8 0, .int .u64 0, .int .i64 0, .int .i64 0] (0, 0) _ rfl (set4 HX.out _ _ _ _) Tryd.underlying56 rfl (by kernel_rfl)) rfl ⟨rfl, below4 HB.out _ _ _ _⟩
        · have h0b : (x == 0) = false := beq_false_of_ne h0
          rw [if_neg h0] at HG
          by_cases h1 : 4611686018427387904 < x
          · rw [if_pos h1] at HG
            rw [HG.out]
            clear h0
            go_enter Tryd.func67, Tryd.ntmps67
            go_wp2_with (first
              | (go_at_call 107; (with_reducible refine (HAd.out).mono ?_); rintro e w1 ⟨rfl, hb⟩; have HX := Lk.mk (blk_below HX0.out hb); obtain ⟨c0, c1, c2, c3, z0, z1, z2, z3⟩ := cells4z HX.out; have HB := Lk.mk (below_then H0.out H0.out.size hb); have f1 := HC.out _ HB.out; clear hb)
              | (go_at_call 108; (with_reducible refine (HP.out _ HB.out).mono ?_); rintro e w2 ⟨rfl, hb⟩; have HX := Lk.mk (blk_below HX.out hb); obtain ⟨c0, c1, c2, c3, z0, z1, z2, z3⟩ := cells4z HX.out; have HB := Lk.mk (below_then HB.out HB.out.size hb); have f2 := HCW.out _ HB.out; clear hb))
            exact bodyPost_ret (results_ct Tryd.results67 _ _ w.heap.size 56 #[.int .u8 0, .int .u64 0, .int .i64 0, .int .i64 0] (0, 0) _ rfl (set4 HX.out _ _ _ _) Tryd.underlying56 rfl (by kernel_rfl)) rfl ⟨rfl, below4 HB.out _ _ _ _⟩
          · rw [if_neg h1] at HG
            have HFx := Lk.mk (fun W hb => HF.out W x hb)
            have hwx : IntKind.i64.wrap x = x := IntWalk.i64_in _ (by omega)
            generalize Sl.findD (lSize t) l x = fd at *
            generalize Sl.findI (lSize t) l x = fi at *
            generalize Sl.findB (lSize t) l x = fb at *
            clear h0 HF
            by_cases h3 : fb = true ∧ fd ≤ (dn : Int)
            · rw [if_pos h3] at HG
              rw [HG.out]
              obtain ⟨rfl, h4⟩ := h3
              go_enter Tryd.func67, Tryd.ntmps67
              go_wp2_with (first
                | (go_at_call 107; (with_reducible refine (HAd.out).mono ?_); rintro e w1 ⟨rfl, hb⟩; have HX := Lk.mk (blk_below HX0.out hb); obtain ⟨c0, c1, c2, c3, z0, z1, z2, z3⟩ := cells4z HX.out; have HB := Lk.mk (below_then H0.out H0.out.size hb); have f1 := HC.out _ HB.out; clear hb)
                | (go_at_call 108; (with_reducible refine (HP.out _ HB.out).mono ?_); rintro e w2 ⟨rfl, hb⟩; have HX := Lk.mk (blk_below HX.out hb); obtain ⟨c0, c1, c2, c3, z0, z1, z2, z3⟩ := cells4z HX.out; have HB := Lk.mk (below_then HB.out HB.out.size hb); have f2 := HCW.out _ HB.out; clear hb)
                | (go_at_call 109; (with_reducible refine (HFx.out _ HB.out).mono ?_); rintro e w3 ⟨rfl, hb⟩; have HX := Lk.mk (blk_below HX.out hb); obtain ⟨c0, c1, c2, c3, z0, z1, z2, z3⟩ := cells4z HX.out; have HB := Lk.mk (below_then HB.out HB.out.size hb); clear hb))
              exact bodyPost_ret (results_ct Tryd.results67 _ _ w.heap.size 56 #[.int .u8 2, .int .u64 0, .int .i64 fd, .int .i64 fi] (0, 0) _ rfl (set4 HX.out _ _ _ _) Tryd.underlying56 rfl (by kernel_rfl)) rfl ⟨rfl, below4 HB.out _ _ _ _⟩
            · rw [if_neg h3] at HG
              rw [HG.out]
              cases fb with
              | false =>
                clear h3
                go_enter Tryd.func67, Tryd.ntmps67
                go_wp2_with (first
                  | (go_at_call 107; (with_reducible refine (HAd.out).mono ?_); rintro e w1 ⟨rfl, hb⟩; have HX := Lk.mk (blk_below HX0.out hb); obtain ⟨c0, c1, c2, c3, z0, z1, z2, z3⟩ := cells4z HX.out; have HB := Lk.mk (below_then H0.out H0.out.size hb); have f1 := HC.out _ HB.out; clear hb)
                  | (go_at_call 108; (with_reducible refine (HP.out _ HB.out).mono ?_); rintro e w2 ⟨rfl, hb⟩; have HX := Lk.mk (blk_below HX.out hb); obtain ⟨c0, c1, c2, c3, z0, z1, z2, z3⟩ := cells4z HX.out; have HB := Lk.mk (below_then HB.out HB.out.size hb); have f2 := HCW.out _ HB.out; clear hb)
                  | (go_at_call 109; (with_reducible refine (HFx.out _ HB.out).mono ?_); rintro e w3 ⟨rfl, hb⟩; have HX := Lk.mk (blk_below HX.out hb); obtain ⟨c0, c1, c2, c3, z0, z1, z2, z3⟩ := cells4z HX.out; have HB := Lk.mk (below_then HB.out HB.out.size hb); clear hb))
                exact bodyPost_ret (results_ct Tryd.results67 _ _ w.heap.size 56 #[.int .u8 0, .int .u64 0, .int .i64 0, .int .i64 0] (0, 0) _ rfl (set4 HX.out _ _ _ _) Tryd.underlying56 rfl (by kernel_rfl)) rfl ⟨rfl, below4 HB.out _ _ _ _⟩
              | true =>
                have h4 : (dn : Int) < fd := by
                  have : ¬ fd ≤ (dn : Int) := fun h => h3 ⟨rfl, h⟩
                  omega
                clear h3
                go_enter Tryd.func67, Tryd.ntmps67
                go_wp2_with (first
                  | (go_at_call 107; (with_reducible refine (HAd.out).mono ?_); rintro e w1 ⟨rfl, hb⟩; have HX := Lk.mk (blk_below HX0.out hb); obtain ⟨c0, c1, c2, c3, z0, z1, z2, z3⟩ := cells4z HX.out; have HB := Lk.mk (below_then H0.out H0.out.size hb); have f1 := HC.out _ HB.out; clear hb)
                  | (go_at_call 108; (with_reducible refine (HP.out _ HB.out).mono ?_); rintro e w2 ⟨rfl, hb⟩; have HX := Lk.mk (blk_below HX.out hb); obtain ⟨c0, c1, c2, c3, z0, z1, z2, z3⟩ := cells4z HX.out; have HB := Lk.mk (below_then HB.out HB.out.size hb); have f2 := HCW.out _ HB.out; clear hb)
                  | (go_at_call 109; (with_reducible refine (HFx.out _ HB.out).mono ?_); rintro e w3 ⟨rfl, hb⟩; have HX := Lk.mk (blk_below HX.out hb); obtain ⟨c0, c1, c2, c3, z0, z1, z2, z3⟩ := cells4z HX.out; have HB := Lk.mk (below_then HB.out HB.out.size hb); clear hb))
                exact bodyPost_ret (results_ct Tryd.results67 _ _ w.heap.size 56 #[.int .u8 0, .int .u64 0, .int .i64 0, .int .i64 0] (0, 0) _ rfl (set4 HX.out _ _ _ _) Tryd.underlying56 rfl (by kernel_rfl)) rfl ⟨rfl, below4 HB.out _ _ _ _⟩
    · have hltz : ¬ (at_ : Int) < (ws.length : Int) := by omega
      rw [if_neg (by omega)] at HG
      rw [HG.out]
      clear hlt HX
      go_enter Tryd.func67, Tryd.ntmps67
      go_wp2_with (first
        | (go_at_call 107; (with_reducible refine (HAd.out).mono ?_); rintro e w1 ⟨rfl, hb⟩; have HX := Lk.mk (blk_below HX0.out hb); obtain ⟨c0, c1, c2, c3, z0, z1, z2, z3⟩ := cells4z HX.out; have HB := Lk.mk (below_then H0.out H0.out.size hb); clear hb))
      exact bodyPost_ret (results_ct Tryd.results67 _ _ w.heap.size 56 #[.int .u8 0, .int .u64 0, .int .i64 0, .int .i64 0] (0, 0) _ rfl (set4 HX.out _ _ _ _) Tryd.underlying56 rfl (by kernel_rfl)) rfl ⟨rfl, below4 HB.out _ _ _ _⟩
end Go.Proofs.YtcepafllgjnngaaDoor
