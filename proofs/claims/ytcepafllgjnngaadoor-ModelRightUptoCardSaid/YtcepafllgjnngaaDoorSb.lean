/-
  The walk of slots.Get; conditions: what is handed in reads as told.
-/
import Derived.Test.YtcepafllgjnngaaDoorSa
import Derived.Test.YtcepafllgjnngaaDoorLa
namespace Go.Proofs.YtcepafllgjnngaaDoor
open Go.RowKit Go.Proofs.YtcepafllgjnngaaDoorW.PrintWords

/-- what a slot has, and the error's number -/
def getV (sz : Int → Int) (ptr : Int → Int → Bool) (ws : List Int) (l : List Sl.Fr) (d s : Int) : Sl.Vl × Int :=
  if Sl.addrOk sz l d s = true then
    (if (l.getD d.toNat Sl.dFr).1 + 2 + s < ws.length then
      (if ptr (l.getD d.toNat Sl.dFr).2.1 s = true then
        (if ws.getD ((l.getD d.toNat Sl.dFr).1 + 2 + s).toNat 0 = 0 then (Sl.dVl, 0)
        else if 4611686018427387904 < ws.getD ((l.getD d.toNat Sl.dFr).1 + 2 + s).toNat 0 then (Sl.dVl, 9)
        else if Sl.findB sz l (ws.getD ((l.getD d.toNat Sl.dFr).1 + 2 + s).toNat 0) = true ∧ Sl.findD sz l (ws.getD ((l.getD d.toNat Sl.dFr).1 + 2 + s).toNat 0) ≤ d then ((2, 0, Sl.findD sz l (ws.getD ((l.getD d.toNat Sl.dFr).1 + 2 + s).toNat 0), Sl.findI sz l (ws.getD ((l.getD d.toNat Sl.dFr).1 + 2 + s).toNat 0)), 0) else (Sl.dVl, 9))
      else ((1, ws.getD ((l.getD d.toNat Sl.dFr).1 + 2 + s).toNat 0, 0, 0), 0))
    else (Sl.dVl, 2))
  else (Sl.dVl, 2)
theorem cells4z {w : World} {g : Nat} {t : TypeId} {a b c d : Value} (h : w.heap[g]? = some (.cells #[a, b, c, d] t (0, 0))) : w.cell? ⟨g, 0, none⟩ = some a ∧ w.cell? ⟨g, 1, none⟩ = some b ∧ w.cell? ⟨g, 2, none⟩ = some c ∧ w.cell? ⟨g, 3, none⟩ = some d ∧ w.frozen? ⟨g, 0, none⟩ = false ∧ w.frozen? ⟨g, 1, none⟩ = false ∧ w.frozen? ⟨g, 2, none⟩ = false ∧ w.frozen? ⟨g, 3, none⟩ = false :=
  ⟨by rw [blk_cell h 0]; rfl, by rw [blk_cell h 1]; rfl, by rw [blk_cell h 2]; rfl, by rw [blk_cell h 3]; rfl, blk_frozen h 0, blk_frozen h 1, blk_frozen h 2, blk_frozen h 3⟩
theorem set4 {w : World} {g : Nat} {t : TypeId} {a b c d : Value} (h : w.heap[g]? = some (.cells #[a, b, c, d] t (0, 0))) (a' b' c' d' : Value) : ((((w.setCell ⟨g, 0, none⟩ a').setCell ⟨g, 1, none⟩ b').setCell ⟨g, 2, none⟩ c').setCell ⟨g, 3, none⟩ d').heap[g]? = some (.cells #[a', b', c', d'] t (0, 0)) :=
  blk_put (blk_put (blk_put (blk_put h 0 a' rfl) 1 b' rfl) 2 c' rfl) 3 d' rfl
theorem below4 {w w1 : World} (h : Below w.heap.size w w1) (a' b' c' d' : Value) : Below w.heap.size w ((((w1.setCell ⟨w.heap.size, 0, none⟩ a').setCell ⟨w.heap.size, 1, none⟩ b').setCell ⟨w.heap.size, 2, none⟩ c').setCell ⟨w.heap.size, 3, none⟩ d') :=
  (((h.setCell (p := ⟨w.heap.size, 0, none⟩) (Nat.le_refl _) _).setCell (p := ⟨w.heap.size, 1, none⟩) (Nat.le_refl _) _).setCell (p := ⟨w.heap.size, 2, none⟩) (Nat.le_refl _) _).setCell (p := ⟨w.heap.size, 3, none⟩) (Nat.le_refl _) _
/-- a value's box -/
def vO (v : Sl.Vl) : Obj := .cells #[.int .u8 v.1, .int .u64 v.2.1, .int .i64 v.2.2.1, .int .i64 v.2.2.2] 56
/-- what Get answers -/
def GetL (r : Sl.Vl × Int) (w : World) (e : Ending) (w' : World) : Prop := e = .returned (.tuple #[.agg #[.int .u8 r.1.1, .int .u64 r.1.2.1, .int .i64 r.1.2.2.1, .int .i64 r.1.2.2.2], .int .i64 r.2]) ∧ Below w.heap.size w w'
theorem word_in {w : World} {g b : Nat} {ws : List Int} (h : ArB w g b ws) (k : Nat) : 0 ≤ ws.getD k 0 ∧ ws.getD k 0 < 18446744073709551616 := by
  rw [List.getD_eq_getElem?_getD]
  cases hk : ws[k]? with
  | none => exact ⟨by decide, by decide⟩
  | some x => exact h.words x (List.mem_of_getElem? hk)
set_option maxRecDepth 100000 in
set_option maxHeartbeats 2000000 in
theorem sget_any (g b : Nat) (ws : List Int) (p : Value) (ent : List (Int × (List Int × List Int))) (A : Option Addr) (c : Nat) (l : List Sl.Fr) (d s : Int) (w : World) (hA : ArB w g b ws) (h : TblOr w p ent) (hr : kFr.C w A l.length l) (hI : FrIn l) (he : EntIn ent) (hw : ∀ e ∈ ent, Bm.Words e.2.1) (hs : s ≤ 9223372036854775807) :
    Calls Tryd.prog 64 #[.pointer (some ⟨g, 0, none⟩), p, .slice A l.length c, .int .i64 d, .int .i64 s] w fun e w' => GetL (getV (tSize ent) (tPtr ent) ws l d s) w e w' := by
  unfold GetL
  have hm := hr.2.1
  have h00 := below_alloc (Below.refl w.heap.size w) (.cells #[.int .u8 0, .int .u64 0, .int .i64 0, .int .i64 0] 56)
  have H0 := Lk.mk h00
  have HX0 := Lk.mk (blk_new w (.cells #[.int .u8 0, .int .u64 0, .int .i64 0, .int .i64 0] 56))
  cases ho : Sl.addrOk (tSize ent) l d s with
  | false =>
    have HAd := Lk.mk (address_bad p ent A c l d s _ (h.below h00) (Kd.C_below hr h00) he ho)
    have HG := Lk.mk (show getV (tSize ent) (tPtr ent) ws l d s = (Sl.dVl, 2) by unfold getV; rw [ho]; rfl)
    rw [HG.out]
    clear h hr hI he hw ho hA h00
    go_enter Tryd.func64, Tryd.ntmps64
    go_wp2_with (go_at_call 103; (with_reducible refine (HAd.out).mono ?_); rintro e w1 ⟨rfl, hb⟩; have HX := Lk.mk (blk_below HX0.out hb); obtain ⟨c0, c1, c2, c3, z0, z1, z2, z3⟩ := cells4z HX.out; have HB := Lk.mk (below_then H0.out H0.out.size hb); clear hb)
    exact bodyPost_ret (results_ct Tryd.results64 _ _ w.heap.size 56 #[.int .u8 0, .int .u64 0, .int .i64 0, .int .i64 0] (0, 0) _ rfl (set4 HX.out _ _ _ _) Tryd.underlying56 rfl (by kernel_rfl)) rfl ⟨rfl, below4 HB.out _ _ _ _⟩
  | true =>
    have hd := addrOk_true ho
    have HAd := Lk.mk (address_ok p ent A c l d s _ (h.below h00) (Kd.C_below hr h00) he ho)
    have ha := addr_nn ho (fun f => (tSize_in he f).2)
    obtain ⟨dn, rfl⟩ : ∃ dn : Nat, d = (dn : Int) := ⟨d.toNat, by omega⟩
    have HG := Lk.mk (show getV (tSize ent) (tPtr ent) ws l dn s = _ by unfold getV; rw [ho, if_pos rfl])
    rw [Int.toNat_natCast] at *
    have hdl : (dn : Int) < (l.length : Int) := hd.2.1
    obtain ⟨ad, rfl, _, hc1, _⟩ := kFr_at hr dn (by omega)
    have HC := Lk.mk (fun W (hb : Below w.heap.size w W) => pw_cell_below hb hc1)
    have HP := Lk.mk (fun W (hb : Below w.heap.size w W) => ptr_any p ent (l.getD dn Sl.dFr).2.1 s W (h.below hb) hw hs)
    obtain ⟨at_, hat⟩ : ∃ at_ : Nat, (l.getD dn Sl.dFr).1 + 2 + s = (at_ : Int) := ⟨((l.getD dn Sl.dFr).1 + 2 + s).toNat, by omega⟩
    rw [hat] at HAd ha
    rw [hat, Int.toNat_natCast] at HG
    have HLB := Lk.mk (fun W (hb : Below w.heap.size w W) hi => load_bad g b ws at_ W (hA.below hb) hi)
    have HLG := Lk.mk (fun W (hb : Below w.heap.size w W) hi => load_ok g b ws at_ W (hA.below hb) hi)
    have HF := Lk.mk (fun W (x : Int) (hb : Below w.heap.size w W) hx => find_any p ent (some ad) c l x W (h.below hb) (Kd.C_below hr hb) hI he hx)
    have hx := word_in hA at_
    clear h hr hI he hw ho hA hc1 hat h00
    generalize (l.getD dn Sl.dFr).2.1 = f at *
    generalize tPtr ent f s = pt at *
    generalize getV (tSize ent) (tPtr ent) ws l dn s = r at *
    by_cases hlt : at_ < ws.length
    · have HL := Lk.mk (fun W hb => HLG.out W hb hlt)
      rw [if_pos (by omega)] at HG
      generalize ws.getD at_ 0 = x at *
      clear hlt HLB HLG
      cases pt with
      | false =>
        rw [if_neg (by decide)] at HG
        rw [HG.out]
        go_enter Tryd.func64, Tryd.ntmps64
        go_wp2_with (first
          | (go_at_call 103; (with_reducible refine (HAd.out).mono ?_); rintro e w1 ⟨rfl, hb⟩; have HX := Lk.mk (blk_below HX0.out hb); obtain ⟨c0, c1, c2, c3, z0, z1, z2, z3⟩ := cells4z HX.out; have HB := Lk.mk (below_then H0.out H0.out.size hb); clear hb)
          | (go_at_call 39; (with_reducible refine (HL.out _ HB.out).mono ?_); rintro e w2 ⟨rfl, hb⟩; have HX := Lk.mk (blk_below HX.out hb); obtain ⟨c0, c1, c2, c3, z0, z1, z2, z3⟩ := cells4z HX.out; have HB := Lk.mk (below_then HB.out HB.out.size hb); have f1 := HC.out _ HB.out; clear hb)
          | (go_at_call 47; (with_reducible refine (HP.out _ HB.out).mono ?_); rintro e w3 ⟨rfl, hb⟩; have HX := Lk.mk (blk_below HX.out hb); obtain ⟨c0, c1, c2, c3, z0, z1, z2, z3⟩ := cells4z HX.out; have HB := Lk.mk (below_then HB.out HB.out.size hb); clear hb))
        exact bodyPost_ret (results_ct Tryd.results64 _ _ w.heap.size 56 #[.int .u8 1, .int .u64 x, .int .i64 0, .int .i64 0] (0, 0) _ rfl (set4 HX.out _ _ _ _) Tryd.underlying56 rfl (by kernel_rfl)) rfl ⟨rfl, below4 HB.out _ _ _ _⟩
      | true =>
        rw [if_pos rfl] at HG
        by_cases h0 : x = 0
        · subst h0
          rw [if_pos rfl] at HG
          rw [HG.out]
          go_enter Tryd.func64, Tryd.ntmps64
          go_wp2_with (first
            | (go_at_call 103; (with_reducible refine (HAd.out).mono ?_); rintro e w1 ⟨rfl, hb⟩; have HX := Lk.mk (blk_below HX0.out hb); obtain ⟨c0, c1, c2, c3, z0, z1, z2, z3⟩ := cells4z HX.out; have HB := Lk.mk (below_then H0.out H0.out.size hb); clear hb)
            | (go_at_call 39; (with_reducible refine (HL.out _ HB.out).mono ?_); rintro e w2 ⟨rfl, hb⟩; have HX := Lk.mk (blk_below HX.out hb); obtain ⟨c0, c1, c2, c3, z0, z1, z2, z3⟩ := cells4z HX.out; have HB := Lk.mk (below_then HB.out HB.out.size hb); have f1 := HC.out _ HB.out; clear hb)
            | (go_at_call 47; (with_reducible refine (HP.out _ HB.out).mono ?_); rintro e w3 ⟨rfl, hb⟩; have HX := Lk.mk (blk_below HX.out hb); obtain ⟨c0, c1, c2, c3, z0, z1, z2, z3⟩ := cells4z HX.out; have HB := Lk.mk (below_then HB.out HB.out.size hb); clear hb))
          exact bodyPost_ret (results_ct Tryd.results64 _ _ w.heap.size 56 #[.int .u8 0, .int .u64 0, .int .i64 0, .int .i64 0] (0, 0) _ rfl (set4 HX.out _ _ _ _) Tryd.underlying56 rfl (by kernel_rfl)) rfl ⟨rfl, below4 HB.out _ _ _ _⟩
        · have h0b : (x == 0) = false := beq_false_of_ne h0
          rw [if_neg h0] at HG
          by_cases h1 : 4611686018427387904 < x
          · rw [if_pos h1] at HG
            rw [HG.out]
            clear h0
            go_enter Tryd.func64, Tryd.ntmps64
            go_wp2_with (first
              | (go_at_call 103; (with_reducible refine (HAd.out).mono ?_); rintro e w1 ⟨rfl, hb⟩; have HX := Lk.mk (blk_below HX0.out hb); obtain ⟨c0, c1, c2, c3, z0, z1, z2, z3⟩ := cells4z HX.out; have HB := Lk.mk (below_then H0.out H0.out.size hb); clear hb)
              | (go_at_call 39; (with_reducible refine (HL.out _ HB.out).mono ?_); rintro e w2 ⟨rfl, hb⟩; have HX := Lk.mk (blk_below HX.out hb); obtain ⟨c0, c1, c2, c3, z0, z1, z2, z3⟩ := cells4z HX.out; have HB := Lk.mk (below_then HB.out HB.out.size hb); have f1 := HC.out _ HB.out; clear hb)
              | (go_at_call 47; (with_reducible refine (HP.out _ HB.out).mono ?_); rintro e w3 ⟨rfl, hb⟩; have HX := Lk.mk (blk_below HX.out hb); obtain ⟨c0, c1, c2, c3, z0, z1, z2, z3⟩ := cells4z HX.out; have HB := Lk.mk (below_then HB.out HB.out.size hb); clear hb))
            exact bodyPost_ret (results_ct Tryd.results64 _ _ w.heap.size 56 #[.int .u8 0, .int .u64 0, .int .i64 0, .int .i64 0] (0, 0) _ rfl (set4 HX.out _ _ _ _) Tryd.underlying56 rfl (by kernel_rfl)) rfl ⟨rfl, below4 HB.out _ _ _ _⟩
          · rw [if_neg h1] at HG
            have HFx := Lk.mk (fun W hb => HF.out W x hb (by omega))
            have hwx : IntKind.i64.wrap x = x := IntWalk.i64_in _ (by omega)
            generalize Sl.findD (tSize ent) l x = fd at *
            generalize Sl.findI (tSize ent) l x = fi at *
            generalize Sl.findB (tSize ent) l x = fb at *
            clear h0 HF
            by_cases h3 : fb = true ∧ fd ≤ (dn : Int)
            · rw [if_pos h3] at HG
              rw [HG.out]
              obtain ⟨rfl, h4⟩ := h3
              go_enter Tryd.func64, Tryd.ntmps64
              go_wp2_with (first
                | (go_at_call 103; (with_reducible refine (HAd.out).mono ?_); rintro e w1 ⟨rfl, hb⟩; have HX := Lk.mk (blk_below HX0.out hb); obtain ⟨c0, c1, c2, c3, z0, z1, z2, z3⟩ := cells4z HX.out; have HB := Lk.mk (below_then H0.out H0.out.size hb); clear hb)
                | (go_at_call 39; (with_reducible refine (HL.out _ HB.out).mono ?_); rintro e w2 ⟨rfl, hb⟩; have HX := Lk.mk (blk_below HX.out hb); obtain ⟨c0, c1, c2, c3, z0, z1, z2, z3⟩ := cells4z HX.out; have HB := Lk.mk (below_then HB.out HB.out.size hb); have f1 := HC.out _ HB.out; clear hb)
                | (go_at_call 47; (with_reducible refine (HP.out _ HB.out).mono ?_); rintro e w3 ⟨rfl, hb⟩; have HX := Lk.mk (blk_below HX.out hb); obtain ⟨c0, c1, c2, c3, z0, z1, z2, z3⟩ := cells4z HX.out; have HB := Lk.mk (below_then HB.out HB.out.size hb); clear hb)
                | (go_at_call 104; (with_reducible refine (HFx.out _ HB.out).mono ?_); rintro e w3 ⟨rfl, hb⟩; have HX := Lk.mk (blk_below HX.out hb); obtain ⟨c0, c1, c2, c3, z0, z1, z2, z3⟩ := cells4z HX.out; have HB := Lk.mk (below_then HB.out HB.out.size hb); clear hb))
              exact bodyPost_ret (results_ct Tryd.results64 _ _ w.heap.size 56 #[.int .u8 2, .int .u64 0, .int .i64 fd, .int .i64 fi] (0, 0) _ rfl (set4 HX.out _ _ _ _) Tryd.underlying56 rfl (by kernel_rfl)) rfl ⟨rfl, below4 HB.out _ _ _ _⟩
            · rw [if_neg h3] at HG
              rw [HG.out]
              cases fb with
              | false =>
                clear h3
                go_enter Tryd.func64, Tryd.ntmps64
                go_wp2_with (first
                  | (go_at_call 103; (with_reducible refine (HAd.out).mono ?_); rintro e w1 ⟨rfl, hb⟩; have HX := Lk.mk (blk_below HX0.out hb); obtain ⟨c0, c1, c2, c3, z0, z1, z2, z3⟩ := cells4z HX.out; have HB := Lk.mk (below_then H0.out H0.out.size hb); clear hb)
                  | (go_at_call 39; (with_reducible refine (HL.out _ HB.out).mono ?_); rintro e w2 ⟨rfl, hb⟩; have HX := Lk.mk (blk_below HX.out hb); obtain ⟨c0, c1, c2, c3, z0, z1, z2, z3⟩ := cells4z HX.out; have HB := Lk.mk (below_then HB.out HB.out.size hb); have f1 := HC.out _ HB.out; clear hb)
                  | (go_at_call 47; (with_reducible refine (HP.out _ HB.out).mono ?_); rintro e w3 ⟨rfl, hb⟩; have HX := Lk.mk (blk_below HX.out hb); obtain ⟨c0, c1, c2, c3, z0, z1, z2, z3⟩ := cells4z HX.out; have HB := Lk.mk (below_then HB.out HB.out.size hb); clear hb)
                  | (go_at_call 104; (with_reducible refine (HFx.out _ HB.out).mono ?_); rintro e w3 ⟨rfl, hb⟩; have HX := Lk.mk (blk_below HX.out hb); obtain ⟨c0, c1, c2, c3, z0, z1, z2, z3⟩ := cells4z HX.out; have HB := Lk.mk (below_then HB.out HB.out.size hb); clear hb))
                exact bodyPost_ret (results_ct Tryd.results64 _ _ w.heap.size 56 #[.int .u8 0, .int .u64 0, .int .i64 0, .int .i64 0] (0, 0) _ rfl (set4 HX.out _ _ _ _) Tryd.underlying56 rfl (by kernel_rfl)) rfl ⟨rfl, below4 HB.out _ _ _ _⟩
              | true =>
                have h4 : (dn : Int) < fd := by
                  have : ¬ fd ≤ (dn : Int) := fun h => h3 ⟨rfl, h⟩
                  omega
                clear h3
                go_enter Tryd.func64, Tryd.ntmps64
                go_wp2_with (first
                  | (go_at_call 103; (with_reducible refine (HAd.out).mono ?_); rintro e w1 ⟨rfl, hb⟩; have HX := Lk.mk (blk_below HX0.out hb); obtain ⟨c0, c1, c2, c3, z0, z1, z2, z3⟩ := cells4z HX.out; have HB := Lk.mk (below_then H0.out H0.out.size hb); clear hb)
                  | (go_at_call 39; (with_reducible refine (HL.out _ HB.out).mono ?_); rintro e w2 ⟨rfl, hb⟩; have HX := Lk.mk (blk_below HX.out hb); obtain ⟨c0, c1, c2, c3, z0, z1, z2, z3⟩ := cells4z HX.out; have HB := Lk.mk (below_then HB.out HB.out.size hb); have f1 := HC.out _ HB.out; clear hb)
                  | (go_at_call 47; (with_reducible refine (HP.out _ HB.out).mono ?_); rintro e w3 ⟨rfl, hb⟩; have HX := Lk.mk (blk_below HX.out hb); obtain ⟨c0, c1, c2, c3, z0, z1, z2, z3⟩ := cells4z HX.out; have HB := Lk.mk (below_then HB.out HB.out.size hb); clear hb)
                  | (go_at_call 104; (with_reducible refine (HFx.out _ HB.out).mono ?_); rintro e w3 ⟨rfl, hb⟩; have HX := Lk.mk (blk_below HX.out hb); obtain ⟨c0, c1, c2, c3, z0, z1, z2, z3⟩ := cells4z HX.out; have HB := Lk.mk (below_then HB.out HB.out.size hb); clear hb))
                exact bodyPost_ret (results_ct Tryd.results64 _ _ w.heap.size 56 #[.int .u8 0, .int .u64 0, .int .i64 0, .int .i64 0] (0, 0) _ rfl (set4 HX.out _ _ _ _) Tryd.underlying56 rfl (by kernel_rfl)) rfl ⟨rfl, below4 HB.out _ _ _ _⟩
    · have hin : inL ws.length at_ 1 = false := by
        cases hq : inL ws.length at_ 1 with
        | false => rfl
        | true => have := inL_true hq; omega
      have HL := Lk.mk (fun W hb => HLB.out W hb hin)
      rw [if_neg (by omega)] at HG
      rw [HG.out]
      clear hlt HLB HLG hin
      go_enter Tryd.func64, Tryd.ntmps64
      go_wp2_with (first
        | (go_at_call 103; (with_reducible refine (HAd.out).mono ?_); rintro e w1 ⟨rfl, hb⟩; have HX := Lk.mk (blk_below HX0.out hb); obtain ⟨c0, c1, c2, c3, z0, z1, z2, z3⟩ := cells4z HX.out; have HB := Lk.mk (below_then H0.out H0.out.size hb); clear hb)
        | (go_at_call 39; (with_reducible refine (HL.out _ HB.out).mono ?_); rintro e w3 ⟨rfl, hb⟩; have HX := Lk.mk (blk_below HX.out hb); obtain ⟨c0, c1, c2, c3, z0, z1, z2, z3⟩ := cells4z HX.out; have HB := Lk.mk (below_then HB.out HB.out.size hb); clear hb))
      exact bodyPost_ret (results_ct Tryd.results64 _ _ w.heap.size 56 #[.int .u8 0, .int .u64 0, .int .i64 0, .int .i64 0] (0, 0) _ rfl (set4 HX.out _ _ _ _) Tryd.underlying56 rfl (by kernel_rfl)) rfl ⟨rfl, below4 HB.out _ _ _ _⟩
end Go.Proofs.YtcepafllgjnngaaDoor
