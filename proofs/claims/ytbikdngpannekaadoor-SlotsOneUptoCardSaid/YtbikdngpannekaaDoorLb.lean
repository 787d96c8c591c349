/-
  The walk of slots.Put; conditions: what is handed in reads as told.
-/
import Derived.Test.YtbikdngpannekaaDoorLa
import Derived.Deep.RegionHeld3
namespace Go.Proofs.YtbikdngpannekaaDoor
open Go.RowKit Go.Proofs.YtbikdngpannekaaDoorW.PrintWords

theorem putW_one (ws : List Int) (a : Nat) (x : Int) (h : a < ws.length) : ∀ j : Nat, j ≠ a → (putW ws a [x]).getD j 0 = ws.getD j 0 := by
  intro j hj
  unfold putW
  simp only [List.getD_eq_getElem?_getD, List.getElem?_append, List.length_take, Nat.min_eq_left (Nat.le_of_lt h), List.getElem?_take, List.getElem?_drop, List.length_cons, List.length_nil]
  by_cases h1 : j < a
  · rw [if_pos h1, if_pos h1]
  · rw [if_neg h1, if_neg (by omega)]
    congr 2; omega
/-- what Put leaves -/
def PutL (w : World) (g b : Nat) (ws : List Int) (at_ : Int) (n : Int) (w' : World) : Prop := (0 ≤ n ∧ n ≤ 20) ∧ ∃ ws', ArB w' g b ws' ∧ KeepW b w w' ∧ ws'.length = ws.length ∧ (n ≠ 0 → ws' = ws) ∧ (∀ j : Nat, (j : Int) ≠ at_ → ws'.getD j 0 = ws.getD j 0)
theorem PutL.none {w w' : World} {g b : Nat} {ws : List Int} {at_ n : Int} (h : ArB w g b ws) (hb : Below w.heap.size w w') (hn : 1 ≤ n ∧ n ≤ 20) : PutL w g b ws at_ n w' :=
  ⟨by omega, ws, h.below hb, KeepW.of_below hb b, rfl, fun _ => rfl, fun _ _ => rfl⟩
theorem PutL.some_ {w w' : World} {g b : Nat} {ws : List Int} {a : Nat} {x : Int} (h : ArB w' g b (putW ws a [x])) (k : KeepW b w w') (ha : a < ws.length) : PutL w g b ws a 0 w' :=
  ⟨by decide, _, h, k, putW_length ws a [x] (by simp; omega), fun h => absurd rfl h, fun j hj => putW_one ws a x ha j (by omega)⟩
set_option maxRecDepth 100000 in
set_option maxHeartbeats 2000000 in
theorem put_out (g b : Nat) (ws : List Int) (p : Value) (ent : List (Int × (List Int × List Int))) (A : Option Addr) (c : Nat) (l : List Sl.Fr) (d s : Int) (v : Sl.Vl) (w : World) (hA : ArB w g b ws) (h : TblOr w p ent) (hr : kFr.C w A l.length l) (he : EntIn ent)
    (ho : Sl.addrOk (tSize ent) l d s = false) (at_ : Int) :
    Calls Tryd.prog 45 #[.pointer (some ⟨g, 0, none⟩), p, .slice A l.length c, .int .i64 d, .int .i64 s, .agg #[.int .u8 v.1, .int .u64 v.2.1, .int .i64 v.2.2.1, .int .i64 v.2.2.2]] w fun e w' => ∃ n : Int, e = .returned (.int .i64 n) ∧ PutL w g b ws at_ n w' := by
  obtain ⟨k, x, vd, vs⟩ := v
  have h0 : Below w.heap.size w (w.alloc (.cells #[.int .u8 k, .int .u64 x, .int .i64 vd, .int .i64 vs] 27)) := below_alloc (Below.refl _ _) _
  have H0 := Lk.mk h0
  have HAd := Lk.mk (address_bad p ent A c l d s _ (h.below h0) (Kd.C_below hr h0) he ho)
  have HAr := Lk.mk hA
  dsimp only
  clear h hr he h0 ho hA
  go_enter Tryd.func45, Tryd.ntmps45
  go_wp2_with (go_at_call 20; (with_reducible refine (HAd.out).mono ?_); rintro e w1 ⟨rfl, hb⟩; have HB := Lk.mk (below_then H0.out H0.out.size hb); clear hb)
  all_goals go_ret
  all_goals exact ⟨_, rfl, PutL.none HAr.out HB.out (by decide)⟩
set_option maxRecDepth 100000 in
set_option maxHeartbeats 2000000 in
theorem put_in (g b : Nat) (ws : List Int) (p : Value) (ent : List (Int × (List Int × List Int))) (A : Option Addr) (c : Nat) (l : List Sl.Fr) (d s : Int) (v : Sl.Vl) (w : World) (hA : ArB w g b ws) (h : TblOr w p ent) (hr : kFr.C w A l.length l) (he : EntIn ent) (hw : ∀ e ∈ ent, Bm.Words e.2.1) (hv : VlIn v)
    (ho : Sl.addrOk (tSize ent) l d s = true) (hs : s ≤ 9223372036854775807) :
    Calls Tryd.prog 45 #[.pointer (some ⟨g, 0, none⟩), p, .slice A l.length c, .int .i64 d, .int .i64 s, .agg #[.int .u8 v.1, .int .u64 v.2.1, .int .i64 v.2.2.1, .int .i64 v.2.2.2]] w fun e w' => ∃ n : Int, e = .returned (.int .i64 n) ∧ PutL w g b ws ((l.getD d.toNat Sl.dFr).1 + 2 + s) n w' := by
  have hd := addrOk_true ho
  have HM := Lk.mk (fun W => smay_any v W hv)
  have HW := Lk.mk (fun W (hb : Below w.heap.size w W) => word_ex p ent A c l d v W (h.below hb) (Kd.C_below hr hb) he hv)
  have HP := Lk.mk (fun W (hb : Below w.heap.size w W) => ptr_any p ent (l.getD d.toNat Sl.dFr).2.1 s W (h.below hb) hw hs)
  have HAd := Lk.mk (fun W (hb : Below w.heap.size w W) => address_ok p ent A c l d s W (h.below hb) (Kd.C_below hr hb) he ho)
  have ha := addr_nn ho (fun f => (tSize_in he f).2)
  obtain ⟨dn, rfl⟩ : ∃ dn : Nat, d = (dn : Int) := ⟨d.toNat, by omega⟩
  rw [Int.toNat_natCast] at *
  have hdl : (dn : Int) < (l.length : Int) := hd.2.1
  obtain ⟨ad, rfl, _, hc1, _⟩ := kFr_at hr dn (by omega)
  have HC := Lk.mk (fun W (hb : Below w.heap.size w W) => pw_cell_below hb hc1)
  have hm := hr.2.1
  have hlen := hA.len
  obtain ⟨at_, hat⟩ : ∃ at_ : Nat, (l.getD dn Sl.dFr).1 + 2 + s = (at_ : Int) := ⟨((l.getD dn Sl.dFr).1 + 2 + s).toNat, by omega⟩
  rw [hat] at HAd ha ⊢
  have HIN := Lk.mk (fun W (hb : Below w.heap.size w W) => ain_any g b ws at_ 1 W (hA.below hb))
  have HST := Lk.mk (show ∀ (x : Int) W, (0 ≤ x ∧ x < 18446744073709551616) → Below w.heap.size w W → (at_ : Int) < ws.length → Calls Tryd.prog 61 #[.pointer (some ⟨g, 0, none⟩), .int .i64 at_, .slice (some ⟨W.heap.size, 0, none⟩) 1 1] (W.alloc (.cells #[.int .u64 x] 25)) fun e w' => e = .returned (.int .i64 0) ∧ PutL w g b ws at_ 0 w' from fun x W hx hb hlt => by
    have h1 := below_alloc (Below.refl W.heap.size W) (.cells #[.int .u64 x] 25)
    have hr1 : ReadsInt (W.alloc (.cells #[.int .u64 x] 25)) .u64 (some ⟨W.heap.size, 0, none⟩) ([x] : List Int).length [x] := own_reads' (own_lit W W.heap.size 25 .u64 [x] (Nat.le_refl _) (by simp))
    have := store_ok g b ws at_ (some ⟨W.heap.size, 0, none⟩) 1 [x] _ ((hA.below hb).below h1) hr1 (by
      intro y hy
      obtain rfl : y = x := by simpa using hy
      exact hx) (by simp; omega)
    exact this.mono fun e w' ⟨he, ha, hk⟩ => ⟨he, PutL.some_ ha ((KeepW.of_below hb b).trans ((KeepW.of_below h1 b).trans hk)) (by omega)⟩)
  have HAr := Lk.mk hA
  generalize tPtr ent (l.getD dn Sl.dFr).2.1 s = pt at *
  generalize Sl.mayV v = mv at *
  obtain ⟨k, x, vd, vs⟩ := v
  have H0 := Lk.mk (below_alloc (Below.refl w.heap.size w) (.cells #[.int .u8 k, .int .u64 x, .int .i64 vd, .int .i64 vs] 27))
  have HX0 := Lk.mk (blk_new w (.cells #[.int .u8 k, .int .u64 x, .int .i64 vd, .int .i64 vs] 27))
  obtain ⟨v0, v1, v2, v3⟩ := hv
  dsimp only at *
  clear h hr he hA hd ho hat hw hc1
  generalize l.getD dn Sl.dFr = fr at *
  have hcase : (at_ : Int) < ws.length ∨ ¬ ((at_ : Int) < ws.length) := Decidable.em _
  rcases hcase with hlt | hlt
  · have hin : inL ws.length at_ 1 = true := by unfold inL; simp only [Bool.and_eq_true, decide_eq_true_eq]; omega
    rw [hin] at HIN
    clear hin
    cases mv <;> cases pt <;> by_cases hk1 : k = 1
    all_goals (try subst hk1)
    all_goals go_enter Tryd.func45, Tryd.ntmps45
    all_goals (go_wp2_with (first
      | (go_at_call 20; (with_reducible refine (HAd.out _ H0.out).mono ?_); rintro e w1 ⟨rfl, hb⟩; have HX1 := Lk.mk (blk_below HX0.out hb); obtain ⟨c0, c1, c2, c3⟩ := cells4 HX1.out; have HB := Lk.mk (below_then H0.out H0.out.size hb); clear hb)
      | (go_at_call 75; (with_reducible refine (HIN.out _ HB.out).mono ?_); rintro e w' ⟨rfl, rfl⟩)
      | (go_at_call 64; (with_reducible refine (HM.out _).mono ?_); rintro e w2 ⟨rfl, hb⟩; have HX2 := Lk.mk (blk_below HX1.out hb); obtain ⟨d0, d1, d2, d3⟩ := cells4 HX2.out; have HB := Lk.mk (below_then HB.out HB.out.size hb); have f1 := HC.out _ HB.out; clear hb)
      | (go_at_call 92; (with_reducible refine (HW.out _ HB.out).mono ?_); rintro e w4 ⟨y, n, hy, hn, rfl, hb⟩; have HB := Lk.mk (below_then HB.out HB.out.size hb); clear hb)
      | (go_at_call 61; (with_reducible refine (HST.out _ _ hy HB.out hlt).mono ?_); rintro e w5 ⟨rfl, hp⟩)))
    all_goals (try (go_ret; first
      | exact ⟨_, rfl, hp⟩
      | exact ⟨_, rfl, PutL.none HAr.out HB.out (by omega)⟩))
    all_goals (
      have HX2d := Lk.mk (blk_drew HX2.out)
      obtain ⟨t0, t1, t2, t3⟩ := cells4 HX2d.out
      have HBd := Lk.mk (below_drew HB.out)
      have tf := HC.out _ HBd.out
      first
        | (go_region_held3 (fun W => W.cell? ⟨w.heap.size, 0, none⟩ = some (.int .u8 k) ∧ W.cell? ⟨(ad.add (dn * 3)).block, (ad.add (dn * 3)).off + 1, none⟩ = some (.int .i64 fr.2.1)) (first | exact ⟨t0, tf⟩ | exact ⟨e0, ef⟩) (first
        | (go_at_call 87; (with_reducible refine (HP.out _ HBd.out).mono ?_); rintro e w3 ⟨rfl, hb⟩; have HX3 := Lk.mk (blk_below HX2d.out hb); obtain ⟨e0, e1, e2, e3⟩ := cells4 HX3.out; have HB := Lk.mk (below_then HBd.out HBd.out.size hb); have ef := HC.out _ HB.out; clear hb)))
        | (go_region_held3 (fun W => W.cell? ⟨w.heap.size, 0, none⟩ = some (.int .u8 1) ∧ W.cell? ⟨(ad.add (dn * 3)).block, (ad.add (dn * 3)).off + 1, none⟩ = some (.int .i64 fr.2.1)) (first | exact ⟨t0, tf⟩ | exact ⟨e0, ef⟩) (first
        | (go_at_call 87; (with_reducible refine (HP.out _ HBd.out).mono ?_); rintro e w3 ⟨rfl, hb⟩; have HX3 := Lk.mk (blk_below HX2d.out hb); obtain ⟨e0, e1, e2, e3⟩ := cells4 HX3.out; have HB := Lk.mk (below_then HBd.out HBd.out.size hb); have ef := HC.out _ HB.out; clear hb))))
    all_goals (go_wp2_with (first
      | (go_at_call 92; (with_reducible refine (HW.out _ HB.out).mono ?_); rintro e w4 ⟨y, n, hy, hn, rfl, hb⟩; have HB := Lk.mk (below_then HB.out HB.out.size hb); clear hb)
      | (go_at_call 61; (with_reducible refine (HST.out _ _ hy HB.out hlt).mono ?_); rintro e w5 ⟨rfl, hp⟩)))
    all_goals (try (go_ret; first
      | exact ⟨_, rfl, hp⟩
      | exact ⟨_, rfl, PutL.none HAr.out HB.out (by omega)⟩
      | exact ⟨_, rfl, PutL.none HAr.out HB.out (by rename_i hq; have hq2 : ¬ n = 0 := (by simpa using hq); omega)⟩))
  · have hin : inL ws.length at_ 1 = false := by
      cases hq : inL ws.length at_ 1 with
      | false => rfl
      | true => have := inL_true hq; omega
    rw [hin] at HIN
    clear hin
    go_enter Tryd.func45, Tryd.ntmps45
    go_wp2_with (first
      | (go_at_call 20; (with_reducible refine (HAd.out _ H0.out).mono ?_); rintro e w1 ⟨rfl, hb⟩; have HB := Lk.mk (below_then H0.out H0.out.size hb); clear hb)
      | (go_at_call 75; (with_reducible refine (HIN.out _ HB.out).mono ?_); rintro e w' ⟨rfl, rfl⟩))
    all_goals go_ret
    all_goals exact ⟨_, rfl, PutL.none HAr.out HB.out (by omega)⟩
end Go.Proofs.YtbikdngpannekaaDoor
