/-
  The walk of a mover's frame; conditions: the arena and the table read as told, each place that is raised tells a word.
-/
import Derived.Test.YtcepafllgjnngaaDoorV7
import Derived.Test.YtcepafllgjnngaaDoorK4
namespace Go.Proofs.YtcepafllgjnngaaDoor
open Go.RowKit Go.Proofs.YtcepafllgjnngaaDoorW.PrintWords

/-- each place's word is 0, or may be raised -/
def RzOk (b : Int) (ws : List Int) (l : List Nat) : Prop := l.Nodup ∧ ∀ a ∈ l, a < ws.length ∧ (ws.getD a 0 = 0 ∨ (0 ≤ ws.getD a 0 + b ∧ ws.getD a 0 ≤ 4611686018427387904))
theorem RzOk.step {b : Int} {ws : List Int} {l m : List Nat} {a : Nat} (h : RzOk b ws (l ++ a :: m)) : a < (Mv.rzs b ws l).length ∧ ((Mv.rzs b ws l).getD a 0 = 0 ∨ (0 ≤ (Mv.rzs b ws l).getD a 0 + b ∧ (Mv.rzs b ws l).getD a 0 ≤ 4611686018427387904)) := by
  obtain ⟨h1, h2⟩ := h
  rw [List.nodup_append] at h1
  have ha := h2 a (List.mem_append.2 (.inr List.mem_cons_self))
  have hna : a ∉ l := fun hm => h1.2.2 a hm a List.mem_cons_self rfl
  rw [Mv.rzs_len, Mv.rzs_get _ _ _ _ h1.1 (fun c hc => (h2 c (List.mem_append.2 (.inl hc))).1), if_neg (fun e => hna e.1)]
  exact ha
theorem own_stab2 {w : World} {base n b : Nat} {e : TypeId} {A : Option Addr} {c : Nat} {l : List Int} (h : w.ownsRow base e 1 (.slice A n c) n (nums .i64 l)) (hb : b < base) : Stab b (fun W => ReadsInt W .i64 A n l) w :=
  (own_stab h hb).mono fun W ho => by
    obtain ⟨A', c', he, _, _, hr⟩ := own_full ho
    injection he with h1 _ _
    rw [h1]; exact hr
/-- how far a frame's places have been raised -/
def posTo (pt : List Int) (a : Int) (j : Nat) : List Nat := a.toNat :: (pt.take j).map fun i => (a + 2 + i).toNat
theorem posTo_next {pt : List Int} {a : Int} {j : Nat} (h : j < pt.length) : posTo pt a (j + 1) = posTo pt a j ++ [(a + 2 + pt.getD j 0).toNat] := by
  unfold posTo
  rw [List.take_add_one, List.getElem?_eq_getElem h, List.getD_eq_getElem?_getD, List.getElem?_eq_getElem h, List.map_append]
  rfl
theorem posTo_part {pt : List Int} {a : Int} {j : Nat} (h : j < pt.length) : ∃ m, posTo pt a pt.length = posTo pt a j ++ (a + 2 + pt.getD j 0).toNat :: m := by
  refine ⟨(pt.drop (j + 1)).map fun i => (a + 2 + i).toNat, ?_⟩
  unfold posTo
  rw [List.take_length, List.cons_append]
  congr 1
  have e : pt.getD j 0 = pt[j] := by rw [List.getD_eq_getElem?_getD, List.getElem?_eq_getElem h]; rfl
  have e2 : pt = pt.take j ++ (pt[j] :: pt.drop (j + 1)) := by rw [List.getElem_cons_drop, List.take_append_drop]
  rw [e]
  exact (congrArg (List.map fun i => (a + 2 + i).toNat) e2).trans (by rw [List.map_append, List.map_cons])
set_option maxRecDepth 100000 in
set_option maxHeartbeats 8000000 in
theorem mframe_any (g b : Nat) (ws : List Int) (p : Value) (ent : List (Int × (List Int × List Int))) (by_ : Int) (x : Sl.Fr) (w : World) (h : ArB w g b ws) (hS : Stab b (fun W => TblOr W p ent) w) (he : EntIn ent) (hE : ∀ e ∈ ent, e.2.2.length * 8 ≤ 140737488355328) (hb1 : -1099511627776 ≤ by_ ∧ by_ ≤ 1099511627776) (hx : 0 ≤ x.1 + by_ ∧ x.1 + by_ ≤ 1099511627776 ∧ -1099511627776 ≤ x.1 ∧ x.1 ≤ 1099511627776) (hpt : ∀ i ∈ tPtrs ent x.2.1, 0 ≤ i ∧ i < tSize ent x.2.1) (hz : RzOk by_ ws (posTo (tPtrs ent x.2.1) (x.1 + by_) (tPtrs ent x.2.1).length)) :
    Calls Tryd.prog 86 #[.agg #[.pointer (some ⟨g, 0, none⟩), p, .int .i64 by_], .agg #[.int .i64 x.1, .int .i64 x.2.1, .int .i64 x.2.2]] w fun e w' => e = .returned (.tuple #[]) ∧ ArB w' g b (Mv.rzs by_ ws (posTo (tPtrs ent x.2.1) (x.1 + by_) (tPtrs ent x.2.1).length)) ∧ KeepW b w w' := by
  obtain ⟨a0, f, k⟩ := x
  dsimp only at *
  have hs1 : (w.alloc (.cells #[.pointer (some ⟨g, 0, none⟩), p, .int .i64 by_] 150)).heap.size = w.heap.size + 1 := by simp
  have hX00 := blk_new (w.alloc (.cells #[.pointer (some ⟨g, 0, none⟩), p, .int .i64 by_] 150)) (.cells #[.int .i64 a0, .int .i64 f, .int .i64 k] 79)
  rw [hs1] at hX00
  have HX00 := Lk.mk hX00
  have HM00 := Lk.mk (blk_alloc (blk_new w (.cells #[.pointer (some ⟨g, 0, none⟩), p, .int .i64 by_] 150)) (.cells #[.int .i64 a0, .int .i64 f, .int .i64 k] 79))
  obtain ⟨q, hq⟩ : ∃ q : Nat, a0 + by_ = (q : Int) := ⟨(a0 + by_).toNat, by omega⟩
  have hwr : IntKind.i64.wrap (a0 + by_) = (q : Int) := by rw [← hq]; exact IntWalk.i64_in _ (by omega)
  rw [hq] at hz hx ⊢
  have hB0 := below_alloc (below_alloc (Below.refl w.heap.size w) (.cells #[.pointer (some ⟨g, 0, none⟩), p, .int .i64 by_] 150)) (.cells #[.int .i64 (q : Int), .int .i64 f, .int .i64 k] 79)
  have HB0 := Lk.mk hB0
  have HM1 := Lk.mk (blk_alloc (blk_new w (.cells #[.pointer (some ⟨g, 0, none⟩), p, .int .i64 by_] 150)) (.cells #[.int .i64 (q : Int), .int .i64 f, .int .i64 k] 79))
  have hX1 := blk_new (w.alloc (.cells #[.pointer (some ⟨g, 0, none⟩), p, .int .i64 by_] 150)) (.cells #[.int .i64 (q : Int), .int .i64 f, .int .i64 k] 79)
  rw [hs1] at hX1
  have HX1 := Lk.mk hX1
  have HPT := Lk.mk hpt
  have HZ := Lk.mk hz
  have hz0 : q < ws.length ∧ (ws.getD q 0 = 0 ∨ (0 ≤ ws.getD q 0 + by_ ∧ ws.getD q 0 ≤ 4611686018427387904)) := hz.2 q (by unfold posTo; rw [Int.toNat_natCast]; exact List.mem_cons_self)
  have hbl := h.lt
  have HR0 := Lk.mk (raise_any g b ws p by_ q _ (h.below hB0) hz0.1 hb1 hz0.2)
  have HRA := Lk.mk (fun W ws' a (hA : ArB W g b ws') ha hg => raise_any g b ws' p by_ a W hA ha hb1 hg)
  have HSB := Lk.mk hS
  have HPS := Lk.mk (fun W (ht : TblOr W p ent) => ptrs_any p ent f W ht hE)
  have HSL := Lk.mk (fun W (i : Int) (ht : TblOr W p ent) (hi : 0 ≤ i ∧ i < tSize ent f) => fslot_ok p ent ((q : Int), (f, k)) i W ht (by dsimp only; omega) he hi)
  dsimp only at HSL
  obtain ⟨m0, m1, m2, _, _, _⟩ := cells3 HM00.out
  obtain ⟨s0, s1, s2, u0, u1, u2⟩ := cells3 HX00.out
  have HBL := Lk.mk hbl
  obtain ⟨n0, n1, n2, _, _, _⟩ := cells3 HM1.out
  obtain ⟨t0, t1, t2, _, _, _⟩ := cells3 HX1.out
  clear h hS he hE hpt hz hz0 hX00 hX1 hs1 hB0 hx hq
  generalize tPtrs ent f = P at *
  go_enter Tryd.func86, Tryd.ntmps86
  go_wp2_with (first
    | (go_at_call 134; (with_reducible refine (HR0.out).mono ?_); rintro e w1 ⟨rfl, ha, hk⟩; have HA1 := Lk.mk ha; have HK1 := Lk.mk ((KeepW.of_below HB0.out b).trans hk); have HM2 := Lk.mk ((hk.block _ (blk_lt HM1.out) (by have := HBL.out; omega)).trans HM1.out); have HX2 := Lk.mk ((hk.block _ (blk_lt HX1.out) (by have := HBL.out; omega)).trans HX1.out); obtain ⟨c0, c1, c2, _, _, _⟩ := cells3 HM2.out; obtain ⟨d0, d1, d2, _, _, _⟩ := cells3 HX2.out; clear ha hk)
    | (go_at_call 14; go_loud ((with_reducible refine (HPS.out _ (HSB.out.keep HK1.out).now).mono ?_); rintro e w2 ⟨v, rfl, ho, hb⟩; obtain ⟨AP, cP, rfl, _, hPl, _⟩ := own_full ho; have HA2 := Lk.mk (HA1.out.below hb); have HK2 := Lk.mk (HK1.out.trans (KeepW.of_below hb b)); have HO2 := Lk.mk (own_stab2 ho (show b < w1.heap.size from Nat.lt_of_lt_of_le HBL.out HK1.out.size)); have HM3 := Lk.mk (blk_below HM2.out hb); have HX3 := Lk.mk (blk_below HX2.out hb); clear ho hb)))
  have hmP := (HO2.out.now).2.1
  go_loopg [24] P.length (fun gg v24 wr => ∃ j : Nat, j ≤ P.length ∧ P.length - j ≤ gg ∧ v24 = .int .i64 j ∧ Lk (ArB wr g b (Mv.rzs by_ ws (posTo P (q : Int) j))) ∧ Lk (KeepW b w2 wr))
  case atStart => exact ⟨0, by omega, by omega, rfl, ⟨by have h9 := HA2.out; unfold posTo; rw [List.take_zero, Int.toNat_natCast]; exact h9⟩, ⟨KeepW.refl _ _⟩⟩
  case round =>
    obtain ⟨j, hj, hg, rfl, HA, HK⟩ := hrel
    have HMr := Lk.mk ((HK.out.block _ (blk_lt HM3.out) (by have := HBL.out; omega)).trans HM3.out)
    have HXr := Lk.mk ((HK.out.block _ (blk_lt HX3.out) (by have := HBL.out; omega)).trans HX3.out)
    obtain ⟨e0, e1, e2, _, _, _⟩ := cells3 HMr.out
    obtain ⟨f0, f1, f2, _, _, _⟩ := cells3 HXr.out
    by_cases hlt : j < P.length
    · have hltz : (j : Int) < (P.length : Int) := by omega
      obtain ⟨adP, hAP, hcP⟩ := ((HO2.out.keep HK.out).now).at_ (j : Int) (by omega) (by omega)
      subst hAP
      rw [Int.toNat_natCast, rdk] at hcP
      have hi := HPT.out (P.getD j 0) (getD_mem _ hlt)
      have HN := Lk.mk (posTo_next (a := (q : Int)) hlt)
      obtain ⟨m, hm⟩ := posTo_part (a := (q : Int)) hlt
      have hz9 := HZ.out
      rw [hm] at hz9
      have hst := hz9.step
      generalize P.getD j 0 = i at *
      obtain ⟨r, hr⟩ : ∃ r : Nat, (q : Int) + 2 + i = (r : Int) := ⟨((q : Int) + 2 + i).toNat, by omega⟩
      have HSLx := Lk.mk (HSL.out wr i (HSB.out.keep (HK2.out.trans HK.out)).now hi)
      rw [hr] at HSLx HN hst
      rw [Int.toNat_natCast] at HN hst
      have HRX := Lk.mk (fun W (hA : ArB W g b (Mv.rzs by_ ws (posTo P (q : Int) j))) => HRA.out W _ r hA hst.1 hst.2)
      clear hst hz9 hm hi hr
      go_wp2_with (first
        | (go_at_call 135; (with_reducible refine (HSLx.out).mono ?_); rintro e w3 ⟨rfl, hb⟩; have HA3 := Lk.mk (HA.out.below hb); have HK3 := Lk.mk (HK.out.trans (KeepW.of_below hb b)); have HMs := Lk.mk (blk_below HMr.out hb); obtain ⟨y0, y1, y2, _, _, _⟩ := cells3 HMs.out; clear hb)
        | (go_at_call 134; (with_reducible refine (HRX.out _ HA3.out).mono ?_); rintro e w4 ⟨rfl, ha, hk⟩; have HA4 := Lk.mk ha; have HK4 := Lk.mk (HK3.out.trans hk); clear ha hk))
      go_roundg (P.length - (j + 1))
      case measure => omega
      case rel => exact ⟨j + 1, by omega, by omega, by go_num, ⟨by rw [HN.out, Mv.rzs_snoc]; exact HA4.out⟩, HK4⟩
    · obtain rfl : j = P.length := by omega
      have hltz : ¬ (P.length : Int) < (P.length : Int) := by omega
      go_wp2
      simp [bodyPost, results, Tryd.results86]
      exact ⟨HA.out, HK2.out.trans HK.out⟩
end Go.Proofs.YtcepafllgjnngaaDoor
