/-
  Several texts as one.
-/
import Derived.Test.YtcepafllgjnngaaDoorK4
import Derived.Test.YtcepafllgjnngaaDoorV9
import Derived.Test.YtcepafllgjnngaaDoorVl
import Derived.Test.YtcepafllgjnngaaDoorPa
/-
  Plain: what a stack's move keeps; conditions: none.
-/
namespace Go.Proofs.YtcepafllgjnngaaDoor
open Go.RowKit Go.Proofs.YtcepafllgjnngaaDoorW.PrintWords

theorem fr_link {pt : Int → List Int} {ent : List (Int × (List Int × List Int))} (hp : PtIn pt ent) (he : EntIn ent) {ws : List Int} {lo size sp : Nat} (h0 : mayS ws.length ((lo : Int), ((size : Int), (sp : Int))) = true) (hf : (framesA ws ent ((lo : Int), ((size : Int), (sp : Int)))).2 = 0) :
    ∀ x ∈ (framesA ws ent ((lo : Int), ((size : Int), (sp : Int)))).1, x.2.2 = -1 ∨ ((sp : Int) ≤ x.2.2 ∧ x.2.2 < lo + size) := by
  obtain ⟨l, hl, hF⟩ := framesA_walk h0 hf
  rw [hF]
  dsimp only
  intro x hx
  have hx' := List.mem_reverse.1 hx
  obtain ⟨b, e, hb, hs⟩ := walk_mem (stp_says (ws := ws) (hi := lo + size) he).up _ _ l (Nat.le_refl _) hl x hx'
  obtain ⟨_, ho, hxx, _, q3, q4, q5⟩ := stp_some he hs
  have e1 : x.1 = b := by rw [hxx]
  have hlo := (fr_walk hp he hl x hx').lo
  by_cases hh : e = lo + size
  · rw [if_pos hh] at q5; left; omega
  · rw [if_neg hh] at q5; right; omega
/-- a pointer slot has nothing, or tells a word of the stack -/
theorem slot_good {pt : Int → List Int} {ent : List (Int × (List Int × List Int))} (hp : PtOk pt ent) (he : EntIn ent) {ws : List Int} (hbig : ws.length ≤ 65536) {lo size sp : Nat} (h0 : mayS ws.length ((lo : Int), ((size : Int), (sp : Int))) = true) (hf : (framesA ws ent ((lo : Int), ((size : Int), (sp : Int)))).2 = 0) (ha : AllOk ent ws (framesA ws ent ((lo : Int), ((size : Int), (sp : Int)))).1) :
    ∀ x ∈ (framesA ws ent ((lo : Int), ((size : Int), (sp : Int)))).1, ∀ i ∈ pt x.2.1, 0 ≤ x.1 ∧ 0 ≤ i ∧ x.1 + 2 + i < ws.length ∧ (ws.getD (x.1 + 2 + i).toNat 0 = 0 ∨ ((sp : Int) < ws.getD (x.1 + 2 + i).toNat 0 ∧ ws.getD (x.1 + 2 + i).toNat 0 < lo + size)) := by
  obtain ⟨l, hl, hF⟩ := framesA_walk h0 hf
  obtain ⟨lo2, size2, sp2, e, m1, m2, m3⟩ := mayS_nat h0
  obtain ⟨rfl, rfl, rfl⟩ : lo = lo2 ∧ size = size2 ∧ sp = sp2 := by
    have e1 := congrArg Prod.fst e
    have e2 := congrArg (fun q => q.2.1) e
    have e3 := congrArg (fun q => q.2.2) e
    dsimp only at e1 e2 e3
    omega
  rw [hF] at ha ⊢
  dsimp only at ha ⊢
  intro x hx i hi
  have hfr := fr_walk hp.1 he hl
  have hx' := List.mem_reverse.1 hx
  have hxf := hfr x hx'
  obtain ⟨i1, i2⟩ := (hp.1 x.2.1).2 i hi
  have htw := tWords_size hxf.two
  obtain ⟨d, hd, hdx⟩ := List.getElem_of_mem hx
  have hdx' : l.reverse.getD d Sl.dFr = x := by rw [List.getD_eq_getElem?_getD, List.getElem?_eq_getElem hd, hdx]; rfl
  have hlo := hxf.lo
  have hhi := hxf.hi_
  have hnn := hxf.nn
  refine ⟨hnn, i1, by omega, ?_⟩
  have hsz := sizeS_at (ent := ent) hxf.nn (by omega) hxf.two
  obtain ⟨j, rfl⟩ := Int.eq_ofNat_of_zero_le i1
  have hg := ha d j hd (by rw [hdx', hsz]; omega)
  unfold getV at hg
  have hao : Sl.addrOk (tSize ent) l.reverse (d : Int) (j : Int) = true := by
    unfold Sl.addrOk
    rw [Int.toNat_natCast, hdx', hsz]
    simp only [Bool.and_eq_true, decide_eq_true_eq]
    omega
  rw [if_pos hao, Int.toNat_natCast, hdx', if_pos (by omega), if_pos ((hp.2 x.2.1 j (by omega) (by omega)).2 hi)] at hg
  generalize ws.getD (x.1 + 2 + (j : Int)).toNat 0 = y at *
  by_cases hy : y = 0
  · exact .inl hy
  · rw [if_neg hy] at hg
    by_cases hb : 4611686018427387904 < y
    · rw [if_pos hb] at hg; cases hg
    · rw [if_neg hb] at hg
      by_cases hfd : Sl.findB (tSize ent) l.reverse y = true ∧ Sl.findD (tSize ent) l.reverse y ≤ (d : Int)
      · cases hq : Sl.findAt (tSize ent) l.reverse y with
        | none => have := Sl.find_no hq; rw [this.2.2] at hfd; exact absurd hfd.1 (by decide)
        | some m =>
          unfold Sl.findAt at hq
          obtain ⟨hml, hh, _⟩ := List.findIdx?_eq_some_iff_getElem.1 hq
          have hmf := hfr _ (List.mem_reverse.1 (List.getElem_mem hml))
          have h4 := (hit_iff _ _ _).1 hh
          have h5 := hmf.lo
          have h6 := hmf.hi_
          have h7 := tWords_size hmf.two
          right
          omega
      · rw [if_neg hfd] at hg; cases hg
theorem list_ext0 {l m : List Int} (hl : l.length = m.length) (h : ∀ j, j < l.length → l.getD j 0 = m.getD j 0) : l = m := by
  apply List.ext_getElem hl
  intro j h1 h2
  have := h j h1
  rwa [List.getD_eq_getElem?_getD, List.getElem?_eq_getElem h1, List.getD_eq_getElem?_getD, List.getElem?_eq_getElem h2] at this
/-- what stands where a stack was -/
structure Kps (ent : List (Int × (List Int × List Int))) (pt : Int → List Int) (ws1 : List Int) (lo size : Nat) (F G : List Sl.Fr) : Prop where
  len : G.length = F.length
  fn : ∀ d, d < F.length → (G.getD d Sl.dFr).2.1 = (F.getD d Sl.dFr).2.1
  link : ∀ d, d < F.length → (G.getD d Sl.dFr).2.2 = -1 ∨ (0 ≤ (G.getD d Sl.dFr).2.2 ∧ (G.getD d Sl.dFr).2.2 ≤ 65536 ∧ ((G.getD d Sl.dFr).2.2 < lo ∨ (lo : Int) + size ≤ (G.getD d Sl.dFr).2.2))
  slot : ∀ d, d < F.length → ∀ i ∈ pt (G.getD d Sl.dFr).2.1, 0 ≤ (G.getD d Sl.dFr).1 ∧ 0 ≤ i ∧ (G.getD d Sl.dFr).1 + 2 + i < ws1.length ∧ (ws1.getD ((G.getD d Sl.dFr).1 + 2 + i).toNat 0 = 0 ∨ ws1.getD ((G.getD d Sl.dFr).1 + 2 + i).toNat 0 < lo ∨ (lo : Int) + size ≤ ws1.getD ((G.getD d Sl.dFr).1 + 2 + i).toNat 0)
theorem keeps_plain {pt : Int → List Int} {ent : List (Int × (List Int × List Int))} (hp : PtOk pt ent) (he : EntIn ent) {ws : List Int} (hbig : ws.length ≤ 65536) {lo size sp lo' size' k' : Nat} (h : ToN ws ent lo size sp lo' size' k') {W : List Int} (hW : W = toW pt ws ent ((lo : Int), ((size : Int), (sp : Int))) lo' size') {G0 F0 : List Sl.Fr} (hF0 : F0 = (framesA ws ent ((lo : Int), ((size : Int), (sp : Int)))).1) (hG0 : G0 = F0.map (shF ((k' : Int) - sp))) :
    framesA W ent ((lo' : Int), ((size' : Int), (k' : Int))) = (G0, 0) ∧ AllOk ent W G0 ∧ rowsTo (tSize ent) (getV (tSize ent) (tPtr ent) W G0) G0 G0.length = rowsTo (tSize ent) (getV (tSize ent) (tPtr ent) ws F0) F0 F0.length ∧ (W.drop lo).take size = (ws.drop lo).take size ∧ Kps ent pt W lo size F0 G0 := by
  have h1 := h.k2
  have h2 := h.sp2
  have h3 := h.in_
  have h4 := h.in2
  have h5 := h.k1
  have h6 := h.apart
  have hWl : W.length = ws.length := by rw [hW]; exact toW_len h
  have hS := toW_sft hp he (ws' := W) h hWl (fun q _ _ => by rw [hW])
  obtain ⟨M, hM⟩ := moved hp he hbig h.may h.may2 h.er hS
  have hA := allOk_moved M h.all_
  have hall := h.all_
  rw [← hF0] at M hM hA hall
  rw [← hG0] at hM hA
  have hGl : G0.length = F0.length := by rw [hG0, List.length_map]
  have hm2 : mayS W.length ((lo' : Int), ((size' : Int), (k' : Int))) = true := by rw [hWl]; exact h.may2
  have hL := fr_link hp.1 he hm2 (by rw [hM])
  have hSl := slot_good hp he (by rw [hWl]; exact hbig) hm2 (by rw [hM]) (by rw [hM]; exact hA)
  rw [hM] at hL hSl
  dsimp only at hL hSl
  have hmemG : ∀ d, d < F0.length → G0.getD d Sl.dFr ∈ G0 := fun d hd => getD_mem _ (by rw [hGl]; exact hd)
  have hGd : ∀ d, d < F0.length → G0.getD d Sl.dFr = shF ((k' : Int) - sp) (F0.getD d Sl.dFr) := fun d hd => by rw [hG0]; exact getD_map_sh hd
  refine ⟨hM, hA, ?_, ?_, hGl, fun d hd => by rw [hGd d hd]; rfl, fun d hd => ?_, fun d hd i hi => ?_⟩
  · unfold rowsTo
    rw [hGl]
    apply List.map_congr_left
    intro d hd
    have hd := List.mem_range.1 hd
    have hx : F0.getD d Sl.dFr ∈ F0 := getD_mem _ hd
    have hr := M.rng hx
    have hf := M.fr _ hx
    rw [hGd d hd, sizeS_at (ent := ent) (x := shF ((k' : Int) - sp) (F0.getD d Sl.dFr)) hr.2.2.1 hr.2.2.2 hf.two, show (shF ((k' : Int) - sp) (F0.getD d Sl.dFr)).2.1 = (F0.getD d Sl.dFr).2.1 from rfl, ← sizeS_at (ent := ent) hr.1 hr.2.1 hf.two]
    unfold rowTo
    apply List.map_congr_left
    intro i hi
    have hi := List.mem_range.1 hi
    have e1 := hall d i hd (by omega)
    have e2 := getV_shift M (d := d) (i := (i : Int)) (v := (getV (tSize ent) (tPtr ent) ws F0 d i).1) (Prod.ext rfl e1)
    rw [← hG0] at e2
    rw [e2]
  · apply list_ext0
    · rw [List.length_take, List.length_take, List.length_drop, List.length_drop, hWl]
    · intro j hj
      rw [List.length_take, List.length_drop, hWl] at hj
      have hg := toW_get hp he h (lo + j)
      rw [← hW, if_neg (by omega)] at hg
      rw [List.getD_eq_getElem?_getD, List.getElem?_take, if_pos (by omega), List.getElem?_drop, List.getD_eq_getElem?_getD, List.getElem?_take, if_pos (by omega), List.getElem?_drop, ← List.getD_eq_getElem?_getD, ← List.getD_eq_getElem?_getD]
      exact hg
  · rcases hL _ (hmemG d hd) with hl | hl
    · exact .inl hl
    · refine .inr ⟨by omega, by omega, by omega⟩
  · obtain ⟨s1, s2, s3, s4⟩ := hSl _ (hmemG d hd) i hi
    refine ⟨s1, s2, s3, ?_⟩
    rcases s4 with s4 | s4
    · exact .inl s4
    · refine .inr (by omega)
end Go.Proofs.YtcepafllgjnngaaDoor

/-
  The walks of law 17's inside, reference 17's Slot, reference 16's Same at rows that are the same. Conditions: what is handed in reads as told.
-/
namespace Go.Proofs.YtcepafllgjnngaaDoor
open Go.RowKit Go.Proofs.YtcepafllgjnngaaDoorW.PrintWords

theorem kRw_at {w : World} {A : Option Addr} {n : Nat} {l : List (List Sl.Vl)} (h : kRw.C w A n l) (k : Nat) (hk : k < n) : ∃ ad A1 c1, A = some ad ∧ w.cell? (ad.add k) = some (.slice A1 (l.getD k []).length c1) ∧ (l.getD k []).length ≤ c1 ∧ kVl.C w A1 (l.getD k []).length (l.getD k []) := by
  obtain ⟨ad, c, e, _, ⟨A1, n1, rfl, hl1, h1⟩, hc⟩ := ReadsRow.get_ h [] (k : Int) (by omega) (by omega)
  rw [Int.toNat_natCast] at h1 hl1 hc
  have hc0 := hc 0 _ rfl
  rw [Nat.add_zero] at hc0
  refine ⟨ad, A1, n1, e, ?_, hl1, h1⟩
  rw [show ad.add k = ad.add (k * kRw.sz) by rw [show kRw.sz = 1 from rfl, Nat.mul_one]]; exact hc0
set_option maxRecDepth 100000 in
set_option maxHeartbeats 2000000 in
theorem inside17_no (lo size : Nat) (p v : Int) (w : World) (hs : lo + size ≤ 65536) (h0 : 0 ≤ v) (hv : v < lo ∨ (lo : Int) + size ≤ v) :
    Calls Tryd.prog 38 #[.agg #[.int .i64 lo, .int .i64 size, .int .i64 p], .int .u64 v] w fun e w' => e = .returned (.bool false) ∧ Below w.heap.size w w' := by
  have H0 := Lk.mk (below_alloc (Below.refl w.heap.size w) (.cells #[.int .i64 lo, .int .i64 size, .int .i64 p] 41))
  have HX := Lk.mk (blk_new w (.cells #[.int .i64 lo, .int .i64 size, .int .i64 p] 41))
  obtain ⟨c0, c1, c2⟩ := cells3m HX.out
  have hw1 : IntKind.u64.wrap (lo : Int) = (lo : Int) := by unfold IntKind.wrap; show (lo : Int) % 18446744073709551616 = lo; omega
  have hw2 : IntKind.u64.wrap ((lo : Int) + size) = (lo : Int) + size := by unfold IntKind.wrap; show ((lo : Int) + size) % 18446744073709551616 = lo + size; omega
  by_cases h1 : (lo : Int) ≤ v
  · have h2 : ¬ v < (lo : Int) + size := by omega
    clear hv
    go_enter Tryd.func38, Tryd.ntmps38
    go_wp2
    go_ret
    exact ⟨rfl, H0.out⟩
  · clear hv
    go_enter Tryd.func38, Tryd.ntmps38
    go_wp2
    go_ret
    exact ⟨rfl, H0.out⟩
set_option maxRecDepth 100000 in
set_option maxHeartbeats 2000000 in
theorem slot17_any (x : Sl.Fr) (i : Int) (w : World) (h0 : 0 ≤ x.1) (h1 : 0 ≤ i) (h2 : x.1 + 2 + i ≤ 65536) :
    Calls Tryd.prog 40 #[.agg #[.int .i64 x.1, .int .i64 x.2.1, .int .i64 x.2.2], .int .i64 i] w fun e w' => e = .returned (.int .i64 (x.1 + 2 + i)) ∧ Below w.heap.size w w' := by
  obtain ⟨x0, x1, x2⟩ := x
  dsimp only at *
  have H0 := Lk.mk (below_alloc (Below.refl w.heap.size w) (.cells #[.int .i64 x0, .int .i64 x1, .int .i64 x2] 79))
  have HX := Lk.mk (blk_new w (.cells #[.int .i64 x0, .int .i64 x1, .int .i64 x2] 79))
  obtain ⟨c0, c1, c2⟩ := cells3m HX.out
  go_enter Tryd.func40, Tryd.ntmps40
  go_wp2
  go_ret
  exact ⟨ret_int (by omega), H0.out⟩
set_option maxRecDepth 100000 in
set_option maxHeartbeats 8000000 in
theorem rsame16_eq (A : Option Addr) (c : Nat) (B : Option Addr) (d : Nat) (l : List (List Sl.Vl)) (w : World) (hr : kRw.C w A l.length l) (hr2 : kRw.C w B l.length l) :
    Calls Tryd.prog 35 #[.slice A l.length c, .slice B l.length d] w fun e w' => e = .returned (.bool true) ∧ Below w.heap.size w w' := by
  have hm1 := hr.2.1
  have HR := Lk.mk hr
  have HR2 := Lk.mk hr2
  clear hr hr2
  go_enter Tryd.func35, Tryd.ntmps35
  go_wp2
  go_loopg [14] l.length (fun gg v14 wr => ∃ k : Nat, k ≤ l.length ∧ l.length - k ≤ gg ∧ v14 = .int .i64 k ∧ Lk (Below w.heap.size w wr))
  case atStart => exact ⟨0, by omega, by omega, rfl, ⟨Below.refl _ _⟩⟩
  case round =>
    obtain ⟨k, hk, hg, rfl, HB⟩ := hrel
    obtain ⟨wo, rfl⟩ : ∃ wo : World, wo = wr := ⟨_, rfl⟩
    by_cases hlt : k < l.length
    · have hltz : (k : Int) < (l.length : Int) := by omega
      obtain ⟨ad1, A1, c1, rfl, a0, _, ha⟩ := kRw_at (Kd.C_below HR.out HB.out) k hlt
      obtain ⟨ad2, A2, c2, rfl, b0, _, hb⟩ := kRw_at (Kd.C_below HR2.out HB.out) k hlt
      generalize l.getD k [] = x1 at *
      have hn1 := ha.2.1
      have HA := Lk.mk ha
      have HBv := Lk.mk hb
      have HA1 := Lk.mk a0
      have HB1 := Lk.mk b0
      clear ha hb
      go_wp2
      go_region
      go_wp2
      go_loopg [33] x1.length (fun gg v33 W3 => ∃ i : Nat, i ≤ x1.length ∧ x1.length - i ≤ gg ∧ v33 = .int .i64 i ∧ Lk (Below wo.heap.size wo W3))
      case atStart => exact ⟨0, by omega, by omega, rfl, ⟨below_drew (Below.refl _ _)⟩⟩
      case round =>
        obtain ⟨i, hi, hg3, rfl, HB3⟩ := hrel
        have a1' := pw_cell_below HB3.out HA1.out
        have b1' := pw_cell_below HB3.out HB1.out
        clear a0 b0
        by_cases hil : i < x1.length
        · have hiz : (i : Int) < (x1.length : Int) := by omega
          obtain ⟨ad3, rfl, p0, p1, p2, p3⟩ := kVl_at (Kd.C_below HA.out HB3.out) i hil
          obtain ⟨ad4, rfl, q0, q1, q2, q3⟩ := kVl_at (Kd.C_below HBv.out HB3.out) i hil
          generalize x1.getD i Sl.dVl = s at *
          obtain ⟨s0, s1, s2, s3⟩ := s
          dsimp only at *
          go_wp2
          go_region
          go_wp2
          go_roundg (x1.length - (i + 1))
          case measure => omega
          case rel => exact ⟨i + 1, by omega, by omega, by go_num, ⟨below_drew HB3.out⟩⟩
        · have hiz : ¬ (i : Int) < (x1.length : Int) := by omega
          obtain rfl : i = x1.length := by omega
          go_wp2
          go_roundg (l.length - (k + 1))
          case measure => omega
          case rel => exact ⟨k + 1, by omega, by omega, by go_num, ⟨below_then HB.out HB.out.size HB3.out⟩⟩
    · have hltz : ¬ (k : Int) < (l.length : Int) := by omega
      obtain rfl : k = l.length := by omega
      go_wp2
      go_ret
      exact ⟨rfl, HB.out⟩
end Go.Proofs.YtcepafllgjnngaaDoor
