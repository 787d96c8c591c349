/-
  What move.To's loop writes, frame by frame. Conditions: plain.
-/
import Derived.Test.YtcepafllgjnngaaDoorVd
import Derived.Test.YtcepafllgjnngaaDoorK4
import Derived.Test.YtcepafllgjnngaaDoorV8
namespace Go.Proofs.YtcepafllgjnngaaDoor
open Go.RowKit Go.Proofs.YtcepafllgjnngaaDoorW.PrintWords

def posT (pt : Int → List Int) (b : Int) (l : List Sl.Fr) : List Nat := l.flatMap fun x => posTo (pt x.2.1) (x.1 + b) (pt x.2.1).length
theorem posT_next {pt : Int → List Int} {b : Int} {F : List Sl.Fr} {j : Nat} (h : j < F.length) : posT pt b (F.take (j + 1)) = posT pt b (F.take j) ++ posTo (pt (F.getD j Sl.dFr).2.1) ((F.getD j Sl.dFr).1 + b) (pt (F.getD j Sl.dFr).2.1).length := by
  unfold posT
  rw [List.take_add_one, List.flatMap_append, List.getElem?_eq_getElem h]
  have e : F.getD j Sl.dFr = F[j] := by rw [List.getD_eq_getElem?_getD, List.getElem?_eq_getElem h]; rfl
  rw [e]
  simp
theorem posT_part {pt : Int → List Int} {b : Int} {F : List Sl.Fr} {j : Nat} (h : j < F.length) : ∃ m, posT pt b F = (posT pt b (F.take j) ++ posTo (pt (F.getD j Sl.dFr).2.1) ((F.getD j Sl.dFr).1 + b) (pt (F.getD j Sl.dFr).2.1).length) ++ m := by
  refine ⟨posT pt b (F.drop (j + 1)), ?_⟩
  rw [← posT_next h]
  unfold posT
  rw [← List.flatMap_append, List.take_append_drop]
theorem RzOk.part {b : Int} {ws : List Int} {l m r : List Nat} (h : RzOk b ws ((l ++ m) ++ r)) : RzOk b (Mv.rzs b ws l) m := by
  obtain ⟨h1, h2⟩ := h
  rw [List.nodup_append] at h1
  have h3 := h1.1
  rw [List.nodup_append] at h3
  refine ⟨h3.2.1, fun a ha => ?_⟩
  have hna : a ∉ l := fun hm => h3.2.2 a hm a ha rfl
  rw [Mv.rzs_len, Mv.rzs_get _ _ _ _ h3.1 (fun c hc => (h2 c (List.mem_append.2 (.inl (List.mem_append.2 (.inl hc))))).1), if_neg (fun e => hna e.1)]
  exact h2 a (List.mem_append.2 (.inl (List.mem_append.2 (.inr ha))))
theorem frames_good {pt : Int → List Int} {ent : List (Int × (List Int × List Int))} (hp : PtOk pt ent) (he : EntIn ent) {ws : List Int} {lo size sp lo' size' k' : Nat} (h : ToN ws ent lo size sp lo' size' k') : ∀ x ∈ (framesA ws ent ((lo : Int), ((size : Int), (sp : Int)))).1, FrAt pt ent ws sp (lo + size) (posL pt (framesA ws ent ((lo : Int), ((size : Int), (sp : Int)))).1) x := by
  obtain ⟨l, hl, hF⟩ := framesA_walk h.may h.er
  rw [hF]
  have hmem : ∀ p, p ∈ posL pt l.reverse ↔ p ∈ posL pt l := fun p => (posL_rev pt l).mem_iff
  intro x hx
  have h := fr_walk hp.1 he hl x (List.mem_reverse.1 hx)
  exact ⟨h.nn, h.lo, h.hi_, h.two, (hmem _).2 h.link, fun i h1 h2 => (hmem _).trans (h.slot i h1 h2), h.word⟩
theorem posT_eq {pt : Int → List Int} {k k' : Nat} : ∀ {F : List Sl.Fr}, (∀ x ∈ F, (k : Int) ≤ x.1 ∧ ∀ i ∈ pt x.2.1, 0 ≤ i) → posT pt ((k' : Int) - k) F = (posL pt F).map fun p => p - k + k'
  | [], _ => rfl
  | x :: F, h => by
    have ih := posT_eq (k' := k') (F := F) (fun y hy => h y (List.mem_cons_of_mem _ hy))
    have hx := h x List.mem_cons_self
    unfold posT posL at *
    rw [List.flatMap_cons, List.flatMap_cons, List.map_append, ih]
    congr 1
    unfold posTo posF
    rw [List.take_length, List.map_cons, List.map_map]
    congr 1
    · have := hx.1; omega
    · refine List.map_congr_left fun i hi => ?_
      have h1 := hx.1
      have h2 := hx.2 i hi
      show (x.1 + ((k' : Int) - k) + 2 + i).toNat = (x.1 + 2 + i).toNat - k + k'
      omega
theorem ptIn_nn {pt : Int → List Int} {ent : List (Int × (List Int × List Int))} (hp : PtOk pt ent) (f i : Int) (hi : i ∈ pt f) : 0 ≤ i := ((hp.1 f).2 i hi).1
theorem posT_toN {pt : Int → List Int} {ent : List (Int × (List Int × List Int))} (hp : PtOk pt ent) (he : EntIn ent) {ws : List Int} {lo size sp lo' size' k' : Nat} (h : ToN ws ent lo size sp lo' size' k') : posT pt ((k' : Int) - sp) (framesA ws ent ((lo : Int), ((size : Int), (sp : Int)))).1 = (posL pt (framesA ws ent ((lo : Int), ((size : Int), (sp : Int)))).1).map fun p => p - sp + k' :=
  posT_eq fun x hx => ⟨(frames_good hp he h x hx).lo, fun i hi => ptIn_nn hp _ i hi⟩
/-- what the loop has written when it ends -/
theorem loop_end {pt : Int → List Int} {ent : List (Int × (List Int × List Int))} (hp : PtOk pt ent) (he : EntIn ent) {ws : List Int} {lo size sp lo' size' k' : Nat} (h : ToN ws ent lo size sp lo' size' k') : Mv.rzs ((k' : Int) - sp) (putW ws k' ((ws.drop sp).take (lo + size - sp))) (posT pt ((k' : Int) - sp) (framesA ws ent ((lo : Int), ((size : Int), (sp : Int)))).1) = toW pt ws ent ((lo : Int), ((size : Int), (sp : Int))) lo' size' := by
  rw [toW_nat h, posT_toN hp he h]
  rfl
theorem move_rz {pt : Int → List Int} {ent : List (Int × (List Int × List Int))} (hp : PtOk pt ent) (he : EntIn ent) {ws : List Int} (hbig : ws.length ≤ 65536) (hz : Bm.Words ws) {lo size sp lo' size' k' : Nat} (h : ToN ws ent lo size sp lo' size' k') : RzOk ((k' : Int) - sp) (putW ws k' ((ws.drop sp).take (lo + size - sp))) (posT pt ((k' : Int) - sp) (framesA ws ent ((lo : Int), ((size : Int), (sp : Int)))).1) := by
  obtain ⟨hpos, hnd⟩ := pos_frames hp he h.may h.er
  have hg := pos_good hp he hbig hz h.may h.er h.all_
  rw [posT_toN hp he h]
  have h1 := h.in_
  have h2 := h.sp2
  have h3 := h.k2
  have h4 := h.in2
  have hl : ((ws.drop sp).take (lo + size - sp)).length = lo + size - sp := by rw [List.length_take, List.length_drop]; omega
  refine ⟨List.pairwise_map.2 (List.Pairwise.imp_of_mem (fun {a b} ha hb hne e => hne (by have := hpos a ha; have := hpos b hb; omega)) hnd), fun a ha => ?_⟩
  obtain ⟨p, hp', rfl⟩ := List.mem_map.1 ha
  have hpp := hpos p hp'
  have hgp := hg p hp'
  rw [putW_length _ _ _ (by omega), putW_get _ _ _ _ (by omega), hl, if_pos (by omega)]
  rw [show ((ws.drop sp).take (lo + size - sp)).getD (p - sp + k' - k') 0 = ws.getD p 0 by
    rw [List.getD_eq_getElem?_getD, List.getElem?_take, if_pos (by omega), List.getElem?_drop, List.getD_eq_getElem?_getD, show sp + (p - sp + k' - k') = p by omega]]
  refine ⟨by omega, ?_⟩
  rcases hgp with h0 | ⟨h5, h6⟩
  · exact .inl h0
  · exact .inr ⟨by omega, by omega⟩
theorem frame_cond {pt : Int → List Int} {ent : List (Int × (List Int × List Int))} (hp : PtOk pt ent) (he : EntIn ent) {ws : List Int} (hbig : ws.length ≤ 65536) {lo size sp lo' size' k' : Nat} (h : ToN ws ent lo size sp lo' size' k') {x : Sl.Fr} (hx : x ∈ (framesA ws ent ((lo : Int), ((size : Int), (sp : Int)))).1) :
    (0 ≤ x.1 + ((k' : Int) - sp) ∧ x.1 + ((k' : Int) - sp) ≤ 1099511627776 ∧ -1099511627776 ≤ x.1 ∧ x.1 ≤ 1099511627776) ∧ ∀ i ∈ pt x.2.1, 0 ≤ i ∧ i < tSize ent x.2.1 := by
  have hf := frames_good hp he h x hx
  have a1 := hf.lo
  have a2 := hf.hi_
  have a3 := hf.two
  have h1 := h.in_
  have h2 := h.sp2
  have h3 := h.k2
  have h4 := h.in2
  refine ⟨by omega, fun i hi => ?_⟩
  have := (hp.1 x.2.1).2 i hi
  rw [tWords_size a3] at this
  omega
end Go.Proofs.YtcepafllgjnngaaDoor
