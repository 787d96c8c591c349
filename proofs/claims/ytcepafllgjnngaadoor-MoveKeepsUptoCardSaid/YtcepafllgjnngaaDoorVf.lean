/-
  The walk of move.To where the stack is moved. Conditions: what is handed in reads as told.
-/
import Derived.Test.YtcepafllgjnngaaDoorVe
import Derived.Test.YtcepafllgjnngaaDoorVd
import Derived.Test.YtcepafllgjnngaaDoorV6
import Derived.Deep.Light
namespace Go.Proofs.YtcepafllgjnngaaDoor
open Go.RowKit Go.Proofs.YtcepafllgjnngaaDoorW.PrintWords

theorem ArB.aside {W : World} {g b : Nat} {ws : List Int} (h : ArB W g b ws) {p : Nat} (h1 : g ≠ p) (h2 : b ≠ p) (i : Nat) (v : Value) : ArB (W.setCell ⟨p, i, none⟩ v) g b ws := ⟨(Below.heap_setCell W ⟨p, i, none⟩ v g h1).trans h.head, (Below.heap_setCell W ⟨p, i, none⟩ v b h2).trans h.row, h.words, h.pos, h.len⟩
theorem KeepW.aside {b : Nat} {w W : World} (h : KeepW b w W) {p : Nat} (hp : w.heap.size ≤ p) (i : Nat) (v : Value) : KeepW b w (W.setCell ⟨p, i, none⟩ v) :=
  ⟨h.os, h.tape, h.output, by have := h.size; simpa [World.setCell] using this, fun k hk hb => (Below.heap_setCell W ⟨p, i, none⟩ v k (by show k ≠ p; omega)).trans (h.block k hk hb)⟩
/-- what the store of the stack's pointer leaves -/
theorem storeSP {w W : World} {q : Nat} {A B E : Obj} {v0 v1 v2 n : Int} (hb : Below q w W) (hS : W.heap[q]? = some A) (hO : W.heap[q + 1]? = some B) (hE : W.heap[q + 1 + 1]? = some E) (hT : W.heap[q + 1 + 1 + 1]? = some (.cells #[.int .i64 v0, .int .i64 v1, .int .i64 v2] 41 (0, 0))) : Below q w (W.setCell ⟨q + 1 + 1 + 1, 2, none⟩ (.int .i64 n)) ∧ (W.setCell ⟨q + 1 + 1 + 1, 2, none⟩ (.int .i64 n)).heap[q]? = some A ∧ (W.setCell ⟨q + 1 + 1 + 1, 2, none⟩ (.int .i64 n)).heap[q + 1]? = some B ∧ (W.setCell ⟨q + 1 + 1 + 1, 2, none⟩ (.int .i64 n)).heap[q + 1 + 1]? = some E ∧ (W.setCell ⟨q + 1 + 1 + 1, 2, none⟩ (.int .i64 n)).heap[q + 1 + 1 + 1]? = some (.cells #[.int .i64 v0, .int .i64 v1, .int .i64 n] 41 (0, 0)) :=
  ⟨hb.setCell (p := ⟨q + 1 + 1 + 1, 2, none⟩) (by show q ≤ q + 1 + 1 + 1; omega) _, (Below.heap_setCell W ⟨q + 1 + 1 + 1, 2, none⟩ (.int .i64 n) _ (by show q ≠ q + 1 + 1 + 1; omega)).trans hS, (Below.heap_setCell W ⟨q + 1 + 1 + 1, 2, none⟩ (.int .i64 n) _ (by show q + 1 ≠ q + 1 + 1 + 1; omega)).trans hO, (Below.heap_setCell W ⟨q + 1 + 1 + 1, 2, none⟩ (.int .i64 n) _ (by show q + 1 + 1 ≠ q + 1 + 1 + 1; omega)).trans hE, blk_put (cs' := #[.int .i64 v0, .int .i64 v1, .int .i64 n]) hT 2 (.int .i64 n) rfl⟩
set_option maxRecDepth 100000 in
set_option maxHeartbeats 8000000 in
theorem to_good (g b : Nat) (ws : List Int) (q : Option Addr) (ent : List (Int × (List Int × List Int))) (lo size sp a bz k : Nat) (w : World) (h : ArB w g b ws) (hS : Stab b (fun W => TblOr W (.pointer q) ent) w) (he : EntIn ent) (hlen : ent.length ≤ 1048576) (hw : ∀ e ∈ ent, Bm.Words e.2.1) (hE : ∀ e ∈ ent, e.2.2.length * 8 ≤ 140737488355328) (hp : PtOk (tPtrs ent) ent) (hF : (framesA ws ent ((lo : Int), ((size : Int), (sp : Int)))).1.length ≤ 1048576) (hN : ToN ws ent lo size sp a bz k) :
    Calls Tryd.prog 34 #[.pointer (some ⟨g, 0, none⟩), .pointer q, .agg #[.int .i64 lo, .int .i64 size, .int .i64 sp], .int .i64 a, .int .i64 bz] w fun e w' => e = .returned (.tuple #[.agg #[.int .i64 a, .int .i64 bz, .int .i64 k], .int .i64 0]) ∧ ArB w' g b (toW (tPtrs ent) ws ent ((lo : Int), ((size : Int), (sp : Int))) a bz) ∧ KeepW b w w' := by
  have ht : ∀ W, KeepW b w W → TblOr W (.pointer q) ent := hS
  have hFI := framesA_in he hlen h.len h.words ((lo : Int), ((size : Int), (sp : Int)))
  have hlw := h.len
  have hgl := blk_lt h.head
  have hbl := h.lt
  have hin := hN.in_
  have hin2 := hN.in2
  have hs1 := hN.sp1
  have hs2 := hN.sp2
  have hk1 := hN.k1
  have hk2 := hN.k2
  have hsm := small_of hlw hN.may
  have hsm2 := small_of hlw (mayS_sp (k := (a : Int)) hN.may2 (by omega) (by omega))
  have hap := hN.apart
  have hov : overB ((lo : Int), ((size : Int), (sp : Int))) ((a : Int), ((bz : Int), (a : Int))) = false := over_no.2 (by dsimp only; omega)
  have hmm : (mayS ws.length ((lo : Int), ((size : Int), (sp : Int))) && mayS ws.length ((a : Int), ((bz : Int), (a : Int)))) = true := by
    rw [Bool.and_eq_true]
    exact ⟨hN.may, mayS_sp (k := (a : Int)) hN.may2 (by omega) (by omega)⟩
  have HFR := Lk.mk (fun W (hb : Below w.heap.size w W) => by
    have h9 := frames_own g b ws (.pointer q) ent ((lo : Int), ((size : Int), (sp : Int))) W (h.below hb) (ht W (KeepW.of_below hb b)) he (by dsimp only; omega)
    rw [hN.er] at h9
    exact h9)
  have HAL := Lk.mk (fun W A c (hb : Below w.heap.size w W) (hC : kFr.C W A (framesA ws ent ((lo : Int), ((size : Int), (sp : Int)))).1.length (framesA ws ent ((lo : Int), ((size : Int), (sp : Int)))).1) => (sall_any g b ws (.pointer q) ent A c (framesA ws ent ((lo : Int), ((size : Int), (sp : Int)))).1 W (h.below hb) (ht W (KeepW.of_below hb b)) he hw hC hFI hF).mono (R' := fun e W' => Below W.heap.size W W' ∧ ∃ v, e = .returned (.tuple #[v, .int .i64 0])) (fun e W' ⟨hb, hor⟩ => by
    rcases hor with ⟨_, v, he, _⟩ | ⟨n, _, _, d, i, hd, hi, hne⟩
    · exact ⟨hb, v, he⟩
    · exact absurd (hN.all_ d i hd hi) hne))
  obtain ⟨h5, hS5, hO5, hE5, hT5, hL5⟩ := boxes5 w (.cells #[.int .i64 lo, .int .i64 size, .int .i64 sp] 41) (.cells #[.int .i64 0, .int .i64 0, .int .i64 0] 41) (.cells #[.int .i64 0] 30) (.cells #[.int .i64 a, .int .i64 bz, .int .i64 a] 41) (.cells #[.int .i64 lo, .int .i64 size, .int .i64 sp, .int .i64 a, .int .i64 bz, .int .i64 a] 41)
  have hM := wMay_any g b ws (some ⟨w.heap.size + 1 + 1 + 1 + 1, 0, none⟩) 2 [((lo : Int), ((size : Int), (sp : Int))), ((a : Int), ((bz : Int), (a : Int)))] _ (h.below h5) (two9 hL5) (by
    intro y hy
    rcases List.mem_cons.1 hy with rfl | hy
    · dsimp only; omega
    · obtain rfl := List.mem_singleton.1 hy
      dsimp only; omega)
  rw [may_two, hmm, show ([((lo : Int), ((size : Int), (sp : Int))), ((a : Int), ((bz : Int), (a : Int)))] : List (Int × (Int × Int))).length = 2 from rfl] at hM
  obtain ⟨n, hn⟩ : ∃ n, n = lo + size - sp := ⟨_, rfl⟩
  have HU := Lk.mk (fun W => by
    have h9 := used_any ((lo : Int), ((size : Int), (sp : Int))) W hsm.1 hsm.2
    dsimp only at h9
    rw [show (lo : Int) + size - sp = (n : Int) by omega] at h9
    exact h9)
  have HFT := Lk.mk (fun W => by
    have h9 := fits_one ((lo : Int), ((size : Int), (sp : Int))) ((a : Int), ((bz : Int), (a : Int))) (some ⟨W.heap.size, 0, none⟩) (W.alloc (.cells #[.int .i64 a, .int .i64 bz, .int .i64 a] 41)) hsm.1 hsm2.1 (one9 (blk_new W _))
    rw [hov] at h9
    exact h9)
  have HMV := Lk.mk (fun W (hA : ArB W g b ws) => amove_any g b ws k sp n W hA (by omega) (by omega))
  have HBY := Lk.mk (fun W => by
    have h9 := by_any ((lo : Int), ((size : Int), (sp : Int))) a bz W hsm.1 (by omega) (by omega)
    dsimp only at h9
    rw [show (a : Int) + bz - lo - size = (k : Int) - sp by omega] at h9
    exact h9)
  have HRZ := Lk.mk (move_rz hp he hlw h.words hN)
  have HEND := Lk.mk (loop_end hp he hN)
  rw [← hn] at HRZ HEND
  have HFC := Lk.mk (fun x hx => frame_cond hp he hlw hN (x := x) hx)
  have HFM := Lk.mk (fun W x (ws' : List Int) (hA : ArB W g b ws') (hK : KeepW b w W) (hx : x ∈ (framesA ws ent ((lo : Int), ((size : Int), (sp : Int)))).1) (hz : RzOk ((k : Int) - sp) ws' (posTo (tPtrs ent x.2.1) (x.1 + ((k : Int) - sp)) (tPtrs ent x.2.1).length)) => mframe_any g b ws' (.pointer q) ent ((k : Int) - sp) x W hA (hS.keep hK) he hE (by omega) (HFC.out x hx).1 (HFC.out x hx).2 hz)
  have HA0 := Lk.mk h
  have hnle : (n : Int) ≤ (bz : Int) := by omega
  have hw1 : IntKind.i64.wrap ((a : Int) + bz) = (a : Int) + bz := IntWalk.i64_in _ (by omega)
  have hw2 : IntKind.i64.wrap ((a : Int) + bz - n) = (k : Int) := by rw [show (a : Int) + bz - n = k by omega]; exact IntWalk.i64_in _ (by omega)
  have HGL := Lk.mk hgl
  have HFL := Lk.mk hF
  have HBL := Lk.mk hbl
  have H5 := Lk.mk h5
  have HS5 := Lk.mk hS5
  have HO5 := Lk.mk hO5
  have HE5 := Lk.mk hE5
  have HT5 := Lk.mk hT5
  have HM := Lk.mk hM
  clear h hS ht he hlen hw hE hp hF hN hFI hlw hgl hbl hin hin2 hs1 hs2 hk1 hk2 hsm hsm2 hap hov hmm h5 hS5 hO5 hE5 hT5 hL5 hM hn HFC
  generalize toW (tPtrs ent) ws ent ((lo : Int), ((size : Int), (sp : Int))) a bz = WE at *
  generalize putW ws k ((ws.drop sp).take n) = W0 at *
  generalize (framesA ws ent ((lo : Int), ((size : Int), (sp : Int)))).1 = F at *
  dsimp only at *
  go_enter_defers Tryd.func34, Tryd.ntmps34
  go_wp2_with (first
    | (go_at_call 84; (with_reducible refine (HM.out).mono ?_); rintro e w1 ⟨rfl, hb⟩; have HB := Lk.mk (below_then H5.out H5.out.size hb); have HS := Lk.mk (blk_below HS5.out hb); have HO := Lk.mk (blk_below HO5.out hb); have HE := Lk.mk (blk_below HE5.out hb); have HT := Lk.mk (blk_below HT5.out hb); obtain ⟨c0, c1, c2, _, _, _⟩ := cells3 HS.out; have HW1 := Lk.mk (blk_lt HT.out); clear hb)
    | (go_at_call 83; (with_reducible refine (vmust_ok _ _).mono ?_); rintro e w' ⟨rfl, hw⟩; obtain rfl := hw.symm; clear hw)
    | (go_at_call 31; (with_reducible refine (HFR.out _ HB.out).mono ?_); rintro e w2 ⟨hb, A, c, rfl, hC⟩; have ec := blk_cell (blk_below HE.out hb) 0; have ez := blk_frozen (blk_below HE.out hb) 0; simp only [List.getElem?_toArray, List.getElem?_cons_zero] at ec; have hq := blk_lt HE.out; obtain ⟨hB9, hS9, hO9, hE9, hT9⟩ := store9 (n := 0) (below_then HB.out HB.out.size hb) (blk_below HS.out hb) (blk_below HO.out hb) (blk_below HE.out hb) (blk_below HT.out hb); have HB := Lk.mk hB9; have HS := Lk.mk hS9; have HO := Lk.mk hO9; have HE := Lk.mk hE9; have HT := Lk.mk hT9; have HC := Lk.mk (hC.set hq 0 (.int .i64 0)); have HQ := Lk.mk hq; clear hb hC hB9 hS9 hO9 hE9 hT9 hq)
    | (go_at_call 32; (with_reducible refine (HAL.out _ _ _ HB.out HC.out.now).mono ?_); rintro e w3 ⟨hb, v, rfl⟩; have ec := blk_cell (blk_below HE.out hb) 0; have ez := blk_frozen (blk_below HE.out hb) 0; simp only [List.getElem?_toArray, List.getElem?_cons_zero] at ec; obtain ⟨hB9, hS9, hO9, hE9, hT9⟩ := store9 (n := 0) (below_then HB.out HB.out.size hb) (blk_below HS.out hb) (blk_below HO.out hb) (blk_below HE.out hb) (blk_below HT.out hb); have HB := Lk.mk hB9; have HS := Lk.mk hS9; have HO := Lk.mk hO9; have HE := Lk.mk hE9; have HT := Lk.mk hT9; have HC := Lk.mk ((HC.out.below hb).set HQ.out 0 (.int .i64 0)); obtain ⟨c0, c1, c2, _, _, _⟩ := cells3 HS.out; clear hb hB9 hS9 hO9 hE9 hT9)
    | (go_at_call 37; (with_reducible refine (HU.out _).mono ?_); rintro e w4 ⟨rfl, hb⟩; have HB := Lk.mk (below_then HB.out HB.out.size hb); have HS := Lk.mk (blk_below HS.out hb); have HO := Lk.mk (blk_below HO.out hb); have HE := Lk.mk (blk_below HE.out hb); have HT := Lk.mk (blk_below HT.out hb); have HC := Lk.mk (HC.out.below hb); obtain ⟨c0, c1, c2, _, _, _⟩ := cells3 HS.out; obtain ⟨d0, d1, d2, _, _, _⟩ := cells3 HT.out; clear hb)
    | (go_at_call 77; (with_reducible refine (HFT.out _).mono ?_); rintro e w5 ⟨rfl, hb⟩; have hB9 := below_alloc HB.out (.cells #[.int .i64 a, .int .i64 bz, .int .i64 a] 41); have hc9 := (HC.out.below (below_alloc (Below.refl w4.heap.size w4) (.cells #[.int .i64 a, .int .i64 bz, .int .i64 a] 41))).below hb; have HT5 := Lk.mk (blk_below (blk_alloc HT.out _) hb); obtain ⟨d0, d1, d2, f0, f1, f2⟩ := cells3 HT5.out; obtain ⟨hB9, hS9, hO9, hE9, hT9⟩ := storeSP (n := (k : Int)) (below_then hB9 hB9.size hb) (blk_below (blk_alloc HS.out _) hb) (blk_below (blk_alloc HO.out _) hb) (blk_below (blk_alloc HE.out _) hb) HT5.out; obtain ⟨c0, c1, c2, _, _, _⟩ := cells3 (blk_below (blk_alloc HS.out _) hb); have HB := Lk.mk hB9; have HS := Lk.mk hS9; have HO := Lk.mk hO9; have HE := Lk.mk hE9; have HT := Lk.mk hT9; have HC := Lk.mk (hc9.set HW1.out 2 (.int .i64 k)); clear hb hB9 hS9 hO9 hE9 hT9 hc9)
    | (go_at_call 85; (with_reducible refine (HMV.out _ (HA0.out.below HB.out)).mono ?_); rintro e w6 ⟨rfl, ha, hk⟩; have hbl := HBL.out; have HA := Lk.mk ha; have HK := Lk.mk ((KeepW.of_below HB.out b).trans hk); have HS := Lk.mk ((hk.block _ (blk_lt HS.out) (by omega)).trans HS.out); have HO := Lk.mk ((hk.block _ (blk_lt HO.out) (by omega)).trans HO.out); have HE := Lk.mk ((hk.block _ (blk_lt HE.out) (by omega)).trans HE.out); have HT := Lk.mk ((hk.block _ (blk_lt HT.out) (by omega)).trans HT.out); have HC := Lk.mk (HC.out.keep (by have := HQ.out; omega) hk); obtain ⟨c0, c1, c2, _, _, _⟩ := cells3 HS.out; clear ha hk hbl)
    | (go_at_call 76; (with_reducible refine (HBY.out _).mono ?_); rintro e w7 ⟨rfl, hb⟩; have HA := Lk.mk (HA.out.below hb); have HK := Lk.mk (HK.out.then_ hb); have HO := Lk.mk (blk_below HO.out hb); have HE := Lk.mk (blk_below HE.out hb); have HT := Lk.mk (blk_below HT.out hb); have HC := Lk.mk (HC.out.below hb); clear hb))
  have hM8 := below_alloc (Below.refl w7.heap.size w7) (.cells #[.pointer (some ⟨g, 0, none⟩), .pointer q, .int .i64 ((k : Int) - sp)] 150)
  have HA8 := Lk.mk (HA.out.below hM8)
  have HK8 := Lk.mk (HK.out.then_ hM8)
  have HO8 := Lk.mk (blk_below HO.out hM8)
  have HE8 := Lk.mk (blk_below HE.out hM8)
  have HT8 := Lk.mk (blk_below HT.out hM8)
  have HC8 := Lk.mk (HC.out.below hM8)
  have HM8 := Lk.mk (blk_new w7 (.cells #[.pointer (some ⟨g, 0, none⟩), .pointer q, .int .i64 ((k : Int) - sp)] 150))
  clear hM8 c0 c1 c2 d0 d1 d2
  go_loopg [83] F.length (fun gg v83 wr => ∃ j : Nat, j ≤ F.length ∧ F.length - j ≤ gg ∧ v83 = .int .i64 j ∧ Lk (ArB wr g b (Mv.rzs ((k : Int) - sp) W0 (posT (tPtrs ent) ((k : Int) - sp) (F.take j)))) ∧ Lk (KeepW b (w7.alloc (.cells #[.pointer (some ⟨g, 0, none⟩), .pointer q, .int .i64 ((k : Int) - sp)] 150)) wr))
  case atStart => exact ⟨0, by omega, by omega, rfl, ⟨by have h9 := HA8.out; rw [List.take_zero]; exact h9⟩, ⟨KeepW.refl _ _⟩⟩
  case round =>
    obtain ⟨j, hj, hg, rfl, HA, HK⟩ := hrel
    have hbl := HBL.out
    have HMr := Lk.mk ((HK.out.block _ (blk_lt HM8.out) (by have := HK8.out.size; have := blk_lt HM8.out; have := blk_lt HA8.out.row; have := blk_ne HM8.out HA8.out.row (by decide); omega)).trans HM8.out)
    obtain ⟨e0, e1, e2, _, _, _⟩ := cells3 HMr.out
    by_cases hlt : j < F.length
    · have hltz : (j : Int) < (F.length : Int) := by omega
      have HJ := Lk.mk (show j + 1 ≤ F.length from hlt)
      have HMS := Lk.mk (show ∀ x, F.length - j ≤ x → F.length - (j + 1) < x from fun x hx => by omega)
      have hfl := HFL.out
      have HW3 := Lk.mk (IntWalk.wrap64_in ((j : Int) + 1) ⟨by omega, by omega⟩)
      clear hfl
      obtain ⟨ad, rfl, q0, q1, q2⟩ := kFr_at ((HC8.out.keep (by have := HQ.out; omega) HK.out).now) j hlt
      have HN := Lk.mk (posT_next (pt := tPtrs ent) (b := (k : Int) - sp) hlt)
      obtain ⟨m, hm⟩ := posT_part (pt := tPtrs ent) (b := (k : Int) - sp) hlt
      have hz9 := HRZ.out
      rw [hm] at hz9
      have hmem : F.getD j Sl.dFr ∈ F := getD_mem _ hlt
      have HFX := Lk.mk (fun W (hA : ArB W g b (Mv.rzs ((k : Int) - sp) W0 (posT (tPtrs ent) ((k : Int) - sp) (F.take j)))) (hK : KeepW b w W) => HFM.out W (F.getD j Sl.dFr) _ hA hK hmem hz9.part)
      clear hm hz9 hmem
      generalize F.getD j Sl.dFr = y at *
      obtain ⟨y0, y1, y2⟩ := y
      dsimp only at *
      have hX := below_alloc (Below.refl wr.heap.size wr) (.cells #[.int .i64 y0, .int .i64 y1, .int .i64 y2] 79)
      have HFY := Lk.mk (HFX.out _ (HA.out.below hX) ((HK8.out.trans HK.out).then_ hX))
      have HKX := Lk.mk (HK.out.then_ hX)
      have HMx := Lk.mk (blk_below HMr.out hX)
      obtain ⟨g0, g1, g2, _, _, _⟩ := cells3 HMx.out
      obtain ⟨p0, p1, p2, _, _, _⟩ := cells3 (blk_new wr (.cells #[.int .i64 y0, .int .i64 y1, .int .i64 y2] 79))
      clear hX HFX
      go_wp2_with (first
        | (go_at_call 86; (with_reducible refine (HFY.out).mono ?_); rintro e w9 ⟨rfl, ha, hk⟩; have HA9 := Lk.mk ha; have HK9 := Lk.mk (HKX.out.trans hk); clear ha hk))
      go_roundg (F.length - (j + 1))
      case measure => exact HMS.out _ hg
      case rel => exact ⟨j + 1, HJ.out, Nat.le_refl _, by rw [HW3.out]; rfl, ⟨by rw [HN.out, Mv.rzs_app]; exact HA9.out⟩, HK9⟩
    · obtain rfl : j = F.length := by omega
      have hltz : ¬ (F.length : Int) < (F.length : Int) := by omega
      have hEnd := HA.out
      rw [List.take_length, HEND.out] at hEnd
      have HAE := Lk.mk hEnd
      have HOr := Lk.mk ((HK.out.block _ (blk_lt HO8.out) (by omega)).trans HO8.out)
      have HEr := Lk.mk ((HK.out.block _ (blk_lt HE8.out) (by omega)).trans HE8.out)
      have HTr := Lk.mk ((HK.out.block _ (blk_lt HT8.out) (by omega)).trans HT8.out)
      have HKr := Lk.mk (HK8.out.trans HK.out)
      obtain ⟨t0, t1, t2, _, _, _⟩ := cells3 HTr.out
      obtain ⟨o0, o1, o2, z0, z1, z2⟩ := cells3 HOr.out
      have ec := blk_cell HEr.out 0
      have ez := blk_frozen HEr.out 0
      simp only [List.getElem?_toArray, List.getElem?_cons_zero] at ec
      clear hEnd HA HK
      have hgl := HGL.out
      have HF9 := Lk.mk (And.intro (((((HAE.out.aside (p := w.heap.size + 1) (by omega) (by omega) 0 (.int .i64 a)).aside (p := w.heap.size + 1) (by omega) (by omega) 1 (.int .i64 bz)).aside (p := w.heap.size + 1) (by omega) (by omega) 2 (.int .i64 k))).aside (p := w.heap.size + 1 + 1) (by omega) (by omega) 0 (.int .i64 0)) ((((HKr.out.aside (p := w.heap.size + 1) (by omega) 0 (.int .i64 a)).aside (p := w.heap.size + 1) (by omega) 1 (.int .i64 bz)).aside (p := w.heap.size + 1) (by omega) 2 (.int .i64 k)).aside (p := w.heap.size + 1 + 1) (by omega) 0 (.int .i64 0)))
      have hE5 : (((wr.setCell ⟨w.heap.size + 1, 0, none⟩ (.int .i64 a)).setCell ⟨w.heap.size + 1, 1, none⟩ (.int .i64 bz)).setCell ⟨w.heap.size + 1, 2, none⟩ (.int .i64 k)).heap[w.heap.size + 1 + 1]? = some (.cells #[.int .i64 0] 30 (0, 0)) := by
        rw [Below.heap_setCell _ _ _ _ (by show w.heap.size + 1 + 1 ≠ w.heap.size + 1; omega), Below.heap_setCell _ _ _ _ (by show w.heap.size + 1 + 1 ≠ w.heap.size + 1; omega), Below.heap_setCell _ _ _ _ (by show w.heap.size + 1 + 1 ≠ w.heap.size + 1; omega)]
        exact HEr.out
      have HE9 := Lk.mk (blk_put (cs' := #[.int .i64 0]) hE5 0 (.int .i64 0) rfl)
      have HV9 := Lk.mk ((Below.heap_setCell (((wr.setCell ⟨w.heap.size + 1, 0, none⟩ (.int .i64 a)).setCell ⟨w.heap.size + 1, 1, none⟩ (.int .i64 bz)).setCell ⟨w.heap.size + 1, 2, none⟩ (.int .i64 k)) ⟨w.heap.size + 1 + 1, 0, none⟩ (.int .i64 0) _ (by show w.heap.size + 1 ≠ w.heap.size + 1 + 1; omega)).trans (set3 HOr.out (.int .i64 a) (.int .i64 bz) (.int .i64 k)))
      clear hE5 hgl hbl
      go_wp2
      refine leaves_cons (f := 82) (args := #[.pointer (some ⟨w.heap.size + 1, 0, none⟩), .pointer (some ⟨w.heap.size + 1 + 1, 0, none⟩)]) (by simp) (by simp [go_sem]) ?_
      refine (to1_idle _ _ _).mono ?_
      rintro e u' w'' ⟨rfl, rfl, rfl⟩
      exact to_out rfl HV9.out HE9.out rfl rfl ⟨rfl, HF9.out.1, HF9.out.2⟩
end Go.Proofs.YtcepafllgjnngaaDoor
