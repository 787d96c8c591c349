/-
  The walk of the model's Set's literal where the value fits; conditions: the row and the table read as told, the row is right.
-/
import Derived.Test.YtcepafllgjnngaaDoorPt
namespace Go.Proofs.YtcepafllgjnngaaDoor
open Go.RowKit Go.Proofs.YtcepafllgjnngaaDoorW.PrintWords

theorem set_cells {W : World} {q : Option Addr} {A : Option Addr} {n c bd bs bv qr : Nat} {d s : Int} {v0 v1 v2 v3 : Int} (hq : W.heap[qr]? = some (.cells #[.pointer q, .slice A n c] 179 (0, 0))) (hbd : W.heap[bd]? = some (.cells #[.int .i64 d] 3 (0, 0))) (hbs : W.heap[bs]? = some (.cells #[.int .i64 s] 3 (0, 0))) (hbv : W.heap[bv]? = some (.cells #[.int .u8 v0, .int .u64 v1, .int .i64 v2, .int .i64 v3] 56 (0, 0))) :
    W.cell? ⟨qr, 0, none⟩ = some (.pointer q) ∧ W.cell? ⟨qr, 1, none⟩ = some (.slice A n c) ∧ W.cell? ⟨bd, 0, none⟩ = some (.int .i64 d) ∧ W.cell? ⟨bs, 0, none⟩ = some (.int .i64 s) ∧ W.cell? ⟨bv, 0, none⟩ = some (.int .u8 v0) ∧ W.cell? ⟨bv, 1, none⟩ = some (.int .u64 v1) ∧ W.cell? ⟨bv, 2, none⟩ = some (.int .i64 v2) ∧ W.cell? ⟨bv, 3, none⟩ = some (.int .i64 v3) := by
  obtain ⟨a, b⟩ := cells2v hq
  obtain ⟨x0, x1, x2, x3⟩ := cells4v hbv
  have d0 := blk_cell hbd 0
  have s0 := blk_cell hbs 0
  simp only [List.getElem?_toArray, List.getElem?_cons_zero] at d0 s0
  exact ⟨a, b, d0, s0, x0, x1, x2, x3⟩
/-- where the four boxes and the row's block stand -/
structure SetAt (W0 W : World) (q : Option Addr) (A : Option Addr) (n c bd bs bv qr : Nat) (d s v0 v1 v2 v3 : Int) : Prop where
  q_ : W.heap[qr]? = some (.cells #[.pointer q, .slice A n c] 179 (0, 0))
  bd_ : W.heap[bd]? = some (.cells #[.int .i64 d] 3 (0, 0))
  bs_ : W.heap[bs]? = some (.cells #[.int .i64 s] 3 (0, 0))
  bv_ : W.heap[bv]? = some (.cells #[.int .u8 v0, .int .u64 v1, .int .i64 v2, .int .i64 v3] 56 (0, 0))
  b_ : Below W0.heap.size W0 W
theorem SetAt.then_ {W0 W W' : World} {q A : Option Addr} {n c bd bs bv qr : Nat} {d s v0 v1 v2 v3 : Int} (h : SetAt W0 W q A n c bd bs bv qr d s v0 v1 v2 v3) (hb : Below W.heap.size W W') : SetAt W0 W' q A n c bd bs bv qr d s v0 v1 v2 v3 :=
  ⟨blk_below h.q_ hb, blk_below h.bd_ hb, blk_below h.bs_ hb, blk_below h.bv_ hb, below_then h.b_ h.b_.size hb⟩
/-- S of the last region behind a store into another block -/
theorem SetS.store {W : World} {q A : Option Addr} {n c bd bs bv qr g k N c9 t : Nat} {d s v0 v1 v2 v3 : Int} (h : (W.cell? ⟨qr, 0, none⟩ = some (.pointer q) ∧ W.cell? ⟨qr, 1, none⟩ = some (.slice A n c) ∧ W.cell? ⟨bd, 0, none⟩ = some (.int .i64 d) ∧ W.cell? ⟨bs, 0, none⟩ = some (.int .i64 s) ∧ W.cell? ⟨bv, 0, none⟩ = some (.int .u8 v0) ∧ W.cell? ⟨bv, 1, none⟩ = some (.int .u64 v1) ∧ W.cell? ⟨bv, 2, none⟩ = some (.int .i64 v2) ∧ W.cell? ⟨bv, 3, none⟩ = some (.int .i64 v3)) ∧ W.cell? ⟨g, k, none⟩ = some (.slice (some ⟨t, 0, none⟩) N c9)) (t' o : Nat) (cs : List Value) (hne : qr ≠ t' ∧ bd ≠ t' ∧ bs ≠ t' ∧ bv ≠ t' ∧ g ≠ t') :
    ((W.setCells t' o cs).cell? ⟨qr, 0, none⟩ = some (.pointer q) ∧ (W.setCells t' o cs).cell? ⟨qr, 1, none⟩ = some (.slice A n c) ∧ (W.setCells t' o cs).cell? ⟨bd, 0, none⟩ = some (.int .i64 d) ∧ (W.setCells t' o cs).cell? ⟨bs, 0, none⟩ = some (.int .i64 s) ∧ (W.setCells t' o cs).cell? ⟨bv, 0, none⟩ = some (.int .u8 v0) ∧ (W.setCells t' o cs).cell? ⟨bv, 1, none⟩ = some (.int .u64 v1) ∧ (W.setCells t' o cs).cell? ⟨bv, 2, none⟩ = some (.int .i64 v2) ∧ (W.setCells t' o cs).cell? ⟨bv, 3, none⟩ = some (.int .i64 v3)) ∧ (W.setCells t' o cs).cell? ⟨g, k, none⟩ = some (.slice (some ⟨t, 0, none⟩) N c9) := by
  obtain ⟨n1, n2, n3, n4, n5⟩ := hne
  have hf : ∀ b o', b ≠ t' → (W.setCells t' o cs).cell? ⟨b, o', none⟩ = W.cell? ⟨b, o', none⟩ := fun b o' hb => by
    have : (W.setCells t' o cs).heap[b]? = W.heap[b]? := setCells_far _ _ b hb
    unfold World.cell?
    rw [this]
  rw [hf _ _ n1, hf _ _ n1, hf _ _ n2, hf _ _ n3, hf _ _ n4, hf _ _ n4, hf _ _ n4, hf _ _ n4, hf _ _ n5]
  exact h
set_option maxRecDepth 100000 in
set_option maxHeartbeats 8000000 in
theorem mset1_ok (q : Option Addr) (ent : List (Int × (List Int × List Int))) (l : List Af) (ts : List Nat) (k i : Nat) (v0 v1 v2 v3 : Int) (B bd bs bv qr : Nat) (A : Option Addr) (c : Nat) (W : World) (ht : TblOr W (.pointer q) ent) (hw : ∀ e ∈ ent, Bm.Words e.2.1) (hts : ts.length = l.length) (hnd : ts.Nodup) (hB2 : B ≤ qr) (hB3 : bd < B ∧ bs < B ∧ bv < B) (hA : SetAt W W q A l.length c bd bs bv qr k i v0 v1 v2 v3) (hR : (tagK kAf).R 113 W B (fun k => k < qr) (.slice A l.length c) (l.zip ts)) (hk : k < l.length) (hi : i < (l.getD k dAf).2.length) (hi2 : (i : Int) ≤ 9223372036854775807) (hv : VlIn (v0, v1, v2, v3)) (hf : fitsN (tPtr ent) l k i (v0, v1, v2, v3) = 0) (err : Int → Prop) :
    Calls Tryd.prog 116 #[.pointer (some ⟨qr, 0, none⟩), .pointer (some ⟨bd, 0, none⟩), .pointer (some ⟨bs, 0, none⟩), .pointer (some ⟨bv, 0, none⟩)] W fun e W' => HowL (fun l' => l' = setL l k i (v0, v1, v2, v3)) err (.pointer q) B qr W e W' := by
  have hC : kAf.C W A l.length l := by
    have h1 := tag_R hR
    rw [List.map_fst_zip (by omega)] at h1
    exact (Kd.R_reads' h1).2.2
  have hh : hasA l (k : Int) (i : Int) = true := by
    unfold hasA
    rw [Int.toNat_natCast, decide_eq_true (show (0 : Int) ≤ (k : Int) by omega), decide_eq_true (show (k : Int) < (l.length : Int) by omega), decide_eq_true (show (0 : Int) ≤ (i : Int) by omega), decide_eq_true (show (i : Int) < ((l.getD k dAf).2.length : Int) by omega)]
    rfl
  have HH := Lk.mk (fun W' (hb : Below W.heap.size W W') => mhas_any (.pointer q) A c l k i W' (Kd.C_below hC hb))
  rw [hh] at HH
  have HFT := Lk.mk (fun W' (hb : Below W.heap.size W W') => (mfits_any (.pointer q) ent A c l k i (v0, v1, v2, v3) W' (ht.below hb) hw (Kd.C_below hC hb) hk hi2 hv).mono (fun e W'' (h : FitsE (fitsN (tPtr ent) l k i (v0, v1, v2, v3)) e ∧ Below W'.heap.size W' W'') => (show e = .returned (.tuple #[]) ∧ Below W'.heap.size W' W'' from ⟨by rcases h.1 with ⟨_, h⟩ | ⟨h, _⟩; exact h; exact absurd hf h, h.2⟩)))
  have HQW := Lk.mk (blk_lt hA.q_)
  have HA := Lk.mk (hA.then_ (below_drew (Below.refl _ _)))
  clear hh ht hw hC hf
  go_enter Tryd.func116, Tryd.ntmps116
  go_wp2
  go_region_held3 (fun W' => W'.cell? ⟨qr, 0, none⟩ = some (.pointer q) ∧ W'.cell? ⟨qr, 1, none⟩ = some (.slice A l.length c) ∧ W'.cell? ⟨bd, 0, none⟩ = some (.int .i64 k) ∧ W'.cell? ⟨bs, 0, none⟩ = some (.int .i64 i) ∧ W'.cell? ⟨bv, 0, none⟩ = some (.int .u8 v0) ∧ W'.cell? ⟨bv, 1, none⟩ = some (.int .u64 v1) ∧ W'.cell? ⟨bv, 2, none⟩ = some (.int .i64 v2) ∧ W'.cell? ⟨bv, 3, none⟩ = some (.int .i64 v3)) (first | exact set_cells HA.out.q_ HA.out.bd_ HA.out.bs_ HA.out.bv_) (first
    | (go_at_call 117; (with_reducible refine (HH.out _ HA.out.b_).mono ?_); rintro e w1 ⟨rfl, hb⟩; have HA := Lk.mk (HA.out.then_ hb); clear hb)
    | (go_at_call 112; (with_reducible refine (mmust_ok _ _).mono ?_); rintro e w' ⟨rfl, hw⟩; obtain rfl := hw.symm; clear hw))
  go_wp2
  have HA := Lk.mk (HA.out.then_ (below_drew (Below.refl _ _)))
  go_region_held3 (fun W' => W'.cell? ⟨qr, 0, none⟩ = some (.pointer q) ∧ W'.cell? ⟨qr, 1, none⟩ = some (.slice A l.length c) ∧ W'.cell? ⟨bd, 0, none⟩ = some (.int .i64 k) ∧ W'.cell? ⟨bs, 0, none⟩ = some (.int .i64 i) ∧ W'.cell? ⟨bv, 0, none⟩ = some (.int .u8 v0) ∧ W'.cell? ⟨bv, 1, none⟩ = some (.int .u64 v1) ∧ W'.cell? ⟨bv, 2, none⟩ = some (.int .i64 v2) ∧ W'.cell? ⟨bv, 3, none⟩ = some (.int .i64 v3)) (first | exact set_cells HA.out.q_ HA.out.bd_ HA.out.bs_ HA.out.bv_) (first
    | (go_at_call 118; (with_reducible refine (HFT.out _ HA.out.b_).mono ?_); rintro e w2 ⟨rfl, hb⟩; have HA := Lk.mk (HA.out.then_ hb); clear hb))
  go_wp2
  have HA := Lk.mk (HA.out.then_ (below_drew (Below.refl _ _)))
  have HRW := Lk.mk (Kd.R_below hR HA.out.b_)
  obtain ⟨c0, c1, c2, c3, c4, c5, c6, c7⟩ := set_cells HA.out.q_ HA.out.bd_ HA.out.bs_ HA.out.bv_
  have hzl : (l.zip ts).length = l.length := zip_len hts
  obtain ⟨g, cap, he, _⟩ := Kd.R_form HRW.out (by omega)
  rw [hzl] at he
  injection he with hA1 _ hc1
  subst hA1
  subst hc1
  have hkt : k < ts.length := by omega
  have hd : (l.zip ts)[k]? = some (((l.getD k dAf).1, (l.getD k dAf).2), ts[k]) := by
    rw [List.getElem?_zip_eq_some]
    exact ⟨by rw [List.getD_eq_getElem?_getD, List.getElem?_eq_getElem hk]; rfl, List.getElem?_eq_getElem hkt⟩
  have HD := Lk.mk hd
  obtain ⟨c9', c9, hne9, hok9, hin3⟩ := tag_at HRW.out hd (by omega)
  have hin := c9
  obtain ⟨cs, hcl, hM9, hcc, hcz⟩ := Kd.R_elem hin3 Sl.dVl (i : Int) (by omega) (by omega)
  rw [Int.toNat_natCast, show kVl.sz = 4 from rfl] at hcc hcz
  obtain ⟨y0, y', rfl, rfl, y1, y2, rfl, rfl, y3, y4, rfl, rfl, rfl⟩ := hM9
  have k0 := hcc 0 _ rfl
  have k1 := hcc 1 _ rfl
  have k2 := hcc 2 _ rfl
  have k3 := hcc 3 _ rfl
  have z0 := hcz 0
  have z1 := hcz 1
  have z2 := hcz 2
  have z3 := hcz 3
  rw [Nat.add_zero] at k0 z0
  have hkz : (k : Int) < (l.length : Int) := by omega
  have hiz : (i : Int) < ((l.getD k dAf).2.length : Int) := by omega
  have HST := Lk.mk (tag_store HRW.out (by rw [List.map_snd_zip (by omega)]; exact hnd) hd hi (v0, v1, v2, v3))
  have HTQ := Lk.mk (show ts[k] < qr from hok9)
  have HTL := Lk.mk hts
  have HL := Lk.mk (show (l.getD k dAf).1 = (l.getD k dAf).1 ∧ k < l.length from ⟨rfl, hk⟩)
  clear hcc hcz hd hR hv hts hnd hA hzl
  have hst9 := tag_R HST.out
  rw [List.map_set, List.map_fst_zip (by have := HTL.out; omega)] at hst9
  have HFR := Lk.mk (show kAf.R 113 (w2.drew.setCells ts[k] (i * 4) (vSeg (v0, v1, v2, v3))) B (fun k => k ≠ qr) (.slice (some ⟨g, 0, none⟩) l.length c) (setL l k i (v0, v1, v2, v3)) from by
    unfold setL
    rw [Int.toNat_natCast, Int.toNat_natCast]
    exact Kd.R_mono hst9 (fun k hk => Nat.ne_of_lt hk))
  have HFQ := Lk.mk (show (w2.drew.setCells ts[k] (i * 4) (vSeg (v0, v1, v2, v3))).heap[qr]? = some (.cells #[.pointer q, .slice (some ⟨g, 0, none⟩) l.length c] 179 (0, 0)) from (setCells_far _ _ qr (Nat.ne_of_gt HTQ.out)).trans HA.out.q_)
  have hbt : B ≤ ts[k] := Kd.R_base hin3 ts[k] (by simp [Value.ownBlock])
  have hqw : qr < W.heap.size := HQW.out
  have hB9 : Below B W w2.drew := ⟨HA.out.b_.os, HA.out.b_.tape, HA.out.b_.output, by have := HA.out.b_.size; omega, fun k hk => HA.out.b_.block k (by omega)⟩
  have HFB := Lk.mk (show Below B W (w2.drew.setCells ts[k] (i * 4) (vSeg (v0, v1, v2, v3))) from (((hB9.setCell (p := ⟨ts[k], i * 4, none⟩) hbt (.int .u8 v0)).setCell (p := ⟨ts[k], i * 4 + 1, none⟩) hbt (.int .u64 v1)).setCell (p := ⟨ts[k], i * 4 + 2, none⟩) hbt (.int .i64 v2)).setCell (p := ⟨ts[k], i * 4 + 3, none⟩) hbt (.int .i64 v3))
  have HNE := Lk.mk (show qr ≠ ts[k] ∧ bd ≠ ts[k] ∧ bs ≠ ts[k] ∧ bv ≠ ts[k] ∧ g ≠ ts[k] from ⟨Nat.ne_of_gt HTQ.out, by omega, by omega, by omega, fun e => hne9 e.symm⟩)
  clear hst9 hbt hqw hB9 hB3
  generalize ts[k] = t at *
  obtain ⟨N, hN⟩ : ∃ N, N = (l.getD k dAf).2.length := ⟨_, rfl⟩
  rw [← hN] at hin hiz c9
  obtain ⟨cells, hb0⟩ := Kd.R_typed hin3 t (by simp [Value.ownBlock])
  have hb9 : w2.heap[t]? = some (.cells cells 56 (0, 0)) := hb0
  have p1 := blk_put hb9 (i * 4) (.int .u8 v0) rfl
  have p2 := blk_put p1 (i * 4 + 1) (.int .u64 v1) rfl
  have p3 := blk_put p2 (i * 4 + 2) (.int .i64 v2) rfl
  have j1 := blk_cell hb0 (i * 4 + 1)
  have j2 := blk_cell hb0 (i * 4 + 2)
  have j3 := blk_cell hb0 (i * 4 + 3)
  rw [k1] at j1
  rw [k2] at j2
  rw [k3] at j3
  have m1 := blk_cell p1 (i * 4 + 1)
  have m2 := blk_cell p2 (i * 4 + 2)
  have m3 := blk_cell p3 (i * 4 + 3)
  rw [Array.getElem?_setIfInBounds_ne (by omega), ← j1] at m1
  rw [Array.getElem?_setIfInBounds_ne (by omega), Array.getElem?_setIfInBounds_ne (by omega), ← j2] at m2
  rw [Array.getElem?_setIfInBounds_ne (by omega), Array.getElem?_setIfInBounds_ne (by omega), Array.getElem?_setIfInBounds_ne (by omega), ← j3] at m3
  have n1 := blk_frozen p1 (i * 4 + 1)
  have n2 := blk_frozen p2 (i * 4 + 2)
  have n3 := blk_frozen p3 (i * 4 + 3)
  have K0 := Lk.mk (show _ ∧ _ from ⟨set_cells HA.out.q_ HA.out.bd_ HA.out.bs_ HA.out.bv_, c9⟩)
  have K9 := Lk.mk (SetS.store K0.out t (i * 4) (vSeg (v0, v1, v2, v3)) HNE.out)
  clear hN hi hin3 hkt hk hb0 hb9 p1 p2 p3 j1 j2 j3
  go_region_held3 (fun W' => (W'.cell? ⟨qr, 0, none⟩ = some (.pointer q) ∧ W'.cell? ⟨qr, 1, none⟩ = some (.slice (some ⟨g, 0, none⟩) l.length c) ∧ W'.cell? ⟨bd, 0, none⟩ = some (.int .i64 k) ∧ W'.cell? ⟨bs, 0, none⟩ = some (.int .i64 i) ∧ W'.cell? ⟨bv, 0, none⟩ = some (.int .u8 v0) ∧ W'.cell? ⟨bv, 1, none⟩ = some (.int .u64 v1) ∧ W'.cell? ⟨bv, 2, none⟩ = some (.int .i64 v2) ∧ W'.cell? ⟨bv, 3, none⟩ = some (.int .i64 v3)) ∧ W'.cell? ⟨g, k * 2 + 1, none⟩ = some (.slice (some ⟨t, 0, none⟩) N c9')) (first | exact K0.out | exact K9.out) (fail "none")
  go_wp2
  simp [bodyPost, results, Tryd.results116]
  exact ⟨HFB.out, .inl ⟨rfl, .slice (some ⟨g, 0, none⟩) l.length c, _, rfl, HFQ.out, HFR.out⟩⟩
end Go.Proofs.YtcepafllgjnngaaDoor
