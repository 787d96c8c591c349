/-
  A store into a part of an element's row's element; the walks of the model's Write; conditions: the row and the table read as told, the row is right.
-/
import Derived.Test.YtcepafllgjnngaaDoorK9
import Derived.Test.YtcepafllgjnngaaDoorPv
import Derived.StillTailTactics
import Derived.Deep.RegionHeld2
namespace Go.Proofs.YtcepafllgjnngaaDoor
open Go.RowKit Go.Proofs.YtcepafllgjnngaaDoorW.PrintWords

theorem tag_seg {w : World} {e b g n cap : Nat} {ok : Nat → Prop} {xs : List (Af × Nat)} (h : (tagK kAf).R e w b ok (.slice (some ⟨g, 0, none⟩) n cap) xs) (hnd : (xs.map (·.2)).Nodup) {d : Nat} {f : Int} {sl : List Sl.Vl} {t : Nat} (hd : xs[d]? = some ((f, sl), t)) {s : Nat} (hs : s < sl.length) (seg : List Value) (j0 : Nat) (x' : Sl.Vl) (c : List Value) (hcl : c.length = 4) (hcc : ∀ i u, c[i]? = some u → w.cell? ⟨t, s * 4 + i, none⟩ = some u) (hj : j0 + seg.length ≤ 4) (hM : ∀ w b ok, kVl.M w b ok x' (c.take j0 ++ seg ++ c.drop (j0 + seg.length))) :
    (tagK kAf).R e (w.setCells t (s * 4 + j0) seg) b ok (.slice (some ⟨g, 0, none⟩) n cap) (xs.set d ((f, sl.set s x'), t)) := by
  obtain ⟨c3, h1, hne, hok, h3⟩ := tag_at h hd (by omega)
  have hdl : d < xs.length := (List.getElem?_eq_some_iff.1 hd).1
  have hsg := Kd.R_seg (c := c) (seg := seg) (j := j0) (okp := fun _ => False) (x' := x') h3 (s : Int) (by omega) (by omega) hcl (by rw [Int.toNat_natCast]; exact hcc) hj (hM _ _ _) (fun _ h => h.elim)
  rw [Int.toNat_natCast, show kVl.sz = 4 from rfl] at hsg
  obtain ⟨hR3, hgr⟩ := hsg
  obtain ⟨h0, inner, ho, hr⟩ := h
  have hfar : ∀ k, k ≠ t → (w.setCells t (s * 4 + j0) seg).heap[k]? = w.heap[k]? := fun k hk => setCells_far _ _ k hk
  refine ⟨h0, inner, ?_, ?_⟩
  · rw [List.length_set]
    exact own_move ho (fun k hk => hfar k (by
      have : g = k := by simpa [Value.ownBlock] using hk
      omega))
  · refine ⟨by rw [List.length_set]; exact hr.1, fun j p hj => ?_⟩
    rw [List.getElem?_set] at hj
    by_cases hjd : d = j
    · subst hjd
      rw [if_pos rfl, if_pos hdl] at hj
      obtain rfl := (Option.some.inj hj).symm
      obtain ⟨c0, c1, hcs, rfl, v3, rfl, h4⟩ := hr.2 d _ hd
      have hv3 : v3 = .slice (some ⟨t, 0, none⟩) sl.length c3 := by
        have hx := ho.cells (g := g) (by simp [Value.ownBlock]) (d * 2 + 1) v3 (by
          have hy : ((inner.drop (d * 2)).take 2)[1]? = some v3 := by rw [show (tagK kAf).sz = 2 from rfl] at hcs; rw [hcs]; rfl
          rw [List.getElem?_take, if_pos (by decide), List.getElem?_drop] at hy
          exact hy)
        rw [add_plain] at hx
        rw [hx] at h1
        exact Option.some.inj h1
      subst hv3
      rw [hcs]
      refine ⟨_, _, rfl, rfl, _, rfl, ?_⟩
      have hl : (sl.set s x').length = sl.length := List.length_set
      exact Kd.R_mono hR3 (fun k hk => ⟨⟨hk.1.1, fun e => hk.1.2 (by simpa [Value.ownBlock] using e)⟩, hk.2⟩)
    · rw [if_neg hjd] at hj
      have hM := hr.2 j p hj
      have hjt : p.2 ≠ t := by
        intro e
        have hjl : j < xs.length := (List.getElem?_eq_some_iff.1 hj).1
        have h5 : (xs.map (·.2))[j]? = some t := by rw [List.getElem?_map, hj]; exact congrArg some e
        have h6 : (xs.map (·.2))[d]? = some t := by rw [List.getElem?_map, hd]; rfl
        first
          | exact hjd (List.getElem?_inj (by rw [List.length_map]; exact hdl) hnd (h6.trans h5.symm))
          | exact hjd ((List.getElem?_inj (by rw [List.length_map]; exact hdl) hnd).1 (h6.trans h5.symm))
      exact kAf.M_move (fun k hk => hfar k (by rw [hk.2]; exact hjt)) hM
structure WrAt (W0 W : World) (q : Option Addr) (A : Option Addr) (n c bd bs bx qr : Nat) (d s x : Int) : Prop where
  q_ : W.heap[qr]? = some (.cells #[.pointer q, .slice A n c] 179 (0, 0))
  bd_ : W.heap[bd]? = some (.cells #[.int .i64 d] 3 (0, 0))
  bs_ : W.heap[bs]? = some (.cells #[.int .i64 s] 3 (0, 0))
  bx_ : W.heap[bx]? = some (.cells #[.int .u64 x] 23 (0, 0))
  b_ : Below W0.heap.size W0 W
theorem WrAt.then_ {W0 W W' : World} {q A : Option Addr} {n c bd bs bx qr : Nat} {d s x : Int} (h : WrAt W0 W q A n c bd bs bx qr d s x) (hb : Below W.heap.size W W') : WrAt W0 W' q A n c bd bs bx qr d s x :=
  ⟨blk_below h.q_ hb, blk_below h.bd_ hb, blk_below h.bs_ hb, blk_below h.bx_ hb, below_then h.b_ h.b_.size hb⟩
theorem WrAt.cells {W0 W : World} {q A : Option Addr} {n c bd bs bx qr : Nat} {d s x : Int} (h : WrAt W0 W q A n c bd bs bx qr d s x) : W.cell? ⟨qr, 0, none⟩ = some (.pointer q) ∧ W.cell? ⟨qr, 1, none⟩ = some (.slice A n c) ∧ W.cell? ⟨bd, 0, none⟩ = some (.int .i64 d) ∧ W.cell? ⟨bs, 0, none⟩ = some (.int .i64 s) ∧ W.cell? ⟨bx, 0, none⟩ = some (.int .u64 x) := by
  obtain ⟨a, b⟩ := cells2v h.q_
  exact ⟨a, b, by rw [blk_cell h.bd_ 0]; rfl, by rw [blk_cell h.bs_ 0]; rfl, by rw [blk_cell h.bx_ 0]; rfl⟩
theorem swapA {K : Act → World → Prop} {a : Act} {w : World} {d : Option Tmp} {v : Value} (hF : False) (_ : K (a.put d v) w) : K a w := hF.elim
theorem far4 {w : World} {g h : Nat} {o : Obj} (hg : w.heap[g]? = some o) (hne : g ≠ h) (a b c d : Value) : ((((w.setCell ⟨h, 0, none⟩ a).setCell ⟨h, 1, none⟩ b).setCell ⟨h, 2, none⟩ c).setCell ⟨h, 3, none⟩ d).heap[g]? = some o := by
  rw [Below.heap_setCell _ ⟨h, 3, none⟩ _ _ hne, Below.heap_setCell _ ⟨h, 2, none⟩ _ _ hne, Below.heap_setCell _ ⟨h, 1, none⟩ _ _ hne, Below.heap_setCell _ ⟨h, 0, none⟩ _ _ hne]
  exact hg
theorem WrAt.store4 {W0 W : World} {q A : Option Addr} {n c bd bs bx qr g : Nat} {d s x : Int} (h : WrAt W0 W q A n c bd bs bx qr d s x) (hg : W0.heap.size ≤ g) (h1 : qr < W0.heap.size) (h2 : bd < W0.heap.size) (h3 : bs < W0.heap.size) (h4 : bx < W0.heap.size) (a b e f : Value) : WrAt W0 ((((W.setCell ⟨g, 0, none⟩ a).setCell ⟨g, 1, none⟩ b).setCell ⟨g, 2, none⟩ e).setCell ⟨g, 3, none⟩ f) q A n c bd bs bx qr d s x :=
  ⟨far4 h.q_ (by omega) a b e f, far4 h.bd_ (by omega) a b e f, far4 h.bs_ (by omega) a b e f, far4 h.bx_ (by omega) a b e f, belowF h.b_ hg a b e f⟩
theorem zip_tag {l : List Af} {ts : List Nat} (hts : ts.length = l.length) {k : Nat} (hk : k < l.length) : (l.zip ts)[k]? = some (((l.getD k dAf).1, (l.getD k dAf).2), ts.getD k 0) := by
  rw [List.getElem?_zip_eq_some]
  refine ⟨by rw [List.getD_eq_getElem?_getD, List.getElem?_eq_getElem hk]; rfl, ?_⟩
  show ts[k]? = some (ts.getD k 0)
  rw [List.getD_eq_getElem?_getD, List.getElem?_eq_getElem (show k < ts.length by omega)]; rfl
/-- other bits are stored into a slot of a row of one's own -/
theorem bits_store {W : World} {B qr g n c : Nat} {l : List Af} {ts : List Nat} {k i : Nat} (h : (tagK kAf).R 113 W B (fun k => k < qr) (.slice (some ⟨g, 0, none⟩) n c) (l.zip ts)) (hts : ts.length = l.length) (hnd : ts.Nodup) (hk : k < l.length) (hi : i < (l.getD k dAf).2.length) (x : Int) :
    ∃ c9, W.cell? ⟨g, k * 2 + 1, none⟩ = some (.slice (some ⟨ts.getD k 0, 0, none⟩) (l.getD k dAf).2.length c9) ∧ ts.getD k 0 ≠ g ∧ ts.getD k 0 < qr ∧ B ≤ ts.getD k 0 ∧ (∀ j : Nat, j < (l.getD k dAf).2.length → W.cell? ⟨ts.getD k 0, j * 4 + 1, none⟩ = some (.int .u64 (slotZ l k j).2.1) ∧ W.frozen? ⟨ts.getD k 0, j * 4 + 1, none⟩ = false) ∧
      kAf.R 113 (W.setCell ⟨ts.getD k 0, i * 4 + 1, none⟩ (.int .u64 x)) B (fun k => k ≠ qr) (.slice (some ⟨g, 0, none⟩) n c) (setL l k i ((slotZ l k i).1, x, (slotZ l k i).2.2.1, (slotZ l k i).2.2.2)) := by
  have hd := zip_tag hts hk
  obtain ⟨c3, h1, hne, hok, h3⟩ := tag_at h hd (by omega)
  have hz : ∀ j : Nat, (slotZ l k j) = (l.getD k dAf).2.getD j Sl.dVl := fun j => by unfold slotZ; rw [Int.toNat_natCast, Int.toNat_natCast]
  have hall : ∀ j : Nat, j < (l.getD k dAf).2.length → (W.cell? ⟨ts.getD k 0, j * 4 + 1, none⟩ = some (.int .u64 (slotZ l k j).2.1) ∧ W.frozen? ⟨ts.getD k 0, j * 4 + 1, none⟩ = false) := fun j hj => by
    obtain ⟨cs, hcl, hM9, hcc, hcz⟩ := Kd.R_elem h3 Sl.dVl (j : Int) (by omega) (by omega)
    rw [Int.toNat_natCast, show kVl.sz = 4 from rfl] at hcc hcz
    obtain ⟨y0, y', rfl, rfl, y1, y2, rfl, rfl, y3, y4, rfl, rfl, rfl⟩ := hM9
    exact ⟨by rw [hz]; exact hcc 1 _ rfl, hcz 1⟩
  obtain ⟨cs, hcl, hM9, hcc, hcz⟩ := Kd.R_elem h3 Sl.dVl (i : Int) (by omega) (by omega)
  rw [Int.toNat_natCast, show kVl.sz = 4 from rfl] at hcc hcz
  obtain ⟨y0, y', rfl, rfl, y1, y2, rfl, rfl, y3, y4, rfl, rfl, rfl⟩ := hM9
  have hst := tag_seg h (by rw [List.map_snd_zip (by omega)]; exact hnd) hd hi [.int .u64 x] 1 ((slotZ l k i).1, x, (slotZ l k i).2.2.1, (slotZ l k i).2.2.2) _ rfl (fun i u hu => hcc i u hu) (by show 1 + 1 ≤ 4; decide) (fun w b ok => by rw [hz]; exact vSeg_M w b ok _)
  have hst9 := tag_R hst
  rw [List.map_set, List.map_fst_zip (by omega)] at hst9
  refine ⟨c3, h1, hne, hok, Kd.R_base h3 _ (by simp [Value.ownBlock]), hall, ?_⟩
  have e : setL l k i ((slotZ l k i).1, x, (slotZ l k i).2.2.1, (slotZ l k i).2.2.2) = l.set k ((l.getD k dAf).1, (l.getD k dAf).2.set i ((slotZ l k i).1, x, (slotZ l k i).2.2.1, (slotZ l k i).2.2.2)) := by
    unfold setL
    rw [Int.toNat_natCast, Int.toNat_natCast]
  rw [e]
  exact Kd.R_mono hst9 (fun k hk => Nat.ne_of_lt hk)
def writeN (ptr : Int → Int → Bool) (l : List Af) (d s : Int) : Int := if refersN ptr l d s = 0 then (if ptr (l.getD (slotZ l d s).2.2.1.toNat dAf).1 (slotZ l d s).2.2.2 = true then 5 else 0) else refersN ptr l d s
/-- a slot with other bits -/
def bitsZ (l : List Af) (d s x : Int) : Sl.Vl := ((slotZ l d s).1, x, (slotZ l d s).2.2.1, (slotZ l d s).2.2.2)
def writeL (l : List Af) (d s x : Int) : List Af := setL l (slotZ l d s).2.2.1 (slotZ l d s).2.2.2 (bitsZ l (slotZ l d s).2.2.1 (slotZ l d s).2.2.2 x)
set_option maxRecDepth 100000 in
set_option maxHeartbeats 8000000 in
theorem mwrite1_thrown (q : Option Addr) (ent : List (Int × (List Int × List Int))) (l : List Af) (res : List Af → Prop) (d s x : Int) (B bd bs bx qr : Nat) (A : Option Addr) (c : Nat) (W : World) (ht : TblOr W (.pointer q) ent) (hw : ∀ e ∈ ent, Bm.Words e.2.1) (hBW : B ≤ W.heap.size) (hA : WrAt W W q A l.length c bd bs bx qr d s x) (hC : kAf.C W A l.length l) (hR : RightP (tSize ent) (tPtr ent) l) (hln : AfLen l) (hs9 : s ≤ 9223372036854775807) (hn : ¬ writeN (tPtr ent) l d s = 0) :
    Calls Tryd.prog 123 #[.pointer (some ⟨qr, 0, none⟩), .pointer (some ⟨bd, 0, none⟩), .pointer (some ⟨bs, 0, none⟩), .pointer (some ⟨bx, 0, none⟩)] W fun e W' => HowL res (fun n => n = writeN (tPtr ent) l d s) (.pointer q) B qr W e W' := by
  have HRF := Lk.mk (fun W' (hb : Below W.heap.size W W') => mrefers_any q ent A c l d s W' (ht.below hb) hw (Kd.C_below hC hb) hs9)
  have HL4 := Lk.mk (show qr < W.heap.size ∧ bd < W.heap.size ∧ bs < W.heap.size ∧ bx < W.heap.size from ⟨blk_lt hA.q_, blk_lt hA.bd_, blk_lt hA.bs_, blk_lt hA.bx_⟩)
  have HAz := Lk.mk (hA.then_ (below_drew (below_alloc (Below.refl W.heap.size W) (.cells #[.int .u8 0, .int .u64 0, .int .i64 0, .int .i64 0] 56))))
  have HZ := Lk.mk (blk_drew (blk_new W (.cells #[.int .u8 0, .int .u64 0, .int .i64 0, .int .i64 0] 56)))
  have HA := Lk.mk (hA.then_ (below_drew (Below.refl _ _)))
  have HBW := Lk.mk hBW
  by_cases h0 : refersN (tPtr ent) l d s = 0
  · skip
    have hT := right_ref hR (refers_has h0) (refers_two h0)
    have HRF2 := Lk.mk (fun W' hb => (HRF.out W' hb).mono (fun e W'' h => (show e = .returned (.agg #[.int .u8 (slotZ l d s).1, .int .u64 (slotZ l d s).2.1, .int .i64 (slotZ l d s).2.2.1, .int .i64 (slotZ l d s).2.2.2]) ∧ Below _ _ W'' from ⟨by rcases h.1 with ⟨_, h⟩ | ⟨h, _⟩; exact h; exact absurd h0 h, h.2⟩)))
    have hN : writeN (tPtr ent) l d s = if tPtr ent (l.getD (slotZ l d s).2.2.1.toNat dAf).1 (slotZ l d s).2.2.2 = true then 5 else 0 := by unfold writeN; rw [if_pos h0]
    generalize writeN (tPtr ent) l d s = nn at *
    generalize slotZ l d s = v at *
    obtain ⟨v0, v1, v2, v3⟩ := v
    dsimp only at *
    obtain ⟨k, i, rfl, rfl, hk, hi⟩ := has_inv hT
    rw [Int.toNat_natCast] at hN
    have hi9 : (i : Int) ≤ 9223372036854775807 := by have := hln.2 _ (getD_mem dAf hk); omega
    have hpt : tPtr ent (l.getD k dAf).1 i = true := by
      cases hq : tPtr ent (l.getD k dAf).1 i with
      | true => rfl
      | false => rw [hq, if_neg (by decide)] at hN; exact absurd hN hn
    rw [hpt, if_pos rfl] at hN
    have HP := Lk.mk (fun W' (hb : Below W.heap.size W W') => hpt ▸ mptr_any (.pointer q) ent A c l k i W' (ht.below hb) hw (Kd.C_below hC hb) hk hi9)
    have HN := Lk.mk hN
    clear ht hw hBW hA hC hR hln hs9 hn h0 hT HRF hN hpt hk hi hi9
    go_enter Tryd.func123, Tryd.ntmps123
    go_wp2
    go_region_held3 (fun W' => W'.cell? ⟨qr, 0, none⟩ = some (.pointer q) ∧ W'.cell? ⟨qr, 1, none⟩ = some (.slice A l.length c) ∧ W'.cell? ⟨bd, 0, none⟩ = some (.int .i64 d) ∧ W'.cell? ⟨bs, 0, none⟩ = some (.int .i64 s) ∧ W'.cell? ⟨bx, 0, none⟩ = some (.int .u64 x)) (first | with_reducible exact HA.out.cells | with_reducible exact HAz.out.cells | with_reducible exact (HA.out.then_ (below_alloc (Below.refl _ _) _)).cells | with_reducible exact (HA.out.store4 (Nat.le_refl _) HL4.out.1 HL4.out.2.1 HL4.out.2.2.1 HL4.out.2.2.2 _ _ _ _).cells | fail "S") (first
      | (go_at_call 122; (with_reducible refine (HRF2.out _ HA.out.b_).mono ?_); rintro e w1 ⟨rfl, hb⟩; have HA := Lk.mk (HA.out.then_ hb); clear hb)
      | (go_at_call 122; (with_reducible refine (HRF2.out _ HAz.out.b_).mono ?_); rintro e w1 ⟨rfl, hb⟩; have HA := Lk.mk (HAz.out.then_ hb); have HZ1 := Lk.mk (blk_below HZ.out hb); obtain ⟨s0, s1, s2, s3, u0, u1, u2, u3⟩ := cells4z HZ1.out; clear hb))
    · have HV := Lk.mk (blk_drew (blk_new w1 (.cells #[.int .u8 v0, .int .u64 v1, .int .i64 (k : Int), .int .i64 (i : Int)] 56)))
      have HA := Lk.mk (HA.out.then_ (below_drew (below_alloc (Below.refl w1.heap.size w1) (.cells #[.int .u8 v0, .int .u64 v1, .int .i64 (k : Int), .int .i64 (i : Int)] 56))))
      go_wp2
      go_region_held2 (fun W' => W'.cell? ⟨qr, 0, none⟩ = some (.pointer q) ∧ W'.cell? ⟨qr, 1, none⟩ = some (.slice A l.length c) ∧ W'.cell? ⟨w1.heap.size, 2, none⟩ = some (.int .i64 (k : Int)) ∧ W'.cell? ⟨w1.heap.size, 3, none⟩ = some (.int .i64 (i : Int))) (first | exact hF.elim | exact ⟨HA.out.cells.1, HA.out.cells.2.1, (cells4v HV.out).2.2.1, (cells4v HV.out).2.2.2⟩) (first
        | (go_at_call 124; (with_reducible refine (HP.out _ HA.out.b_).mono ?_); rintro e w2 ⟨rfl, hb⟩; have HA := Lk.mk (HA.out.then_ hb); have HV := Lk.mk (blk_below HV.out hb); clear hb)
        | (go_at_call 112; (with_reducible refine (mmust_no _ _).mono ?_); rintro e w' ⟨rfl, hw⟩; obtain rfl := hw.symm; clear hw; refine as_panic (K := ‹Act → World → Prop›) (by exact ⟨rfl, below_down HA.out.b_ HBW.out, .inr ⟨5, by decide, HN.out.symm, rfl⟩⟩) ?_; intro hF))
      all_goals exact hF.elim
    · have HV := Lk.mk (blk_drew (set4 HZ1.out (.int .u8 v0) (.int .u64 v1) (.int .i64 (k : Int)) (.int .i64 (i : Int))))
      have HA := Lk.mk ((HA.out.store4 (Nat.le_refl _) HL4.out.1 HL4.out.2.1 HL4.out.2.2.1 HL4.out.2.2.2 (.int .u8 v0) (.int .u64 v1) (.int .i64 (k : Int)) (.int .i64 (i : Int))).then_ (below_drew (Below.refl _ _)))
      go_wp2
      go_region_held2 (fun W' => W'.cell? ⟨qr, 0, none⟩ = some (.pointer q) ∧ W'.cell? ⟨qr, 1, none⟩ = some (.slice A l.length c) ∧ W'.cell? ⟨W.heap.size, 2, none⟩ = some (.int .i64 (k : Int)) ∧ W'.cell? ⟨W.heap.size, 3, none⟩ = some (.int .i64 (i : Int))) (first | exact hF.elim | exact ⟨HA.out.cells.1, HA.out.cells.2.1, (cells4v HV.out).2.2.1, (cells4v HV.out).2.2.2⟩) (first
        | (go_at_call 124; (with_reducible refine (HP.out _ HA.out.b_).mono ?_); rintro e w2 ⟨rfl, hb⟩; have HA := Lk.mk (HA.out.then_ hb); have HV := Lk.mk (blk_below HV.out hb); clear hb)
        | (go_at_call 112; (with_reducible refine (mmust_no _ _).mono ?_); rintro e w' ⟨rfl, hw⟩; obtain rfl := hw.symm; clear hw; refine as_panic (K := ‹Act → World → Prop›) (by exact ⟨rfl, below_down HA.out.b_ HBW.out, .inr ⟨5, by decide, HN.out.symm, rfl⟩⟩) ?_; intro hF))
      all_goals exact hF.elim
  · have HRF2 := Lk.mk (fun W' hb => (HRF.out W' hb).mono (fun e W'' h => (show e = .panicked (wrongC (refersN (tPtr ent) l d s)) ∧ Below _ _ W'' from ⟨by rcases h.1 with ⟨h, _⟩ | ⟨_, h⟩; exact absurd h h0; exact h, h.2⟩)))
    have hN : writeN (tPtr ent) l d s = refersN (tPtr ent) l d s := by unfold writeN; rw [if_neg h0]
    have HN := Lk.mk hN
    have HN0 := Lk.mk h0
    clear ht hw hBW hA hC hR hln hs9 hn h0 HRF hN
    generalize refersN (tPtr ent) l d s = nr at *
    generalize writeN (tPtr ent) l d s = nn at *
    go_enter Tryd.func123, Tryd.ntmps123
    go_wp2
    go_region_held2 (fun W' => W'.cell? ⟨qr, 0, none⟩ = some (.pointer q) ∧ W'.cell? ⟨qr, 1, none⟩ = some (.slice A l.length c) ∧ W'.cell? ⟨bd, 0, none⟩ = some (.int .i64 d) ∧ W'.cell? ⟨bs, 0, none⟩ = some (.int .i64 s) ∧ W'.cell? ⟨bx, 0, none⟩ = some (.int .u64 x)) (first | exact HF9.out.elim | with_reducible exact HA.out.cells | with_reducible exact HAz.out.cells) (first
      | (go_at_call 122; (with_reducible refine (HRF2.out _ HA.out.b_).mono ?_); rintro e w1 ⟨rfl, hb⟩; refine as_panic (K := ‹Act → World → Prop›) (by exact ⟨rfl, below_down (below_then HA.out.b_ HA.out.b_.size hb) HBW.out, .inr ⟨nr, HN0.out, HN.out.symm, rfl⟩⟩) ?_; intro hF9; have HF9 := Lk.mk hF9; clear hF9; refine swapA (d := some 11) (v := .agg #[.int .u8 0, .int .u64 0, .int .i64 0, .int .i64 0]) HF9.out ?_; go_simp)
      | (go_at_call 122; (with_reducible refine (HRF2.out _ HAz.out.b_).mono ?_); rintro e w1 ⟨rfl, hb⟩; have HZ1 := Lk.mk (blk_below HZ.out hb); obtain ⟨s0, s1, s2, s3, u0, u1, u2, u3⟩ := cells4z HZ1.out; refine as_panic (K := ‹Act → World → Prop›) (by exact ⟨rfl, below_down (below_then HAz.out.b_ HAz.out.b_.size hb) HBW.out, .inr ⟨nr, HN0.out, HN.out.symm, rfl⟩⟩) ?_; intro hF9; have HF9 := Lk.mk hF9; clear hF9; refine swapA (d := some 11) (v := .agg #[.int .u8 0, .int .u64 0, .int .i64 0, .int .i64 0]) HF9.out ?_; go_simp))
    all_goals exact HF9.out.elim
set_option maxRecDepth 100000 in
set_option maxHeartbeats 8000000 in
theorem mwrite1_ok (q : Option Addr) (ent : List (Int × (List Int × List Int))) (l : List Af) (ts : List Nat) (err : Int → Prop) (d s x : Int) (B bd bs bx qr : Nat) (A : Option Addr) (c : Nat) (W : World) (ht : TblOr W (.pointer q) ent) (hw : ∀ e ∈ ent, Bm.Words e.2.1) (hts : ts.length = l.length) (hnd : ts.Nodup) (hB2 : B ≤ qr) (hB3 : bd < B ∧ bs < B ∧ bx < B) (hA : WrAt W W q A l.length c bd bs bx qr d s x) (hRR : (tagK kAf).R 113 W B (fun k => k < qr) (.slice A l.length c) (l.zip ts)) (hR : RightP (tSize ent) (tPtr ent) l) (hln : AfLen l) (hs9 : s ≤ 9223372036854775807) (hn : writeN (tPtr ent) l d s = 0) :
    Calls Tryd.prog 123 #[.pointer (some ⟨qr, 0, none⟩), .pointer (some ⟨bd, 0, none⟩), .pointer (some ⟨bs, 0, none⟩), .pointer (some ⟨bx, 0, none⟩)] W fun e W' => HowL (fun l' => l' = writeL l d s x) err (.pointer q) B qr W e W' := by
  have hC : kAf.C W A l.length l := by
    have h1 := tag_R hRR
    rw [List.map_fst_zip (by omega)] at h1
    exact (Kd.R_reads' h1).2.2
  have HRF := Lk.mk (fun W' (hb : Below W.heap.size W W') => mrefers_any q ent A c l d s W' (ht.below hb) hw (Kd.C_below hC hb) hs9)
  have HQW := Lk.mk (blk_lt hA.q_)
  have HL4 := Lk.mk (show qr < W.heap.size ∧ bd < W.heap.size ∧ bs < W.heap.size ∧ bx < W.heap.size from ⟨blk_lt hA.q_, blk_lt hA.bd_, blk_lt hA.bs_, blk_lt hA.bx_⟩)
  have HAz := Lk.mk (hA.then_ (below_drew (below_alloc (Below.refl W.heap.size W) (.cells #[.int .u8 0, .int .u64 0, .int .i64 0, .int .i64 0] 56))))
  have HZ := Lk.mk (blk_drew (blk_new W (.cells #[.int .u8 0, .int .u64 0, .int .i64 0, .int .i64 0] 56)))
  have HA := Lk.mk (hA.then_ (below_drew (Below.refl _ _)))
  have h0 : refersN (tPtr ent) l d s = 0 := by
    by_cases h0 : refersN (tPtr ent) l d s = 0
    · exact h0
    · unfold writeN at hn; rw [if_neg h0] at hn; exact hn
  have hT := right_ref hR (refers_has h0) (refers_two h0)
  have HRF2 := Lk.mk (fun W' hb => (HRF.out W' hb).mono (fun e W'' h => (show e = .returned (.agg #[.int .u8 (slotZ l d s).1, .int .u64 (slotZ l d s).2.1, .int .i64 (slotZ l d s).2.2.1, .int .i64 (slotZ l d s).2.2.2]) ∧ Below _ _ W'' from ⟨by rcases h.1 with ⟨_, h⟩ | ⟨h, _⟩; exact h; exact absurd h0 h, h.2⟩)))
  have hN : writeN (tPtr ent) l d s = if tPtr ent (l.getD (slotZ l d s).2.2.1.toNat dAf).1 (slotZ l d s).2.2.2 = true then 5 else 0 := by unfold writeN; rw [if_pos h0]
  rw [hn] at hN
  unfold writeL bitsZ
  generalize hvv : slotZ l d s = v at *
  obtain ⟨v0, v1, v2, v3⟩ := v
  dsimp only at *
  obtain ⟨k, i, rfl, rfl, hk, hi⟩ := has_inv hT
  rw [Int.toNat_natCast] at hN
  have hi9 : (i : Int) ≤ 9223372036854775807 := by have := hln.2 _ (getD_mem dAf hk); omega
  have hpt : tPtr ent (l.getD k dAf).1 i = false := by
    cases hq : tPtr ent (l.getD k dAf).1 i with
    | false => rfl
    | true => rw [hq, if_pos rfl] at hN; exact absurd hN (by decide)
  have HP := Lk.mk (fun W' (hb : Below W.heap.size W W') => hpt ▸ mptr_any (.pointer q) ent A c l k i W' (ht.below hb) hw (Kd.C_below hC hb) hk hi9)
  clear ht hw hA hC hR hln hs9 hn h0 hT HRF hN hpt hvv
  go_enter Tryd.func123, Tryd.ntmps123
  go_wp2
  go_region_held3 (fun W' => W'.cell? ⟨qr, 0, none⟩ = some (.pointer q) ∧ W'.cell? ⟨qr, 1, none⟩ = some (.slice A l.length c) ∧ W'.cell? ⟨bd, 0, none⟩ = some (.int .i64 d) ∧ W'.cell? ⟨bs, 0, none⟩ = some (.int .i64 s) ∧ W'.cell? ⟨bx, 0, none⟩ = some (.int .u64 x)) (first | with_reducible exact HA.out.cells | with_reducible exact HAz.out.cells | with_reducible exact (HA.out.then_ (below_alloc (Below.refl _ _) _)).cells | with_reducible exact (HA.out.store4 (Nat.le_refl _) HL4.out.1 HL4.out.2.1 HL4.out.2.2.1 HL4.out.2.2.2 _ _ _ _).cells | fail "S") (first
    | (go_at_call 122; (with_reducible refine (HRF2.out _ HA.out.b_).mono ?_); rintro e w1 ⟨rfl, hb⟩; have HA := Lk.mk (HA.out.then_ hb); clear hb)
    | (go_at_call 122; (with_reducible refine (HRF2.out _ HAz.out.b_).mono ?_); rintro e w1 ⟨rfl, hb⟩; have HA := Lk.mk (HAz.out.then_ hb); have HZ1 := Lk.mk (blk_below HZ.out hb); obtain ⟨s0, s1, s2, s3, u0, u1, u2, u3⟩ := cells4z HZ1.out; clear hb))
  · have HV := Lk.mk (blk_drew (blk_new w1 (.cells #[.int .u8 v0, .int .u64 v1, .int .i64 (k : Int), .int .i64 (i : Int)] 56)))
    have HW1 := Lk.mk HA.out.b_.size
    have HA := Lk.mk (HA.out.then_ (below_drew (below_alloc (Below.refl w1.heap.size w1) (.cells #[.int .u8 v0, .int .u64 v1, .int .i64 (k : Int), .int .i64 (i : Int)] 56))))
    go_wp2
    go_region_held3 (fun W' => W'.cell? ⟨qr, 0, none⟩ = some (.pointer q) ∧ W'.cell? ⟨qr, 1, none⟩ = some (.slice A l.length c) ∧ W'.cell? ⟨w1.heap.size, 2, none⟩ = some (.int .i64 (k : Int)) ∧ W'.cell? ⟨w1.heap.size, 3, none⟩ = some (.int .i64 (i : Int))) (first | exact ⟨HA.out.cells.1, HA.out.cells.2.1, (cells4v HV.out).2.2.1, (cells4v HV.out).2.2.2⟩) (first
      | (go_at_call 124; (with_reducible refine (HP.out _ HA.out.b_).mono ?_); rintro e w2 ⟨rfl, hb⟩; have HA := Lk.mk (HA.out.then_ hb); have HV := Lk.mk (blk_below HV.out hb); clear hb)
      | (go_at_call 112; (with_reducible refine (mmust_ok _ _).mono ?_); rintro e w' ⟨rfl, hw⟩; obtain rfl := hw.symm; clear hw))
    go_wp2
    have HV := Lk.mk (blk_drew HV.out)
    have HA := Lk.mk (HA.out.then_ (below_drew (Below.refl _ _)))
    have HRW := Lk.mk (Kd.R_below hRR HA.out.b_)
    have hzl : (l.zip ts).length = l.length := zip_len hts
    obtain ⟨g, cap, he, _⟩ := Kd.R_form HRW.out (by omega)
    rw [hzl] at he
    injection he with hA1 _ hc1
    subst hA1
    subst hc1
    obtain ⟨c9, t1, t2, t3, t4, tall, t7⟩ := bits_store HRW.out hts hnd hk hi x
    obtain ⟨t5, t6⟩ := tall i hi
    clear tall
    generalize ts.getD k 0 = t at *
    have hkz : (k : Int) < (l.length : Int) := by omega
    have hiz : (i : Int) < ((l.getD k dAf).2.length : Int) := by omega
    have hqw : qr < W.heap.size := HQW.out
    have hw1 := HW1.out
    have HFR := Lk.mk t7
    have HFQ := Lk.mk ((Below.heap_setCell w2.drew ⟨t, i * 4 + 1, none⟩ (.int .u64 x) qr (show qr ≠ t by omega)).trans HA.out.q_)
    have hB9 : Below B W w2.drew := below_down HA.out.b_ (by omega)
    have HFB := Lk.mk (hB9.setCell (p := ⟨t, i * 4 + 1, none⟩) t4 (.int .u64 x))
    obtain ⟨c0, c1, c2, c3, c4⟩ := HA.out.cells
    obtain ⟨d0, d1, d2, d3⟩ := cells4v HV.out
    generalize (l.getD k dAf).2.length = N at *
    clear hRR hts hnd hzl hk hi hi9 HRW t7 hqw hw1 hB9 hB3 hB2 t2 t3 t4
    go_region
    go_wp2
    simp [bodyPost, results, Tryd.results123]
    exact ⟨HFB.out, .inl ⟨rfl, .slice (some ⟨g, 0, none⟩) l.length c, _, rfl, HFQ.out, HFR.out⟩⟩
  · have HV := Lk.mk (blk_drew (set4 HZ1.out (.int .u8 v0) (.int .u64 v1) (.int .i64 (k : Int)) (.int .i64 (i : Int))))
    have HW1 := Lk.mk HA.out.b_.size
    have HA := Lk.mk ((HA.out.store4 (Nat.le_refl _) HL4.out.1 HL4.out.2.1 HL4.out.2.2.1 HL4.out.2.2.2 (.int .u8 v0) (.int .u64 v1) (.int .i64 (k : Int)) (.int .i64 (i : Int))).then_ (below_drew (Below.refl _ _)))
    go_wp2
    go_region_held3 (fun W' => W'.cell? ⟨qr, 0, none⟩ = some (.pointer q) ∧ W'.cell? ⟨qr, 1, none⟩ = some (.slice A l.length c) ∧ W'.cell? ⟨W.heap.size, 2, none⟩ = some (.int .i64 (k : Int)) ∧ W'.cell? ⟨W.heap.size, 3, none⟩ = some (.int .i64 (i : Int))) (first | exact ⟨HA.out.cells.1, HA.out.cells.2.1, (cells4v HV.out).2.2.1, (cells4v HV.out).2.2.2⟩) (first
      | (go_at_call 124; (with_reducible refine (HP.out _ HA.out.b_).mono ?_); rintro e w2 ⟨rfl, hb⟩; have HA := Lk.mk (HA.out.then_ hb); have HV := Lk.mk (blk_below HV.out hb); clear hb)
      | (go_at_call 112; (with_reducible refine (mmust_ok _ _).mono ?_); rintro e w' ⟨rfl, hw⟩; obtain rfl := hw.symm; clear hw))
    go_wp2
    have HV := Lk.mk (blk_drew HV.out)
    have HA := Lk.mk (HA.out.then_ (below_drew (Below.refl _ _)))
    have HRW := Lk.mk (Kd.R_below hRR HA.out.b_)
    have hzl : (l.zip ts).length = l.length := zip_len hts
    obtain ⟨g, cap, he, _⟩ := Kd.R_form HRW.out (by omega)
    rw [hzl] at he
    injection he with hA1 _ hc1
    subst hA1
    subst hc1
    obtain ⟨c9, t1, t2, t3, t4, tall, t7⟩ := bits_store HRW.out hts hnd hk hi x
    obtain ⟨t5, t6⟩ := tall i hi
    clear tall
    generalize ts.getD k 0 = t at *
    have hkz : (k : Int) < (l.length : Int) := by omega
    have hiz : (i : Int) < ((l.getD k dAf).2.length : Int) := by omega
    have hqw : qr < W.heap.size := HQW.out
    have hw1 := HW1.out
    have HFR := Lk.mk t7
    have HFQ := Lk.mk ((Below.heap_setCell w2.drew ⟨t, i * 4 + 1, none⟩ (.int .u64 x) qr (show qr ≠ t by omega)).trans HA.out.q_)
    have hB9 : Below B W w2.drew := below_down HA.out.b_ (by omega)
    have HFB := Lk.mk (hB9.setCell (p := ⟨t, i * 4 + 1, none⟩) t4 (.int .u64 x))
    obtain ⟨c0, c1, c2, c3, c4⟩ := HA.out.cells
    obtain ⟨d0, d1, d2, d3⟩ := cells4v HV.out
    generalize (l.getD k dAf).2.length = N at *
    clear hRR hts hnd hzl hk hi hi9 HRW t7 hqw hw1 hB9 hB3 hB2 t2 t3 t4
    go_region
    go_wp2
    simp [bodyPost, results, Tryd.results123]
    exact ⟨HFB.out, .inl ⟨rfl, .slice (some ⟨g, 0, none⟩) l.length c, _, rfl, HFQ.out, HFR.out⟩⟩
end Go.Proofs.YtcepafllgjnngaaDoor
