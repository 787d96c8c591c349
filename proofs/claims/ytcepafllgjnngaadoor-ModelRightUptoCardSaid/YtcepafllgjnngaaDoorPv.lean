/-
  The walk of the model's Set's literal where the value does not fit, and of Set; conditions: the row and the table read as told, the row is right.
-/
import Derived.Test.YtcepafllgjnngaaDoorPu
import Derived.Deep.RegionHeld2
namespace Go.Proofs.YtcepafllgjnngaaDoor
open Go.RowKit Go.Proofs.YtcepafllgjnngaaDoorW.PrintWords

set_option maxRecDepth 100000 in
set_option maxHeartbeats 8000000 in
theorem mset1_thrown (q : Option Addr) (ent : List (Int × (List Int × List Int))) (l : List Af) (res : List Af → Prop) (k i : Nat) (v0 v1 v2 v3 : Int) (B bd bs bv qr : Nat) (A : Option Addr) (c : Nat) (W : World) (ht : TblOr W (.pointer q) ent) (hw : ∀ e ∈ ent, Bm.Words e.2.1) (hBW : B ≤ W.heap.size) (hA : SetAt W W q A l.length c bd bs bv qr k i v0 v1 v2 v3) (hC : kAf.C W A l.length l) (hk : k < l.length) (hi : i < (l.getD k dAf).2.length) (hi2 : (i : Int) ≤ 9223372036854775807) (hv : VlIn (v0, v1, v2, v3)) (hf : ¬ fitsN (tPtr ent) l k i (v0, v1, v2, v3) = 0) :
    Calls Tryd.prog 116 #[.pointer (some ⟨qr, 0, none⟩), .pointer (some ⟨bd, 0, none⟩), .pointer (some ⟨bs, 0, none⟩), .pointer (some ⟨bv, 0, none⟩)] W fun e W' => HowL res (fun n => n = fitsN (tPtr ent) l k i (v0, v1, v2, v3)) (.pointer q) B qr W e W' := by
  have hh : hasA l (k : Int) (i : Int) = true := has_nat hk hi
  have HH := Lk.mk (fun W' (hb : Below W.heap.size W W') => mhas_any (.pointer q) A c l k i W' (Kd.C_below hC hb))
  rw [hh] at HH
  have HFT := Lk.mk (fun W' (hb : Below W.heap.size W W') => (mfits_any (.pointer q) ent A c l k i (v0, v1, v2, v3) W' (ht.below hb) hw (Kd.C_below hC hb) hk hi2 hv).mono (fun e W'' (h : FitsE (fitsN (tPtr ent) l k i (v0, v1, v2, v3)) e ∧ Below W'.heap.size W' W'') => (show e = .panicked (wrongC (fitsN (tPtr ent) l k i (v0, v1, v2, v3))) ∧ Below W'.heap.size W' W'' from ⟨by rcases h.1 with ⟨h, _⟩ | ⟨_, h⟩; exact absurd h hf; exact h, h.2⟩)))
  have HA := Lk.mk (hA.then_ (below_drew (Below.refl _ _)))
  have HN := Lk.mk hf
  have HBW := Lk.mk hBW
  clear hh ht hw hC hf hBW
  generalize fitsN (tPtr ent) l k i (v0, v1, v2, v3) = n at *
  go_enter Tryd.func116, Tryd.ntmps116
  go_wp2
  go_region_held3 (fun W' => W'.cell? ⟨qr, 0, none⟩ = some (.pointer q) ∧ W'.cell? ⟨qr, 1, none⟩ = some (.slice A l.length c) ∧ W'.cell? ⟨bd, 0, none⟩ = some (.int .i64 k) ∧ W'.cell? ⟨bs, 0, none⟩ = some (.int .i64 i) ∧ W'.cell? ⟨bv, 0, none⟩ = some (.int .u8 v0) ∧ W'.cell? ⟨bv, 1, none⟩ = some (.int .u64 v1) ∧ W'.cell? ⟨bv, 2, none⟩ = some (.int .i64 v2) ∧ W'.cell? ⟨bv, 3, none⟩ = some (.int .i64 v3)) (first | exact set_cells HA.out.q_ HA.out.bd_ HA.out.bs_ HA.out.bv_) (first
    | (go_at_call 117; (with_reducible refine (HH.out _ HA.out.b_).mono ?_); rintro e w1 ⟨rfl, hb⟩; have HA := Lk.mk (HA.out.then_ hb); clear hb)
    | (go_at_call 112; (with_reducible refine (mmust_ok _ _).mono ?_); rintro e w' ⟨rfl, hw⟩; obtain rfl := hw.symm; clear hw))
  go_wp2
  have HA := Lk.mk (HA.out.then_ (below_drew (Below.refl _ _)))
  go_region_held2 (fun W' => W'.cell? ⟨qr, 0, none⟩ = some (.pointer q) ∧ W'.cell? ⟨qr, 1, none⟩ = some (.slice A l.length c) ∧ W'.cell? ⟨bd, 0, none⟩ = some (.int .i64 k) ∧ W'.cell? ⟨bs, 0, none⟩ = some (.int .i64 i) ∧ W'.cell? ⟨bv, 0, none⟩ = some (.int .u8 v0) ∧ W'.cell? ⟨bv, 1, none⟩ = some (.int .u64 v1) ∧ W'.cell? ⟨bv, 2, none⟩ = some (.int .i64 v2) ∧ W'.cell? ⟨bv, 3, none⟩ = some (.int .i64 v3)) (first | exact hF.elim | exact set_cells HA.out.q_ HA.out.bd_ HA.out.bs_ HA.out.bv_) (first
    | (go_at_call 118; (with_reducible refine (HFT.out _ HA.out.b_).mono ?_); rintro e w2 ⟨rfl, hb⟩; refine as_panic (K := ‹Act → World → Prop›) (by exact ⟨rfl, below_down (below_then HA.out.b_ HA.out.b_.size hb) HBW.out, .inr ⟨n, HN.out, rfl, rfl⟩⟩) ?_; intro hF))
  all_goals exact hF.elim
/-- what Set answers, and its error -/
def setN (ptr : Int → Int → Bool) (l : List Af) (d s : Int) (v : Sl.Vl) : Int := if hasA l d s = true then fitsN ptr l d s v else 2
def setR (ptr : Int → Int → Bool) (l : List Af) (d s : Int) (v : Sl.Vl) : List Af := if setN ptr l d s v = 0 then setL l d s v else l
set_option maxRecDepth 100000 in
set_option maxHeartbeats 8000000 in
theorem mset_any (q : Option Addr) (ent : List (Int × (List Int × List Int))) (A : Option Addr) (c : Nat) (l : List Af) (d s v0 v1 v2 v3 : Int) (w : World) (ht : TblOr w (.pointer q) ent) (hw : ∀ e ∈ ent, Bm.Words e.2.1) (hr : kAf.C w A l.length l) (hl : AfLen l) (hv : AfIn l) (hR : RightP (tSize ent) (tPtr ent) l) (hvi : VlIn (v0, v1, v2, v3)) :
    Calls Tryd.prog 71 #[.pointer q, .slice A l.length c, .int .i64 d, .int .i64 s, .agg #[.int .u8 v0, .int .u64 v1, .int .i64 v2, .int .i64 v3]] w fun e w' => Below w.heap.size w w' ∧ ∃ u, kAf.R 113 w' w.heap.size (fun _ => True) u (setR (tPtr ent) l d s (v0, v1, v2, v3)) ∧ e = .returned (.tuple #[u, .int .i64 (setN (tPtr ent) l d s (v0, v1, v2, v3))]) := by
  have h1 : (w.alloc (.cells #[.int .i64 d] 3)).heap.size = w.heap.size + 1 := by simp
  have h2 : ((w.alloc (.cells #[.int .i64 d] 3)).alloc (.cells #[.int .i64 s] 3)).heap.size = w.heap.size + 1 + 1 := by simp
  have h3 : (((w.alloc (.cells #[.int .i64 d] 3)).alloc (.cells #[.int .i64 s] 3)).alloc (.cells #[.int .u8 v0, .int .u64 v1, .int .i64 v2, .int .i64 v3] 56)).heap.size = w.heap.size + 1 + 1 + 1 := by simp
  have H0 := Lk.mk (below_alloc (below_alloc (below_alloc (Below.refl w.heap.size w) (.cells #[.int .i64 d] 3)) (.cells #[.int .i64 s] 3)) (.cells #[.int .u8 v0, .int .u64 v1, .int .i64 v2, .int .i64 v3] 56))
  have hbd := blk_alloc (blk_alloc (blk_new w (.cells #[.int .i64 d] 3)) (.cells #[.int .i64 s] 3)) (.cells #[.int .u8 v0, .int .u64 v1, .int .i64 v2, .int .i64 v3] 56)
  have hbs := blk_alloc (blk_new (w.alloc (.cells #[.int .i64 d] 3)) (.cells #[.int .i64 s] 3)) (.cells #[.int .u8 v0, .int .u64 v1, .int .i64 v2, .int .i64 v3] 56)
  rw [h1] at hbs
  have hbv := blk_new ((w.alloc (.cells #[.int .i64 d] 3)).alloc (.cells #[.int .i64 s] 3)) (.cells #[.int .u8 v0, .int .u64 v1, .int .i64 v2, .int .i64 v3] 56)
  rw [h2] at hbv
  have eg := enters_of Tryd.func116 (by kernel_rfl) rfl
  have HC := Lk.mk (mchange_tag q ent 116 #[.pointer (some ⟨w.heap.size, 0, none⟩), .pointer (some ⟨w.heap.size + 1, 0, none⟩), .pointer (some ⟨w.heap.size + 1 + 1, 0, none⟩)] A c l (fun l' => setN (tPtr ent) l d s (v0, v1, v2, v3) = 0 ∧ l' = setL l d s (v0, v1, v2, v3)) (fun n => n = setN (tPtr ent) l d s (v0, v1, v2, v3)) _ eg (ht.below H0.out) hw (Kd.C_below hr H0.out) hl hv hR
    (fun W qr v ts hts hnd hb hqr hq hRR => by
      rw [h3] at hb hqr hRR ⊢
      have hC9 := tag_R hRR
      rw [List.map_fst_zip (by omega)] at hC9
      obtain ⟨A9, c9, rfl, hc9, hC⟩ := Kd.R_reads hC9
      have hqw := blk_lt hq
      cases hh : hasA l d s with
      | false =>
        have hx := mset1_has q l d s (fun l' => setN (tPtr ent) l d s (v0, v1, v2, v3) = 0 ∧ l' = setL l d s (v0, v1, v2, v3)) (w.heap.size + 1 + 1 + 1 + 3) w.heap.size (w.heap.size + 1) (w.heap.size + 1 + 1) qr A9 c9 W (by omega) (blk_below hbd (h3 ▸ hb)) (blk_below hbs (h3 ▸ hb)) hq hC hh
        have hn : setN (tPtr ent) l d s (v0, v1, v2, v3) = 2 := by unfold setN; rw [hh, if_neg (by decide)]
        rw [hn] at hx ⊢
        exact hx
      | true =>
        obtain ⟨k, i, rfl, rfl, hk, hi⟩ := has_inv hh
        have hn : setN (tPtr ent) l k i (v0, v1, v2, v3) = fitsN (tPtr ent) l k i (v0, v1, v2, v3) := by unfold setN; rw [hh, if_pos rfl]
        have hA : SetAt W W q A9 l.length c9 w.heap.size (w.heap.size + 1) (w.heap.size + 1 + 1) qr k i v0 v1 v2 v3 := ⟨hq, blk_below hbd (h3 ▸ hb), blk_below hbs (h3 ▸ hb), blk_below hbv (h3 ▸ hb), Below.refl _ _⟩
        have hi2 : (i : Int) ≤ 9223372036854775807 := by
          have := hl.2 (l.getD k dAf) (getD_mem _ hk)
          omega
        have htW : TblOr W (.pointer q) ent := (ht.below H0.out).below (h3 ▸ hb)
        by_cases hf : fitsN (tPtr ent) l k i (v0, v1, v2, v3) = 0
        · have hx := mset1_ok q ent l ts k i v0 v1 v2 v3 (w.heap.size + 1 + 1 + 1 + 3) w.heap.size (w.heap.size + 1) (w.heap.size + 1 + 1) qr A9 c9 W htW hw hts hnd hqr ⟨by omega, by omega, by omega⟩ hA hRR hk hi hi2 hvi hf (fun n => n = setN (tPtr ent) l k i (v0, v1, v2, v3))
          refine hx.mono fun e W' h => ?_
          obtain ⟨h1, h2⟩ := h
          refine ⟨h1, ?_⟩
          rcases h2 with ⟨h2, v', l', h3, h4⟩ | h2
          · exact .inl ⟨h2, v', l', ⟨hn.trans hf, h3⟩, h4⟩
          · exact .inr h2
        · rw [hn]
          exact mset1_thrown q ent l _ k i v0 v1 v2 v3 (w.heap.size + 1 + 1 + 1 + 3) w.heap.size (w.heap.size + 1) (w.heap.size + 1 + 1) qr A9 c9 W htW hw (by omega) hA hC hk hi hi2 hvi hf))
  have HS := Lk.mk (show setR (tPtr ent) l d s (v0, v1, v2, v3) = if setN (tPtr ent) l d s (v0, v1, v2, v3) = 0 then setL l d s (v0, v1, v2, v3) else l from rfl)
  generalize setN (tPtr ent) l d s (v0, v1, v2, v3) = n0 at *
  generalize setR (tPtr ent) l d s (v0, v1, v2, v3) = r0 at *
  clear ht hw hr hl hv hR hvi hbd hbs hbv h1 h2 h3
  go_enter Tryd.func71, Tryd.ntmps71
  go_wp2_with (go_at_call 110; (with_reducible refine (HC.out).mono ?_); rintro e w1 ⟨hb, v, l', n9, rfl, hR1, hor⟩; obtain ⟨hn9, hl9⟩ : n9 = n0 ∧ l' = r0 := (by rcases hor with ⟨h1, h2, h3⟩ | ⟨h1, h2, h3⟩; exact ⟨h1.trans h2.symm, by rw [HS.out, if_pos h2]; exact h3⟩; exact ⟨h2, by rw [HS.out, if_neg (h2 ▸ h1)]; exact h3⟩); have HB := Lk.mk (below_then H0.out H0.out.size hb); have HRx := Lk.mk (hl9 ▸ hR1); have HN9 := Lk.mk hn9; clear hb hR1 hor hl9 hn9)
  go_ret2
  obtain rfl := HN9.out
  exact ⟨HB.out, _, Kd.R_lower HRx.out H0.out.size, rfl⟩
end Go.Proofs.YtcepafllgjnngaaDoor
