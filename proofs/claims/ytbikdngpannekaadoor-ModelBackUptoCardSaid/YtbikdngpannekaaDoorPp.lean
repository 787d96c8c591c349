/-
  The walk of the model's Call at any function; conditions: the row and the table read as told, the row is right.
-/
import Derived.Test.YtbikdngpannekaaDoorPo
import Derived.Test.YtbikdngpannekaaDoorPd
namespace Go.Proofs.YtbikdngpannekaaDoor
open Go.RowKit Go.Proofs.YtbikdngpannekaaDoorW.PrintWords

set_option maxRecDepth 100000 in
set_option maxHeartbeats 2000000 in
theorem mcall1_neg (q : Option Addr) (ent : List (Int × (List Int × List Int))) (f : Int) (res : List Af → Prop) (B bf qr : Nat) (v : Value) (W : World) (ht : TblOr W (.pointer q) ent) (hs : tSize ent f < 0) (hB2 : B ≤ W.heap.size) (hbf : W.heap[bf]? = some (.cells #[.int .i64 f] 3 (0, 0))) (hq : W.heap[qr]? = some (.cells #[.pointer q, v] 130 (0, 0))) :
    Calls Tryd.prog 85 #[.pointer (some ⟨qr, 0, none⟩), .pointer (some ⟨bf, 0, none⟩)] W fun e W' => HowL res (fun n => n = 1) (.pointer q) B qr W e W' := by
  have HSZ := Lk.mk (fun W' (hb : Below W.heap.size W W') => size_any (.pointer q) ent f W' (ht.below hb))
  have HD := Lk.mk (below_drew (Below.refl W.heap.size W))
  have HDB := Lk.mk (below_drew (Below.refl B W))
  have hqd := blk_drew hq
  have hfd := blk_drew hbf
  obtain ⟨q0, q1⟩ := cells2v hqd
  have f0 := blk_cell hfd 0
  simp only [List.getElem?_toArray, List.getElem?_cons_zero] at f0
  generalize tSize ent f = z at *
  have HZN := Lk.mk (show decide (0 ≤ z) = false from decide_eq_false (by omega))
  clear ht hbf hq hqd hfd hs
  go_enter Tryd.func85, Tryd.ntmps85
  go_wp2
  go_region_with (first
    | (go_at_call 82; (with_reducible refine (HSZ.out _ HD.out).mono ?_); rintro e w' ⟨rfl, hw⟩; obtain rfl := hw.symm; clear hw)
    | (go_at_call 86; rw [HZN.out]; (with_reducible refine (mmust_no _ _).mono ?_); rintro e w' ⟨rfl, hw⟩; obtain rfl := hw.symm; clear hw; refine as_panic (K := ‹Act → World → Prop›) ⟨rfl, HDB.out, .inr ⟨1, by decide, rfl, rfl⟩⟩ ?_; intro hF))
  all_goals exact hF.elim
/-- what a called frame's slots are -/
def newsL (ent : List (Int × (List Int × List Int))) (f : Int) : List Sl.Vl := newsTo (tPtr ent f) (tSize ent f).toNat (tSize ent f).toNat
set_option maxRecDepth 100000 in
set_option maxHeartbeats 2000000 in
theorem mcall_any (q : Option Addr) (ent : List (Int × (List Int × List Int))) (f : Int) (A : Option Addr) (c : Nat) (l : List Af) (w : World) (ht : TblOr w (.pointer q) ent) (hw : ∀ e ∈ ent, Bm.Words e.2.1) (hr : kAf.C w A l.length l) (hl : AfLen l) (hl2 : l.length < 1048576) (hv : AfIn l) (hR : RightP (tSize ent) (tPtr ent) l) (hn : tSize ent f ≤ 1048576) :
    Calls Tryd.prog 40 #[.pointer q, .slice A l.length c, .int .i64 f] w fun e w' => Below w.heap.size w w' ∧ ∃ v, kAf.R 124 w' w.heap.size (fun _ => True) v (if 0 ≤ tSize ent f then l ++ [(f, newsL ent f)] else l) ∧ e = .returned (.tuple #[v, .int .i64 (if 0 ≤ tSize ent f then 0 else 1)]) := by
  have H0 := Lk.mk (below_alloc (Below.refl w.heap.size w) (.cells #[.int .i64 f] 3))
  have hx := blk_new w (.cells #[.int .i64 f] 3)
  have hsz : (w.alloc (.cells #[.int .i64 f] 3)).heap.size = w.heap.size + 1 := by simp
  have eg := enters_of Tryd.func85 (by kernel_rfl) rfl
  by_cases h : 0 ≤ tSize ent f
  · obtain ⟨n, hnn⟩ := Int.eq_ofNat_of_zero_le h
    have HC := Lk.mk (mchange_any q ent 85 #[.pointer (some ⟨w.heap.size, 0, none⟩)] A c l (fun l' => l' = l ++ [(f, newsTo (tPtr ent f) n n)]) (fun _ => False) (w.alloc (.cells #[.int .i64 f] 3)) eg (ht.below H0.out) hw (Kd.C_below hr H0.out) hl hv hR
      (fun W qr v hb hqr hq hRR => mcall1_any q ent f n l _ w.heap.size qr v W hl2 (by omega) (ht.below (below_then H0.out H0.out.size hb)) hw hnn (by omega) (by omega) (blk_below hx hb) hq hRR))
    have HE := Lk.mk (show newsL ent f = newsTo (tPtr ent f) n n by unfold newsL; rw [hnn, Int.toNat_natCast])
    rw [if_pos h, if_pos h, HE.out]
    clear ht hw hr hl hl2 hv hR hx hsz h hnn hn
    go_enter Tryd.func40, Tryd.ntmps40
    go_wp2_with (go_at_call 84; (with_reducible refine (HC.out).mono ?_); rintro e w1 ⟨hb, v, l', n9, rfl, hR1, hor⟩; obtain ⟨rfl, hl9⟩ : n9 = 0 ∧ l' = l ++ [(f, newsTo (tPtr ent f) n n)] := (by rcases hor with ⟨h1, h2⟩ | ⟨_, h, _⟩; exact ⟨h1, h2⟩; exact h.elim); have HB := Lk.mk (below_then H0.out H0.out.size hb); have HRx := Lk.mk (hl9 ▸ hR1); clear hb hR1 hor hl9)
    go_ret2
    exact ⟨HB.out, _, Kd.R_lower HRx.out H0.out.size, rfl⟩
  · have HC := Lk.mk (mchange_any q ent 85 #[.pointer (some ⟨w.heap.size, 0, none⟩)] A c l (fun _ => False) (fun n => n = 1) (w.alloc (.cells #[.int .i64 f] 3)) eg (ht.below H0.out) hw (Kd.C_below hr H0.out) hl hv hR
      (fun W qr v hb hqr hq hRR => mcall1_neg q ent f _ _ w.heap.size qr v W (ht.below (below_then H0.out H0.out.size hb)) (by omega) (by have := blk_lt hq; omega) (blk_below hx hb) hq))
    rw [if_neg h, if_neg h]
    clear ht hw hr hl hl2 hv hR hx hsz h hn
    go_enter Tryd.func40, Tryd.ntmps40
    go_wp2_with (go_at_call 84; (with_reducible refine (HC.out).mono ?_); rintro e w1 ⟨hb, v, l', n9, rfl, hR1, hor⟩; obtain ⟨rfl, hl9⟩ : n9 = 1 ∧ l' = l := (by rcases hor with ⟨_, h⟩ | ⟨_, h, h2⟩; exact h.elim; exact ⟨h, h2⟩); have HB := Lk.mk (below_then H0.out H0.out.size hb); have HRx := Lk.mk (hl9 ▸ hR1); clear hb hR1 hor hl9)
    go_ret2
    exact ⟨HB.out, _, Kd.R_lower HRx.out H0.out.size, rfl⟩
end Go.Proofs.YtbikdngpannekaaDoor
