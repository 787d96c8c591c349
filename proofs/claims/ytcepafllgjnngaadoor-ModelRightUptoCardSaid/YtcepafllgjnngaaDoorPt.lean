/-
  The walk of the model's Set's literal; conditions: the row and the table read as told, the row is right.
-/
import Derived.Test.YtcepafllgjnngaaDoorK8
namespace Go.Proofs.YtcepafllgjnngaaDoor
open Go.RowKit Go.Proofs.YtcepafllgjnngaaDoorW.PrintWords

def setL (l : List Af) (d s : Int) (v : Sl.Vl) : List Af := l.set d.toNat ((l.getD d.toNat dAf).1, (l.getD d.toNat dAf).2.set s.toNat v)
theorem has_nat {l : List Af} {k i : Nat} (hk : k < l.length) (hi : i < (l.getD k dAf).2.length) : hasA l (k : Int) (i : Int) = true := by
  unfold hasA
  rw [Int.toNat_natCast, decide_eq_true (show (0 : Int) ≤ (k : Int) by omega), decide_eq_true (show (k : Int) < (l.length : Int) by omega), decide_eq_true (show (0 : Int) ≤ (i : Int) by omega), decide_eq_true (show (i : Int) < ((l.getD k dAf).2.length : Int) by omega)]
  rfl
theorem has_inv {l : List Af} {d s : Int} (h : hasA l d s = true) : ∃ k i : Nat, d = (k : Int) ∧ s = (i : Int) ∧ k < l.length ∧ i < (l.getD k dAf).2.length := by
  unfold hasA at h
  simp only [Bool.and_eq_true, decide_eq_true_eq] at h
  obtain ⟨⟨⟨h1, h2⟩, h3⟩, h4⟩ := h
  exact ⟨d.toNat, s.toNat, by omega, by omega, by omega, by omega⟩
theorem below_down {B : Nat} {W W' : World} (h : Below W.heap.size W W') (hB : B ≤ W.heap.size) : Below B W W' := ⟨h.os, h.tape, h.output, by have := h.size; omega, fun k hk => h.block k (by omega)⟩
set_option maxRecDepth 100000 in
set_option maxHeartbeats 2000000 in
theorem mset1_has (q : Option Addr) (l : List Af) (d s : Int) (res : List Af → Prop) (B bd bs bv qr : Nat) (A : Option Addr) (c : Nat) (W : World) (hB : B ≤ W.heap.size) (hbd : W.heap[bd]? = some (.cells #[.int .i64 d] 3 (0, 0))) (hbs : W.heap[bs]? = some (.cells #[.int .i64 s] 3 (0, 0))) (hq : W.heap[qr]? = some (.cells #[.pointer q, .slice A l.length c] 179 (0, 0))) (hR : kAf.C W A l.length l) (hh : hasA l d s = false) :
    Calls Tryd.prog 116 #[.pointer (some ⟨qr, 0, none⟩), .pointer (some ⟨bd, 0, none⟩), .pointer (some ⟨bs, 0, none⟩), .pointer (some ⟨bv, 0, none⟩)] W fun e W' => HowL res (fun n => n = 2) (.pointer q) B qr W e W' := by
  have HH := Lk.mk (mhas_any (.pointer q) A c l d s W.drew (Kd.C_below hR (below_drew (Below.refl _ _))))
  rw [hh] at HH
  have HDB := Lk.mk (below_drew (Below.refl B W))
  obtain ⟨q0, q1⟩ := cells2v (blk_drew hq)
  have d0 := blk_cell (blk_drew hbd) 0
  have s0 := blk_cell (blk_drew hbs) 0
  simp only [List.getElem?_toArray, List.getElem?_cons_zero] at d0 s0
  have HBB := Lk.mk hB
  clear hbd hbs hq hR hh hB
  go_enter Tryd.func116, Tryd.ntmps116
  go_wp2
  go_region_with (first
    | (go_at_call 117; (with_reducible refine (HH.out).mono ?_); rintro e w1 ⟨rfl, hb⟩; have HB1 := Lk.mk (show Below B W w1 from ⟨hb.os, hb.tape, hb.output, by have := hb.size; have := HBB.out; have h9 : W.drew.heap.size = W.heap.size := rfl; omega, fun k hk => hb.block k (by have := HBB.out; have h9 : W.drew.heap.size = W.heap.size := rfl; omega)⟩); clear hb)
    | (go_at_call 112; (with_reducible refine (mmust_no _ _).mono ?_); rintro e w' ⟨rfl, hw⟩; obtain rfl := hw.symm; clear hw; refine as_panic (K := ‹Act → World → Prop›) ⟨rfl, HB1.out, .inr ⟨2, by decide, rfl, rfl⟩⟩ ?_; intro hF))
  all_goals exact hF.elim
end Go.Proofs.YtcepafllgjnngaaDoor
