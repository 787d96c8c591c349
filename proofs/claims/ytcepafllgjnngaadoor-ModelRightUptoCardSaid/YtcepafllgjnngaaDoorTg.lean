/-
  The walk of the model's Calc's literal; conditions: the row and the table read as told, the row is right.
-/
import Derived.Test.YtcepafllgjnngaaDoorTf
import Derived.Test.YtcepafllgjnngaaDoorK6
import Derived.StillTailTactics
import Derived.Deep.RegionHeld2
namespace Go.Proofs.YtcepafllgjnngaaDoor
open Go.RowKit Go.Proofs.YtcepafllgjnngaaDoorW.PrintWords

open Classical in
noncomputable def calcN (ptr : Int → Int → Bool) (l : List Af) (op d : Int) (sl : List Int) : Int := if sl.length = 3 ∧ 1 ≤ op ∧ op ≤ 10 then (if ∀ j, j < 3 → hasA l d (sl.getD j 0) = true then (if ∀ j, j < 3 → ptr (l.getD d.toNat dAf).1 (sl.getD j 0) = false then 0 else 5) else 2) else 1
def calcX (l : List Af) (op d : Int) (sl : List Int) : Int := (FlPlain.ref op.toNat (slotZ l d (sl.getD 1 0)).2.1.toNat (slotZ l d (sl.getD 2 0)).2.1.toNat : Nat)
def calcL (l : List Af) (op d : Int) (sl : List Int) : List Af := setL l d (sl.getD 0 0) (bitsZ l d (sl.getD 0 0) (calcX l op d sl))
structure CaAt (W0 W : World) (q : Option Addr) (A : Option Addr) (n c bo bs bd qr : Nat) (op d : Int) (S : Option Addr) (m sc : Nat) (sl : List Int) : Prop where
  q_ : W.heap[qr]? = some (.cells #[.pointer q, .slice A n c] 179 (0, 0))
  bo_ : W.heap[bo]? = some (.cells #[.int .u8 op] 5 (0, 0))
  bs_ : W.heap[bs]? = some (.cells #[.slice S m sc] 34 (0, 0))
  bd_ : W.heap[bd]? = some (.cells #[.int .i64 d] 3 (0, 0))
  r_ : ReadsInt W .i64 S m sl
  b_ : Below W0.heap.size W0 W
theorem CaAt.then_ {W0 W W' : World} {q A : Option Addr} {n c bo bs bd qr : Nat} {op d : Int} {S : Option Addr} {m sc : Nat} {sl : List Int} (h : CaAt W0 W q A n c bo bs bd qr op d S m sc sl) (hb : Below W.heap.size W W') : CaAt W0 W' q A n c bo bs bd qr op d S m sc sl :=
  ⟨blk_below h.q_ hb, blk_below h.bo_ hb, blk_below h.bs_ hb, blk_below h.bd_ hb, h.r_.below hb, below_then h.b_ h.b_.size hb⟩
theorem CaAt.cells {W0 W : World} {q A : Option Addr} {n c bo bs bd qr : Nat} {op d : Int} {S : Option Addr} {m sc : Nat} {sl : List Int} (h : CaAt W0 W q A n c bo bs bd qr op d S m sc sl) : W.cell? ⟨qr, 0, none⟩ = some (.pointer q) ∧ W.cell? ⟨qr, 1, none⟩ = some (.slice A n c) ∧ W.cell? ⟨bo, 0, none⟩ = some (.int .u8 op) ∧ W.cell? ⟨bs, 0, none⟩ = some (.slice S m sc) ∧ W.cell? ⟨bd, 0, none⟩ = some (.int .i64 d) := by
  obtain ⟨a, b⟩ := cells2v h.q_
  exact ⟨a, b, by rw [blk_cell h.bo_ 0]; rfl, by rw [blk_cell h.bs_ 0]; rfl, by rw [blk_cell h.bd_ 0]; rfl⟩
set_option maxRecDepth 100000 in
set_option maxHeartbeats 8000000 in
theorem mcalc1_no (q : Option Addr) (l : List Af) (res : List Af → Prop) (op d : Int) (sl : List Int) (B bo bs bd qr : Nat) (A : Option Addr) (c : Nat) (S : Option Addr) (sc : Nat) (W : World) (hBW : B ≤ W.heap.size) (hA : CaAt W W q A l.length c bo bs bd qr op d S sl.length sc sl) (hn : ¬ (sl.length = 3 ∧ 1 ≤ op ∧ op ≤ 10)) :
    Calls Tryd.prog 125 #[.pointer (some ⟨qr, 0, none⟩), .pointer (some ⟨bo, 0, none⟩), .pointer (some ⟨bs, 0, none⟩), .pointer (some ⟨bd, 0, none⟩)] W fun e W' => HowL res (fun n => n = 1) (.pointer q) B qr W e W' := by
  have hm := hA.r_.2.1
  have HA := Lk.mk hA
  obtain ⟨c0, c1, c2, c3, c4⟩ := HA.out.cells
  have HBW := Lk.mk hBW
  by_cases hop : op < 1 ∨ 10 < op
  · have HC := Lk.mk (Flt.calc_bad op 0 0 W hop)
    clear hA hBW hn hop
    by_cases h3 : (sl.length : Int) = 3
    · go_enter Tryd.func125, Tryd.ntmps125
      go_wp2_with (first
        | (go_at_call 126; (with_reducible refine (HC.out).mono ?_); rintro e w' ⟨rfl, hw⟩; obtain rfl := hw.symm; clear hw)
        | (go_at_call 112; (with_reducible refine (mmust_no _ _).mono ?_); rintro e w' ⟨rfl, hw⟩; obtain rfl := hw.symm; clear hw))
      exact ⟨rfl, Below.refl _ _, .inr ⟨1, by decide, by first | rfl | trivial, rfl⟩⟩
    · go_enter Tryd.func125, Tryd.ntmps125
      go_wp2_with (first
        | (go_at_call 126; (with_reducible refine (HC.out).mono ?_); rintro e w' ⟨rfl, hw⟩; obtain rfl := hw.symm; clear hw)
        | (go_at_call 112; (with_reducible refine (mmust_no _ _).mono ?_); rintro e w' ⟨rfl, hw⟩; obtain rfl := hw.symm; clear hw))
      exact ⟨rfl, Below.refl _ _, .inr ⟨1, by decide, by first | rfl | trivial, rfl⟩⟩
  · have h3 : ¬ (sl.length : Int) = 3 := fun e => hn ⟨by omega, by omega, by omega⟩
    have HC := Lk.mk ((show Calls Tryd.prog 126 #[.int .u8 op, .int .u64 0, .int .u64 0] W _ from Flt.calc_good op 0 0 W (by omega) (by omega) (by decide) (by decide)).mono fun e W' h => (show (∃ v : Int, e = .returned (.tuple #[.int .u64 v, .int .i64 0])) ∧ Below W.heap.size W W' from ⟨⟨_, h.1⟩, by rcases h.2 with h | h; rw [h]; exact Below.refl _ _; rw [h]; exact below_drew (Below.refl _ _)⟩))
    clear hA hBW hn hop
    go_enter Tryd.func125, Tryd.ntmps125
    go_wp2_with (first
      | (go_at_call 126; (with_reducible refine (HC.out).mono ?_); rintro e w1 ⟨⟨v, rfl⟩, hb⟩; have HB1 := Lk.mk hb; obtain ⟨d0, d1, d2, d3, d4⟩ := (HA.out.then_ hb).cells; clear hb)
      | (go_at_call 112; (with_reducible refine (mmust_no _ _).mono ?_); rintro e w' ⟨rfl, hw⟩; obtain rfl := hw.symm; clear hw))
    exact ⟨rfl, below_down HB1.out HBW.out, .inr ⟨1, by decide, by first | rfl | trivial, rfl⟩⟩
theorem calcN_2 {ptr : Int → Int → Bool} {l : List Af} {op d : Int} {sl : List Int} (h1 : sl.length = 3 ∧ 1 ≤ op ∧ op ≤ 10) {k : Nat} (hk : k < 3) (h : hasA l d (sl.getD k 0) = false) : calcN ptr l op d sl = 2 := by
  unfold calcN
  rw [if_pos h1, if_neg (fun hh => by rw [hh k hk] at h; cases h)]
theorem calcN_5 {ptr : Int → Int → Bool} {l : List Af} {op d : Int} {sl : List Int} (h1 : sl.length = 3 ∧ 1 ≤ op ∧ op ≤ 10) (ha : ∀ j, j < 3 → hasA l d (sl.getD j 0) = true) {k : Nat} (hk : k < 3) (h : ptr (l.getD d.toNat dAf).1 (sl.getD k 0) = true) : calcN ptr l op d sl = 5 := by
  unfold calcN
  rw [if_pos h1, if_pos ha, if_neg (fun hh => by rw [hh k hk] at h; cases h)]
theorem calcN_0 {ptr : Int → Int → Bool} {l : List Af} {op d : Int} {sl : List Int} (h1 : sl.length = 3 ∧ 1 ≤ op ∧ op ≤ 10) (ha : ∀ j, j < 3 → hasA l d (sl.getD j 0) = true) (h : ∀ j, j < 3 → ptr (l.getD d.toNat dAf).1 (sl.getD j 0) = false) : calcN ptr l op d sl = 0 := by
  unfold calcN
  rw [if_pos h1, if_pos ha, if_pos h]
theorem all3 {p : Int → Prop} {sl : List Int} {k : Nat} (h : ∀ j : Nat, j < k → p (sl.getD j 0)) (h2 : p (sl.getD k 0)) : ∀ j : Nat, j < k + 1 → p (sl.getD j 0) := fun j hj => by
  by_cases e : j = k
  · subst e; exact h2
  · exact h j (by omega)
theorem cell_far {w : World} {t j : Nat} {a : Addr} (hab : a.block ≠ t) (u : Value) {v : Value} (ha : w.cell? a = some v) : (w.setCell ⟨t, j, none⟩ u).cell? a = some v := by
  unfold World.cell? at ha ⊢
  rw [Below.heap_setCell w ⟨t, j, none⟩ u a.block hab]
  exact ha
theorem slot_in19 {l : List Af} (h : AfIn l) {k i : Nat} (hk : k < l.length) (hi : i < (l.getD k dAf).2.length) : VlIn (slotZ l k i) := by
  unfold slotZ
  rw [Int.toNat_natCast, Int.toNat_natCast]
  exact h _ (getD_mem dAf hk) _ (getD_mem Sl.dVl hi)
set_option maxRecDepth 100000 in
set_option maxHeartbeats 8000000 in
theorem mcalc1_any (q : Option Addr) (ent : List (Int × (List Int × List Int))) (l : List Af) (ts : List Nat) (op d : Int) (sl : List Int) (B bo bs bd qr : Nat) (A : Option Addr) (c : Nat) (S : Option Addr) (sc : Nat) (W : World) (ht : TblOr W (.pointer q) ent) (hw : ∀ e ∈ ent, Bm.Words e.2.1) (hts : ts.length = l.length) (hnd : ts.Nodup) (hB2 : B ≤ qr) (hB3 : bo < B ∧ bs < B ∧ bd < B) (hA : CaAt W W q A l.length c bo bs bd qr op d S 3 sc sl) (hRR : (tagK kAf).R 113 W B (fun k => k < qr) (.slice A l.length c) (l.zip ts)) (hvi : AfIn l) (hln : AfLen l) (hs9 : ∀ j : Nat, sl.getD j 0 ≤ 9223372036854775807) (hop : 1 ≤ op ∧ op ≤ 10) (hl3 : sl.length = 3) (hSB : ∀ ad, S = some ad → ad.block < B) :
    Calls Tryd.prog 125 #[.pointer (some ⟨qr, 0, none⟩), .pointer (some ⟨bo, 0, none⟩), .pointer (some ⟨bs, 0, none⟩), .pointer (some ⟨bd, 0, none⟩)] W fun e W' => HowL (fun l' => calcN (tPtr ent) l op d sl = 0 ∧ l' = calcL l op d sl) (fun n => n = calcN (tPtr ent) l op d sl) (.pointer q) B qr W e W' := by
  have hC : kAf.C W A l.length l := by
    have h1 := tag_R hRR
    rw [List.map_fst_zip (by omega)] at h1
    exact (Kd.R_reads' h1).2.2
  have HN2 := Lk.mk (fun (k : Nat) (hk : k < 3) (h : hasA l d (sl.getD k 0) = false) => calcN_2 (ptr := tPtr ent) ⟨hl3, hop.1, hop.2⟩ hk h)
  have HN5 := Lk.mk (fun (ha : ∀ j, j < 3 → hasA l d (sl.getD j 0) = true) (k : Nat) (hk : k < 3) (h : tPtr ent (l.getD d.toNat dAf).1 (sl.getD k 0) = true) => calcN_5 ⟨hl3, hop.1, hop.2⟩ ha hk h)
  have HN0 := Lk.mk (fun (ha : ∀ j, j < 3 → hasA l d (sl.getD j 0) = true) (h : ∀ j, j < 3 → tPtr ent (l.getD d.toNat dAf).1 (sl.getD j 0) = false) => calcN_0 ⟨hl3, hop.1, hop.2⟩ ha h)
  generalize calcN (tPtr ent) l op d sl = nn at *
  have HH := Lk.mk (fun W' (i : Int) (hb : Below W.heap.size W W') => mhas_any (.pointer q) A c l d i W' (Kd.C_below hC hb))
  have HP := Lk.mk (fun W' (k : Nat) (j : Nat) (hb : Below W.heap.size W W') (hk : k < l.length) => mptr_any (.pointer q) ent A c l k (sl.getD j 0) W' (ht.below hb) hw (Kd.C_below hC hb) hk (hs9 j))
  have HQW := Lk.mk (blk_lt hA.q_)
  have HB23 := Lk.mk (show B ≤ qr ∧ bo < B ∧ bs < B ∧ bd < B from ⟨hB2, hB3⟩)
  have HC0 := Lk.mk ((show Calls Tryd.prog 126 #[.int .u8 op, .int .u64 0, .int .u64 0] W _ from Flt.calc_good op 0 0 W hop.1 hop.2 (by decide) (by decide)).mono fun e W' h => (show (∃ v : Int, e = .returned (.tuple #[.int .u64 v, .int .i64 0])) ∧ Below W.heap.size W W' from ⟨⟨_, h.1⟩, by rcases h.2 with h | h; rw [h]; exact Below.refl _ _; rw [h]; exact below_drew (Below.refl _ _)⟩))
  have HC1 := Lk.mk (fun W' (a b : Int) (ha : 0 ≤ a ∧ a < 18446744073709551616) (hb : 0 ≤ b ∧ b < 18446744073709551616) => ((show Calls Tryd.prog 126 #[.int .u8 op, .int .u64 a, .int .u64 b] W' fun e w' => e = .returned (.tuple #[.int .u64 (FlPlain.ref op.toNat a.toNat b.toNat : Nat), .int .i64 0]) ∧ (w' = W' ∨ w' = W'.drew) from by have := Flt.calc_good op a.toNat b.toNat W' hop.1 hop.2 (by omega) (by omega); rw [Int.toNat_of_nonneg ha.1, Int.toNat_of_nonneg hb.1] at this; exact this).mono fun e W'' h => (show e = .returned (.tuple #[.int .u64 (FlPlain.ref op.toNat a.toNat b.toNat : Nat), .int .i64 0]) ∧ Below W'.heap.size W' W'' from ⟨h.1, by rcases h.2 with h | h; rw [h]; exact Below.refl _ _; rw [h]; exact below_drew (Below.refl _ _)⟩)))
  have HSB := Lk.mk hSB
  have HA := Lk.mk hA
  have HVI := Lk.mk hvi
  have HRR := Lk.mk hRR
  have HTS := Lk.mk (And.intro hts hnd)
  obtain ⟨ad, had, _⟩ := hA.r_.at_ (0 : Int) (by omega) (by omega)
  subst had
  obtain ⟨c0, c1, c2, c3, c4⟩ := HA.out.cells
  clear ht hw hts hnd hB2 hB3 hA hRR hvi hln hs9 hop hC hSB
  go_enter Tryd.func125, Tryd.ntmps125
  go_wp2_with (first
    | (go_at_call 126; (with_reducible refine (HC0.out).mono ?_); rintro e w1 ⟨⟨v, rfl⟩, hb⟩; have HA1 := Lk.mk (HA.out.then_ hb); obtain ⟨d0, d1, d2, d3, d4⟩ := HA1.out.cells; clear hb)
    | (go_at_call 112; (with_reducible refine (mmust_ok _ _).mono ?_); rintro e w' ⟨rfl, hw⟩; obtain rfl := hw.symm; clear hw))
  clear c0 c1 c2 c3 c4
  go_loopg [27] 3 (fun gg v27 wr => ∃ k : Nat, k ≤ 3 ∧ 3 - k ≤ gg ∧ v27 = .int .i64 k ∧ Lk (∀ j : Nat, j < k → hasA l d (sl.getD j 0) = true) ∧ Lk (Below w1.heap.size w1 wr))
  case atStart => exact ⟨0, by omega, by omega, rfl, ⟨fun j hj => absurd hj (by omega)⟩, ⟨Below.refl _ _⟩⟩
  case round =>
    obtain ⟨k, hk, hg, rfl, HJ, HBk⟩ := hrel
    obtain ⟨wo, rfl⟩ : ∃ wo : World, wo = wr := ⟨_, rfl⟩
    have HAk := Lk.mk (HA1.out.then_ HBk.out)
    clear d0 d1 d2 d3 d4
    obtain ⟨c0, c1, c2, c3, c4⟩ := HAk.out.cells
    by_cases hlt : k < 3
    · have hltz : (k : Int) < 3 := by omega
      obtain ⟨ad', had', e0⟩ := HAk.out.r_.at_ (k : Int) (by omega) (by omega)
      obtain rfl : ad = ad' := Option.some.inj had'
      rw [Int.toNat_natCast, rdk] at e0
      have HAd := Lk.mk (HAk.out.then_ (below_drew (Below.refl _ _)))
      have HHk := Lk.mk (HH.out wo.drew (sl.getD k 0) HAd.out.b_)
      have HNk := Lk.mk (HN2.out k hlt)
      have HXk := Lk.mk (fun h => all3 (p := fun i => hasA l d i = true) HJ.out h)
      generalize sl.getD k 0 = i at *
      cases hh : hasA l d i with
      | true =>
        rw [hh] at HHk
        have HJ2 := Lk.mk (HXk.out hh)
        clear hh HXk HNk
        go_wp2
        go_region_held3 (fun W' => W'.cell? ⟨qr, 0, none⟩ = some (.pointer q) ∧ W'.cell? ⟨qr, 1, none⟩ = some (.slice A l.length c) ∧ W'.cell? ⟨bo, 0, none⟩ = some (.int .u8 op) ∧ W'.cell? ⟨bs, 0, none⟩ = some (.slice (some ad) 3 sc) ∧ W'.cell? ⟨bd, 0, none⟩ = some (.int .i64 d)) (first | exact (HAd.out.then_ HB2.out).cells | exact HAd.out.cells) (first
          | (go_at_call 117; (with_reducible refine (HHk.out).mono ?_); rintro e w2 ⟨rfl, hb⟩; have HB2 := Lk.mk hb; clear hb)
          | (go_at_call 112; (with_reducible refine (mmust_ok _ _).mono ?_); rintro e w' ⟨rfl, hw⟩; obtain rfl := hw.symm; clear hw))
        go_wp2
        go_roundg (3 - (k + 1))
        case measure => omega
        case rel => exact ⟨k + 1, by omega, by omega, by go_num, HJ2, ⟨below_then HBk.out HBk.out.size (below_then (below_drew (Below.refl wo.heap.size wo)) (below_drew (Below.refl wo.heap.size wo)).size HB2.out)⟩⟩
      | false =>
        rw [hh] at HHk
        have HNN := Lk.mk (HNk.out hh)
        clear hh HXk HNk
        go_wp2
        go_region_held2 (fun W' => W'.cell? ⟨qr, 0, none⟩ = some (.pointer q) ∧ W'.cell? ⟨qr, 1, none⟩ = some (.slice A l.length c) ∧ W'.cell? ⟨bo, 0, none⟩ = some (.int .u8 op) ∧ W'.cell? ⟨bs, 0, none⟩ = some (.slice (some ad) 3 sc) ∧ W'.cell? ⟨bd, 0, none⟩ = some (.int .i64 d)) (first | exact hF.elim | exact (HAd.out.then_ HB2.out).cells | exact HAd.out.cells) (first
          | (go_at_call 117; (with_reducible refine (HHk.out).mono ?_); rintro e w2 ⟨rfl, hb⟩; have HB2 := Lk.mk hb; clear hb)
          | (go_at_call 112; (with_reducible refine (mmust_no _ _).mono ?_); rintro e w' ⟨rfl, hw⟩; obtain rfl := hw.symm; clear hw; refine as_panic (K := ‹Act → World → Prop›) (by exact ⟨rfl, below_down (HAd.out.then_ HB2.out).b_ (by have := HQW.out; have := HB23.out; omega), .inr ⟨2, by decide, HNN.out.symm, rfl⟩⟩) ?_; intro hF))
        all_goals exact hF.elim
    · obtain rfl : k = 3 := by omega
      have hltz : ¬ ((3 : Nat) : Int) < 3 := by omega
      have HALL := Lk.mk HJ.out
      clear HJ
      obtain ⟨dk, i0, hdk, hi0, hdl, hi0l⟩ := has_inv (HALL.out 0 (by omega))
      subst hdk
      go_wp2
      go_loopg [41] 3 (fun gg v41 W2 => ∃ k : Nat, k ≤ 3 ∧ 3 - k ≤ gg ∧ v41 = .int .i64 k ∧ Lk (∀ j : Nat, j < k → tPtr ent (l.getD dk dAf).1 (sl.getD j 0) = false) ∧ Lk (Below wo.heap.size wo W2))
      case atStart => exact ⟨0, by omega, by omega, rfl, ⟨fun j hj => absurd hj (by omega)⟩, ⟨Below.refl _ _⟩⟩
      case round =>
        obtain ⟨k, hk2, hg2, rfl, HJ, HBk2⟩ := hrel
        obtain ⟨w2, rfl⟩ : ∃ w2 : World, w2 = wr := ⟨_, rfl⟩
        have HAk2 := Lk.mk (HAk.out.then_ HBk2.out)
        clear c0 c1 c2 c3 c4
        obtain ⟨c0, c1, c2, c3, c4⟩ := HAk2.out.cells
        by_cases hlt : k < 3
        · have hltz : (k : Int) < 3 := by omega
          obtain ⟨ad', had', e0⟩ := HAk2.out.r_.at_ (k : Int) (by omega) (by omega)
          obtain rfl : ad = ad' := Option.some.inj had'
          rw [Int.toNat_natCast, rdk] at e0
          have HAd := Lk.mk (HAk2.out.then_ (below_drew (Below.refl _ _)))
          have HPk := Lk.mk (HP.out w2.drew dk k HAd.out.b_ hdl)
          have HNk := Lk.mk (HN5.out HALL.out k hlt)
          have HXk := Lk.mk (fun h => all3 (p := fun i => tPtr ent (l.getD dk dAf).1 i = false) HJ.out h)
          rw [Int.toNat_natCast] at HNk
          generalize sl.getD k 0 = i at *
          cases hh : tPtr ent (l.getD dk dAf).1 i with
          | false =>
            rw [hh] at HPk
            have HJ2 := Lk.mk (HXk.out hh)
            clear hh HXk HNk
            go_wp2
            go_region_held3 (fun W' => W'.cell? ⟨qr, 0, none⟩ = some (.pointer q) ∧ W'.cell? ⟨qr, 1, none⟩ = some (.slice A l.length c) ∧ W'.cell? ⟨bo, 0, none⟩ = some (.int .u8 op) ∧ W'.cell? ⟨bs, 0, none⟩ = some (.slice (some ad) 3 sc) ∧ W'.cell? ⟨bd, 0, none⟩ = some (.int .i64 (dk : Int))) (first | exact (HAd.out.then_ HB2.out).cells | exact HAd.out.cells) (first
              | (go_at_call 124; (with_reducible refine (HPk.out).mono ?_); rintro e w3 ⟨rfl, hb⟩; have HB2 := Lk.mk hb; clear hb)
              | (go_at_call 112; (with_reducible refine (mmust_ok _ _).mono ?_); rintro e w' ⟨rfl, hw⟩; obtain rfl := hw.symm; clear hw))
            go_wp2
            go_roundg (3 - (k + 1))
            case measure => omega
            case rel => exact ⟨k + 1, by omega, by omega, by go_num, HJ2, ⟨below_then HBk2.out HBk2.out.size (below_then (below_drew (Below.refl w2.heap.size w2)) (below_drew (Below.refl w2.heap.size w2)).size HB2.out)⟩⟩
          | true =>
            rw [hh] at HPk
            have HNN := Lk.mk (HNk.out hh)
            clear hh HXk HNk
            go_wp2
            go_region_held2 (fun W' => W'.cell? ⟨qr, 0, none⟩ = some (.pointer q) ∧ W'.cell? ⟨qr, 1, none⟩ = some (.slice A l.length c) ∧ W'.cell? ⟨bo, 0, none⟩ = some (.int .u8 op) ∧ W'.cell? ⟨bs, 0, none⟩ = some (.slice (some ad) 3 sc) ∧ W'.cell? ⟨bd, 0, none⟩ = some (.int .i64 (dk : Int))) (first | exact hF.elim | exact (HAd.out.then_ HB2.out).cells | exact HAd.out.cells) (first
              | (go_at_call 124; (with_reducible refine (HPk.out).mono ?_); rintro e w3 ⟨rfl, hb⟩; have HB2 := Lk.mk hb; clear hb)
              | (go_at_call 112; (with_reducible refine (mmust_no _ _).mono ?_); rintro e w' ⟨rfl, hw⟩; obtain rfl := hw.symm; clear hw; refine as_panic (K := ‹Act → World → Prop›) (by exact ⟨rfl, below_down (HAd.out.then_ HB2.out).b_ (by have := HQW.out; have := HB23.out; omega), .inr ⟨5, by decide, HNN.out.symm, rfl⟩⟩) ?_; intro hF))
            all_goals exact hF.elim
        · obtain rfl : k = 3 := by omega
          have hltz : ¬ ((3 : Nat) : Int) < 3 := by omega
          have HZ := Lk.mk (HN0.out HALL.out (by rw [Int.toNat_natCast]; exact HJ.out))
          obtain ⟨k1, i1, ek1, hi1, _, hi1l⟩ := has_inv (HALL.out 1 (by omega))
          obtain ⟨k2, i2, ek2, hi2, _, hi2l⟩ := has_inv (HALL.out 2 (by omega))
          obtain rfl : dk = k1 := by omega
          obtain rfl : dk = k2 := by omega
          clear ek1 ek2
          have HRW := Lk.mk (Kd.R_below HRR.out HAk2.out.b_)
          have hzl : (l.zip ts).length = l.length := zip_len HTS.out.1
          obtain ⟨g, cap, he, _⟩ := Kd.R_form HRW.out (by omega)
          rw [hzl] at he
          injection he with hA1 _ hc1
          subst hA1
          subst hc1
          obtain ⟨c9, t1, t2, t3, t4, tall, _⟩ := bits_store HRW.out HTS.out.1 HTS.out.2 hdl hi0l 0
          have y1 := (tall i1 hi1l).1
          have y2 := (tall i2 hi2l).1
          have HRX := Lk.mk (fun W' x (hb : Below W.heap.size W W') => bits_store (Kd.R_below HRR.out hb) HTS.out.1 HTS.out.2 hdl hi0l x)
          have z1 := (slot_in19 HVI.out hdl hi1l).2.1
          have z2 := (slot_in19 HVI.out hdl hi2l).2.1
          have HC9 := Lk.mk (fun W' => HC1.out W' (slotZ l dk i1).2.1 (slotZ l dk i2).2.1 (by omega) (by omega))
          have HX9 := Lk.mk (show calcL l op dk sl = setL l dk i0 ((slotZ l dk i0).1, ((FlPlain.ref op.toNat (slotZ l dk i1).2.1.toNat (slotZ l dk i2).2.1.toNat : Nat) : Int), (slotZ l dk i0).2.2.1, (slotZ l dk i0).2.2.2) by unfold calcL calcX bitsZ; rw [hi0, hi1, hi2])
          obtain ⟨ad0, had0, e0⟩ := HAk2.out.r_.at_ ((0 : Nat) : Int) (by omega) (by omega)
          obtain ⟨ad1, had1, e1⟩ := HAk2.out.r_.at_ ((1 : Nat) : Int) (by omega) (by omega)
          obtain ⟨ad2, had2, e2⟩ := HAk2.out.r_.at_ ((2 : Nat) : Int) (by omega) (by omega)
          obtain rfl : ad = ad0 := Option.some.inj had0
          obtain rfl : ad = ad1 := Option.some.inj had1
          obtain rfl : ad = ad2 := Option.some.inj had2
          rw [Int.toNat_natCast, rdk, hi0] at e0
          rw [Int.toNat_natCast, rdk, hi1] at e1
          rw [Int.toNat_natCast, rdk, hi2] at e2
          have HT := Lk.mk (And.intro t2 (And.intro t3 t4))
          have hkz : (dk : Int) < (l.length : Int) := by omega
          have hiz0 : (i0 : Int) < ((l.getD dk dAf).2.length : Int) := by omega
          have hiz1 : (i1 : Int) < ((l.getD dk dAf).2.length : Int) := by omega
          have hiz2 : (i2 : Int) < ((l.getD dk dAf).2.length : Int) := by omega
          clear tall t2 t3 t4 z1 z2 hzl had0 had1 had2 hi0 hi1 hi2 HN2 HN5 HN0 HALL HJ HH HP HC0 HC1 HVI HRW
          generalize (slotZ l dk i1).2.1 = b1 at *
          generalize (slotZ l dk i2).2.1 = b2 at *
          generalize hNN : (l.getD dk dAf).2.length = N at *
          generalize htt : ts.getD dk 0 = t at *
          have HTT := Lk.mk htt
          have HNN := Lk.mk hNN
          have HI0 := Lk.mk hi0l
          clear htt hNN hi0l hi1l hi2l hdl
          go_wp2
          go_region
          go_wp2
          have HF9 := Lk.mk (And.intro y1 (And.intro y2 (And.intro e0 (And.intro e1 e2))))
          have HA9 := Lk.mk (HAk2.out.then_ (below_drew (below_drew (Below.refl _ _))))
          clear c0 c1 c2 c3 c4 y1 y2 e0 e1 e2 t1
          have HF9 := Lk.mk (show w2.drew.drew.cell? ⟨t, i1 * 4 + 1, none⟩ = some (.int .u64 b1) ∧ w2.drew.drew.cell? ⟨t, i2 * 4 + 1, none⟩ = some (.int .u64 b2) ∧ w2.drew.drew.cell? (ad.add 0) = some (.int .i64 (i0 : Int)) ∧ w2.drew.drew.cell? (ad.add 1) = some (.int .i64 (i1 : Int)) ∧ w2.drew.drew.cell? (ad.add 2) = some (.int .i64 (i2 : Int)) from HF9.out)
          obtain ⟨y1, y2, e0, e1, e2⟩ := HF9.out
          have e0a : w2.drew.drew.cell? ad = some (.int .i64 (i0 : Int)) := e0
          have e1a : w2.drew.drew.cell? ⟨ad.block, ad.off + 1, none⟩ = some (.int .i64 (i1 : Int)) := e1
          have e2a : w2.drew.drew.cell? ⟨ad.block, ad.off + 2, none⟩ = some (.int .i64 (i2 : Int)) := e2
          obtain ⟨c0, c1, c2, c3, c4⟩ := HA9.out.cells
          have HNE := Lk.mk (show bs ≠ t ∧ bo ≠ t ∧ ad.block ≠ t from by have := HB23.out; have := HT.out; have := HSB.out ad rfl; omega)
          have HS0 := Lk.mk (show w2.drew.drew.cell? ⟨bs, 0, none⟩ = some (.slice (some ad) 3 sc) ∧ w2.drew.drew.cell? ⟨bo, 0, none⟩ = some (.int .u8 op) ∧ w2.drew.drew.cell? ad = some (.int .i64 (i0 : Int)) ∧ w2.drew.drew.cell? ⟨ad.block, ad.off + 1, none⟩ = some (.int .i64 (i1 : Int)) ∧ w2.drew.drew.cell? ⟨ad.block, ad.off + 2, none⟩ = some (.int .i64 (i2 : Int)) from ⟨c3, c2, e0a, e1a, e2a⟩)
          have HS3 := Lk.mk (fun w3 (hb : Below w2.drew.drew.heap.size w2.drew.drew w3) => (show w3.cell? ⟨bs, 0, none⟩ = some (.slice (some ad) 3 sc) ∧ w3.cell? ⟨bo, 0, none⟩ = some (.int .u8 op) ∧ w3.cell? ad = some (.int .i64 (i0 : Int)) ∧ w3.cell? ⟨ad.block, ad.off + 1, none⟩ = some (.int .i64 (i1 : Int)) ∧ w3.cell? ⟨ad.block, ad.off + 2, none⟩ = some (.int .i64 (i2 : Int)) from ⟨pw_cell_below hb c3, pw_cell_below hb c2, pw_cell_below hb e0a, pw_cell_below hb e1a, pw_cell_below hb e2a⟩))
          have HS4 := Lk.mk (fun w3 (u : Value) (hb : Below w2.drew.drew.heap.size w2.drew.drew w3) => (show (w3.setCell ⟨t, i0 * 4 + 1, none⟩ u).cell? ⟨bs, 0, none⟩ = some (.slice (some ad) 3 sc) ∧ (w3.setCell ⟨t, i0 * 4 + 1, none⟩ u).cell? ⟨bo, 0, none⟩ = some (.int .u8 op) ∧ (w3.setCell ⟨t, i0 * 4 + 1, none⟩ u).cell? ad = some (.int .i64 (i0 : Int)) ∧ (w3.setCell ⟨t, i0 * 4 + 1, none⟩ u).cell? ⟨ad.block, ad.off + 1, none⟩ = some (.int .i64 (i1 : Int)) ∧ (w3.setCell ⟨t, i0 * 4 + 1, none⟩ u).cell? ⟨ad.block, ad.off + 2, none⟩ = some (.int .i64 (i2 : Int)) from
            ⟨cell_far (a := ⟨bs, 0, none⟩) HNE.out.1 u (pw_cell_below hb c3), cell_far (a := ⟨bo, 0, none⟩) HNE.out.2.1 u (pw_cell_below hb c2), cell_far (a := ad) HNE.out.2.2 u (pw_cell_below hb e0a), cell_far (a := ⟨ad.block, ad.off + 1, none⟩) HNE.out.2.2 u (pw_cell_below hb e1a), cell_far (a := ⟨ad.block, ad.off + 2, none⟩) HNE.out.2.2 u (pw_cell_below hb e2a)⟩))
          clear e0 e1 e2
          refine wp_region_held_drew (S := (fun W' => W'.cell? ⟨bs, 0, none⟩ = some (.slice (some ad) 3 sc) ∧ W'.cell? ⟨bo, 0, none⟩ = some (.int .u8 op) ∧ W'.cell? ad = some (.int .i64 (i0 : Int)) ∧ W'.cell? ⟨ad.block, ad.off + 1, none⟩ = some (.int .i64 (i1 : Int)) ∧ W'.cell? ⟨ad.block, ad.off + 2, none⟩ = some (.int .i64 (i2 : Int)))) (by kernel_rfl) HS0.out (fun hHeld => ?_)
          refine wpAnyH_take (i := 0) (oi := ?oi_1) (v := ?v_1) ?hi_1 ?hs_1 ?hf_1 ?hr_1 ?hQ_1 ?hy_1 ?hS_1 ?hrest_1
          case hi_1 => (simp only [List.getElem?_toArray, List.getElem?_cons_succ, List.getElem?_cons_zero]; rfl)
          case hs_1 => kernel_rfl
          case hf_1 => kernel_rfl
          case hr_1 => kernel_rfl
          case hQ_1 => exact fun _ _ _ h => h
          case hy_1 => (refine Or.inl ⟨by rfl, ?_⟩; intro w' hSw; (try dsimp only at hSw); go_simp; (try with_reducible rfl))
          case hS_1 => assumption
          (try simp only [Act.put, List.setIfInBounds_toArray, List.set_cons_zero, List.set_cons_succ])
          refine wpAnyH_take (i := 1) (oi := ?oi_2) (v := ?v_2) ?hi_2 ?hs_2 ?hf_2 ?hr_2 ?hQ_2 ?hy_2 ?hS_2 ?hrest_2
          case hi_2 => (simp only [List.getElem?_toArray, List.getElem?_cons_succ, List.getElem?_cons_zero]; rfl)
          case hs_2 => kernel_rfl
          case hf_2 => kernel_rfl
          case hr_2 => kernel_rfl
          case hQ_2 => exact fun _ _ _ h => h
          case hy_2 => (refine Or.inl ⟨by rfl, ?_⟩; intro w' hSw; (try dsimp only at hSw); go_simp; (try with_reducible rfl))
          case hS_2 => assumption
          (try simp only [Act.put, List.setIfInBounds_toArray, List.set_cons_zero, List.set_cons_succ])
          refine wpAnyH_take (i := 2) (oi := ?oi_3) (v := ?v_3) ?hi_3 ?hs_3 ?hf_3 ?hr_3 ?hQ_3 ?hy_3 ?hS_3 ?hrest_3
          case hi_3 => (simp only [List.getElem?_toArray, List.getElem?_cons_succ, List.getElem?_cons_zero]; rfl)
          case hs_3 => kernel_rfl
          case hf_3 => kernel_rfl
          case hr_3 => kernel_rfl
          case hQ_3 => exact fun _ _ _ h => h
          case hy_3 => (refine Or.inl ⟨by rfl, ?_⟩; intro w' hSw; (try dsimp only at hSw); go_simp; (try with_reducible rfl))
          case hS_3 => assumption
          (try simp only [Act.put, List.setIfInBounds_toArray, List.set_cons_zero, List.set_cons_succ])
          refine wpAnyH_take (i := 3) (oi := ?oi_4) (v := ?v_4) ?hi_4 ?hs_4 ?hf_4 ?hr_4 ?hQ_4 ?hy_4 ?hS_4 ?hrest_4
          case hi_4 => (simp only [List.getElem?_toArray, List.getElem?_cons_succ, List.getElem?_cons_zero]; rfl)
          case hs_4 => kernel_rfl
          case hf_4 => kernel_rfl
          case hr_4 => kernel_rfl
          case hQ_4 => exact fun _ _ _ h => h
          case hy_4 => (refine Or.inl ⟨by rfl, ?_⟩; intro w' hSw; (try dsimp only at hSw); go_simp; (try with_reducible rfl))
          case hS_4 => assumption
          (try simp only [Act.put, List.setIfInBounds_toArray, List.set_cons_zero, List.set_cons_succ])
          refine wpAnyH_take (i := 4) (oi := ?oi_5) (v := ?v_5) ?hi_5 ?hs_5 ?hf_5 ?hr_5 ?hQ_5 ?hy_5 ?hS_5 ?hrest_5
          case hi_5 => (simp only [List.getElem?_toArray, List.getElem?_cons_succ, List.getElem?_cons_zero]; rfl)
          case hs_5 => kernel_rfl
          case hf_5 => kernel_rfl
          case hr_5 => kernel_rfl
          case hQ_5 => exact fun _ _ _ h => h
          case hy_5 => (refine Or.inl ⟨by rfl, ?_⟩; intro w' hSw; (try dsimp only at hSw); go_simp; (try with_reducible rfl))
          case hS_5 => assumption
          (try simp only [Act.put, List.setIfInBounds_toArray, List.set_cons_zero, List.set_cons_succ])
          refine wpAnyH_take (i := 5) (oi := ?oi_6) (v := ?v_6) ?hi_6 ?hs_6 ?hf_6 ?hr_6 ?hQ_6 ?hy_6 ?hS_6 ?hrest_6
          case hi_6 => (simp only [List.getElem?_toArray, List.getElem?_cons_succ, List.getElem?_cons_zero]; rfl)
          case hs_6 => kernel_rfl
          case hf_6 => kernel_rfl
          case hr_6 => kernel_rfl
          case hQ_6 => exact fun _ _ _ h => h
          case hy_6 => (refine Or.inl ⟨by rfl, ?_⟩; intro w' hSw; (try dsimp only at hSw); go_simp; (try with_reducible rfl))
          case hS_6 => assumption
          (try simp only [Act.put, List.setIfInBounds_toArray, List.set_cons_zero, List.set_cons_succ])
          refine wpAnyH_take (i := 6) (oi := ?oi_7) (v := ?v_7) ?hi_7 ?hs_7 ?hf_7 ?hr_7 ?hQ_7 ?hy_7 ?hS_7 ?hrest_7
          case hi_7 => (simp only [List.getElem?_toArray, List.getElem?_cons_succ, List.getElem?_cons_zero]; rfl)
          case hs_7 => kernel_rfl
          case hf_7 => kernel_rfl
          case hr_7 => kernel_rfl
          case hQ_7 => exact fun _ _ _ h => h
          case hy_7 => (refine Or.inl ⟨by rfl, ?_⟩; intro w' hSw; (try dsimp only at hSw); go_simp; (try with_reducible rfl))
          case hS_7 => assumption
          (try simp only [Act.put, List.setIfInBounds_toArray, List.set_cons_zero, List.set_cons_succ])
          refine wpAnyH_take (i := 7) (oi := ?oi_8) (v := ?v_8) ?hi_8 ?hs_8 ?hf_8 ?hr_8 ?hQ_8 ?hy_8 ?hS_8 ?hrest_8
          case hi_8 => (simp only [List.getElem?_toArray, List.getElem?_cons_succ, List.getElem?_cons_zero]; rfl)
          case hs_8 => kernel_rfl
          case hf_8 => kernel_rfl
          case hr_8 => kernel_rfl
          case hQ_8 => exact fun _ _ _ h => h
          case hy_8 => (refine Or.inl ⟨by rfl, ?_⟩; intro w' hSw; (try dsimp only at hSw); go_simp; (try with_reducible rfl))
          case hS_8 => assumption
          (try simp only [Act.put, List.setIfInBounds_toArray, List.set_cons_zero, List.set_cons_succ])
          refine wpAnyH_take (i := 8) (oi := ?oi_9) (v := ?v_9) ?hi_9 ?hs_9 ?hf_9 ?hr_9 ?hQ_9 ?hy_9 ?hS_9 ?hrest_9
          case hi_9 => (simp only [List.getElem?_toArray, List.getElem?_cons_succ, List.getElem?_cons_zero]; rfl)
          case hs_9 => kernel_rfl
          case hf_9 => kernel_rfl
          case hr_9 => kernel_rfl
          case hQ_9 => exact fun _ _ _ h => h
          case hy_9 => (refine Or.inl ⟨by rfl, ?_⟩; intro w' hSw; (try dsimp only at hSw); go_simp; (try with_reducible rfl))
          case hS_9 => assumption
          (try simp only [Act.put, List.setIfInBounds_toArray, List.set_cons_zero, List.set_cons_succ])
          refine wpAnyH_take (i := 9) (oi := ?oi_10) (v := ?v_10) ?hi_10 ?hs_10 ?hf_10 ?hr_10 ?hQ_10 ?hy_10 ?hS_10 ?hrest_10
          case hi_10 => (simp only [List.getElem?_toArray, List.getElem?_cons_succ, List.getElem?_cons_zero]; rfl)
          case hs_10 => kernel_rfl
          case hf_10 => kernel_rfl
          case hr_10 => kernel_rfl
          case hQ_10 => exact fun _ _ _ h => h
          case hy_10 => (refine Or.inl ⟨by rfl, ?_⟩; intro w' hSw; (try dsimp only at hSw); go_simp; (try with_reducible rfl))
          case hS_10 => assumption
          (try simp only [Act.put, List.setIfInBounds_toArray, List.set_cons_zero, List.set_cons_succ])
          refine wpAnyH_take (i := 10) (oi := ?oi_11) (v := ?v_11) ?hi_11 ?hs_11 ?hf_11 ?hr_11 ?hQ_11 ?hy_11 ?hS_11 ?hrest_11
          case hi_11 => (simp only [List.getElem?_toArray, List.getElem?_cons_succ, List.getElem?_cons_zero]; rfl)
          case hs_11 => kernel_rfl
          case hf_11 => kernel_rfl
          case hr_11 => kernel_rfl
          case hQ_11 => exact fun _ _ _ h => h
          case hy_11 => (refine Or.inl ⟨by rfl, ?_⟩; intro w' hSw; (try dsimp only at hSw); go_simp; (try with_reducible rfl))
          case hS_11 => assumption
          (try simp only [Act.put, List.setIfInBounds_toArray, List.set_cons_zero, List.set_cons_succ])
          refine wpAnyH_take (i := 12) (oi := ?oi_12) (v := ?v_12) ?hi_12 ?hs_12 ?hf_12 ?hr_12 ?hQ_12 ?hy_12 ?hS_12 ?hrest_12
          case hi_12 => (simp only [List.getElem?_toArray, List.getElem?_cons_succ, List.getElem?_cons_zero]; rfl)
          case hs_12 => kernel_rfl
          case hf_12 => kernel_rfl
          case hr_12 => kernel_rfl
          case hQ_12 => exact fun _ _ _ h => h
          case hy_12 => (refine Or.inl ⟨by rfl, ?_⟩; intro w' hSw; (try dsimp only at hSw); go_simp; (try with_reducible rfl))
          case hS_12 => assumption
          (try simp only [Act.put, List.setIfInBounds_toArray, List.set_cons_zero, List.set_cons_succ])
          refine wpAnyH_take (i := 13) (oi := ?oi_13) (v := ?v_13) ?hi_13 ?hs_13 ?hf_13 ?hr_13 ?hQ_13 ?hy_13 ?hS_13 ?hrest_13
          case hi_13 => (simp only [List.getElem?_toArray, List.getElem?_cons_succ, List.getElem?_cons_zero]; rfl)
          case hs_13 => kernel_rfl
          case hf_13 => kernel_rfl
          case hr_13 => kernel_rfl
          case hQ_13 => exact fun _ _ _ h => h
          case hy_13 => (refine Or.inl ⟨by rfl, ?_⟩; intro w' hSw; (try dsimp only at hSw); go_simp; (try with_reducible rfl))
          case hS_13 => assumption
          (try simp only [Act.put, List.setIfInBounds_toArray, List.set_cons_zero, List.set_cons_succ])
          refine wpAnyH_take (i := 14) (oi := ?oi_14) (v := ?v_14) ?hi_14 ?hs_14 ?hf_14 ?hr_14 ?hQ_14 ?hy_14 ?hS_14 ?hrest_14
          case hi_14 => (simp only [List.getElem?_toArray, List.getElem?_cons_succ, List.getElem?_cons_zero]; rfl)
          case hs_14 => kernel_rfl
          case hf_14 => kernel_rfl
          case hr_14 => kernel_rfl
          case hQ_14 => exact fun _ _ _ h => h
          case hy_14 => (refine Or.inl ⟨by rfl, ?_⟩; intro w' hSw; (try dsimp only at hSw); go_simp; (try with_reducible rfl))
          case hS_14 => assumption
          (try simp only [Act.put, List.setIfInBounds_toArray, List.set_cons_zero, List.set_cons_succ])
          refine wpAnyH_take (i := 15) (oi := ?oi_15) (v := ?v_15) ?hi_15 ?hs_15 ?hf_15 ?hr_15 ?hQ_15 ?hy_15 ?hS_15 ?hrest_15
          case hi_15 => (simp only [List.getElem?_toArray, List.getElem?_cons_succ, List.getElem?_cons_zero]; rfl)
          case hs_15 => kernel_rfl
          case hf_15 => kernel_rfl
          case hr_15 => kernel_rfl
          case hQ_15 => exact fun _ _ _ h => h
          case hy_15 => (refine Or.inl ⟨by rfl, ?_⟩; intro w' hSw; (try dsimp only at hSw); go_simp; (try with_reducible rfl))
          case hS_15 => assumption
          (try simp only [Act.put, List.setIfInBounds_toArray, List.set_cons_zero, List.set_cons_succ])
          refine wpAnyH_take (i := 16) (oi := ?oi_16) (v := ?v_16) ?hi_16 ?hs_16 ?hf_16 ?hr_16 ?hQ_16 ?hy_16 ?hS_16 ?hrest_16
          case hi_16 => (simp only [List.getElem?_toArray, List.getElem?_cons_succ, List.getElem?_cons_zero]; rfl)
          case hs_16 => kernel_rfl
          case hf_16 => kernel_rfl
          case hr_16 => kernel_rfl
          case hQ_16 => exact fun _ _ _ h => h
          case hy_16 => (refine Or.inl ⟨by rfl, ?_⟩; intro w' hSw; (try dsimp only at hSw); go_simp; (try with_reducible rfl))
          case hS_16 => assumption
          (try simp only [Act.put, List.setIfInBounds_toArray, List.set_cons_zero, List.set_cons_succ])
          refine wpAnyH_take (i := 17) (oi := ?oi_17) (v := ?v_17) ?hi_17 ?hs_17 ?hf_17 ?hr_17 ?hQ_17 ?hy_17 ?hS_17 ?hrest_17
          case hi_17 => (simp only [List.getElem?_toArray, List.getElem?_cons_succ, List.getElem?_cons_zero]; rfl)
          case hs_17 => kernel_rfl
          case hf_17 => kernel_rfl
          case hr_17 => kernel_rfl
          case hQ_17 => exact fun _ _ _ h => h
          case hy_17 => (refine Or.inl ⟨by rfl, ?_⟩; intro w' hSw; (try dsimp only at hSw); go_simp; (try with_reducible rfl))
          case hS_17 => assumption
          (try simp only [Act.put, List.setIfInBounds_toArray, List.set_cons_zero, List.set_cons_succ])
          refine wpAnyH_ready (rs := [11, 18]) (by kernel_rfl) (by simp) ?_
          refine AllReadyH.cons (o := ?boi7) ?bhi7 ?bstep7 ?bmore7
          case bhi7 => (simp only [List.getElem?_toArray, List.getElem?_cons_succ, List.getElem?_cons_zero]; rfl)
          case bstep7 =>
            intro K hK
            go_simp
            refine hK.out _ _ (by assumption) (fun hHeld => ?_)
            clear hK K
            (try simp only [Act.put, List.setIfInBounds_toArray, List.set_cons_zero, List.set_cons_succ])
            refine wpAnyH_ready (rs := [18]) (by kernel_rfl) (by simp) ?_
            refine AllReadyH.cons (o := ?boi3) ?bhi3 ?bstep3 ?bmore3
            case bhi3 => (simp only [List.getElem?_toArray, List.getElem?_cons_succ, List.getElem?_cons_zero]; rfl)
            case bstep3 =>
              intro K hK
              go_simp
              refine hK.out _ _ (by assumption) (fun hHeld => ?_)
              clear hK K
              (try simp only [Act.put, List.setIfInBounds_toArray, List.set_cons_zero, List.set_cons_succ])
              refine wpAnyH_ready (rs := [19]) (by kernel_rfl) (by simp) ?_
              refine AllReadyH.cons (o := ?boi2) ?bhi2 ?bstep2 ?bmore2
              case bhi2 => (simp only [List.getElem?_toArray, List.getElem?_cons_succ, List.getElem?_cons_zero]; rfl)
              case bstep2 =>
                intro K hK
                go_simp
                go_at_call 126
                (with_reducible refine (HC9.out _).mono ?_)
                rintro e w3 ⟨rfl, hb⟩
                dsimp only
                have HB3 := Lk.mk hb
                have HA3 := Lk.mk (HA9.out.then_ hb)
                have hx3 := HRX.out w3 ((FlPlain.ref op.toNat b1.toNat b2.toNat : Nat) : Int) HA3.out.b_
                obtain ⟨c99, _, _, _, _, tall3, hR3⟩ := hx3
                obtain ⟨u5, u6⟩ := tall3 i0 HI0.out
                have HR3 := Lk.mk hR3
                clear hb tall3 hR3
                refine hK.out _ _ (HS3.out _ HB3.out) (fun hHeld => ?_)
                clear hK K
                (try simp only [Act.put, List.setIfInBounds_toArray, List.set_cons_zero, List.set_cons_succ])
                refine wpAnyH_take (i := 20) (oi := ?oi_18) (v := ?v_18) ?hi_18 ?hs_18 ?hf_18 ?hr_18 ?hQ_18 ?hy_18 ?hS_18 ?hrest_18
                case hi_18 => (simp only [List.getElem?_toArray, List.getElem?_cons_succ, List.getElem?_cons_zero]; rfl)
                case hs_18 => kernel_rfl
                case hf_18 => kernel_rfl
                case hr_18 => kernel_rfl
                case hQ_18 => exact fun _ _ _ h => h
                case hy_18 => (refine Or.inl ⟨by rfl, ?_⟩; intro w' hSw; (try dsimp only at hSw); go_simp; (try with_reducible rfl))
                case hS_18 => assumption
                (try simp only [Act.put, List.setIfInBounds_toArray, List.set_cons_zero, List.set_cons_succ])
                refine wpAnyH_take (i := 21) (oi := ?oi_19) (v := ?v_19) ?hi_19 ?hs_19 ?hf_19 ?hr_19 ?hQ_19 ?hy_19 ?hS_19 ?hrest_19
                case hi_19 => (simp only [List.getElem?_toArray, List.getElem?_cons_succ, List.getElem?_cons_zero]; rfl)
                case hs_19 => kernel_rfl
                case hf_19 => kernel_rfl
                case hr_19 => kernel_rfl
                case hQ_19 => exact fun _ _ _ h => h
                case hy_19 => (refine Or.inl ⟨by rfl, ?_⟩; intro w' hSw; (try dsimp only at hSw); go_simp; (try with_reducible rfl))
                case hS_19 => assumption
                (try simp only [Act.put, List.setIfInBounds_toArray, List.set_cons_zero, List.set_cons_succ])
                refine wpAnyH_take (i := 22) (oi := ?oi_20) (v := ?v_20) ?hi_20 ?hs_20 ?hf_20 ?hr_20 ?hQ_20 ?hy_20 ?hS_20 ?hrest_20
                case hi_20 => (simp only [List.getElem?_toArray, List.getElem?_cons_succ, List.getElem?_cons_zero]; rfl)
                case hs_20 => kernel_rfl
                case hf_20 => kernel_rfl
                case hr_20 => kernel_rfl
                case hQ_20 => exact fun _ _ _ h => h
                case hy_20 => (refine Or.inl ⟨by rfl, ?_⟩; intro w' hSw; (try dsimp only at hSw); go_simp; (try with_reducible rfl))
                case hS_20 => assumption
                (try simp only [Act.put, List.setIfInBounds_toArray, List.set_cons_zero, List.set_cons_succ])
                refine wpAnyH_take (i := 23) (oi := ?oi_21) (v := ?v_21) ?hi_21 ?hs_21 ?hf_21 ?hr_21 ?hQ_21 ?hy_21 ?hS_21 ?hrest_21
                case hi_21 => (simp only [List.getElem?_toArray, List.getElem?_cons_succ, List.getElem?_cons_zero]; rfl)
                case hs_21 => kernel_rfl
                case hf_21 => kernel_rfl
                case hr_21 => kernel_rfl
                case hQ_21 => exact fun _ _ _ h => h
                case hy_21 => (refine Or.inl ⟨by rfl, ?_⟩; intro w' hSw; (try dsimp only at hSw); go_simp; (try with_reducible rfl))
                case hS_21 => assumption
                (try simp only [Act.put, List.setIfInBounds_toArray, List.set_cons_zero, List.set_cons_succ])
                refine wpAnyH_take (i := 24) (oi := ?oi_22) (v := ?v_22) ?hi_22 ?hs_22 ?hf_22 ?hr_22 ?hQ_22 ?hy_22 ?hS_22 ?hrest_22
                case hi_22 => (simp only [List.getElem?_toArray, List.getElem?_cons_succ, List.getElem?_cons_zero]; rfl)
                case hs_22 => kernel_rfl
                case hf_22 => kernel_rfl
                case hr_22 => kernel_rfl
                case hQ_22 => exact fun _ _ _ h => h
                case hy_22 => (refine Or.inl ⟨by rfl, ?_⟩; intro w' hSw; (try dsimp only at hSw); go_simp; (try with_reducible rfl))
                case hS_22 => assumption
                (try simp only [Act.put, List.setIfInBounds_toArray, List.set_cons_zero, List.set_cons_succ])
                refine wpAnyH_ready (rs := [25]) (by kernel_rfl) (by simp) ?_
                refine AllReadyH.cons (o := ?boi1) ?bhi1 ?bstep1 ?bmore1
                case bhi1 => (simp only [List.getElem?_toArray, List.getElem?_cons_succ, List.getElem?_cons_zero]; rfl)
                case bstep1 =>
                  intro K hK
                  go_simp
                  refine hK.out _ _ (HS4.out _ _ HB3.out) (fun hHeld => ?_)
                  clear hK K
                  (try simp only [Act.put, List.setIfInBounds_toArray, List.set_cons_zero, List.set_cons_succ])
                  refine wpAnyH_done (by kernel_rfl) ?_ _
                  have hht := HT.out
                  have hqb := HB23.out
                  have hqw := HQW.out
                  have HFQ := Lk.mk ((Below.heap_setCell w3 ⟨t, i0 * 4 + 1, none⟩ (.int .u64 ((FlPlain.ref op.toNat b1.toNat b2.toNat : Nat) : Int)) qr (show qr ≠ t by omega)).trans HA3.out.q_)
                  have HFB := Lk.mk ((below_down HA3.out.b_ (show B ≤ W.heap.size by omega)).setCell (p := ⟨t, i0 * 4 + 1, none⟩) hht.2.2 (.int .u64 ((FlPlain.ref op.toNat b1.toNat b2.toNat : Nat) : Int)))
                  clear hht hqb hqw
                  go_wp2
                  simp [bodyPost, results, Tryd.results125]
                  exact ⟨HFB.out, .inl ⟨rfl, .slice (some ⟨g, 0, none⟩) l.length c, _, ⟨HZ.out, HX9.out.symm⟩, HFQ.out, HR3.out⟩⟩
                exact AllReadyH.nil
              exact AllReadyH.nil
            exact AllReadyH.nil
          refine AllReadyH.cons (o := ?boi8) ?bhi8 ?bstep8 ?bmore8
          case bhi8 => (simp only [List.getElem?_toArray, List.getElem?_cons_succ, List.getElem?_cons_zero]; rfl)
          case bstep8 =>
            intro K hK
            go_simp
            refine hK.out _ _ (by assumption) (fun hHeld => ?_)
            clear hK K
            (try simp only [Act.put, List.setIfInBounds_toArray, List.set_cons_zero, List.set_cons_succ])
            refine wpAnyH_ready (rs := [11]) (by kernel_rfl) (by simp) ?_
            refine AllReadyH.cons (o := ?boi6) ?bhi6 ?bstep6 ?bmore6
            case bhi6 => (simp only [List.getElem?_toArray, List.getElem?_cons_succ, List.getElem?_cons_zero]; rfl)
            case bstep6 =>
              intro K hK
              go_simp
              refine hK.out _ _ (by assumption) (fun hHeld => ?_)
              clear hK K
              (try simp only [Act.put, List.setIfInBounds_toArray, List.set_cons_zero, List.set_cons_succ])
              refine wpAnyH_ready (rs := [19]) (by kernel_rfl) (by simp) ?_
              refine AllReadyH.cons (o := ?boi5) ?bhi5 ?bstep5 ?bmore5
              case bhi5 => (simp only [List.getElem?_toArray, List.getElem?_cons_succ, List.getElem?_cons_zero]; rfl)
              case bstep5 =>
                intro K hK
                go_simp
                go_at_call 126
                (with_reducible refine (HC9.out _).mono ?_)
                rintro e w3 ⟨rfl, hb⟩
                dsimp only
                have HB3 := Lk.mk hb
                have HA3 := Lk.mk (HA9.out.then_ hb)
                have hx3 := HRX.out w3 ((FlPlain.ref op.toNat b1.toNat b2.toNat : Nat) : Int) HA3.out.b_
                obtain ⟨c99, _, _, _, _, tall3, hR3⟩ := hx3
                obtain ⟨u5, u6⟩ := tall3 i0 HI0.out
                have HR3 := Lk.mk hR3
                clear hb tall3 hR3
                refine hK.out _ _ (HS3.out _ HB3.out) (fun hHeld => ?_)
                clear hK K
                (try simp only [Act.put, List.setIfInBounds_toArray, List.set_cons_zero, List.set_cons_succ])
                refine wpAnyH_take (i := 20) (oi := ?oi_23) (v := ?v_23) ?hi_23 ?hs_23 ?hf_23 ?hr_23 ?hQ_23 ?hy_23 ?hS_23 ?hrest_23
                case hi_23 => (simp only [List.getElem?_toArray, List.getElem?_cons_succ, List.getElem?_cons_zero]; rfl)
                case hs_23 => kernel_rfl
                case hf_23 => kernel_rfl
                case hr_23 => kernel_rfl
                case hQ_23 => exact fun _ _ _ h => h
                case hy_23 => (refine Or.inl ⟨by rfl, ?_⟩; intro w' hSw; (try dsimp only at hSw); go_simp; (try with_reducible rfl))
                case hS_23 => assumption
                (try simp only [Act.put, List.setIfInBounds_toArray, List.set_cons_zero, List.set_cons_succ])
                refine wpAnyH_take (i := 21) (oi := ?oi_24) (v := ?v_24) ?hi_24 ?hs_24 ?hf_24 ?hr_24 ?hQ_24 ?hy_24 ?hS_24 ?hrest_24
                case hi_24 => (simp only [List.getElem?_toArray, List.getElem?_cons_succ, List.getElem?_cons_zero]; rfl)
                case hs_24 => kernel_rfl
                case hf_24 => kernel_rfl
                case hr_24 => kernel_rfl
                case hQ_24 => exact fun _ _ _ h => h
                case hy_24 => (refine Or.inl ⟨by rfl, ?_⟩; intro w' hSw; (try dsimp only at hSw); go_simp; (try with_reducible rfl))
                case hS_24 => assumption
                (try simp only [Act.put, List.setIfInBounds_toArray, List.set_cons_zero, List.set_cons_succ])
                refine wpAnyH_take (i := 22) (oi := ?oi_25) (v := ?v_25) ?hi_25 ?hs_25 ?hf_25 ?hr_25 ?hQ_25 ?hy_25 ?hS_25 ?hrest_25
                case hi_25 => (simp only [List.getElem?_toArray, List.getElem?_cons_succ, List.getElem?_cons_zero]; rfl)
                case hs_25 => kernel_rfl
                case hf_25 => kernel_rfl
                case hr_25 => kernel_rfl
                case hQ_25 => exact fun _ _ _ h => h
                case hy_25 => (refine Or.inl ⟨by rfl, ?_⟩; intro w' hSw; (try dsimp only at hSw); go_simp; (try with_reducible rfl))
                case hS_25 => assumption
                (try simp only [Act.put, List.setIfInBounds_toArray, List.set_cons_zero, List.set_cons_succ])
                refine wpAnyH_take (i := 23) (oi := ?oi_26) (v := ?v_26) ?hi_26 ?hs_26 ?hf_26 ?hr_26 ?hQ_26 ?hy_26 ?hS_26 ?hrest_26
                case hi_26 => (simp only [List.getElem?_toArray, List.getElem?_cons_succ, List.getElem?_cons_zero]; rfl)
                case hs_26 => kernel_rfl
                case hf_26 => kernel_rfl
                case hr_26 => kernel_rfl
                case hQ_26 => exact fun _ _ _ h => h
                case hy_26 => (refine Or.inl ⟨by rfl, ?_⟩; intro w' hSw; (try dsimp only at hSw); go_simp; (try with_reducible rfl))
                case hS_26 => assumption
                (try simp only [Act.put, List.setIfInBounds_toArray, List.set_cons_zero, List.set_cons_succ])
                refine wpAnyH_take (i := 24) (oi := ?oi_27) (v := ?v_27) ?hi_27 ?hs_27 ?hf_27 ?hr_27 ?hQ_27 ?hy_27 ?hS_27 ?hrest_27
                case hi_27 => (simp only [List.getElem?_toArray, List.getElem?_cons_succ, List.getElem?_cons_zero]; rfl)
                case hs_27 => kernel_rfl
                case hf_27 => kernel_rfl
                case hr_27 => kernel_rfl
                case hQ_27 => exact fun _ _ _ h => h
                case hy_27 => (refine Or.inl ⟨by rfl, ?_⟩; intro w' hSw; (try dsimp only at hSw); go_simp; (try with_reducible rfl))
                case hS_27 => assumption
                (try simp only [Act.put, List.setIfInBounds_toArray, List.set_cons_zero, List.set_cons_succ])
                refine wpAnyH_ready (rs := [25]) (by kernel_rfl) (by simp) ?_
                refine AllReadyH.cons (o := ?boi4) ?bhi4 ?bstep4 ?bmore4
                case bhi4 => (simp only [List.getElem?_toArray, List.getElem?_cons_succ, List.getElem?_cons_zero]; rfl)
                case bstep4 =>
                  intro K hK
                  go_simp
                  refine hK.out _ _ (HS4.out _ _ HB3.out) (fun hHeld => ?_)
                  clear hK K
                  (try simp only [Act.put, List.setIfInBounds_toArray, List.set_cons_zero, List.set_cons_succ])
                  refine wpAnyH_done (by kernel_rfl) ?_ _
                  have hht := HT.out
                  have hqb := HB23.out
                  have hqw := HQW.out
                  have HFQ := Lk.mk ((Below.heap_setCell w3 ⟨t, i0 * 4 + 1, none⟩ (.int .u64 ((FlPlain.ref op.toNat b1.toNat b2.toNat : Nat) : Int)) qr (show qr ≠ t by omega)).trans HA3.out.q_)
                  have HFB := Lk.mk ((below_down HA3.out.b_ (show B ≤ W.heap.size by omega)).setCell (p := ⟨t, i0 * 4 + 1, none⟩) hht.2.2 (.int .u64 ((FlPlain.ref op.toNat b1.toNat b2.toNat : Nat) : Int)))
                  clear hht hqb hqw
                  go_wp2
                  simp [bodyPost, results, Tryd.results125]
                  exact ⟨HFB.out, .inl ⟨rfl, .slice (some ⟨g, 0, none⟩) l.length c, _, ⟨HZ.out, HX9.out.symm⟩, HFQ.out, HR3.out⟩⟩
                exact AllReadyH.nil
              exact AllReadyH.nil
            exact AllReadyH.nil
          exact AllReadyH.nil
end Go.Proofs.YtcepafllgjnngaaDoor
