/-
  The law ModelRight; conditions: the table of deBruijn stands; the arguments read as told. Printed by gen_mright.py.
-/
import Derived.Test.YtcepafllgjnngaaDoorTj
import Derived.Test.YtcepafllgjnngaaDoorPy
import Derived.Test.YtcepafllgjnngaaDoorEh
namespace Go.Proofs.YtcepafllgjnngaaDoor
open Go.RowKit Go.Proofs.YtcepafllgjnngaaDoorW.PrintWords

theorem getD_mem19 {l : List Int} {k : Nat} (h : k < l.length) : l.getD k 0 ∈ l := by
  rw [List.getD_eq_getElem?_getD, List.getElem?_eq_getElem h]
  exact List.getElem_mem h
theorem tblPtr19 {w : World} {p : Value} {ent : List (Int × (List Int × List Int))} (h : TblOr w p ent) : ∃ q, p = .pointer q := by rcases h with ⟨e, _⟩ | ⟨g2, _, _, e, _⟩ <;> exact ⟨_, e⟩
theorem rightP_back {t : List (Int × List Int)} (hn : newOk t = true) {l : List Af} (h : RightP (tSize (t.map entryOf)) (tPtr (t.map entryOf)) l) : RightP (lSize t) (lPtr t) l := by
  have h1 : tSize (t.map entryOf) = lSize t := funext (tSize_map t)
  have h2 : tPtr (t.map entryOf) = lPtr t := funext fun f => funext (tPtr_map hn f)
  rw [h1, h2] at h; exact h
set_option maxRecDepth 100000 in
set_option maxHeartbeats 2000000 in
theorem mr_early (A : Option Addr) (c : Nat) (t : List (Int × List Int)) (B : Option Addr) (dc : Nat) (l : List Af) (kd f d s v0 v1 v2 v3 x op : Int) (S : Option Addr) (sl : List Int) (sc : Nat) (w : World) (hr : FnC w A t.length t) (hI : FnsOk t) (hl : kAf.C w B l.length l) (hv : AfIn l) (hT : Tab w) (hsl : ReadsInt w .i64 S sl.length sl) (h : newOk t = false ∨ greatL t = true ∨ great19L l = true ∨ 10 < sl.length) :
    Calls Tryd.prog 5 #[.slice A t.length c, .slice B l.length dc, .agg #[.int .i64 kd, .int .i64 f, .int .i64 d, .int .i64 s, .int .u8 v0, .int .u64 v1, .int .i64 v2, .int .i64 v3, .int .u64 x, .int .u8 op, .slice S sl.length sc]] w fun e w' => e = .returned (.bool true) ∧ Below w.heap.size w w' := by
  have hm := hl.2.1
  have hms := hsl.2.1
  have HAW := Lk.mk (fun W (hb : Below w.heap.size w W) => awake19_any W (hT.below hb))
  have HG := Lk.mk (fun W (hb : Below w.heap.size w W) => great_any A c t W (hr.below hb))
  have HG2 := Lk.mk (fun W (hb : Below w.heap.size w W) => great19_any B dc l W (Kd.C_below hl hb))
  have h0 := below_alloc (Below.refl w.heap.size w) (.cells #[.int .i64 kd, .int .i64 f, .int .i64 d, .int .i64 s, .int .u8 v0, .int .u64 v1, .int .i64 v2, .int .i64 v3, .int .u64 x, .int .u8 op, .slice S sl.length sc] 58)
  have H0 := Lk.mk h0
  have HX := Lk.mk (blk_new w (.cells #[.int .i64 kd, .int .i64 f, .int .i64 d, .int .i64 s, .int .u8 v0, .int .u64 v1, .int .i64 v2, .int .i64 v3, .int .u64 x, .int .u8 op, .slice S sl.length sc] 58))
  have HNW := Lk.mk (fun (hn : newOk t = false) => new_bad A c t _ (hr.below h0) hI (hT.below h0) hn)
  have HNG := Lk.mk (fun (hn : newOk t = true) => new_good A c t _ (hr.below h0) hI (hT.below h0) hn)
  have HH := Lk.mk h
  clear hr hI hl hv hT hsl h h0
  generalize hg1 : greatL t = g1 at *
  generalize hg2 : great19L l = g2 at *
  cases hn : newOk t with
  | false =>
    have HN := Lk.mk (HNW.out hn)
    clear hn hg1 hg2
    cases g1 <;> cases g2
    all_goals
      go_enter Tryd.func5, Tryd.ntmps5
      go_wp2_with (first
        | (go_at_call 12; (with_reducible refine (HN.out).mono ?_); rintro e w1 ⟨rfl, hb⟩; have HB := Lk.mk (below_then H0.out H0.out.size hb); clear hb)
        | (go_at_call 10; (with_reducible refine (HG.out _ HB.out).mono ?_); rintro e w' ⟨rfl, hw⟩; obtain rfl := hw.symm; clear hw)
        | (go_at_call 19; (with_reducible refine (HG2.out _ HB.out).mono ?_); rintro e w' ⟨rfl, hw⟩; obtain rfl := hw.symm; clear hw)
        | (go_at_call 25; (with_reducible refine (HAW.out _ HB.out).mono ?_); rintro e w' ⟨rfl, hb⟩; have HB := Lk.mk (below_then HB.out HB.out.size hb); clear hb))
      go_ret
      exact ⟨rfl, HB.out⟩
  | true =>
    have HN := Lk.mk (HNG.out hn)
    rw [hn] at HH
    clear hn hg1 hg2
    cases g1 <;> cases g2
    case false.false =>
      have hz : (10 : Int) < (sl.length : Int) := by
        rcases HH.out with h | h | h | h
        · exact absurd h (by decide)
        · exact absurd h (by decide)
        · exact absurd h (by decide)
        · omega
      go_enter Tryd.func5, Tryd.ntmps5
      go_wp2_with (first
        | (go_at_call 12; (with_reducible refine (HN.out).mono ?_); rintro e w1 ⟨p, rfl, htb, hb⟩; have a10 := blk_cell (blk_below HX.out hb) 10; simp only [List.getElem?_toArray, List.getElem?_cons_zero, List.getElem?_cons_succ] at a10; have HB := Lk.mk (below_then H0.out H0.out.size hb); clear hb htb)
        | (go_at_call 10; (with_reducible refine (HG.out _ HB.out).mono ?_); rintro e w' ⟨rfl, hw⟩; obtain rfl := hw.symm; clear hw)
        | (go_at_call 19; (with_reducible refine (HG2.out _ HB.out).mono ?_); rintro e w' ⟨rfl, hw⟩; obtain rfl := hw.symm; clear hw)
        | (go_at_call 25; (with_reducible refine (HAW.out _ HB.out).mono ?_); rintro e w' ⟨rfl, hb⟩; have HB := Lk.mk (below_then HB.out HB.out.size hb); clear hb))
      go_ret
      exact ⟨rfl, HB.out⟩
    all_goals
      go_enter Tryd.func5, Tryd.ntmps5
      go_wp2_with (first
        | (go_at_call 12; (with_reducible refine (HN.out).mono ?_); rintro e w1 ⟨p, rfl, htb, hb⟩; have HB := Lk.mk (below_then H0.out H0.out.size hb); clear hb htb)
        | (go_at_call 10; (with_reducible refine (HG.out _ HB.out).mono ?_); rintro e w' ⟨rfl, hw⟩; obtain rfl := hw.symm; clear hw)
        | (go_at_call 19; (with_reducible refine (HG2.out _ HB.out).mono ?_); rintro e w' ⟨rfl, hw⟩; obtain rfl := hw.symm; clear hw)
        | (go_at_call 25; (with_reducible refine (HAW.out _ HB.out).mono ?_); rintro e w' ⟨rfl, hb⟩; have HB := Lk.mk (below_then HB.out HB.out.size hb); clear hb))
      go_ret
      exact ⟨rfl, HB.out⟩
set_option maxRecDepth 100000 in
set_option maxHeartbeats 8000000 in
theorem mr_bad (A : Option Addr) (c : Nat) (t : List (Int × List Int)) (B : Option Addr) (dc : Nat) (l : List Af) (kd f d s v0 v1 v2 v3 x op : Int) (S : Option Addr) (sl : List Int) (sc : Nat) (w : World) (hr : FnC w A t.length t) (hI : FnsOk t) (hl : kAf.C w B l.length l) (hv : AfIn l) (hT : Tab w) (hsl : ReadsInt w .i64 S sl.length sl) (hln : AfLen l) (hvi : VlIn (v0, v1, v2, v3)) (hs9 : s ≤ 9223372036854775807) (hx : 0 ≤ x ∧ x ≤ 18446744073709551615) (hsn : ∀ j : Nat, sl.getD j 0 ≤ 9223372036854775807) (hn : newOk t = true) (hg1 : greatL t = false) (hg2 : great19L l = false) (h10 : ¬ 10 < sl.length) (hR : ¬ RightP (lSize t) (lPtr t) l) :
    Calls Tryd.prog 5 #[.slice A t.length c, .slice B l.length dc, .agg #[.int .i64 kd, .int .i64 f, .int .i64 d, .int .i64 s, .int .u8 v0, .int .u64 v1, .int .i64 v2, .int .i64 v3, .int .u64 x, .int .u8 op, .slice S sl.length sc]] w fun e w' => e = .returned (.bool true) ∧ Below w.heap.size w w' := by
  have hm := hl.2.1
  have hms := hsl.2.1
  have HAW := Lk.mk (fun W (hb : Below w.heap.size w W) => awake19_any W (hT.below hb))
  have HG := Lk.mk (fun W (hb : Below w.heap.size w W) => great_any A c t W (hr.below hb))
  have HG2 := Lk.mk (fun W (hb : Below w.heap.size w W) => great19_any B dc l W (Kd.C_below hl hb))
  have h0 := below_alloc (Below.refl w.heap.size w) (.cells #[.int .i64 kd, .int .i64 f, .int .i64 d, .int .i64 s, .int .u8 v0, .int .u64 v1, .int .i64 v2, .int .i64 v3, .int .u64 x, .int .u8 op, .slice S sl.length sc] 58)
  have H0 := Lk.mk h0
  have HX := Lk.mk (blk_new w (.cells #[.int .i64 kd, .int .i64 f, .int .i64 d, .int .i64 s, .int .u8 v0, .int .u64 v1, .int .i64 v2, .int .i64 v3, .int .u64 x, .int .u8 op, .slice S sl.length sc] 58))
  rw [hg1] at HG
  rw [hg2] at HG2
  have HN := Lk.mk (new_good A c t _ (hr.below h0) hI (hT.below h0) hn)
  have hz : ¬ (10 : Int) < (sl.length : Int) := by omega
  have hwd : ∀ e ∈ t.map entryOf, Bm.Words e.2.1 := fun e he => entry_words he
  have hen := entIn_of hn
  have hsz : tSize (t.map entryOf) f ≤ 1048576 := by rw [tSize_map]; have := (lSize_in hn f).2.1; omega
  have hl30 : l.length < 1048576 := by have := (great19_in hg2).1; omega
  have hRT : ¬ RightP (tSize (t.map entryOf)) (tPtr (t.map entryOf)) l := fun h => hR (rightP_back hn h)
  have HRI := Lk.mk (fun W (hb : Below w.heap.size w W) => (rright_any A c t B dc l W (hr.below hb) (fun f hf => (hI f hf).1) (Kd.C_below hl hb) hv).mono (fun e W' (h : (∃ b : Bool, e = .returned (.bool b) ∧ (b = true ↔ RightP (lSize t) (lPtr t) l)) ∧ Below W.heap.size W W') => (show e = .returned (.bool false) ∧ Below W.heap.size W W' from ⟨by obtain ⟨⟨b, he, hi⟩, _⟩ := h; cases b; exact he; exact absurd (hi.1 rfl) hR, h.2⟩)))
  have HD := Lk.mk (fun W q (hb : Below w.heap.size w W) (ht : TblOr W (.pointer q) (t.map entryOf)) => does_bad q (t.map entryOf) B dc l kd f d s v0 v1 v2 v3 x op S sl sc W ht hen hwd (Kd.C_below hl hb) hln hl30 hv hRT hvi hs9 hsz (hsl.below hb) hsn)
  have HSS := Lk.mk (fun (A' : Option Addr) (c' : Nat) W (hb : Below w.heap.size w W) (hx : kAf.C W A' l.length l) => rsame19_any A' c' l B dc l W hx (Kd.C_below hl hb))
  rw [show decide (l = l) = true from decide_eq_true rfl] at HSS
  clear hr hI hl hv hT hsl h0 hln hvi hs9 hx hsn hn hg1 hg2 h10 hR hRT hwd hen hsz hl30
  generalize t.map entryOf = ent at *
  go_enter Tryd.func5, Tryd.ntmps5
  go_wp2_with (first
    | (go_at_call 12; (with_reducible refine (HN.out).mono ?_); rintro e w1 ⟨p, rfl, htb, hb⟩; obtain ⟨q, rfl⟩ := tblPtr19 htb.or; have HTB := Lk.mk htb; have HX := Lk.mk (blk_below HX.out hb); have HB1 := Lk.mk (below_then H0.out H0.out.size hb); have a10 := blk_cell HX.out 10; simp only [List.getElem?_toArray, List.getElem?_cons_zero, List.getElem?_cons_succ] at a10; clear hb htb)
    | (go_at_call 10; (with_reducible refine (HG.out _ HB1.out).mono ?_); rintro e w' ⟨rfl, hw⟩; obtain rfl := hw.symm; clear hw)
    | (go_at_call 19; (with_reducible refine (HG2.out _ HB1.out).mono ?_); rintro e w' ⟨rfl, hw⟩; obtain rfl := hw.symm; clear hw)
    | (go_at_call 26; (with_reducible refine (HRI.out _ HB1.out).mono ?_); rintro e w2 ⟨rfl, hb⟩; clear a10; have HT2 := Lk.mk (HTB.out.below hb); have HX := Lk.mk (blk_below HX.out hb); have HB2 := Lk.mk (below_then HB1.out HB1.out.size hb); have a0 := blk_cell HX.out 0; have a1 := blk_cell HX.out 1; have a2 := blk_cell HX.out 2; have a3 := blk_cell HX.out 3; have a4 := blk_cell HX.out 4; have a5 := blk_cell HX.out 5; have a6 := blk_cell HX.out 6; have a7 := blk_cell HX.out 7; have a8 := blk_cell HX.out 8; have a9 := blk_cell HX.out 9; have a10 := blk_cell HX.out 10; simp only [List.getElem?_toArray, List.getElem?_cons_zero, List.getElem?_cons_succ] at a0 a1 a2 a3 a4 a5 a6 a7 a8 a9 a10; clear hb)
    | (go_at_call 27; (with_reducible refine (HD.out _ _ HB2.out HT2.out.or).mono ?_); rintro e w3 ⟨hb, A', c', rfl, hC⟩; have HC3 := Lk.mk (Kd.C_below hC (below_alloc (Below.refl _ _) (.cells #[.int .u8 0, .int .u64 0, .int .i64 0, .int .i64 0] 56))); have HB3 := Lk.mk (below_alloc (below_then HB2.out HB2.out.size hb) (.cells #[.int .u8 0, .int .u64 0, .int .i64 0, .int .i64 0] 56)); obtain ⟨b0, b1, b2, b3⟩ := cells4v (blk_new w3 (.cells #[.int .u8 0, .int .u64 0, .int .i64 0, .int .i64 0] 56)); clear hb hC)
    | (go_at_call 28; (with_reducible refine (HSS.out _ _ _ HB3.out HC3.out).mono ?_); rintro e w4 ⟨rfl, hb⟩; have HB4 := Lk.mk (below_then HB3.out HB3.out.size hb); clear hb)
    | (go_at_call 25; (with_reducible refine (HAW.out _ HB4.out).mono ?_); rintro e w5 ⟨rfl, hb⟩; have HB5 := Lk.mk (below_then HB4.out HB4.out.size hb); clear hb))
  go_ret
  exact ⟨rfl, HB5.out⟩
set_option maxRecDepth 100000 in
set_option maxHeartbeats 8000000 in
theorem mr_good0 (A : Option Addr) (c : Nat) (t : List (Int × List Int)) (B : Option Addr) (dc : Nat) (l : List Af) (kd f d s v0 v1 v2 v3 x op : Int) (S : Option Addr) (sl : List Int) (sc : Nat) (w : World) (hr : FnC w A t.length t) (hI : FnsOk t) (hl : kAf.C w B l.length l) (hv : AfIn l) (hT : Tab w) (hsl : ReadsInt w .i64 S sl.length sl) (hln : AfLen l) (hvi : VlIn (v0, v1, v2, v3)) (hs9 : s ≤ 9223372036854775807) (hx : 0 ≤ x ∧ x ≤ 18446744073709551615) (hsn : ∀ j : Nat, sl.getD j 0 ≤ 9223372036854775807) (hn : newOk t = true) (hg1 : greatL t = false) (hg2 : great19L l = false) (h10 : ¬ 10 < sl.length) (hR : RightP (lSize t) (lPtr t) l) (hnn : actN (t.map entryOf) l kd f d s (v0, v1, v2, v3) op sl = 0) :
    Calls Tryd.prog 5 #[.slice A t.length c, .slice B l.length dc, .agg #[.int .i64 kd, .int .i64 f, .int .i64 d, .int .i64 s, .int .u8 v0, .int .u64 v1, .int .i64 v2, .int .i64 v3, .int .u64 x, .int .u8 op, .slice S sl.length sc]] w fun e w' => e = .returned (.bool true) ∧ Below w.heap.size w w' := by
  have hm := hl.2.1
  have hms := hsl.2.1
  have HAW := Lk.mk (fun W (hb : Below w.heap.size w W) => awake19_any W (hT.below hb))
  have HG := Lk.mk (fun W (hb : Below w.heap.size w W) => great_any A c t W (hr.below hb))
  have HG2 := Lk.mk (fun W (hb : Below w.heap.size w W) => great19_any B dc l W (Kd.C_below hl hb))
  have h0 := below_alloc (Below.refl w.heap.size w) (.cells #[.int .i64 kd, .int .i64 f, .int .i64 d, .int .i64 s, .int .u8 v0, .int .u64 v1, .int .i64 v2, .int .i64 v3, .int .u64 x, .int .u8 op, .slice S sl.length sc] 58)
  have H0 := Lk.mk h0
  have HX := Lk.mk (blk_new w (.cells #[.int .i64 kd, .int .i64 f, .int .i64 d, .int .i64 s, .int .u8 v0, .int .u64 v1, .int .i64 v2, .int .i64 v3, .int .u64 x, .int .u8 op, .slice S sl.length sc] 58))
  rw [hg1] at HG
  rw [hg2] at HG2
  have HN := Lk.mk (new_good A c t _ (hr.below h0) hI (hT.below h0) hn)
  have hz : ¬ (10 : Int) < (sl.length : Int) := by omega
  have hwd : ∀ e ∈ t.map entryOf, Bm.Words e.2.1 := fun e he => entry_words he
  have hen := entIn_of hn
  have hsz : tSize (t.map entryOf) f ≤ 1048576 := by rw [tSize_map]; have := (lSize_in hn f).2.1; omega
  have hl30 : l.length < 1048576 := by have := (great19_in hg2).1; omega
  have hRT := rightP_same hn hR
  have hRA := rightP_back hn (act_right (kd := kd) (f := f) (d := d) (s := s) (x := x) (op := op) (v := (v0, v1, v2, v3)) (sl := sl) hRT)
  have hvA := act_in (kd := kd) (f := f) (d := d) (s := s) (op := op) (sl := sl) hRT hv hvi hx
  have hne := @act_ne (t.map entryOf) l kd f d s op (v0, v1, v2, v3) sl
  have HRI := Lk.mk (fun W (hb : Below w.heap.size w W) => (rright_any A c t B dc l W (hr.below hb) (fun f hf => (hI f hf).1) (Kd.C_below hl hb) hv).mono (fun e W' (h : (∃ b : Bool, e = .returned (.bool b) ∧ (b = true ↔ RightP (lSize t) (lPtr t) l)) ∧ Below W.heap.size W W') => (show e = .returned (.bool true) ∧ Below W.heap.size W W' from ⟨by obtain ⟨⟨b, he, hi⟩, _⟩ := h; cases b; exact absurd (hi.2 hR) (by decide); exact he, h.2⟩)))
  have HD := Lk.mk (fun W q (hb : Below w.heap.size w W) (ht : TblOr W (.pointer q) (t.map entryOf)) => does_any q (t.map entryOf) B dc l kd f d s v0 v1 v2 v3 x op S sl sc W ht hen hwd (Kd.C_below hl hb) hln hl30 hv hRT hvi hs9 hsz (hsl.below hb) hsn)
  rw [hnn] at HD hne
  generalize actL (t.map entryOf) l kd f d s (v0, v1, v2, v3) x op sl = L at *
  have HRB := Lk.mk (fun (A' : Option Addr) (c' : Nat) W (hb : Below w.heap.size w W) (hx : kAf.C W A' L.length L) => (rright_any A c t A' c' L W (hr.below hb) (fun f hf => (hI f hf).1) hx hvA).mono (fun e W' (h : (∃ b : Bool, e = .returned (.bool b) ∧ (b = true ↔ RightP (lSize t) (lPtr t) L)) ∧ Below W.heap.size W W') => (show e = .returned (.bool true) ∧ Below W.heap.size W W' from ⟨by obtain ⟨⟨b, he, hi⟩, _⟩ := h; cases b; exact absurd (hi.2 hRA) (by decide); exact he, h.2⟩)))
  clear hr hI hl hv hT hsl h0 hln hvi hs9 hx hsn hn hg1 hg2 h10 hR hRT hwd hen hsz hl30 hRA hvA hnn hne
  generalize actZ (t.map entryOf) l kd d s = Z at *
  generalize t.map entryOf = ent at *
  obtain ⟨Z0, Z1, Z2, Z3⟩ := Z
  go_enter Tryd.func5, Tryd.ntmps5
  go_wp2_with (first
    | (go_at_call 12; (with_reducible refine (HN.out).mono ?_); rintro e w1 ⟨p, rfl, htb, hb⟩; obtain ⟨q, rfl⟩ := tblPtr19 htb.or; have HTB := Lk.mk htb; have HX := Lk.mk (blk_below HX.out hb); have HB1 := Lk.mk (below_then H0.out H0.out.size hb); have a10 := blk_cell HX.out 10; simp only [List.getElem?_toArray, List.getElem?_cons_zero, List.getElem?_cons_succ] at a10; clear hb htb)
    | (go_at_call 10; (with_reducible refine (HG.out _ HB1.out).mono ?_); rintro e w' ⟨rfl, hw⟩; obtain rfl := hw.symm; clear hw)
    | (go_at_call 19; (with_reducible refine (HG2.out _ HB1.out).mono ?_); rintro e w' ⟨rfl, hw⟩; obtain rfl := hw.symm; clear hw)
    | (go_at_call 26; (with_reducible refine (HRI.out _ HB1.out).mono ?_); rintro e w2 ⟨rfl, hb⟩; clear a10; have HT2 := Lk.mk (HTB.out.below hb); have HX := Lk.mk (blk_below HX.out hb); have HB2 := Lk.mk (below_then HB1.out HB1.out.size hb); have a0 := blk_cell HX.out 0; have a1 := blk_cell HX.out 1; have a2 := blk_cell HX.out 2; have a3 := blk_cell HX.out 3; have a4 := blk_cell HX.out 4; have a5 := blk_cell HX.out 5; have a6 := blk_cell HX.out 6; have a7 := blk_cell HX.out 7; have a8 := blk_cell HX.out 8; have a9 := blk_cell HX.out 9; have a10 := blk_cell HX.out 10; simp only [List.getElem?_toArray, List.getElem?_cons_zero, List.getElem?_cons_succ] at a0 a1 a2 a3 a4 a5 a6 a7 a8 a9 a10; clear hb)
    | (go_at_call 27; (with_reducible refine (HD.out _ _ HB2.out HT2.out.or).mono ?_); rintro e w3 ⟨hb, A', c', rfl, hC⟩; have HC3 := Lk.mk (Kd.C_below hC (below_alloc (Below.refl _ _) (.cells #[.int .u8 Z0, .int .u64 Z1, .int .i64 Z2, .int .i64 Z3] 56))); have HB3 := Lk.mk (below_alloc (below_then HB2.out HB2.out.size hb) (.cells #[.int .u8 Z0, .int .u64 Z1, .int .i64 Z2, .int .i64 Z3] 56)); obtain ⟨b0, b1, b2, b3⟩ := cells4v (blk_new w3 (.cells #[.int .u8 Z0, .int .u64 Z1, .int .i64 Z2, .int .i64 Z3] 56)); clear hb hC)
    | (go_at_call 26; (with_reducible refine (HRB.out _ _ _ HB3.out HC3.out).mono ?_); rintro e w4 ⟨rfl, hb⟩; have HC4 := Lk.mk (Kd.C_below HC3.out hb); have HB4 := Lk.mk (below_then HB3.out HB3.out.size hb); clear hb)
    | (go_at_call 25; (with_reducible refine (HAW.out _ HB4.out).mono ?_); rintro e w5 ⟨rfl, hb⟩; have HB5 := Lk.mk (below_then HB4.out HB4.out.size hb); clear hb))
  go_ret
  exact ⟨rfl, HB5.out⟩
set_option maxRecDepth 100000 in
set_option maxHeartbeats 8000000 in
theorem mr_goodn (A : Option Addr) (c : Nat) (t : List (Int × List Int)) (B : Option Addr) (dc : Nat) (l : List Af) (kd f d s v0 v1 v2 v3 x op : Int) (S : Option Addr) (sl : List Int) (sc : Nat) (w : World) (hr : FnC w A t.length t) (hI : FnsOk t) (hl : kAf.C w B l.length l) (hv : AfIn l) (hT : Tab w) (hsl : ReadsInt w .i64 S sl.length sl) (hln : AfLen l) (hvi : VlIn (v0, v1, v2, v3)) (hs9 : s ≤ 9223372036854775807) (hx : 0 ≤ x ∧ x ≤ 18446744073709551615) (hsn : ∀ j : Nat, sl.getD j 0 ≤ 9223372036854775807) (hn : newOk t = true) (hg1 : greatL t = false) (hg2 : great19L l = false) (h10 : ¬ 10 < sl.length) (hR : RightP (lSize t) (lPtr t) l) (hnn : ¬ actN (t.map entryOf) l kd f d s (v0, v1, v2, v3) op sl = 0) :
    Calls Tryd.prog 5 #[.slice A t.length c, .slice B l.length dc, .agg #[.int .i64 kd, .int .i64 f, .int .i64 d, .int .i64 s, .int .u8 v0, .int .u64 v1, .int .i64 v2, .int .i64 v3, .int .u64 x, .int .u8 op, .slice S sl.length sc]] w fun e w' => e = .returned (.bool true) ∧ Below w.heap.size w w' := by
  have hm := hl.2.1
  have hms := hsl.2.1
  have HAW := Lk.mk (fun W (hb : Below w.heap.size w W) => awake19_any W (hT.below hb))
  have HG := Lk.mk (fun W (hb : Below w.heap.size w W) => great_any A c t W (hr.below hb))
  have HG2 := Lk.mk (fun W (hb : Below w.heap.size w W) => great19_any B dc l W (Kd.C_below hl hb))
  have h0 := below_alloc (Below.refl w.heap.size w) (.cells #[.int .i64 kd, .int .i64 f, .int .i64 d, .int .i64 s, .int .u8 v0, .int .u64 v1, .int .i64 v2, .int .i64 v3, .int .u64 x, .int .u8 op, .slice S sl.length sc] 58)
  have H0 := Lk.mk h0
  have HX := Lk.mk (blk_new w (.cells #[.int .i64 kd, .int .i64 f, .int .i64 d, .int .i64 s, .int .u8 v0, .int .u64 v1, .int .i64 v2, .int .i64 v3, .int .u64 x, .int .u8 op, .slice S sl.length sc] 58))
  rw [hg1] at HG
  rw [hg2] at HG2
  have HN := Lk.mk (new_good A c t _ (hr.below h0) hI (hT.below h0) hn)
  have hz : ¬ (10 : Int) < (sl.length : Int) := by omega
  have hwd : ∀ e ∈ t.map entryOf, Bm.Words e.2.1 := fun e he => entry_words he
  have hen := entIn_of hn
  have hsz : tSize (t.map entryOf) f ≤ 1048576 := by rw [tSize_map]; have := (lSize_in hn f).2.1; omega
  have hl30 : l.length < 1048576 := by have := (great19_in hg2).1; omega
  have hRT := rightP_same hn hR
  have hRA := rightP_back hn (act_right (kd := kd) (f := f) (d := d) (s := s) (x := x) (op := op) (v := (v0, v1, v2, v3)) (sl := sl) hRT)
  have hvA := act_in (kd := kd) (f := f) (d := d) (s := s) (op := op) (sl := sl) hRT hv hvi hx
  have hne := @act_ne (t.map entryOf) l kd f d s op (v0, v1, v2, v3) sl
  have HRI := Lk.mk (fun W (hb : Below w.heap.size w W) => (rright_any A c t B dc l W (hr.below hb) (fun f hf => (hI f hf).1) (Kd.C_below hl hb) hv).mono (fun e W' (h : (∃ b : Bool, e = .returned (.bool b) ∧ (b = true ↔ RightP (lSize t) (lPtr t) l)) ∧ Below W.heap.size W W') => (show e = .returned (.bool true) ∧ Below W.heap.size W W' from ⟨by obtain ⟨⟨b, he, hi⟩, _⟩ := h; cases b; exact absurd (hi.2 hR) (by decide); exact he, h.2⟩)))
  have HD := Lk.mk (fun W q (hb : Below w.heap.size w W) (ht : TblOr W (.pointer q) (t.map entryOf)) => does_any q (t.map entryOf) B dc l kd f d s v0 v1 v2 v3 x op S sl sc W ht hen hwd (Kd.C_below hl hb) hln hl30 hv hRT hvi hs9 hsz (hsl.below hb) hsn)
  have hsm := act_same (x := x) hnn
  rw [hsm] at HD hRA hvA
  have HSS := Lk.mk (fun (A' : Option Addr) (c' : Nat) W (hb : Below w.heap.size w W) (hx : kAf.C W A' l.length l) => rsame19_any A' c' l B dc l W hx (Kd.C_below hl hb))
  rw [show decide (l = l) = true from decide_eq_true rfl] at HSS
  generalize actN (t.map entryOf) l kd f d s (v0, v1, v2, v3) op sl = N at *
  have hN9 : (N != 9) = true := bne_iff_ne.2 hne
  have hN0 : (N == 0) = false := beq_false_of_ne hnn
  have HRB := Lk.mk (fun (A' : Option Addr) (c' : Nat) W (hb : Below w.heap.size w W) (hx : kAf.C W A' l.length l) => (rright_any A c t A' c' l W (hr.below hb) (fun f hf => (hI f hf).1) hx hvA).mono (fun e W' (h : (∃ b : Bool, e = .returned (.bool b) ∧ (b = true ↔ RightP (lSize t) (lPtr t) l)) ∧ Below W.heap.size W W') => (show e = .returned (.bool true) ∧ Below W.heap.size W W' from ⟨by obtain ⟨⟨b, he, hi⟩, _⟩ := h; cases b; exact absurd (hi.2 hRA) (by decide); exact he, h.2⟩)))
  clear hr hI hl hv hT hsl h0 hln hvi hs9 hx hsn hn hg1 hg2 h10 hR hRT hwd hen hsz hl30 hRA hvA hnn hne hsm
  generalize actZ (t.map entryOf) l kd d s = Z at *
  generalize t.map entryOf = ent at *
  obtain ⟨Z0, Z1, Z2, Z3⟩ := Z
  go_enter Tryd.func5, Tryd.ntmps5
  go_wp2_with (first
    | (go_at_call 12; (with_reducible refine (HN.out).mono ?_); rintro e w1 ⟨p, rfl, htb, hb⟩; obtain ⟨q, rfl⟩ := tblPtr19 htb.or; have HTB := Lk.mk htb; have HX := Lk.mk (blk_below HX.out hb); have HB1 := Lk.mk (below_then H0.out H0.out.size hb); have a10 := blk_cell HX.out 10; simp only [List.getElem?_toArray, List.getElem?_cons_zero, List.getElem?_cons_succ] at a10; clear hb htb)
    | (go_at_call 10; (with_reducible refine (HG.out _ HB1.out).mono ?_); rintro e w' ⟨rfl, hw⟩; obtain rfl := hw.symm; clear hw)
    | (go_at_call 19; (with_reducible refine (HG2.out _ HB1.out).mono ?_); rintro e w' ⟨rfl, hw⟩; obtain rfl := hw.symm; clear hw)
    | (go_at_call 26; (with_reducible refine (HRI.out _ HB1.out).mono ?_); rintro e w2 ⟨rfl, hb⟩; clear a10; have HT2 := Lk.mk (HTB.out.below hb); have HX := Lk.mk (blk_below HX.out hb); have HB2 := Lk.mk (below_then HB1.out HB1.out.size hb); have a0 := blk_cell HX.out 0; have a1 := blk_cell HX.out 1; have a2 := blk_cell HX.out 2; have a3 := blk_cell HX.out 3; have a4 := blk_cell HX.out 4; have a5 := blk_cell HX.out 5; have a6 := blk_cell HX.out 6; have a7 := blk_cell HX.out 7; have a8 := blk_cell HX.out 8; have a9 := blk_cell HX.out 9; have a10 := blk_cell HX.out 10; simp only [List.getElem?_toArray, List.getElem?_cons_zero, List.getElem?_cons_succ] at a0 a1 a2 a3 a4 a5 a6 a7 a8 a9 a10; clear hb)
    | (go_at_call 27; (with_reducible refine (HD.out _ _ HB2.out HT2.out.or).mono ?_); rintro e w3 ⟨hb, A', c', rfl, hC⟩; have HC3 := Lk.mk (Kd.C_below hC (below_alloc (Below.refl _ _) (.cells #[.int .u8 Z0, .int .u64 Z1, .int .i64 Z2, .int .i64 Z3] 56))); have HB3 := Lk.mk (below_alloc (below_then HB2.out HB2.out.size hb) (.cells #[.int .u8 Z0, .int .u64 Z1, .int .i64 Z2, .int .i64 Z3] 56)); obtain ⟨b0, b1, b2, b3⟩ := cells4v (blk_new w3 (.cells #[.int .u8 Z0, .int .u64 Z1, .int .i64 Z2, .int .i64 Z3] 56)); clear hb hC)
    | (go_at_call 26; (with_reducible refine (HRB.out _ _ _ HB3.out HC3.out).mono ?_); rintro e w4 ⟨rfl, hb⟩; have HC4 := Lk.mk (Kd.C_below HC3.out hb); have HB4 := Lk.mk (below_then HB3.out HB3.out.size hb); clear hb)
    | (go_at_call 28; (with_reducible refine (HSS.out _ _ _ HB4.out HC4.out).mono ?_); rintro e w5 ⟨rfl, hb⟩; have HB5 := Lk.mk (below_then HB4.out HB4.out.size hb); clear hb)
    | (go_at_call 25; (with_reducible refine (HAW.out _ HB5.out).mono ?_); rintro e w6 ⟨rfl, hb⟩; have HB6 := Lk.mk (below_then HB5.out HB5.out.size hb); clear hb))
  go_ret
  exact ⟨rfl, HB6.out⟩
theorem lawOfModelRight (A : Option Addr) (c : Nat) (t : List (Int × List Int)) (B : Option Addr) (dc : Nat) (l : List Af) (a : Ax) (w : World) (hr : FnC w A t.length t) (hI : FnsIn t) (_ : t.length ≤ 1048576) (hb : ∀ f ∈ t, f.2.length ≤ 1048576) (hl : kAf.C w B l.length l) (hv : AfIn l) (b1 : l.length ≤ 1048576) (b2 : ∀ f ∈ l, f.2.length ≤ 1048576) (ha : AxIn w a) (hT : Tab w) :
    Calls Tryd.prog 5 #[.slice A t.length c, .slice B l.length dc, .agg #[.int .i64 a.kd, .int .i64 a.f, .int .i64 a.d, .int .i64 a.s, .int .u8 a.v.1, .int .u64 a.v.2.1, .int .i64 a.v.2.2.1, .int .i64 a.v.2.2.2, .int .u64 a.x, .int .u8 a.op, .slice a.S a.sl.length a.sc]] w fun e w' => e = .returned (.bool true) ∧ Below w.heap.size w w' := by
  have hI' : FnsOk t := fnsOk_of hI hb (Nat.le_refl _)
  obtain ⟨kd, f, d, s, ⟨v0, v1, v2, v3⟩, x, op, S, sc, sl⟩ := a
  obtain ⟨hsl, hsi, hs, hvi, hx⟩ := ha
  dsimp only at *
  have hsn : ∀ j : Nat, sl.getD j 0 ≤ 9223372036854775807 := fun j => by
    by_cases hj : j < sl.length
    · exact (hsi _ (getD_mem19 hj)).2
    · rw [List.getD_eq_getElem?_getD, List.getElem?_eq_none (by omega)]; decide
  by_cases h1 : newOk t = true
  · by_cases h2 : greatL t = true
    · exact mr_early A c t B dc l kd f d s v0 v1 v2 v3 x op S sl sc w hr hI' hl hv hT hsl (.inr (.inl h2))
    · by_cases h3 : great19L l = true
      · exact mr_early A c t B dc l kd f d s v0 v1 v2 v3 x op S sl sc w hr hI' hl hv hT hsl (.inr (.inr (.inl h3)))
      · by_cases h4 : 10 < sl.length
        · exact mr_early A c t B dc l kd f d s v0 v1 v2 v3 x op S sl sc w hr hI' hl hv hT hsl (.inr (.inr (.inr h4)))
        · by_cases h5 : RightP (lSize t) (lPtr t) l
          · by_cases h6 : actN (t.map entryOf) l kd f d s (v0, v1, v2, v3) op sl = 0
            · exact mr_good0 A c t B dc l kd f d s v0 v1 v2 v3 x op S sl sc w hr hI' hl hv hT hsl ⟨b1, b2⟩ hvi hs.2 hx hsn h1 (by simpa using h2) (by simpa using h3) h4 h5 h6
            · exact mr_goodn A c t B dc l kd f d s v0 v1 v2 v3 x op S sl sc w hr hI' hl hv hT hsl ⟨b1, b2⟩ hvi hs.2 hx hsn h1 (by simpa using h2) (by simpa using h3) h4 h5 h6
          · exact mr_bad A c t B dc l kd f d s v0 v1 v2 v3 x op S sl sc w hr hI' hl hv hT hsl ⟨b1, b2⟩ hvi hs.2 hx hsn h1 (by simpa using h2) (by simpa using h3) h4 h5
  · exact mr_early A c t B dc l kd f d s v0 v1 v2 v3 x op S sl sc w hr hI' hl hv hT hsl (.inl (by simpa using h1))
end Go.Proofs.YtcepafllgjnngaaDoor
