/-
  The law ModelBack; conditions: the table of deBruijn stands; the arguments read as told.
-/
import Derived.Test.YtbikdngpannekaaDoorPx
import Derived.Test.YtbikdngpannekaaDoorPk
import Derived.Test.YtbikdngpannekaaDoorPn
import Derived.Test.YtbikdngpannekaaDoorPp
import Derived.Test.YtbikdngpannekaaDoorEc
namespace Go.Proofs.YtbikdngpannekaaDoor
open Go.RowKit Go.Proofs.YtbikdngpannekaaDoorW.PrintWords

set_option maxRecDepth 100000 in
set_option maxHeartbeats 2000000 in
theorem back_bad (A : Option Addr) (c : Nat) (t : List (Int × List Int)) (B : Option Addr) (d : Nat) (l : List Af) (f s v0 v1 v2 v3 : Int) (w : World) (hr : FnC w A t.length t) (hI : FnsOk t) (hl : kAf.C w B l.length l) (hv : AfIn l) (hT : Tab w) (h : newOk t = false ∨ greatL t = true ∨ great19L l = true ∨ 29 < l.length ∨ ¬ RightP (lSize t) (lPtr t) l) :
    Calls Tryd.prog 8 #[.slice A t.length c, .slice B l.length d, .int .i64 f, .int .i64 s, .agg #[.int .u8 v0, .int .u64 v1, .int .i64 v2, .int .i64 v3]] w fun e w' => e = .returned (.bool true) ∧ Below w.heap.size w w' := by
  have hm := hl.2.1
  have HAW := Lk.mk (fun W (hb : Below w.heap.size w W) => awake19_any W (hT.below hb))
  have HG := Lk.mk (fun W (hb : Below w.heap.size w W) => great_any A c t W (hr.below hb))
  have HG2 := Lk.mk (fun W (hb : Below w.heap.size w W) => great19_any B d l W (Kd.C_below hl hb))
  have h0 := below_alloc (Below.refl w.heap.size w) (.cells #[.int .u8 v0, .int .u64 v1, .int .i64 v2, .int .i64 v3] 27)
  have H0 := Lk.mk h0
  have HNW := Lk.mk (fun (hn : newOk t = false) => new_bad A c t _ (hr.below h0) hI (hT.below h0) hn)
  have HNG := Lk.mk (fun (hn : newOk t = true) => new_good A c t _ (hr.below h0) hI (hT.below h0) hn)
  have HRI := Lk.mk (fun W (hn : ¬ RightP (lSize t) (lPtr t) l) (hb : Below w.heap.size w W) => (rright_any A c t B d l W (hr.below hb) (fun f hf => (hI f hf).1) (Kd.C_below hl hb) hv).mono (fun e W' (h : (∃ b : Bool, e = .returned (.bool b) ∧ (b = true ↔ RightP (lSize t) (lPtr t) l)) ∧ Below W.heap.size W W') => (show e = .returned (.bool false) ∧ Below W.heap.size W W' from ⟨by obtain ⟨⟨b, he, hi⟩, _⟩ := h; cases b; exact he; exact absurd (hi.1 rfl) hn, h.2⟩)))
  have HH := Lk.mk h
  clear hr hI hl hv hT h h0
  generalize hg1 : greatL t = g1 at *
  generalize hg2 : great19L l = g2 at *
  cases hn : newOk t with
  | false =>
    have HN := Lk.mk (HNW.out hn)
    clear hn hg1 hg2
    by_cases h29 : 29 < l.length
    · have hz : (29 : Int) < (l.length : Int) := by omega
      clear h29
      cases g1 <;> cases g2
      all_goals
        go_enter Tryd.func8, Tryd.ntmps8
        go_wp2_with (first
          | (go_at_call 18; (with_reducible refine (HN.out).mono ?_); rintro e w1 ⟨rfl, hb⟩; have HB := Lk.mk (below_then H0.out H0.out.size hb); clear hb)
          | (go_at_call 24; (with_reducible refine (HG.out _ HB.out).mono ?_); rintro e w' ⟨rfl, hw⟩; obtain rfl := hw.symm; clear hw)
          | (go_at_call 37; (with_reducible refine (HG2.out _ HB.out).mono ?_); rintro e w' ⟨rfl, hw⟩; obtain rfl := hw.symm; clear hw)
          | (go_at_call 39; (with_reducible refine (HAW.out _ HB.out).mono ?_); rintro e w' ⟨rfl, hb⟩; have HB := Lk.mk (below_then HB.out HB.out.size hb); clear hb))
        go_ret
        exact ⟨rfl, HB.out⟩
    · have hz : ¬ (29 : Int) < (l.length : Int) := by omega
      clear h29
      cases g1 <;> cases g2
      all_goals
        go_enter Tryd.func8, Tryd.ntmps8
        go_wp2_with (first
          | (go_at_call 18; (with_reducible refine (HN.out).mono ?_); rintro e w1 ⟨rfl, hb⟩; have HB := Lk.mk (below_then H0.out H0.out.size hb); clear hb)
          | (go_at_call 24; (with_reducible refine (HG.out _ HB.out).mono ?_); rintro e w' ⟨rfl, hw⟩; obtain rfl := hw.symm; clear hw)
          | (go_at_call 37; (with_reducible refine (HG2.out _ HB.out).mono ?_); rintro e w' ⟨rfl, hw⟩; obtain rfl := hw.symm; clear hw)
          | (go_at_call 39; (with_reducible refine (HAW.out _ HB.out).mono ?_); rintro e w' ⟨rfl, hb⟩; have HB := Lk.mk (below_then HB.out HB.out.size hb); clear hb))
        go_ret
        exact ⟨rfl, HB.out⟩
  | true =>
    have HN := Lk.mk (HNG.out hn)
    rw [hn] at HH
    clear hn hg1 hg2
    by_cases h29 : 29 < l.length
    · have hz : (29 : Int) < (l.length : Int) := by omega
      clear h29
      cases g1 <;> cases g2
      all_goals
        go_enter Tryd.func8, Tryd.ntmps8
        go_wp2_with (first
          | (go_at_call 18; (with_reducible refine (HN.out).mono ?_); rintro e w1 ⟨p, rfl, htb, hb⟩; have HB := Lk.mk (below_then H0.out H0.out.size hb); clear hb htb)
          | (go_at_call 24; (with_reducible refine (HG.out _ HB.out).mono ?_); rintro e w' ⟨rfl, hw⟩; obtain rfl := hw.symm; clear hw)
          | (go_at_call 37; (with_reducible refine (HG2.out _ HB.out).mono ?_); rintro e w' ⟨rfl, hw⟩; obtain rfl := hw.symm; clear hw)
          | (go_at_call 39; (with_reducible refine (HAW.out _ HB.out).mono ?_); rintro e w' ⟨rfl, hb⟩; have HB := Lk.mk (below_then HB.out HB.out.size hb); clear hb))
        go_ret
        exact ⟨rfl, HB.out⟩
    · have hz : ¬ (29 : Int) < (l.length : Int) := by omega
      cases g1 <;> cases g2
      case false.false =>
        have HR := Lk.mk (fun W (hb : Below w.heap.size w W) => HRI.out W (by rcases HH.out with h | h | h | h | h; exact absurd h (by decide); exact absurd h (by decide); exact absurd h (by decide); exact absurd h h29; exact h) hb)
        clear h29
        go_enter Tryd.func8, Tryd.ntmps8
        go_wp2_with (first
          | (go_at_call 18; (with_reducible refine (HN.out).mono ?_); rintro e w1 ⟨p, rfl, htb, hb⟩; have HB := Lk.mk (below_then H0.out H0.out.size hb); clear hb htb)
          | (go_at_call 24; (with_reducible refine (HG.out _ HB.out).mono ?_); rintro e w' ⟨rfl, hw⟩; obtain rfl := hw.symm; clear hw)
          | (go_at_call 37; (with_reducible refine (HG2.out _ HB.out).mono ?_); rintro e w' ⟨rfl, hw⟩; obtain rfl := hw.symm; clear hw)
          | (go_at_call 38; (with_reducible refine (HR.out _ HB.out).mono ?_); rintro e w' ⟨rfl, hb⟩; have HB := Lk.mk (below_then HB.out HB.out.size hb); clear hb)
          | (go_at_call 39; (with_reducible refine (HAW.out _ HB.out).mono ?_); rintro e w' ⟨rfl, hb⟩; have HB := Lk.mk (below_then HB.out HB.out.size hb); clear hb))
        go_ret
        exact ⟨rfl, HB.out⟩
      all_goals
        clear h29
        go_enter Tryd.func8, Tryd.ntmps8
        go_wp2_with (first
          | (go_at_call 18; (with_reducible refine (HN.out).mono ?_); rintro e w1 ⟨p, rfl, htb, hb⟩; have HB := Lk.mk (below_then H0.out H0.out.size hb); clear hb htb)
          | (go_at_call 24; (with_reducible refine (HG.out _ HB.out).mono ?_); rintro e w' ⟨rfl, hw⟩; obtain rfl := hw.symm; clear hw)
          | (go_at_call 37; (with_reducible refine (HG2.out _ HB.out).mono ?_); rintro e w' ⟨rfl, hw⟩; obtain rfl := hw.symm; clear hw)
          | (go_at_call 39; (with_reducible refine (HAW.out _ HB.out).mono ?_); rintro e w' ⟨rfl, hb⟩; have HB := Lk.mk (below_then HB.out HB.out.size hb); clear hb))
        go_ret
        exact ⟨rfl, HB.out⟩
theorem rightP_same {t : List (Int × List Int)} (hn : newOk t = true) {l : List Af} (h : RightP (lSize t) (lPtr t) l) : RightP (tSize (t.map entryOf)) (tPtr (t.map entryOf)) l := by
  have h1 : tSize (t.map entryOf) = lSize t := funext (tSize_map t)
  have h2 : tPtr (t.map entryOf) = lPtr t := funext fun f => funext (tPtr_map hn f)
  rw [h1, h2]; exact h
set_option maxRecDepth 100000 in
set_option maxHeartbeats 2000000 in
theorem back_good (A : Option Addr) (c : Nat) (t : List (Int × List Int)) (B : Option Addr) (d : Nat) (l : List Af) (f s v0 v1 v2 v3 : Int) (w : World) (hr : FnC w A t.length t) (hI : FnsOk t) (hl : kAf.C w B l.length l) (hv : AfIn l) (hln : AfLen l) (hvi : VlIn (v0, v1, v2, v3)) (hT : Tab w) (hn : newOk t = true) (hg1 : greatL t = false) (hg2 : great19L l = false) (h29 : ¬ 29 < l.length) (hR : RightP (lSize t) (lPtr t) l) :
    Calls Tryd.prog 8 #[.slice A t.length c, .slice B l.length d, .int .i64 f, .int .i64 s, .agg #[.int .u8 v0, .int .u64 v1, .int .i64 v2, .int .i64 v3]] w fun e w' => e = .returned (.bool true) ∧ Below w.heap.size w w' := by
  have hm := hl.2.1
  have HAW := Lk.mk (fun W (hb : Below w.heap.size w W) => awake19_any W (hT.below hb))
  have HG := Lk.mk (fun W (hb : Below w.heap.size w W) => great_any A c t W (hr.below hb))
  have HG2 := Lk.mk (fun W (hb : Below w.heap.size w W) => great19_any B d l W (Kd.C_below hl hb))
  rw [hg1] at HG
  rw [hg2] at HG2
  have hb0 := below_alloc (Below.refl w.heap.size w) (.cells #[.int .u8 v0, .int .u64 v1, .int .i64 v2, .int .i64 v3] 27)
  have H0 := Lk.mk hb0
  have HX := Lk.mk (blk_new w (.cells #[.int .u8 v0, .int .u64 v1, .int .i64 v2, .int .i64 v3] 27))
  have HN := Lk.mk (new_good A c t _ (hr.below hb0) hI (hT.below hb0) hn)
  have HRI := Lk.mk (fun W (hb : Below w.heap.size w W) => (rright_any A c t B d l W (hr.below hb) (fun f hf => (hI f hf).1) (Kd.C_below hl hb) hv).mono (fun e W' (h : (∃ b : Bool, e = .returned (.bool b) ∧ (b = true ↔ RightP (lSize t) (lPtr t) l)) ∧ Below W.heap.size W W') => (show e = .returned (.bool true) ∧ Below W.heap.size W W' from ⟨by obtain ⟨⟨b, he, hi⟩, _⟩ := h; cases b; exact absurd (hi.2 hR) (by decide); exact he, h.2⟩)))
  have hz : ¬ (29 : Int) < (l.length : Int) := by omega
  have hwd : ∀ e ∈ t.map entryOf, Bm.Words e.2.1 := fun e he => entry_words he
  have hRT := rightP_same hn hR
  have hsz : tSize (t.map entryOf) f ≤ 1048576 := by rw [tSize_map]; have := (lSize_in hn f).2.1; omega
  have hC := fun (g : Nat) (W : World) (hb : Below w.heap.size w W) (ht : TblOr W (.pointer (some ⟨g, 0, none⟩)) (t.map entryOf)) => mcall_any (some ⟨g, 0, none⟩) (t.map entryOf) f B d l W ht hwd (Kd.C_below hl hb) hln (by omega) hv hRT hsz
  have HSS := Lk.mk (fun (A' : Option Addr) (c' : Nat) W (hb : Below w.heap.size w W) (hx : kAf.C W A' l.length l) => rsame19_any A' c' l B d l W hx (Kd.C_below hl hb))
  rw [show decide (l = l) = true from decide_eq_true rfl] at HSS
  by_cases h0 : 0 ≤ tSize (t.map entryOf) f
  · simp only [if_pos h0] at hC
    have HC := Lk.mk hC
    have HX1 := Lk.mk (aflen_call (x := (f, newsL (t.map entryOf) f)) hln (by omega) (by show (newsL _ f).length ≤ _; rw [news_len]; omega))
    have HX2 := Lk.mk (afin_call hv (t.map entryOf) f)
    have HX3 := Lk.mk (right_call hRT h0)
    have HX4 := Lk.mk (show (l ++ [((f, newsL (t.map entryOf) f) : Af)]).length = l.length + 1 by rw [List.length_append]; rfl)
    have HBK := Lk.mk (fun ptr => @back_take ptr l (f, newsL (t.map entryOf) f) s (v0, v1, v2, v3))
    generalize l ++ [((f, newsL (t.map entryOf) f) : Af)] = X at *
    have HS := Lk.mk (fun (g : Nat) (A' : Option Addr) (c' : Nat) (W : World) (ht : TblOr W (.pointer (some ⟨g, 0, none⟩)) (t.map entryOf)) (hx : kAf.C W A' X.length X) => mset_any (some ⟨g, 0, none⟩) (t.map entryOf) A' c' X l.length s v0 v1 v2 v3 W ht hwd hx HX1.out HX2.out HX3.out hvi)
    have HY1 := Lk.mk (aflen_set (ptr := tPtr (t.map entryOf)) (d := l.length) (s := s) (v := (v0, v1, v2, v3)) HX1.out)
    have HY2 := Lk.mk (afin_set (ptr := tPtr (t.map entryOf)) (d := l.length) (s := s) (v := (v0, v1, v2, v3)) HX2.out hvi)
    have HY3 := Lk.mk (right_set (d := l.length) (s := s) (v := (v0, v1, v2, v3)) HX3.out)
    have HY4 := Lk.mk ((setR_len (tPtr (t.map entryOf)) X l.length s (v0, v1, v2, v3)).trans HX4.out)
    have HY5 := Lk.mk (HBK.out (tPtr (t.map entryOf)))
    generalize setN (tPtr (t.map entryOf)) X l.length s (v0, v1, v2, v3) = nS at *
    generalize setR (tPtr (t.map entryOf)) X l.length s (v0, v1, v2, v3) = Y at *
    have hret := fun (g : Nat) (A' : Option Addr) (c' : Nat) (W : World) (ht : TblOr W (.pointer (some ⟨g, 0, none⟩)) (t.map entryOf)) (hx : kAf.C W A' Y.length Y) => mreturn_any (some ⟨g, 0, none⟩) (t.map entryOf) A' c' Y W ht hwd hx HY1.out (by have := HY4.out; omega) HY2.out HY3.out
    have hyl : Y.length - 1 = l.length := by have := HY4.out; omega
    rw [hyl, HY5.out] at hret
    clear hC hr hI hl hv hln hvi hT hR hRT hn hg1 hg2 hsz hyl h0 hb0
    by_cases hl0 : l.length = 0
    · have hy1 : ¬ 1 < Y.length := by have := HY4.out; omega
      simp only [if_neg hy1] at hret
      have HRE := Lk.mk hret
      have hz0 : (l.length : Int) = 0 := by omega
      rw [hz0] at HS
      clear hret hy1 hl0 h29
      go_enter Tryd.func8, Tryd.ntmps8
      go_wp2_with (first
        | (go_at_call 18; (with_reducible refine (HN.out).mono ?_); rintro e w1 ⟨p, rfl, htb, hb⟩; obtain ⟨g, hg⟩ : ∃ g, p = .pointer (some ⟨g, 0, none⟩) := (by obtain ⟨g, _, _, h, _⟩ := htb; exact ⟨g, h⟩); obtain rfl := hg.symm; clear hg; have HTB := Lk.mk htb.or; have HX := Lk.mk (blk_below HX.out hb); have HB := Lk.mk (below_then H0.out H0.out.size hb); clear hb htb)
        | (go_at_call 24; (with_reducible refine (HG.out _ HB.out).mono ?_); rintro e w' ⟨rfl, hw⟩; obtain rfl := hw.symm; clear hw)
        | (go_at_call 37; (with_reducible refine (HG2.out _ HB.out).mono ?_); rintro e w' ⟨rfl, hw⟩; obtain rfl := hw.symm; clear hw)
        | (go_at_call 38; (with_reducible refine (HRI.out _ HB.out).mono ?_); rintro e w2 ⟨rfl, hb⟩; have HX := Lk.mk (blk_below HX.out hb); have HTB := Lk.mk (HTB.out.below hb); have HB := Lk.mk (below_then HB.out HB.out.size hb); clear hb)
        | (go_at_call 40; (with_reducible refine (HC.out _ _ HB.out HTB.out).mono ?_); rintro e w3 ⟨hb, v3', hR3, rfl⟩; obtain ⟨A3, c3, rfl, _, hC3⟩ := Kd.R_reads hR3; have HC3 := Lk.mk hC3; have HTB := Lk.mk (HTB.out.below hb); obtain ⟨c0, c1, c2, c3'⟩ := cells4v (blk_below HX.out hb); have HB := Lk.mk (below_then HB.out HB.out.size hb); clear hb hR3 hC3)
        | (go_at_call 42; (with_reducible refine (HS.out _ _ _ _ HTB.out HC3.out).mono ?_); rintro e w4 ⟨hb, v4, hR4, rfl⟩; obtain ⟨A4, c4, rfl, _, hC4⟩ := Kd.R_reads hR4; have HC4 := Lk.mk hC4; have HTB := Lk.mk (HTB.out.below hb); have HB := Lk.mk (below_then HB.out HB.out.size hb); clear hb hR4 hC4)
        | (go_at_call 43; (with_reducible refine (HRE.out _ _ _ _ HTB.out HC4.out).mono ?_); rintro e w5 ⟨hb, v5, hR5, rfl⟩; have HB := Lk.mk (below_then HB.out HB.out.size hb); clear hb hR5)
        | (go_at_call 39; (with_reducible refine (HAW.out _ HB.out).mono ?_); rintro e w' ⟨rfl, hb⟩; have HB := Lk.mk (below_then HB.out HB.out.size hb); clear hb))
      go_ret
      exact ⟨rfl, HB.out⟩
    · have hy1 : 1 < Y.length := by have := HY4.out; omega
      simp only [if_pos hy1] at hret
      have HRE := Lk.mk hret
      have hz0 : ((l.length : Int) == 0) = false := beq_false_of_ne (by omega)
      clear hret hy1 hl0 h29
      go_enter Tryd.func8, Tryd.ntmps8
      go_wp2_with (first
        | (go_at_call 18; (with_reducible refine (HN.out).mono ?_); rintro e w1 ⟨p, rfl, htb, hb⟩; obtain ⟨g, hg⟩ : ∃ g, p = .pointer (some ⟨g, 0, none⟩) := (by obtain ⟨g, _, _, h, _⟩ := htb; exact ⟨g, h⟩); obtain rfl := hg.symm; clear hg; have HTB := Lk.mk htb.or; have HX := Lk.mk (blk_below HX.out hb); have HB := Lk.mk (below_then H0.out H0.out.size hb); clear hb htb)
        | (go_at_call 24; (with_reducible refine (HG.out _ HB.out).mono ?_); rintro e w' ⟨rfl, hw⟩; obtain rfl := hw.symm; clear hw)
        | (go_at_call 37; (with_reducible refine (HG2.out _ HB.out).mono ?_); rintro e w' ⟨rfl, hw⟩; obtain rfl := hw.symm; clear hw)
        | (go_at_call 38; (with_reducible refine (HRI.out _ HB.out).mono ?_); rintro e w2 ⟨rfl, hb⟩; have HX := Lk.mk (blk_below HX.out hb); have HTB := Lk.mk (HTB.out.below hb); have HB := Lk.mk (below_then HB.out HB.out.size hb); clear hb)
        | (go_at_call 40; (with_reducible refine (HC.out _ _ HB.out HTB.out).mono ?_); rintro e w3 ⟨hb, v3', hR3, rfl⟩; obtain ⟨A3, c3, rfl, _, hC3⟩ := Kd.R_reads hR3; have HC3 := Lk.mk hC3; have HTB := Lk.mk (HTB.out.below hb); obtain ⟨c0, c1, c2, c3'⟩ := cells4v (blk_below HX.out hb); have HB := Lk.mk (below_then HB.out HB.out.size hb); clear hb hR3 hC3)
        | (go_at_call 42; (with_reducible refine (HS.out _ _ _ _ HTB.out HC3.out).mono ?_); rintro e w4 ⟨hb, v4, hR4, rfl⟩; obtain ⟨A4, c4, rfl, _, hC4⟩ := Kd.R_reads hR4; have HC4 := Lk.mk hC4; have HTB := Lk.mk (HTB.out.below hb); have HB := Lk.mk (below_then HB.out HB.out.size hb); clear hb hR4 hC4)
        | (go_at_call 43; (with_reducible refine (HRE.out _ _ _ _ HTB.out HC4.out).mono ?_); rintro e w5 ⟨hb, v5, hR5, rfl⟩; obtain ⟨A5, c5, rfl, _, hC5⟩ := Kd.R_reads hR5; have HC5 := Lk.mk hC5; have HB := Lk.mk (below_then HB.out HB.out.size hb); clear hb hR5 hC5)
        | (go_at_call 41; (with_reducible refine (HSS.out _ _ _ HB.out HC5.out).mono ?_); rintro e w' ⟨rfl, hb⟩; have HB := Lk.mk (below_then HB.out HB.out.size hb); clear hb)
        | (go_at_call 39; (with_reducible refine (HAW.out _ HB.out).mono ?_); rintro e w' ⟨rfl, hb⟩; have HB := Lk.mk (below_then HB.out HB.out.size hb); clear hb))
      go_ret
      exact ⟨rfl, HB.out⟩
  · simp only [if_neg h0] at hC
    have HC := Lk.mk hC
    clear hC hr hI hl hv hln hvi hT hR hRT hn hg1 hg2 hsz h0 h29 hb0
    go_enter Tryd.func8, Tryd.ntmps8
    go_wp2_with (first
      | (go_at_call 18; (with_reducible refine (HN.out).mono ?_); rintro e w1 ⟨p, rfl, htb, hb⟩; obtain ⟨g, hg⟩ : ∃ g, p = .pointer (some ⟨g, 0, none⟩) := (by obtain ⟨g, _, _, h, _⟩ := htb; exact ⟨g, h⟩); obtain rfl := hg.symm; clear hg; have HTB := Lk.mk htb.or; have HX := Lk.mk (blk_below HX.out hb); have HB := Lk.mk (below_then H0.out H0.out.size hb); clear hb htb)
      | (go_at_call 24; (with_reducible refine (HG.out _ HB.out).mono ?_); rintro e w' ⟨rfl, hw⟩; obtain rfl := hw.symm; clear hw)
      | (go_at_call 37; (with_reducible refine (HG2.out _ HB.out).mono ?_); rintro e w' ⟨rfl, hw⟩; obtain rfl := hw.symm; clear hw)
      | (go_at_call 38; (with_reducible refine (HRI.out _ HB.out).mono ?_); rintro e w2 ⟨rfl, hb⟩; have HX := Lk.mk (blk_below HX.out hb); have HTB := Lk.mk (HTB.out.below hb); have HB := Lk.mk (below_then HB.out HB.out.size hb); clear hb)
      | (go_at_call 40; (with_reducible refine (HC.out _ _ HB.out HTB.out).mono ?_); rintro e w3 ⟨hb, v3', hR3, rfl⟩; obtain ⟨A3, c3, rfl, _, hC3⟩ := Kd.R_reads hR3; have HC3 := Lk.mk hC3; have HB := Lk.mk (below_then HB.out HB.out.size hb); clear hb hR3 hC3)
      | (go_at_call 41; (with_reducible refine (HSS.out _ _ _ HB.out HC3.out).mono ?_); rintro e w' ⟨rfl, hb⟩; have HB := Lk.mk (below_then HB.out HB.out.size hb); clear hb)
      | (go_at_call 39; (with_reducible refine (HAW.out _ HB.out).mono ?_); rintro e w' ⟨rfl, hb⟩; have HB := Lk.mk (below_then HB.out HB.out.size hb); clear hb))
    go_ret
    exact ⟨rfl, HB.out⟩
theorem lawOfModelBack (A : Option Addr) (c : Nat) (t : List (Int × List Int)) (B : Option Addr) (d : Nat) (l : List Af) (f s : Int) (x : Sl.Vl) (w : World) (hr : FnC w A t.length t) (hI : FnsIn t) (_ : t.length ≤ 1048576) (hb : ∀ f ∈ t, f.2.length ≤ 1048576) (hl : kAf.C w B l.length l) (hv : AfIn l) (b1 : l.length ≤ 1048576) (b2 : ∀ f ∈ l, f.2.length ≤ 1048576) (_ : -9223372036854775808 ≤ f ∧ f ≤ 9223372036854775807) (_ : -9223372036854775808 ≤ s ∧ s ≤ 9223372036854775807) (hx : VlIn x) (hT : Tab w) :
    Calls Tryd.prog 8 #[.slice A t.length c, .slice B l.length d, .int .i64 f, .int .i64 s, .agg #[.int .u8 x.1, .int .u64 x.2.1, .int .i64 x.2.2.1, .int .i64 x.2.2.2]] w fun e w' => e = .returned (.bool true) ∧ Below w.heap.size w w' := by
  have hI' : FnsOk t := fnsOk_of hI hb (Nat.le_refl _)
  obtain ⟨v0, v1, v2, v3⟩ := x
  by_cases h1 : newOk t = true
  · by_cases h2 : greatL t = true
    · exact back_bad A c t B d l f s v0 v1 v2 v3 w hr hI' hl hv hT (.inr (.inl h2))
    · by_cases h3 : great19L l = true
      · exact back_bad A c t B d l f s v0 v1 v2 v3 w hr hI' hl hv hT (.inr (.inr (.inl h3)))
      · by_cases h4 : 29 < l.length
        · exact back_bad A c t B d l f s v0 v1 v2 v3 w hr hI' hl hv hT (.inr (.inr (.inr (.inl h4))))
        · by_cases h5 : RightP (lSize t) (lPtr t) l
          · exact back_good A c t B d l f s v0 v1 v2 v3 w hr hI' hl hv ⟨b1, b2⟩ hx hT h1 (by simpa using h2) (by simpa using h3) h4 h5
          · exact back_bad A c t B d l f s v0 v1 v2 v3 w hr hI' hl hv hT (.inr (.inr (.inr (.inr h5))))
  · exact back_bad A c t B d l f s v0 v1 v2 v3 w hr hI' hl hv hT (.inl (by simpa using h1))
end Go.Proofs.YtbikdngpannekaaDoor
