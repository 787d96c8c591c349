/-
  The law MoveKeeps: its ways, and the law. Conditions: the table of deBruijn stands; the arguments read as told. Printed by gen_keeps.py.
-/
import Derived.Test.YtcepafllgjnngaaDoorVo
import Derived.Test.YtcepafllgjnngaaDoorK5
import Derived.Test.YtcepafllgjnngaaDoorEe
namespace Go.Proofs.YtcepafllgjnngaaDoor
open Go.RowKit Go.Proofs.YtcepafllgjnngaaDoorW.PrintWords

set_option maxRecDepth 100000 in
set_option maxHeartbeats 2000000 in
theorem mk_early (V : Option Addr) (c0 : Nat) (ws : List Int) (T : Option Addr) (ct : Nat) (t : List (Int × List Int)) (x0 x1 x2 lo size : Int) (w : World) (hz : ReadsInt w .u64 V ws.length ws) (ht : FnC w T t.length t) (hI : FnsOk t) (hT : Tab w) (h : newOk t = false ∨ 256 < ws.length ∨ greatL t = true) :
    Calls Tryd.prog 6 #[.slice V ws.length c0, .slice T t.length ct, .agg #[.int .i64 x0, .int .i64 x1, .int .i64 x2], .int .i64 lo, .int .i64 size] w fun e w' => e = .returned (.bool true) ∧ Below w.heap.size w w' := by
  have hmz := hz.2.1
  have h0 := below_alloc (Below.refl w.heap.size w) (.cells #[.int .i64 x0, .int .i64 x1, .int .i64 x2] 41)
  have H0 := Lk.mk h0
  have HAW := Lk.mk (fun W => awake17_any W)
  have HG := Lk.mk (fun W (hb : Below w.heap.size w W) => great_any T ct t W (ht.below hb))
  have HNW := Lk.mk (fun (hn : newOk t = false) => new_bad T ct t _ (ht.below h0) hI (hT.below h0) hn)
  have HNG := Lk.mk (fun (hn : newOk t = true) => new_good T ct t _ (ht.below h0) hI (hT.below h0) hn)
  have HH := Lk.mk h
  clear hz ht hI hT h h0
  generalize hg1 : greatL t = g1 at *
  cases hn : newOk t with
  | false =>
    have HN := Lk.mk (HNW.out hn)
    clear hn hg1
    by_cases h256 : 256 < ws.length
    · have hz : (256 : Int) < (ws.length : Int) := by omega
      clear h256
      go_enter Tryd.func6, Tryd.ntmps6
      go_wp2_with (first
        | (go_at_call 12; (with_reducible refine (HN.out).mono ?_); rintro e w1 ⟨rfl, hb⟩; have HB := Lk.mk (below_then H0.out H0.out.size hb); clear hb)
        | (go_at_call 29; (with_reducible refine (HAW.out _).mono ?_); rintro e w' ⟨rfl, hb⟩; have HB := Lk.mk (below_then HB.out HB.out.size hb); clear hb))
      go_ret
      exact ⟨rfl, HB.out⟩
    · have hz : ¬ (256 : Int) < (ws.length : Int) := by omega
      clear h256
      cases g1
      all_goals
        go_enter Tryd.func6, Tryd.ntmps6
        go_wp2_with (first
          | (go_at_call 12; (with_reducible refine (HN.out).mono ?_); rintro e w1 ⟨rfl, hb⟩; have HB := Lk.mk (below_then H0.out H0.out.size hb); clear hb)
          | (go_at_call 10; (with_reducible refine (HG.out _ HB.out).mono ?_); rintro e w' ⟨rfl, hw⟩; obtain rfl := hw.symm; clear hw)
          | (go_at_call 29; (with_reducible refine (HAW.out _).mono ?_); rintro e w' ⟨rfl, hb⟩; have HB := Lk.mk (below_then HB.out HB.out.size hb); clear hb))
        go_ret
        exact ⟨rfl, HB.out⟩
  | true =>
    have HN := Lk.mk (HNG.out hn)
    rw [hn] at HH
    clear hn hg1
    by_cases h256 : 256 < ws.length
    · have hz : (256 : Int) < (ws.length : Int) := by omega
      clear h256
      go_enter Tryd.func6, Tryd.ntmps6
      go_wp2_with (first
        | (go_at_call 12; (with_reducible refine (HN.out).mono ?_); rintro e w1 ⟨p, rfl, htb, hb⟩; have HB := Lk.mk (below_then H0.out H0.out.size hb); clear hb htb)
        | (go_at_call 29; (with_reducible refine (HAW.out _).mono ?_); rintro e w' ⟨rfl, hb⟩; have HB := Lk.mk (below_then HB.out HB.out.size hb); clear hb))
      go_ret
      exact ⟨rfl, HB.out⟩
    · have hz : ¬ (256 : Int) < (ws.length : Int) := by omega
      have hg : g1 = true := by
        rcases HH.out with h | h | h
        · exact absurd h (by decide)
        · exact absurd h h256
        · exact h
      subst hg
      clear h256
      go_enter Tryd.func6, Tryd.ntmps6
      go_wp2_with (first
        | (go_at_call 12; (with_reducible refine (HN.out).mono ?_); rintro e w1 ⟨p, rfl, htb, hb⟩; have HB := Lk.mk (below_then H0.out H0.out.size hb); clear hb htb)
        | (go_at_call 10; (with_reducible refine (HG.out _ HB.out).mono ?_); rintro e w' ⟨rfl, hw⟩; obtain rfl := hw.symm; clear hw)
        | (go_at_call 29; (with_reducible refine (HAW.out _).mono ?_); rintro e w' ⟨rfl, hb⟩; have HB := Lk.mk (below_then HB.out HB.out.size hb); clear hb))
      go_ret
      exact ⟨rfl, HB.out⟩
theorem sall_ok (g b : Nat) (ws : List Int) (p : Value) (ent : List (Int × (List Int × List Int))) (A : Option Addr) (c : Nat) (F : List Sl.Fr) (w : World) (h : ArB w g b ws) (ht : TblOr w p ent) (he : EntIn ent) (hw : ∀ e ∈ ent, Bm.Words e.2.1) (hr : kFr.C w A F.length F) (hI : FrIn F) (hl : F.length ≤ 1048576) (hok : AllOk ent ws F) :
    Calls Tryd.prog 32 #[.pointer (some ⟨g, 0, none⟩), p, .slice A F.length c] w fun e w' => ∃ v, e = .returned (.tuple #[v, .int .i64 0]) ∧ kRw.R 111 w' w.heap.size (fun _ => True) v (rowsTo (tSize ent) (getV (tSize ent) (tPtr ent) ws F) F F.length) ∧ Below w.heap.size w w' := by
  refine (sall_any g b ws p ent A c F w h ht he hw hr hI hl).mono ?_
  rintro e w' ⟨hb, ⟨_, v, h1, h2⟩ | ⟨n, _, _, d, i, hd, hi, hno⟩⟩
  · exact ⟨v, h1, h2, hb⟩
  · exact absurd (hok d i hd hi) hno
theorem sall_free (g b : Nat) (ws : List Int) (p : Value) (ent : List (Int × (List Int × List Int))) (A : Option Addr) (c : Nat) (F : List Sl.Fr) (w : World) (h : ArB w g b ws) (ht : TblOr w p ent) (he : EntIn ent) (hw : ∀ e ∈ ent, Bm.Words e.2.1) (hr : kFr.C w A F.length F) (hI : FrIn F) (hl : F.length ≤ 1048576) :
    Calls Tryd.prog 32 #[.pointer (some ⟨g, 0, none⟩), p, .slice A F.length c] w fun e w' => (∃ v n, e = .returned (.tuple #[v, .int .i64 n])) ∧ Below w.heap.size w w' := by
  refine (sall_any g b ws p ent A c F w h ht he hw hr hI hl).mono ?_
  rintro e w' ⟨hb, ⟨_, v, h1, h2⟩ | ⟨n, _, h1, _⟩⟩
  · exact ⟨⟨_, _, h1⟩, hb⟩
  · exact ⟨⟨_, _, h1⟩, hb⟩
theorem getD_mem_int {l : List Int} {k : Nat} (h : k < l.length) : l.getD k 0 ∈ l := by
  rw [List.getD_eq_getElem?_getD, List.getElem?_eq_getElem h]
  exact List.getElem_mem h
theorem kRw_keep {w W : World} {base b n c : Nat} {A : Option Addr} {l : List (List Sl.Vl)} (h : kRw.R 111 w base (fun _ => True) (.slice A n c) l) (hb : b < base) (k : KeepW b w W) : kRw.C W A l.length l := by
  have h1 := Kd.R_step (w1 := W) (Kd.R_bound h) (fun j ho hj => k.block j hj (by have := ho.2.1; omega))
  obtain ⟨A', c', he, _, hr⟩ := Kd.R_reads h1
  injection he with e1 _ _
  rw [e1]; exact hr
theorem keep6c {w W : World} {a b c d e f : Addr} {va vb vc vd ve vf : Value} (h : (w.cell? a = some va ∧ w.cell? b = some vb ∧ w.cell? c = some vc) ∧ (w.cell? d = some vd ∧ w.cell? e = some ve ∧ w.cell? f = some vf)) (hb : Below w.heap.size w W) : (W.cell? a = some va ∧ W.cell? b = some vb ∧ W.cell? c = some vc) ∧ (W.cell? d = some vd ∧ W.cell? e = some ve ∧ W.cell? f = some vf) :=
  ⟨⟨pw_cell_below hb h.1.1, pw_cell_below hb h.1.2.1, pw_cell_below hb h.1.2.2⟩, ⟨pw_cell_below hb h.2.1, pw_cell_below hb h.2.2.1, pw_cell_below hb h.2.2.2⟩⟩
theorem keep4c {w W : World} {a b c d : Addr} {va vb vc vd : Value} (h : w.cell? a = some va ∧ w.cell? b = some vb ∧ w.cell? c = some vc ∧ w.cell? d = some vd) (hb : Below w.heap.size w W) : W.cell? a = some va ∧ W.cell? b = some vb ∧ W.cell? c = some vc ∧ W.cell? d = some vd :=
  ⟨pw_cell_below hb h.1, pw_cell_below hb h.2.1, pw_cell_below hb h.2.2.1, pw_cell_below hb h.2.2.2⟩
set_option maxRecDepth 100000 in
set_option maxHeartbeats 8000000 in
theorem mk_bad (V : Option Addr) (c0 : Nat) (ws : List Int) (T : Option Addr) (ct : Nat) (t : List (Int × List Int)) (x0 x1 x2 lo size : Int) (w : World) (hz : ReadsInt w .u64 V ws.length ws) (hzw : Bm.Words ws) (ht : FnC w T t.length t) (hI : FnsOk t) (hfb : ∀ f ∈ t, f.2.length ≤ 1048576) (hT : Tab w) (hn : newOk t = true) (h256 : ws.length ≤ 256) (hg1 : greatL t = false) (hx : -9223372036854775808 ≤ x1 ∧ x1 ≤ 9223372036854775807) (hsz : -9223372036854775808 ≤ size ∧ size ≤ 9223372036854775807) (hbad : ¬ ToOk (putW zw 0 ws) (t.map entryOf) (x0, (x1, x2)) lo size) :
    Calls Tryd.prog 6 #[.slice V ws.length c0, .slice T t.length ct, .agg #[.int .i64 x0, .int .i64 x1, .int .i64 x2], .int .i64 lo, .int .i64 size] w fun e w' => e = .returned (.bool true) ∧ Below w.heap.size w w' := by
  have hmz := hz.2.1
  have h0 := below_alloc (Below.refl w.heap.size w) (.cells #[.int .i64 x0, .int .i64 x1, .int .i64 x2] 41)
  have H0 := Lk.mk h0
  have HX := Lk.mk (blk_new w (.cells #[.int .i64 x0, .int .i64 x1, .int .i64 x2] 41))
  have HAW := Lk.mk (fun W => awake17_any W)
  have HG := Lk.mk (fun W (hb : Below w.heap.size w W) => great_any T ct t W (ht.below hb))
  rw [hg1] at HG
  have HN := Lk.mk (new_good T ct t _ (ht.below h0) hI (hT.below h0) hn)
  have HL := Lk.mk (fun W (hb : Below w.heap.size w W) => laid17_any V c0 ws W (hz.below hb) hzw h256)
  have hzi : ¬ (256 : Int) < (ws.length : Int) := by omega
  have hlen : (putW zw 0 ws).length ≤ 65536 := by rw [putW_length _ _ _ (by rw [zw_len]; omega), zw_len]; omega
  have hwd : Bm.Words (putW zw 0 ws) := putW_words (words_zero _) hzw
  have he := entIn_of hn
  have HFR := Lk.mk (fun W g b q (hA : ArB W g b (putW zw 0 ws)) (hp : TblOr W (.pointer q) (t.map entryOf)) => frames_own g b (putW zw 0 ws) (.pointer q) (t.map entryOf) (x0, (x1, x2)) W hA hp he hx)
  have HAL := Lk.mk (fun W g b q A c (hA : ArB W g b (putW zw 0 ws)) (hp : TblOr W (.pointer q) (t.map entryOf)) (hr : kFr.C W A (framesA (putW zw 0 ws) (t.map entryOf) (x0, (x1, x2))).1.length (framesA (putW zw 0 ws) (t.map entryOf) (x0, (x1, x2))).1) => sall_free g b (putW zw 0 ws) (.pointer q) (t.map entryOf) A c _ W hA hp he (fun e he => entry_words he) hr (framesA_in he (len17 hn) hlen hwd _) (framesA_len he hlen _))
  have HRW := Lk.mk (fun W g b (hA : ArB W g b (putW zw 0 ws)) => row_free g b (putW zw 0 ws) x0 x1 W hA)
  have HTO := Lk.mk (fun W g b q (hA : ArB W g b (putW zw 0 ws)) (hp : TblOr W (.pointer q) (t.map entryOf)) => to_bad g b (putW zw 0 ws) q (t.map entryOf) (x0, (x1, x2)) lo size W hA hp he (len17 hn) (fun e he => entry_words he) hx hsz (framesA_len he hlen _) hbad)
  dsimp only at HTO HFR
  clear hz hzw ht hI hfb hx hsz hT hn h256 hg1 hbad h0 hlen hwd he
  generalize putW zw 0 ws = all at *
  generalize t.map entryOf = ent at *
  generalize framesA all ent (x0, (x1, x2)) = FA at *
  obtain ⟨F, er⟩ := FA
  dsimp only at HFR HAL
  go_enter Tryd.func6, Tryd.ntmps6
  go_wp2_with (first
    | (go_at_call 12; (with_reducible refine (HN.out).mono ?_); rintro e w1 ⟨p, rfl, htb, hb⟩; obtain ⟨q, rfl⟩ := tblPtr htb.or; have HTT := Lk.mk htb; have HW1 := Lk.mk (show w.heap.size < w1.heap.size from Nat.lt_of_lt_of_le (by simp) hb.size); have HX := Lk.mk (blk_below HX.out hb); have HB1 := Lk.mk (below_then H0.out H0.out.size hb); clear hb htb)
    | (go_at_call 10; (with_reducible refine (HG.out _ HB1.out).mono ?_); rintro e w' ⟨rfl, hw⟩; obtain rfl := hw.symm; clear hw)
    | (go_at_call 30; (with_reducible refine (HL.out _ HB1.out).mono ?_); rintro e w2 ⟨rfl, ha, hb⟩; have HA2 := Lk.mk ha; have HW2 := Lk.mk hb; have HQ2 := Lk.mk (blk_lt ha.row); have HX2 := Lk.mk (blk_below HX.out hb); have HB2 := Lk.mk (below_then HB1.out HB1.out.size hb); obtain ⟨c0, c1, c2⟩ := cells3m HX2.out; clear hb ha)
    | (go_at_call 31; (with_reducible refine (HFR.out _ _ _ _ HA2.out (HTT.out.below HW2.out).or).mono ?_); rintro e w3 ⟨hb, A, c, rfl, hC⟩; have HC3 := Lk.mk hC; have HA3 := Lk.mk (HA2.out.below hb); have HW3 := Lk.mk (below_then HW2.out HW2.out.size hb); have HX3 := Lk.mk (blk_below HX2.out hb); have HB3 := Lk.mk (below_then HB2.out HB2.out.size hb); clear hb hC)
    | (go_at_call 32; (with_reducible refine (HAL.out _ _ _ _ _ _ HA3.out (HTT.out.below HW3.out).or HC3.out.now).mono ?_); rintro e w4 ⟨⟨v, n, rfl⟩, hb⟩; have HA4 := Lk.mk (HA3.out.below hb); have HW4 := Lk.mk (below_then HW3.out HW3.out.size hb); have HX4 := Lk.mk (blk_below HX3.out hb); have HB4 := Lk.mk (below_then HB3.out HB3.out.size hb); obtain ⟨c0, c1, c2⟩ := cells3m HX4.out; clear hb)
    | (go_at_call 33; (with_reducible refine (HRW.out _ _ _ HA4.out).mono ?_); rintro e w5 ⟨⟨v2, k2, rfl⟩, hb⟩; have HA5 := Lk.mk (HA4.out.below hb); have HW5 := Lk.mk (below_then HW4.out HW4.out.size hb); have HX5 := Lk.mk (blk_below HX4.out hb); have HB5 := Lk.mk (below_then HB4.out HB4.out.size hb); obtain ⟨c0, c1, c2⟩ := cells3m HX5.out; clear hb)
    | (go_at_call 34; (with_reducible refine (HTO.out _ _ _ _ HA5.out (HTT.out.below HW5.out).or).mono ?_); rintro e w6 ⟨⟨n6, hne, rfl⟩, hb⟩; have HB6 := Lk.mk (below_alloc (below_then HB5.out HB5.out.size hb) (.cells #[.int .i64 0, .int .i64 0, .int .i64 0] 41)); obtain ⟨d0, d1, d2⟩ := cells3m (blk_new w6 (.cells #[.int .i64 0, .int .i64 0, .int .i64 0] 41)); clear hb)
    | (go_at_call 29; (with_reducible refine (HAW.out _).mono ?_); rintro e w9 ⟨rfl, hb⟩; have HB9 := Lk.mk (below_then HB6.out HB6.out.size hb); clear hb))
  go_ret
  exact ⟨rfl, HB9.out⟩
set_option maxRecDepth 100000 in
set_option maxHeartbeats 8000000 in
theorem mk_good (V : Option Addr) (c0 : Nat) (ws : List Int) (T : Option Addr) (ct : Nat) (t : List (Int × List Int)) (l0 s0 p0 a bz k : Nat) (w : World) (hz : ReadsInt w .u64 V ws.length ws) (hzw : Bm.Words ws) (ht : FnC w T t.length t) (hI : FnsOk t) (hfb : ∀ f ∈ t, f.2.length ≤ 1048576) (hT : Tab w) (hn : newOk t = true) (h256 : ws.length ≤ 256) (hg1 : greatL t = false) (hN : ToN (putW zw 0 ws) (t.map entryOf) l0 s0 p0 a bz k) :
    Calls Tryd.prog 6 #[.slice V ws.length c0, .slice T t.length ct, .agg #[.int .i64 l0, .int .i64 s0, .int .i64 p0], .int .i64 a, .int .i64 bz] w fun e w' => e = .returned (.bool true) ∧ Below w.heap.size w w' := by
  have hmz := hz.2.1
  have h0 := below_alloc (Below.refl w.heap.size w) (.cells #[.int .i64 l0, .int .i64 s0, .int .i64 p0] 41)
  have H0 := Lk.mk h0
  have HX := Lk.mk (blk_new w (.cells #[.int .i64 l0, .int .i64 s0, .int .i64 p0] 41))
  have HAW := Lk.mk (fun W => awake17_any W)
  have HG := Lk.mk (fun W (hb : Below w.heap.size w W) => great_any T ct t W (ht.below hb))
  rw [hg1] at HG
  have HN := Lk.mk (new_good T ct t _ (ht.below h0) hI (hT.below h0) hn)
  have HL := Lk.mk (fun W (hb : Below w.heap.size w W) => laid17_any V c0 ws W (hz.below hb) hzw h256)
  have hzi : ¬ (256 : Int) < (ws.length : Int) := by omega
  have hlen : (putW zw 0 ws).length ≤ 65536 := by rw [putW_length _ _ _ (by rw [zw_len]; omega), zw_len]; omega
  have hwd : Bm.Words (putW zw 0 ws) := putW_words (words_zero _) hzw
  have he := entIn_of hn
  have hp := ptOk_of hn
  have hall := hN.all_
  have her := hN.er
  have hin := hN.in_
  have hs1 := hN.sp1
  have hs2 := hN.sp2
  have hin2 := hN.in2
  have hk1 := hN.k1
  have hk2 := hN.k2
  have hsm := small_of hlen hN.may
  have hsm2 := small_of hlen hN.may2
  obtain ⟨n, hnn⟩ : ∃ n, n = l0 + s0 - p0 := ⟨_, rfl⟩
  have HU1 := Lk.mk (fun W => by
    have h9 := used_all ((l0 : Int), ((s0 : Int), (p0 : Int))) W
    rw [usedL_small hsm.1 hsm.2] at h9
    dsimp only at h9
    rw [show (l0 : Int) + s0 - p0 = (n : Int) by omega] at h9
    exact h9)
  have HU2 := Lk.mk (fun W => by
    have h9 := used_all ((a : Int), ((bz : Int), (k : Int))) W
    rw [usedL_small hsm2.1 hsm2.2] at h9
    dsimp only at h9
    rw [show (a : Int) + bz - k = (n : Int) by omega] at h9
    exact h9)
  have HFR := Lk.mk (fun W g b q (hA : ArB W g b (putW zw 0 ws)) (hp : TblOr W (.pointer q) (t.map entryOf)) => frames_own g b (putW zw 0 ws) (.pointer q) (t.map entryOf) ((l0 : Int), ((s0 : Int), (p0 : Int))) W hA hp he (by dsimp only; omega))
  have HTG := Lk.mk (fun W g b q (hA : ArB W g b (putW zw 0 ws)) (hS : Stab b (fun W => TblOr W (.pointer q) (t.map entryOf)) W) => to_good g b (putW zw 0 ws) q (t.map entryOf) l0 s0 p0 a bz k W hA hS he (len17 hn) (fun e he => entry_words he) (ptrs17 hfb) hp (framesA_len he hlen _) hN)
  have hl1 := toW_len (pt := tPtrs (t.map entryOf)) hN
  have HR1 := Lk.mk (fun W g b (hA : ArB W g b (putW zw 0 ws)) => row_ok g b (putW zw 0 ws) l0 s0 W hA (by omega))
  have HPT := Lk.mk (fun W q f (ht : TblOr W (.pointer q) (t.map entryOf)) => ptrs_any (.pointer q) (t.map entryOf) f W ht (ptrs17 hfb))
  have HIN := Lk.mk (fun W v (h0 : 0 ≤ v) (hv : v < (l0 : Int) ∨ (l0 : Int) + s0 ≤ v) => inside17_no l0 s0 p0 v W (by omega) h0 hv)
  obtain ⟨F, hF⟩ : ∃ F, F = (framesA (putW zw 0 ws) (t.map entryOf) ((l0 : Int), ((s0 : Int), (p0 : Int)))).1 := ⟨_, rfl⟩
  obtain ⟨G, hG⟩ : ∃ G, G = F.map (shF ((k : Int) - p0)) := ⟨_, rfl⟩
  obtain ⟨W1, hW1⟩ : ∃ W1, W1 = toW (tPtrs (t.map entryOf)) (putW zw 0 ws) (t.map entryOf) ((l0 : Int), ((s0 : Int), (p0 : Int))) a bz := ⟨_, rfl⟩
  obtain ⟨k1, k2, k3, k4, k5⟩ := keeps_plain hp he hlen hN hW1 hF hG
  have hFI := framesA_in he (len17 hn) hlen hwd ((l0 : Int), ((s0 : Int), (p0 : Int)))
  have hFL := framesA_len he hlen ((l0 : Int), ((s0 : Int), (p0 : Int))) (ws := putW zw 0 ws)
  have HFR2 := Lk.mk (fun W g b q (hA : ArB W g b W1) (hp : TblOr W (.pointer q) (t.map entryOf)) => frames_own g b W1 (.pointer q) (t.map entryOf) ((a : Int), ((bz : Int), (k : Int))) W hA hp he (by dsimp only; omega))
  rw [← hF] at hall hFI hFL
  have HAL1 := Lk.mk (fun W g b q A c (hA : ArB W g b (putW zw 0 ws)) (hp : TblOr W (.pointer q) (t.map entryOf)) (hr : kFr.C W A F.length F) => sall_ok g b (putW zw 0 ws) (.pointer q) (t.map entryOf) A c F W hA hp he (fun e he => entry_words he) hr hFI hFL hall)
  have HAL2 := Lk.mk (fun W g b q A c (hA : ArB W g b W1) (hp : TblOr W (.pointer q) (t.map entryOf)) (hr : kFr.C W A G.length G) => sall_ok g b W1 (.pointer q) (t.map entryOf) A c G W hA hp he (fun e he => entry_words he) hr (by have := framesA_in he (len17 hn) hA.len hA.words ((a : Int), ((bz : Int), (k : Int))); rw [k1] at this; exact this) (by rw [hG, List.length_map]; exact hFL) k2)
  have HR2 := Lk.mk (fun W g b (hA : ArB W g b W1) => row_ok g b W1 l0 s0 W hA (by rw [hW1, hl1]; omega))
  have HLD := Lk.mk (fun W g b (j : Nat) (hA : ArB W g b W1) (hj : j < W1.length) => load_ok g b W1 j W hA hj)
  have hl1' : W1.length ≤ 65536 := by rw [hW1, hl1]; exact hlen
  have HL1 := Lk.mk hl1'
  have HK := Lk.mk k5
  have HWW := Lk.mk (fun W g b (hA : ArB W g b W1) (j : Nat) => word_in2 hA j)
  rw [k1] at HFR2
  rw [k3] at HAL2
  rw [k4] at HR2
  have hGF : G.length = F.length := by rw [hG, List.length_map]
  have HGF := Lk.mk hGF
  rw [← hF, her] at HFR
  rw [← hW1] at HTG
  dsimp only at HFR HFR2
  clear hz hzw ht hI hfb hT hn h256 hg1 h0 hlen hwd hp he hall her hin hs1 hs2 hin2 hk1 hk2 hsm hsm2 hnn hl1 hl1' hF hG hW1 k1 k2 k3 k4 k5 hFI hN
  generalize putW zw 0 ws = all at *
  generalize t.map entryOf = ent at *
  generalize (all.drop l0).take s0 = R at *
  generalize rowsTo (tSize ent) (getV (tSize ent) (tPtr ent) all F) F F.length = RV at *
  have HSM := Lk.mk (fun W A c B d (h1 : ReadsInt W .u64 A R.length R) (h2 : ReadsInt W .u64 B R.length R) => by
    have h9 := rsame04_any A c R B d R W h1 h2
    rw [decide_eq_true rfl] at h9
    exact h9)
  have HSV := Lk.mk (fun W A c B d (h1 : kRw.C W A RV.length RV) (h2 : kRw.C W B RV.length RV) => rsame16_eq A c B d RV W h1 h2)
  rw [hGF] at HFR2 HAL2
  have HFLz := Lk.mk hFL
  clear hGF hFL
  go_enter Tryd.func6, Tryd.ntmps6
  go_wp2_with (first
    | (go_at_call 12; (with_reducible refine (HN.out).mono ?_); rintro e w1 ⟨p, rfl, htb, hb⟩; obtain ⟨q, rfl⟩ := tblPtr htb.or; have HTT := Lk.mk htb; have HW1 := Lk.mk (show w.heap.size < w1.heap.size from Nat.lt_of_lt_of_le (by simp) hb.size); have HX := Lk.mk (blk_below HX.out hb); have HB1 := Lk.mk (below_then H0.out H0.out.size hb); clear hb htb)
    | (go_at_call 10; (with_reducible refine (HG.out _ HB1.out).mono ?_); rintro e w' ⟨rfl, hw⟩; obtain rfl := hw.symm; clear hw)
    | (go_at_call 30; (with_reducible refine (HL.out _ HB1.out).mono ?_); rintro e w2 ⟨rfl, ha, hb⟩; have HA2 := Lk.mk ha; have HW2 := Lk.mk hb; have HQ2 := Lk.mk (blk_lt ha.row); have HX2 := Lk.mk (blk_below HX.out hb); have HB2 := Lk.mk (below_then HB1.out HB1.out.size hb); obtain ⟨c0, c1, c2⟩ := cells3m HX2.out; clear hb ha)
    | (go_at_call 31; (with_reducible refine (HFR.out _ _ _ _ HA2.out (HTT.out.below HW2.out).or).mono ?_); rintro e w3 ⟨hb, A, c, rfl, hC⟩; have HC3 := Lk.mk hC; have HA3 := Lk.mk (HA2.out.below hb); have HW3 := Lk.mk (below_then HW2.out HW2.out.size hb); have HX3 := Lk.mk (blk_below HX2.out hb); have HB3 := Lk.mk (below_then HB2.out HB2.out.size hb); clear hb hC)
    | (go_at_call 32; (with_reducible refine (HAL1.out _ _ _ _ _ _ HA3.out (HTT.out.below HW3.out).or HC3.out.now).mono ?_); rintro e w4 ⟨v, rfl, hR, hb⟩; obtain ⟨AV, cV, rfl, _, _⟩ := Kd.R_reads hR; have HV4 := Lk.mk hR; have HQ3 := Lk.mk (show w1.heap.size < w3.heap.size from blk_lt HA3.out.row); have HC4 := Lk.mk (HC3.out.below hb); have HA4 := Lk.mk (HA3.out.below hb); have HW4 := Lk.mk (below_then HW3.out HW3.out.size hb); have HX4 := Lk.mk (blk_below HX3.out hb); have HB4 := Lk.mk (below_then HB3.out HB3.out.size hb); obtain ⟨c0, c1, c2⟩ := cells3m HX4.out; clear hb hR)
    | (go_at_call 33; (with_reducible refine (HR1.out _ _ _ HA4.out).mono ?_); rintro e w5 ⟨v, rfl, ho, hb⟩; obtain ⟨AO, cO, rfl, _, _, _⟩ := own_full ho; have HO5 := Lk.mk (own_stab ho HA4.out.lt); have HV5 := Lk.mk (Kd.R_below HV4.out hb); have HC5 := Lk.mk (HC4.out.below hb); have HA5 := Lk.mk (HA4.out.below hb); have HW5 := Lk.mk (below_then HW4.out HW4.out.size hb); have HX5 := Lk.mk (blk_below HX4.out hb); have HB5 := Lk.mk (below_then HB4.out HB4.out.size hb); obtain ⟨c0, c1, c2⟩ := cells3m HX5.out; clear hb ho)
    | (go_at_call 34; (with_reducible refine (HTG.out _ _ _ _ HA5.out (stab_tbl HTT.out HW5.out (Nat.le_refl _))).mono ?_); rintro e w6 ⟨rfl, ha, hk⟩; have hal := below_alloc (Below.refl w6.heap.size w6) (.cells #[.int .i64 a, .int .i64 bz, .int .i64 k] 41); have hw1 := HW1.out; have hq2 := HQ2.out; have hq3 := HQ3.out; have HA6 := Lk.mk (ha.below hal); have HV6 := Lk.mk (own_again17 (HO5.out.keep (hk.then_ hal)).now); have HR6 := Lk.mk (kRw_keep HV5.out hq3 (hk.then_ hal)); have HC6 := Lk.mk (HC5.out.keep hq2 (hk.then_ hal)).now; have HW6 := Lk.mk ((hk.then_ hal).below HW5.out (Nat.le_refl _) HW5.out.size); have hX6 := (hk.block _ (blk_lt HX5.out) (by omega)).trans HX5.out; have HX6 := Lk.mk (blk_below hX6 hal); have HT6 := Lk.mk (blk_new w6 (.cells #[.int .i64 a, .int .i64 bz, .int .i64 k] 41)); have HB6 := Lk.mk ((hk.then_ hal).below HB5.out (by omega) HB5.out.size); obtain ⟨d0, d1, d2⟩ := cells3m HT6.out; clear ha hk hal hw1 hq2 hq3 hX6)
    | (go_at_call 31; (with_reducible refine (HFR2.out _ _ _ _ HA6.out (HTT.out.below HW6.out).or).mono ?_); rintro e w7 ⟨hb, AG, cG, rfl, hC⟩; have hC9 := hC.now; rw [HGF.out] at hC9; have HG7 := Lk.mk hC9; clear hC9; have HC7 := Lk.mk (Kd.C_below HC6.out hb); have HR7 := Lk.mk (Kd.C_below HR6.out hb); have HV7 := Lk.mk (HV6.out.below hb); have HA7 := Lk.mk (HA6.out.below hb); have HW7 := Lk.mk (below_then HW6.out HW6.out.size hb); have HX7 := Lk.mk (blk_below HX6.out hb); have HT7 := Lk.mk (blk_below HT6.out hb); have HB7 := Lk.mk (below_then HB6.out HB6.out.size hb); clear hb hC)
    | (go_at_call 32; (with_reducible refine (HAL2.out _ _ _ _ _ _ HA7.out (HTT.out.below HW7.out).or HG7.out).mono ?_); rintro e w8 ⟨v, rfl, hR, hb⟩; obtain ⟨AN, cN, rfl, _, hN8⟩ := Kd.R_reads hR; have HN8 := Lk.mk hN8; have HG8 := Lk.mk (Kd.C_below HG7.out hb); have HC8 := Lk.mk (Kd.C_below HC7.out hb); have HR8 := Lk.mk (Kd.C_below HR7.out hb); have HV8 := Lk.mk (HV7.out.below hb); have HA8 := Lk.mk (HA7.out.below hb); have HW8 := Lk.mk (below_then HW7.out HW7.out.size hb); have HX8 := Lk.mk (blk_below HX7.out hb); have HT8 := Lk.mk (blk_below HT7.out hb); have HB8 := Lk.mk (below_then HB7.out HB7.out.size hb); obtain ⟨c0, c1, c2⟩ := cells3m HX8.out; clear hb hR hN8)
    | (go_at_call 33; (with_reducible refine (HR2.out _ _ _ HA8.out).mono ?_); rintro e w9 ⟨v, rfl, ho, hb⟩; obtain ⟨AP, cP, rfl, _, _, _⟩ := own_full ho; have HP9 := Lk.mk (own_again17 ho); have HN9 := Lk.mk (Kd.C_below HN8.out hb); have HG9 := Lk.mk (Kd.C_below HG8.out hb); have HC9 := Lk.mk (Kd.C_below HC8.out hb); have HR9 := Lk.mk (Kd.C_below HR8.out hb); have HV9 := Lk.mk (HV8.out.below hb); have HA9 := Lk.mk (HA8.out.below hb); have HW9 := Lk.mk (below_then HW8.out HW8.out.size hb); have HX9 := Lk.mk (blk_below HX8.out hb); have HT9 := Lk.mk (blk_below HT8.out hb); have HB9 := Lk.mk (below_then HB8.out HB8.out.size hb); clear hb ho))
  have hNl := HN9.out.2.1
  have HXe := Lk.mk (blk_drew HX9.out)
  have HTe := Lk.mk (blk_drew HT9.out)
  have HBe := Lk.mk (below_drew (Below.refl w9.heap.size w9))
  clear c0 c1 c2 d0 d1 d2
  go_region_held3 (fun W => (W.cell? ⟨w.heap.size, 0, none⟩ = some (.int .i64 l0) ∧ W.cell? ⟨w.heap.size, 1, none⟩ = some (.int .i64 s0) ∧ W.cell? ⟨w.heap.size, 2, none⟩ = some (.int .i64 p0)) ∧ (W.cell? ⟨w6.heap.size, 0, none⟩ = some (.int .i64 a) ∧ W.cell? ⟨w6.heap.size, 1, none⟩ = some (.int .i64 bz) ∧ W.cell? ⟨w6.heap.size, 2, none⟩ = some (.int .i64 k))) (first | exact ⟨cells3m (blk_below HXe.out HB13.out), cells3m (blk_below HTe.out HB13.out)⟩ | exact ⟨cells3m (blk_below HXe.out HB12.out), cells3m (blk_below HTe.out HB12.out)⟩ | exact ⟨cells3m (blk_below HXe.out HB11.out), cells3m (blk_below HTe.out HB11.out)⟩ | exact ⟨cells3m (blk_below HXe.out HB10.out), cells3m (blk_below HTe.out HB10.out)⟩ | exact ⟨cells3m HXe.out, cells3m HTe.out⟩) (first
    | (go_at_call 35; (with_reducible refine (HSV.out _ _ _ _ _ (Kd.C_below HN9.out HBe.out) (Kd.C_below HR9.out HBe.out)).mono ?_); rintro e w10 ⟨rfl, hb⟩; have HB10 := Lk.mk hb; clear hb)
    | (go_at_call 36; (with_reducible refine (HSM.out _ _ _ _ _ (HP9.out.below (below_then HBe.out HBe.out.size HB10.out)) (HV9.out.below (below_then HBe.out HBe.out.size HB10.out))).mono ?_); rintro e w11 ⟨rfl, hb⟩; have HB11 := Lk.mk (below_then HB10.out HB10.out.size hb); clear hb)
    | (go_at_call 37; (with_reducible refine (HU2.out _).mono ?_); rintro e w12 ⟨rfl, hb⟩; have HB12 := Lk.mk (below_then HB11.out HB11.out.size hb); clear hb)
    | (go_at_call 37; (with_reducible refine (HU1.out _).mono ?_); rintro e w13 ⟨rfl, hb⟩; have HB13 := Lk.mk (below_then HB12.out HB12.out.size hb); clear hb))
  have HBw := Lk.mk (below_then HBe.out HBe.out.size HB13.out)
  have HX13 := Lk.mk (blk_below HX9.out HBw.out)
  have HA13 := Lk.mk (HA9.out.below HBw.out)
  have HG13 := Lk.mk (Kd.C_below HG9.out HBw.out)
  have HC13 := Lk.mk (Kd.C_below HC9.out HBw.out)
  have HW13 := Lk.mk (below_then HW9.out HW9.out.size HBw.out)
  have HBB := Lk.mk (below_then HB9.out HB9.out.size HBw.out)
  have hgl := HG13.out.2.1
  clear hNl
  go_wp2
  go_loopg [28] F.length (fun gg v28 wr => ∃ j : Nat, j ≤ F.length ∧ F.length - j ≤ gg ∧ v28 = .int .i64 j ∧ Lk (Below w13.heap.size w13 wr))
  case atStart => exact ⟨0, by omega, by omega, rfl, ⟨Below.refl _ _⟩⟩
  case round =>
    obtain ⟨j, hj, hg, rfl, HBj⟩ := hrel
    obtain ⟨wo, rfl⟩ : ∃ wo : World, wo = wr := ⟨_, rfl⟩
    by_cases hlt : j < F.length
    · have hltz : (j : Int) < (F.length : Int) := by omega
      have HJ := Lk.mk (show j + 1 ≤ F.length from hlt)
      obtain ⟨ad1, rfl, m0, m1, m2⟩ := kFr_at (Kd.C_below HG13.out HBj.out) j hlt
      obtain ⟨ad2, rfl, n0, n1, n2⟩ := kFr_at (Kd.C_below HC13.out HBj.out) j hlt
      have hfn := HK.out.fn j hlt
      have hln := HK.out.link j hlt
      have HSl := Lk.mk (HK.out.slot j hlt)
      rw [← hfn] at n1
      generalize F.getD j Sl.dFr = y at *
      generalize G.getD j Sl.dFr = x at *
      obtain ⟨x0, x1, x2⟩ := x
      dsimp only at *
      have HXj := Lk.mk (blk_below HX13.out HBj.out)
      have M0 := Lk.mk m0
      have M1 := Lk.mk m1
      have M2 := Lk.mk m2
      clear hfn
      obtain ⟨W19, hW19⟩ : ∃ W19, W19 = wo.drew := ⟨_, rfl⟩
      have HLR := Lk.mk hln
      by_cases hneg : x2 = -1
      · subst hneg
        clear hln HLR
        go_wp2
        go_region
        go_wp2_with (go_at_call 14; (with_reducible refine (HPT.out _ _ x1 ((HTT.out.below HW13.out).below (below_then HBj.out HBj.out.size (below_drew (Below.refl _ _)))).or).mono ?_); rintro e w20 ⟨v, rfl, ho, hb⟩; obtain ⟨AI, cI, rfl, _, _, hI20⟩ := own_full ho; have HI20 := Lk.mk hI20; have HB20 := Lk.mk (below_then (below_drew (Below.refl wo.heap.size wo)) (below_drew (Below.refl wo.heap.size wo)).size hb); clear ho hb hI20)
        have hil := HI20.out.2.1
        generalize hPL : tPtrs ent x1 = P at *
        have HPL := Lk.mk hPL
        clear hPL
        go_loopg [30] P.length (fun gg v30 W3 => ∃ i : Nat, i ≤ P.length ∧ P.length - i ≤ gg ∧ v30 = .int .i64 i ∧ Lk (Below w20.heap.size w20 W3))
        case atStart => exact ⟨0, by omega, by omega, rfl, ⟨Below.refl _ _⟩⟩
        case round =>
          obtain ⟨i, hi, hgi, rfl, HBi⟩ := hrel
          obtain ⟨wi, rfl⟩ : ∃ wi : World, wi = wr := ⟨_, rfl⟩
          have HBo := Lk.mk (below_then HB20.out HB20.out.size HBi.out)
          have HJi := Lk.mk (below_then HBj.out HBj.out.size HBo.out)
          by_cases hit : i < P.length
          · have hiz : (i : Int) < (P.length : Int) := by omega
            have HIJ := Lk.mk (show i + 1 ≤ P.length from hit)
            obtain ⟨ad3, rfl, e0⟩ := (HI20.out.below HBi.out).at_ (i : Int) (by omega) (by omega)
            rw [Int.toNat_natCast, rdk] at e0
            obtain ⟨s1, s2, s3, s4⟩ := HSl.out (P.getD i 0) (by first | exact getD_mem_int hit | (rw [HPL.out]; exact getD_mem_int hit))
            generalize P.getD i 0 = z at *
            have HSLT := Lk.mk (fun W => slot17_any (x0, (x1, (-1))) z W s1 s2 (by have := HL1.out; dsimp only; omega))
            obtain ⟨sa, hsa⟩ : ∃ sa : Nat, x0 + 2 + z = sa := ⟨(x0 + 2 + z).toNat, by omega⟩
            rw [hsa] at s3 s4
            rw [Int.toNat_natCast] at s4
            have HLDs := Lk.mk (fun W (hA : ArB W (w1.heap.size + 1) w1.heap.size W1) => HLD.out W _ _ sa hA (by omega))
            have HNN := Lk.mk (fun W (hA : ArB W (w1.heap.size + 1) w1.heap.size W1) => HWW.out W _ _ hA sa)
            have HS4 := Lk.mk s4
            dsimp only at HSLT
            rw [hsa] at HSLT
            clear s1 s2 s3 s4 hsa
            generalize W1.getD sa 0 = u at *
            have q0 := pw_cell_below HBo.out M0.out
            have q1 := pw_cell_below HBo.out M1.out
            have q2 := pw_cell_below HBo.out M2.out
            have HQ := Lk.mk (And.intro e0 (And.intro q0 (And.intro q1 q2)))
            go_wp2
            go_region_held3 (fun W => W.cell? (ad3.add i) = some (.int .i64 z) ∧ W.cell? (ad1.add (j * 3)) = some (.int .i64 x0) ∧ W.cell? ⟨(ad1.add (j * 3)).block, (ad1.add (j * 3)).off + 1, none⟩ = some (.int .i64 x1) ∧ W.cell? ⟨(ad1.add (j * 3)).block, (ad1.add (j * 3)).off + 2, none⟩ = some (.int .i64 (-1))) (first | exact HQ.out | exact keep4c HQ.out (below_then (below_drew (Below.refl _ _)) (below_drew (Below.refl wi.heap.size wi)).size HB26.out) | exact keep4c HQ.out (below_then (below_drew (Below.refl _ _)) (below_drew (Below.refl wi.heap.size wi)).size HB25.out) | exact keep4c HQ.out (below_drew (Below.refl _ _))) (first
              | (go_at_call 40; (with_reducible refine (HSLT.out _).mono ?_); rintro e w25 ⟨rfl, hb⟩; have HB25 := Lk.mk hb; have HA25 := Lk.mk (((HA13.out.below HJi.out).below (below_drew (Below.refl _ _))).below hb); clear hb)
              | (go_at_call 39; (with_reducible refine (HLDs.out _ HA25.out).mono ?_); rintro e w26 ⟨rfl, hb⟩; have HB26 := Lk.mk (below_then HB25.out HB25.out.size hb); have HA26 := Lk.mk (HA25.out.below hb); clear hb))
            have HBt := Lk.mk (below_then (below_drew (Below.refl wi.heap.size wi)) (below_drew (Below.refl wi.heap.size wi)).size HB26.out)
            have HX26 := Lk.mk (blk_below HXj.out (below_then HBo.out HBo.out.size HBt.out))
            obtain ⟨c0, c1, c2⟩ := cells3m HX26.out
            have HUN := Lk.mk (HNN.out _ HA26.out)
            by_cases hu : u = 0
            · subst hu
              go_wp2
              go_roundg (P.length - (i + 1))
              case measure => omega
              case rel => exact ⟨i + 1, HIJ.out, Nat.le_refl _, by go_num, ⟨below_then HBi.out HBi.out.size HBt.out⟩⟩
            · have hub : (u != 0) = true := bne_iff_ne.2 hu
              have HIu := Lk.mk (fun W => HIN.out W u HUN.out.1 (HS4.out.resolve_left hu))
              go_wp2_with (go_at_call 38; (with_reducible refine (HIu.out _).mono ?_); rintro e w27 ⟨rfl, hb⟩; have HBu := Lk.mk (below_then HBt.out HBt.out.size hb); clear hb)
              go_roundg (P.length - (i + 1))
              case measure => omega
              case rel => exact ⟨i + 1, HIJ.out, Nat.le_refl _, by go_num, ⟨below_then HBi.out HBi.out.size HBu.out⟩⟩
          · have hiz : ¬ (i : Int) < (P.length : Int) := by omega
            obtain rfl : i = P.length := by omega
            go_wp2
            go_roundg (F.length - (j + 1))
            case measure => omega
            case rel => exact ⟨j + 1, HJ.out, Nat.le_refl _, by go_num, HJi⟩
      · have h0x : 0 ≤ x2 := by omega
        have hx6 : x2 ≤ 65536 := by omega
        have hcv : IntKind.u64.wrap x2 = x2 := by unfold IntKind.wrap; show x2 % 18446744073709551616 = x2; omega
        have HIx := Lk.mk (fun W => HIN.out W x2 h0x (by have := HLR.out; omega))
        clear hln HLR hneg hx6
        obtain ⟨c0, c1, c2⟩ := cells3m HXj.out
        go_wp2
        have HS0 := Lk.mk (And.intro (And.intro m1 (And.intro m2 n1)) (cells3m HXj.out))
        go_region_held3 (fun W => (W.cell? ⟨(ad1.add (j * 3)).block, (ad1.add (j * 3)).off + 1, none⟩ = some (.int .i64 x1) ∧ W.cell? ⟨(ad1.add (j * 3)).block, (ad1.add (j * 3)).off + 2, none⟩ = some (.int .i64 x2) ∧ W.cell? ⟨(ad2.add (j * 3)).block, (ad2.add (j * 3)).off + 1, none⟩ = some (.int .i64 x1)) ∧ (W.cell? ⟨w.heap.size, 0, none⟩ = some (.int .i64 l0) ∧ W.cell? ⟨w.heap.size, 1, none⟩ = some (.int .i64 s0) ∧ W.cell? ⟨w.heap.size, 2, none⟩ = some (.int .i64 p0))) (first | exact keep6c HS0.out (below_then (below_drew (Below.refl wo.heap.size wo)) (below_drew (Below.refl wo.heap.size wo)).size HB19.out) | exact keep6c HS0.out (below_drew (Below.refl _ _))) (first
          | (go_at_call 38; (with_reducible refine (HIx.out _).mono ?_); rintro e w19 ⟨rfl, hb⟩; have HB19 := Lk.mk hb; clear hb))
        have HBd := Lk.mk (below_then (below_drew (Below.refl wo.heap.size wo)) (below_drew (Below.refl wo.heap.size wo)).size HB19.out)
        have m1' := pw_cell_below HBd.out M1.out
        go_wp2_with (go_at_call 14; (with_reducible refine (HPT.out _ _ x1 ((HTT.out.below HW13.out).below (below_then HBj.out HBj.out.size HBd.out)).or).mono ?_); rintro e w20 ⟨v, rfl, ho, hb⟩; obtain ⟨AI, cI, rfl, _, _, hI20⟩ := own_full ho; have HI20 := Lk.mk hI20; have HB20 := Lk.mk (below_then HBd.out HBd.out.size hb); clear ho hb hI20)
        have hil := HI20.out.2.1
        generalize hPL : tPtrs ent x1 = P at *
        have HPL := Lk.mk hPL
        clear hPL
        go_loopg [30] P.length (fun gg v30 W3 => ∃ i : Nat, i ≤ P.length ∧ P.length - i ≤ gg ∧ v30 = .int .i64 i ∧ Lk (Below w20.heap.size w20 W3))
        case atStart => exact ⟨0, by omega, by omega, rfl, ⟨Below.refl _ _⟩⟩
        case round =>
          obtain ⟨i, hi, hgi, rfl, HBi⟩ := hrel
          obtain ⟨wi, rfl⟩ : ∃ wi : World, wi = wr := ⟨_, rfl⟩
          have HBo := Lk.mk (below_then HB20.out HB20.out.size HBi.out)
          have HJi := Lk.mk (below_then HBj.out HBj.out.size HBo.out)
          by_cases hit : i < P.length
          · have hiz : (i : Int) < (P.length : Int) := by omega
            have HIJ := Lk.mk (show i + 1 ≤ P.length from hit)
            obtain ⟨ad3, rfl, e0⟩ := (HI20.out.below HBi.out).at_ (i : Int) (by omega) (by omega)
            rw [Int.toNat_natCast, rdk] at e0
            obtain ⟨s1, s2, s3, s4⟩ := HSl.out (P.getD i 0) (by first | exact getD_mem_int hit | (rw [HPL.out]; exact getD_mem_int hit))
            generalize P.getD i 0 = z at *
            have HSLT := Lk.mk (fun W => slot17_any (x0, (x1, x2)) z W s1 s2 (by have := HL1.out; dsimp only; omega))
            obtain ⟨sa, hsa⟩ : ∃ sa : Nat, x0 + 2 + z = sa := ⟨(x0 + 2 + z).toNat, by omega⟩
            rw [hsa] at s3 s4
            rw [Int.toNat_natCast] at s4
            have HLDs := Lk.mk (fun W (hA : ArB W (w1.heap.size + 1) w1.heap.size W1) => HLD.out W _ _ sa hA (by omega))
            have HNN := Lk.mk (fun W (hA : ArB W (w1.heap.size + 1) w1.heap.size W1) => HWW.out W _ _ hA sa)
            have HS4 := Lk.mk s4
            dsimp only at HSLT
            rw [hsa] at HSLT
            clear s1 s2 s3 s4 hsa
            generalize W1.getD sa 0 = u at *
            have q0 := pw_cell_below HBo.out M0.out
            have q1 := pw_cell_below HBo.out M1.out
            have q2 := pw_cell_below HBo.out M2.out
            have HQ := Lk.mk (And.intro e0 (And.intro q0 (And.intro q1 q2)))
            go_wp2
            go_region_held3 (fun W => W.cell? (ad3.add i) = some (.int .i64 z) ∧ W.cell? (ad1.add (j * 3)) = some (.int .i64 x0) ∧ W.cell? ⟨(ad1.add (j * 3)).block, (ad1.add (j * 3)).off + 1, none⟩ = some (.int .i64 x1) ∧ W.cell? ⟨(ad1.add (j * 3)).block, (ad1.add (j * 3)).off + 2, none⟩ = some (.int .i64 x2)) (first | exact HQ.out | exact keep4c HQ.out (below_then (below_drew (Below.refl _ _)) (below_drew (Below.refl wi.heap.size wi)).size HB26.out) | exact keep4c HQ.out (below_then (below_drew (Below.refl _ _)) (below_drew (Below.refl wi.heap.size wi)).size HB25.out) | exact keep4c HQ.out (below_drew (Below.refl _ _))) (first
              | (go_at_call 40; (with_reducible refine (HSLT.out _).mono ?_); rintro e w25 ⟨rfl, hb⟩; have HB25 := Lk.mk hb; have HA25 := Lk.mk (((HA13.out.below HJi.out).below (below_drew (Below.refl _ _))).below hb); clear hb)
              | (go_at_call 39; (with_reducible refine (HLDs.out _ HA25.out).mono ?_); rintro e w26 ⟨rfl, hb⟩; have HB26 := Lk.mk (below_then HB25.out HB25.out.size hb); have HA26 := Lk.mk (HA25.out.below hb); clear hb))
            have HBt := Lk.mk (below_then (below_drew (Below.refl wi.heap.size wi)) (below_drew (Below.refl wi.heap.size wi)).size HB26.out)
            have HX26 := Lk.mk (blk_below HXj.out (below_then HBo.out HBo.out.size HBt.out))
            obtain ⟨c0, c1, c2⟩ := cells3m HX26.out
            have HUN := Lk.mk (HNN.out _ HA26.out)
            by_cases hu : u = 0
            · subst hu
              go_wp2
              go_roundg (P.length - (i + 1))
              case measure => omega
              case rel => exact ⟨i + 1, HIJ.out, Nat.le_refl _, by go_num, ⟨below_then HBi.out HBi.out.size HBt.out⟩⟩
            · have hub : (u != 0) = true := bne_iff_ne.2 hu
              have HIu := Lk.mk (fun W => HIN.out W u HUN.out.1 (HS4.out.resolve_left hu))
              go_wp2_with (go_at_call 38; (with_reducible refine (HIu.out _).mono ?_); rintro e w27 ⟨rfl, hb⟩; have HBu := Lk.mk (below_then HBt.out HBt.out.size hb); clear hb)
              go_roundg (P.length - (i + 1))
              case measure => omega
              case rel => exact ⟨i + 1, HIJ.out, Nat.le_refl _, by go_num, ⟨below_then HBi.out HBi.out.size HBu.out⟩⟩
          · have hiz : ¬ (i : Int) < (P.length : Int) := by omega
            obtain rfl : i = P.length := by omega
            go_wp2
            go_roundg (F.length - (j + 1))
            case measure => omega
            case rel => exact ⟨j + 1, HJ.out, Nat.le_refl _, by go_num, HJi⟩
    · have hltz : ¬ (j : Int) < (F.length : Int) := by omega
      obtain rfl : j = F.length := by omega
      go_wp2_with (first
        | (go_at_call 29; (with_reducible refine (HAW.out _).mono ?_); rintro e w30 ⟨rfl, hb⟩; have HB30 := Lk.mk (below_then HBj.out HBj.out.size hb); clear hb))
      go_ret
      exact ⟨rfl, below_then HBB.out HBB.out.size HB30.out⟩
theorem lawOfMoveKeeps (V : Option Addr) (c0 : Nat) (ws : List Int) (T : Option Addr) (ct : Nat) (t : List (Int × List Int)) (x : Int × (Int × Int)) (lo size : Int) (w : World) (hz : ReadsInt w .u64 V ws.length ws) (hzw : Bm.Words ws) (_ : ws.length ≤ c0) (_ : ws.length ≤ 1048576) (ht : FnC w T t.length t) (hI : FnsIn t) (_ : t.length ≤ 1048576) (hb : ∀ f ∈ t, f.2.length ≤ 1048576) (hx : StkIn x) (_ : -9223372036854775808 ≤ lo ∧ lo ≤ 9223372036854775807) (hsz : -9223372036854775808 ≤ size ∧ size ≤ 9223372036854775807) (hT : Tab w) :
    Calls Tryd.prog 6 #[.slice V ws.length c0, .slice T t.length ct, .agg #[.int .i64 x.1, .int .i64 x.2.1, .int .i64 x.2.2], .int .i64 lo, .int .i64 size] w fun e w' => e = .returned (.bool true) ∧ Below w.heap.size w w' := by
  have hI' : FnsOk t := fnsOk_of hI hb (Nat.le_refl _)
  by_cases h1 : newOk t = true
  · by_cases h2 : 256 < ws.length
    · exact mk_early V c0 ws T ct t x.1 x.2.1 x.2.2 lo size w hz ht hI' hT (.inr (.inl h2))
    · by_cases h3 : greatL t = true
      · exact mk_early V c0 ws T ct t x.1 x.2.1 x.2.2 lo size w hz ht hI' hT (.inr (.inr h3))
      · by_cases hok : ToOk (putW zw 0 ws) (t.map entryOf) x lo size
        · obtain ⟨l0, s0, p0, a, bz, k, rfl, rfl, rfl, _, hN⟩ := toN_of hok
          exact mk_good V c0 ws T ct t l0 s0 p0 a bz k w hz hzw ht hI' hb hT h1 (by omega) (by simpa using h3) hN
        · exact mk_bad V c0 ws T ct t x.1 x.2.1 x.2.2 lo size w hz hzw ht hI' hb hT h1 (by omega) (by simpa using h3) hx.2.1 hsz hok
  · exact mk_early V c0 ws T ct t x.1 x.2.1 x.2.2 lo size w hz ht hI' hT (.inl (by simpa using h1))
end Go.Proofs.YtcepafllgjnngaaDoor
