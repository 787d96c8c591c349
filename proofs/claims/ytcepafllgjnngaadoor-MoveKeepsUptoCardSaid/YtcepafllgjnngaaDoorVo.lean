/-
  The law MoveTwice: its ways. Conditions: the table of deBruijn stands; the arguments read as told. Printed by gen_twice.py.
-/
import Derived.Test.YtcepafllgjnngaaDoorVl
import Derived.Test.YtcepafllgjnngaaDoorEe
namespace Go.Proofs.YtcepafllgjnngaaDoor
open Go.RowKit Go.Proofs.YtcepafllgjnngaaDoorW.PrintWords

theorem ArB.keep2 {w w1 : World} {g b c : Nat} {ws : List Int} (h : ArB w g b ws) (k : KeepW c w w1) (h1 : g ≠ c) (h2 : b ≠ c) : ArB w1 g b ws :=
  ⟨(k.block g (blk_lt h.head) h1).trans h.head, (k.block b (blk_lt h.row) h2).trans h.row, h.words, h.pos, h.len⟩
theorem stab_tbl {q : Option Addr} {ent : List (Int × (List Int × List Int))} {w1 w : World} {b : Nat} (ht : TblAt w1 (.pointer q) ent) (hb : Below w1.heap.size w1 w) (h1 : w1.heap.size ≤ b) : Stab b (fun W => TblOr W (.pointer q) ent) w :=
  Stab.of_old (fun _ hW => (ht.below hW).or) hb h1
theorem to_free (g b : Nat) (ws : List Int) (q : Option Addr) (ent : List (Int × (List Int × List Int))) (x : Int × (Int × Int)) (lo size : Int) (w : World) (h : ArB w g b ws) (hS : Stab b (fun W => TblOr W (.pointer q) ent) w) (he : EntIn ent) (hlen : ent.length ≤ 1048576) (hw : ∀ e ∈ ent, Bm.Words e.2.1) (hE : ∀ e ∈ ent, e.2.2.length * 8 ≤ 140737488355328) (hp : PtOk (tPtrs ent) ent) (hx : -9223372036854775808 ≤ x.2.1 ∧ x.2.1 ≤ 9223372036854775807) (hsz : -9223372036854775808 ≤ size ∧ size ≤ 9223372036854775807) :
    Calls Tryd.prog 34 #[.pointer (some ⟨g, 0, none⟩), .pointer q, .agg #[.int .i64 x.1, .int .i64 x.2.1, .int .i64 x.2.2], .int .i64 lo, .int .i64 size] w fun e w' => (∃ a b c n : Int, e = .returned (.tuple #[.agg #[.int .i64 a, .int .i64 b, .int .i64 c], .int .i64 n])) ∧ KeepW b w w' := by
  refine (to_any g b ws q ent x lo size w h hS he hlen hw hE hp hx hsz).mono ?_
  rintro e w' (⟨_, h1, _, h3⟩ | ⟨_, ⟨n, _, h1⟩, h2⟩)
  · exact ⟨⟨_, _, _, _, h1⟩, h3⟩
  · exact ⟨⟨_, _, _, _, h1⟩, KeepW.of_below h2 b⟩
set_option maxRecDepth 100000 in
set_option maxHeartbeats 2000000 in
theorem mt_early (V : Option Addr) (c0 : Nat) (ws : List Int) (T : Option Addr) (ct : Nat) (t : List (Int × List Int)) (x0 x1 x2 lo size at_ most : Int) (w : World) (hz : ReadsInt w .u64 V ws.length ws) (ht : FnC w T t.length t) (hI : FnsOk t) (hT : Tab w) (h : newOk t = false ∨ 256 < ws.length ∨ greatL t = true) :
    Calls Tryd.prog 7 #[.slice V ws.length c0, .slice T t.length ct, .agg #[.int .i64 x0, .int .i64 x1, .int .i64 x2], .int .i64 lo, .int .i64 size, .int .i64 at_, .int .i64 most] w fun e w' => e = .returned (.bool true) ∧ Below w.heap.size w w' := by
  have hmz := hz.2.1
  have h0 := below_alloc (Below.refl w.heap.size w) (.cells #[.int .i64 x0, .int .i64 x1, .int .i64 x2] 41)
  have H0 := Lk.mk h0
  have HAW := Lk.mk (fun W => awake17_any W)
  have HG := Lk.mk (fun W (hb : Below w.heap.size w W) => great_any T ct t W (ht.below hb))
  have HNW := Lk.mk (fun (hn : newOk t = false) => new_bad T ct t _ (ht.below h0) hI (hT.below h0) hn)
  have HNG := Lk.mk (fun (hn : newOk t = true) => new_good T ct t _ (ht.below h0) hI (hT.below h0) hn)
  have HH := Lk.mk h
  clear hz ht hI hT h h0
  generalize hg1 : greatL t = g1 at *
  cases hn : newOk t with
  | false =>
    have HN := Lk.mk (HNW.out hn)
    clear hn hg1
    by_cases h256 : 256 < ws.length
    · have hz : (256 : Int) < (ws.length : Int) := by omega
      clear h256
      go_enter Tryd.func7, Tryd.ntmps7
      go_wp2_with (first
        | (go_at_call 12; (with_reducible refine (HN.out).mono ?_); rintro e w1 ⟨rfl, hb⟩; have HB := Lk.mk (below_then H0.out H0.out.size hb); clear hb)
        | (go_at_call 29; (with_reducible refine (HAW.out _).mono ?_); rintro e w' ⟨rfl, hb⟩; have HB := Lk.mk (below_then HB.out HB.out.size hb); clear hb))
      go_ret
      exact ⟨rfl, HB.out⟩
    · have hz : ¬ (256 : Int) < (ws.length : Int) := by omega
      clear h256
      cases g1
      all_goals
        go_enter Tryd.func7, Tryd.ntmps7
        go_wp2_with (first
          | (go_at_call 12; (with_reducible refine (HN.out).mono ?_); rintro e w1 ⟨rfl, hb⟩; have HB := Lk.mk (below_then H0.out H0.out.size hb); clear hb)
          | (go_at_call 10; (with_reducible refine (HG.out _ HB.out).mono ?_); rintro e w' ⟨rfl, hw⟩; obtain rfl := hw.symm; clear hw)
          | (go_at_call 29; (with_reducible refine (HAW.out _).mono ?_); rintro e w' ⟨rfl, hb⟩; have HB := Lk.mk (below_then HB.out HB.out.size hb); clear hb))
        go_ret
        exact ⟨rfl, HB.out⟩
  | true =>
    have HN := Lk.mk (HNG.out hn)
    rw [hn] at HH
    clear hn hg1
    by_cases h256 : 256 < ws.length
    · have hz : (256 : Int) < (ws.length : Int) := by omega
      clear h256
      go_enter Tryd.func7, Tryd.ntmps7
      go_wp2_with (first
        | (go_at_call 12; (with_reducible refine (HN.out).mono ?_); rintro e w1 ⟨p, rfl, htb, hb⟩; have HB := Lk.mk (below_then H0.out H0.out.size hb); clear hb htb)
        | (go_at_call 29; (with_reducible refine (HAW.out _).mono ?_); rintro e w' ⟨rfl, hb⟩; have HB := Lk.mk (below_then HB.out HB.out.size hb); clear hb))
      go_ret
      exact ⟨rfl, HB.out⟩
    · have hz : ¬ (256 : Int) < (ws.length : Int) := by omega
      have hg : g1 = true := by
        rcases HH.out with h | h | h
        · exact absurd h (by decide)
        · exact absurd h h256
        · exact h
      subst hg
      clear h256
      go_enter Tryd.func7, Tryd.ntmps7
      go_wp2_with (first
        | (go_at_call 12; (with_reducible refine (HN.out).mono ?_); rintro e w1 ⟨p, rfl, htb, hb⟩; have HB := Lk.mk (below_then H0.out H0.out.size hb); clear hb htb)
        | (go_at_call 10; (with_reducible refine (HG.out _ HB.out).mono ?_); rintro e w' ⟨rfl, hw⟩; obtain rfl := hw.symm; clear hw)
        | (go_at_call 29; (with_reducible refine (HAW.out _).mono ?_); rintro e w' ⟨rfl, hb⟩; have HB := Lk.mk (below_then HB.out HB.out.size hb); clear hb))
      go_ret
      exact ⟨rfl, HB.out⟩
set_option maxRecDepth 100000 in
set_option maxHeartbeats 8000000 in
theorem mt_bad (V : Option Addr) (c0 : Nat) (ws : List Int) (T : Option Addr) (ct : Nat) (t : List (Int × List Int)) (x0 x1 x2 lo size at_ most : Int) (w : World) (hz : ReadsInt w .u64 V ws.length ws) (hzw : Bm.Words ws) (ht : FnC w T t.length t) (hI : FnsOk t) (hfb : ∀ f ∈ t, f.2.length ≤ 1048576) (hT : Tab w) (hn : newOk t = true) (h256 : ws.length ≤ 256) (hg1 : greatL t = false) (hx : -9223372036854775808 ≤ x1 ∧ x1 ≤ 9223372036854775807) (hsz : -9223372036854775808 ≤ size ∧ size ≤ 9223372036854775807) (hbad : ¬ ToOk (putW zw 0 ws) (t.map entryOf) (x0, (x1, x2)) lo size) :
    Calls Tryd.prog 7 #[.slice V ws.length c0, .slice T t.length ct, .agg #[.int .i64 x0, .int .i64 x1, .int .i64 x2], .int .i64 lo, .int .i64 size, .int .i64 at_, .int .i64 most] w fun e w' => e = .returned (.bool true) ∧ Below w.heap.size w w' := by
  have hmz := hz.2.1
  have h0 := below_alloc (Below.refl w.heap.size w) (.cells #[.int .i64 x0, .int .i64 x1, .int .i64 x2] 41)
  have H0 := Lk.mk h0
  have HX := Lk.mk (blk_new w (.cells #[.int .i64 x0, .int .i64 x1, .int .i64 x2] 41))
  have HAW := Lk.mk (fun W => awake17_any W)
  have HG := Lk.mk (fun W (hb : Below w.heap.size w W) => great_any T ct t W (ht.below hb))
  rw [hg1] at HG
  have HN := Lk.mk (new_good T ct t _ (ht.below h0) hI (hT.below h0) hn)
  have HL := Lk.mk (fun W (hb : Below w.heap.size w W) => laid17_any V c0 ws W (hz.below hb) hzw h256)
  have hzi : ¬ (256 : Int) < (ws.length : Int) := by omega
  have HTO := Lk.mk (fun W g b q (hA : ArB W g b (putW zw 0 ws)) (hp : TblOr W (.pointer q) (t.map entryOf)) => to_bad g b (putW zw 0 ws) q (t.map entryOf) (x0, (x1, x2)) lo size W hA hp (entIn_of hn) (len17 hn) (fun e he => entry_words he) hx hsz (framesA_len (entIn_of hn) hA.len _) hbad)
  dsimp only at HTO
  clear hz hzw ht hI hfb hx hsz hT hn h256 hg1 hbad h0
  generalize putW zw 0 ws = all at *
  go_enter Tryd.func7, Tryd.ntmps7
  go_wp2_with (first
    | (go_at_call 12; (with_reducible refine (HN.out).mono ?_); rintro e w1 ⟨p, rfl, htb, hb⟩; obtain ⟨q, rfl⟩ := tblPtr htb.or; have HTT := Lk.mk htb; have HW1 := Lk.mk (show w.heap.size < w1.heap.size from Nat.lt_of_lt_of_le (by simp) hb.size); have HX := Lk.mk (blk_below HX.out hb); have HB1 := Lk.mk (below_then H0.out H0.out.size hb); clear hb htb)
    | (go_at_call 10; (with_reducible refine (HG.out _ HB1.out).mono ?_); rintro e w' ⟨rfl, hw⟩; obtain rfl := hw.symm; clear hw)
    | (go_at_call 30; (with_reducible refine (HL.out _ HB2.out).mono ?_); rintro e w3 ⟨rfl, ha, hb⟩; have HN3 := Lk.mk (show w1.heap.size + 1 < w2.heap.size from blk_lt HA2.out.head); have HA3 := Lk.mk (HA2.out.below hb); have HD3 := Lk.mk ha; have HW3 := Lk.mk (below_then HW2.out HW2.out.size hb); have HX3 := Lk.mk (blk_below HX2.out hb); have HB3 := Lk.mk (below_then HB2.out HB2.out.size hb); obtain ⟨c0, c1, c2⟩ := cells3m HX3.out; clear hb ha)
    | (go_at_call 30; (with_reducible refine (HL.out _ HB1.out).mono ?_); rintro e w2 ⟨rfl, ha, hb⟩; have HA2 := Lk.mk ha; have HW2 := Lk.mk hb; have HX2 := Lk.mk (blk_below HX.out hb); have HB2 := Lk.mk (below_then HB1.out HB1.out.size hb); clear hb ha)
    | (go_at_call 34; (with_reducible refine (HTO.out _ _ _ _ HA3.out (HTT.out.below HW3.out).or).mono ?_); rintro e w5 ⟨⟨n, hne, rfl⟩, hb⟩; have HB5 := Lk.mk (below_alloc (below_then HB3.out HB3.out.size hb) (.cells #[.int .i64 0, .int .i64 0, .int .i64 0] 41)); clear hb)
    | (go_at_call 29; (with_reducible refine (HAW.out _).mono ?_); rintro e w9 ⟨rfl, hb⟩; have HB9 := Lk.mk (below_then HB5.out HB5.out.size hb); clear hb))
  go_ret
  exact ⟨rfl, HB9.out⟩
set_option maxRecDepth 100000 in
set_option maxHeartbeats 8000000 in
theorem mt_bad2 (V : Option Addr) (c0 : Nat) (ws : List Int) (T : Option Addr) (ct : Nat) (t : List (Int × List Int)) (l0 s0 p0 a bz k : Nat) (at_ most : Int) (w : World) (hz : ReadsInt w .u64 V ws.length ws) (hzw : Bm.Words ws) (ht : FnC w T t.length t) (hI : FnsOk t) (hfb : ∀ f ∈ t, f.2.length ≤ 1048576) (hT : Tab w) (hn : newOk t = true) (h256 : ws.length ≤ 256) (hg1 : greatL t = false) (hN : ToN (putW zw 0 ws) (t.map entryOf) l0 s0 p0 a bz k) (hmo : -9223372036854775808 ≤ most ∧ most ≤ 9223372036854775807) (hbad : ¬ ToOk (toW (tPtrs (t.map entryOf)) (putW zw 0 ws) (t.map entryOf) ((l0 : Int), ((s0 : Int), (p0 : Int))) a bz) (t.map entryOf) ((a : Int), ((bz : Int), (k : Int))) at_ most) :
    Calls Tryd.prog 7 #[.slice V ws.length c0, .slice T t.length ct, .agg #[.int .i64 l0, .int .i64 s0, .int .i64 p0], .int .i64 a, .int .i64 bz, .int .i64 at_, .int .i64 most] w fun e w' => e = .returned (.bool true) ∧ Below w.heap.size w w' := by
  have hmz := hz.2.1
  have h0 := below_alloc (Below.refl w.heap.size w) (.cells #[.int .i64 l0, .int .i64 s0, .int .i64 p0] 41)
  have H0 := Lk.mk h0
  have HX := Lk.mk (blk_new w (.cells #[.int .i64 l0, .int .i64 s0, .int .i64 p0] 41))
  have HAW := Lk.mk (fun W => awake17_any W)
  have HG := Lk.mk (fun W (hb : Below w.heap.size w W) => great_any T ct t W (ht.below hb))
  rw [hg1] at HG
  have HN := Lk.mk (new_good T ct t _ (ht.below h0) hI (hT.below h0) hn)
  have HL := Lk.mk (fun W (hb : Below w.heap.size w W) => laid17_any V c0 ws W (hz.below hb) hzw h256)
  have hzi : ¬ (256 : Int) < (ws.length : Int) := by omega
  have hlen : (putW zw 0 ws).length ≤ 65536 := by rw [putW_length _ _ _ (by rw [zw_len]; omega), zw_len]; omega
  have hwd : Bm.Words (putW zw 0 ws) := putW_words (words_zero _) hzw
  have hp := ptOk_of hn
  have he := entIn_of hn
  have HTG := Lk.mk (fun W g b q (hA : ArB W g b (putW zw 0 ws)) (hS : Stab b (fun W => TblOr W (.pointer q) (t.map entryOf)) W) => to_good g b (putW zw 0 ws) q (t.map entryOf) l0 s0 p0 a bz k W hA hS he (len17 hn) (fun e he => entry_words he) (ptrs17 hfb) hp (framesA_len he hlen _) hN)
  have hl1 := toW_len (pt := tPtrs (t.map entryOf)) hN
  have hsb := hN.in2
  have hsa := hN.in_
  have HTB := Lk.mk (fun W g b q (hA : ArB W g b (toW (tPtrs (t.map entryOf)) (putW zw 0 ws) (t.map entryOf) ((l0 : Int), ((s0 : Int), (p0 : Int))) a bz)) (hp' : TblOr W (.pointer q) (t.map entryOf)) => (to_bad g b _ q (t.map entryOf) ((a : Int), ((bz : Int), (k : Int))) at_ most W hA hp' he (len17 hn) (fun e he => entry_words he) (by dsimp only; omega) hmo (framesA_len he hA.len _) hbad).mono fun e w' h => (⟨h.1, KeepW.of_below h.2 b⟩ : (∃ n : Int, ¬ n = 0 ∧ e = .returned (.tuple #[.agg #[.int .i64 0, .int .i64 0, .int .i64 0], .int .i64 n])) ∧ KeepW b W w'))
  have HTF := Lk.mk (fun W g b q (hA : ArB W g b (putW zw 0 ws)) (hS : Stab b (fun W => TblOr W (.pointer q) (t.map entryOf)) W) => to_free g b (putW zw 0 ws) q (t.map entryOf) ((l0 : Int), ((s0 : Int), (p0 : Int))) at_ most W hA hS he (len17 hn) (fun e he => entry_words he) (ptrs17 hfb) hp (by dsimp only; omega) hmo)
  dsimp only at HTB HTF
  clear hz hzw ht hI hfb hmo hT hn h256 hg1 hbad h0 hlen hwd hp he hl1 hsa hsb hN
  generalize putW zw 0 ws = all at *
  generalize t.map entryOf = ent at *
  generalize toW (tPtrs ent) all ent ((l0 : Int), ((s0 : Int), (p0 : Int))) a bz = WA at *
  go_enter Tryd.func7, Tryd.ntmps7
  go_wp2_with (first
    | (go_at_call 12; (with_reducible refine (HN.out).mono ?_); rintro e w1 ⟨p, rfl, htb, hb⟩; obtain ⟨q, rfl⟩ := tblPtr htb.or; have HTT := Lk.mk htb; have HW1 := Lk.mk (show w.heap.size < w1.heap.size from Nat.lt_of_lt_of_le (by simp) hb.size); have HX := Lk.mk (blk_below HX.out hb); have HB1 := Lk.mk (below_then H0.out H0.out.size hb); clear hb htb)
    | (go_at_call 10; (with_reducible refine (HG.out _ HB1.out).mono ?_); rintro e w' ⟨rfl, hw⟩; obtain rfl := hw.symm; clear hw)
    | (go_at_call 30; (with_reducible refine (HL.out _ HB2.out).mono ?_); rintro e w3 ⟨rfl, ha, hb⟩; have HN3 := Lk.mk (show w1.heap.size + 1 < w2.heap.size from blk_lt HA2.out.head); have HA3 := Lk.mk (HA2.out.below hb); have HD3 := Lk.mk ha; have HW3 := Lk.mk (below_then HW2.out HW2.out.size hb); have HX3 := Lk.mk (blk_below HX2.out hb); have HB3 := Lk.mk (below_then HB2.out HB2.out.size hb); obtain ⟨c0, c1, c2⟩ := cells3m HX3.out; clear hb ha)
    | (go_at_call 30; (with_reducible refine (HL.out _ HB1.out).mono ?_); rintro e w2 ⟨rfl, ha, hb⟩; have HA2 := Lk.mk ha; have HW2 := Lk.mk hb; have HX2 := Lk.mk (blk_below HX.out hb); have HB2 := Lk.mk (below_then HB1.out HB1.out.size hb); clear hb ha)
    | (go_at_call 34; (with_reducible refine (HTG.out _ _ _ _ HA3.out (stab_tbl HTT.out HW3.out (Nat.le_refl _))).mono ?_); rintro e w4 ⟨rfl, ha, hk⟩; have hal := below_alloc (Below.refl w4.heap.size w4) (.cells #[.int .i64 a, .int .i64 bz, .int .i64 k] 41); have hw1 := HW1.out; have hn3 := HN3.out; have hD := HD3.out.keep2 hk (by omega) (by omega); have HA4 := Lk.mk (ha.below hal); have HD4 := Lk.mk (hD.below hal); have HW4 := Lk.mk ((hk.then_ hal).below HW3.out (Nat.le_refl _) HW3.out.size); have hX4 := (hk.block _ (blk_lt HX3.out) (by omega)).trans HX3.out; have HX4 := Lk.mk (blk_below hX4 hal); have HB4 := Lk.mk ((hk.then_ hal).below HB3.out (by omega) HB3.out.size); obtain ⟨c0, c1, c2⟩ := cells3m HX4.out; have HT4 := Lk.mk (blk_new w4 (.cells #[.int .i64 a, .int .i64 bz, .int .i64 k] 41)); have HQ4 := Lk.mk (show w1.heap.size < w4.heap.size ∧ w2.heap.size < w4.heap.size from ⟨blk_lt ha.row, blk_lt hD.row⟩); obtain ⟨d0, d1, d2⟩ := cells3m HT4.out; clear ha hk hal hw1 hn3 hD hX4)
    | (go_at_call 34; (with_reducible refine (HTB.out _ _ _ _ HA4.out (HTT.out.below HW4.out).or).mono ?_); rintro e w5 ⟨⟨n5, hne5, rfl⟩, hk⟩; have hal := below_alloc (Below.refl w5.heap.size w5) (.cells #[.int .i64 0, .int .i64 0, .int .i64 0] 41); have hw1 := HW1.out; have hn3 := HN3.out; have hq := HQ4.out; have hD := HD4.out.keep2 hk (by omega) (by omega); have HD5 := Lk.mk (hD.below hal); have HW5 := Lk.mk ((hk.then_ hal).below HW4.out (Nat.le_refl _) HW4.out.size); have hX5 := (hk.block _ (blk_lt HX4.out) (by omega)).trans HX4.out; have HX5 := Lk.mk (blk_below hX5 hal); have HB5 := Lk.mk ((hk.then_ hal).below HB4.out (by omega) HB4.out.size); obtain ⟨c0, c1, c2⟩ := cells3m HX5.out; have HT5 := Lk.mk (blk_new w5 (.cells #[.int .i64 0, .int .i64 0, .int .i64 0] 41)); have HQ5 := Lk.mk (show w2.heap.size < w5.heap.size from blk_lt hD.row); obtain ⟨f0, f1, f2⟩ := cells3m HT5.out; clear hk hal hw1 hn3 hD hX5 hq)
    | (go_at_call 34; (with_reducible refine (HTF.out _ _ _ _ HD5.out (stab_tbl HTT.out HW5.out (by have := HN3.out; omega))).mono ?_); rintro e w6 ⟨⟨y0, y1, y2, n6, rfl⟩, hk⟩; have hal := below_alloc (Below.refl w6.heap.size w6) (.cells #[.int .i64 y0, .int .i64 y1, .int .i64 y2] 41); have hw1 := HW1.out; have hn3 := HN3.out; have HB6 := Lk.mk ((hk.then_ hal).below HB5.out (by omega) HB5.out.size); clear hk hal hw1 hn3)
    | (go_at_call 29; (with_reducible refine (HAW.out _).mono ?_); rintro e w9 ⟨rfl, hb⟩; have HB9 := Lk.mk (below_then HB6.out HB6.out.size hb); clear hb))
  go_ret
  exact ⟨rfl, HB9.out⟩
set_option maxRecDepth 100000 in
set_option maxHeartbeats 8000000 in
theorem mt_bad3 (V : Option Addr) (c0 : Nat) (ws : List Int) (T : Option Addr) (ct : Nat) (t : List (Int × List Int)) (l0 s0 p0 a bz k a2 b2 k2 : Nat) (w : World) (hz : ReadsInt w .u64 V ws.length ws) (hzw : Bm.Words ws) (ht : FnC w T t.length t) (hI : FnsOk t) (hfb : ∀ f ∈ t, f.2.length ≤ 1048576) (hT : Tab w) (hn : newOk t = true) (h256 : ws.length ≤ 256) (hg1 : greatL t = false) (hN : ToN (putW zw 0 ws) (t.map entryOf) l0 s0 p0 a bz k) (hN2 : ToN (toW (tPtrs (t.map entryOf)) (putW zw 0 ws) (t.map entryOf) ((l0 : Int), ((s0 : Int), (p0 : Int))) a bz) (t.map entryOf) a bz k a2 b2 k2) (hbad : ¬ ToOk (putW zw 0 ws) (t.map entryOf) ((l0 : Int), ((s0 : Int), (p0 : Int))) a2 b2) :
    Calls Tryd.prog 7 #[.slice V ws.length c0, .slice T t.length ct, .agg #[.int .i64 l0, .int .i64 s0, .int .i64 p0], .int .i64 a, .int .i64 bz, .int .i64 a2, .int .i64 b2] w fun e w' => e = .returned (.bool true) ∧ Below w.heap.size w w' := by
  have hmz := hz.2.1
  have h0 := below_alloc (Below.refl w.heap.size w) (.cells #[.int .i64 l0, .int .i64 s0, .int .i64 p0] 41)
  have H0 := Lk.mk h0
  have HX := Lk.mk (blk_new w (.cells #[.int .i64 l0, .int .i64 s0, .int .i64 p0] 41))
  have HAW := Lk.mk (fun W => awake17_any W)
  have HG := Lk.mk (fun W (hb : Below w.heap.size w W) => great_any T ct t W (ht.below hb))
  rw [hg1] at HG
  have HN := Lk.mk (new_good T ct t _ (ht.below h0) hI (hT.below h0) hn)
  have HL := Lk.mk (fun W (hb : Below w.heap.size w W) => laid17_any V c0 ws W (hz.below hb) hzw h256)
  have hzi : ¬ (256 : Int) < (ws.length : Int) := by omega
  have hlen : (putW zw 0 ws).length ≤ 65536 := by rw [putW_length _ _ _ (by rw [zw_len]; omega), zw_len]; omega
  have hwd : Bm.Words (putW zw 0 ws) := putW_words (words_zero _) hzw
  have hp := ptOk_of hn
  have he := entIn_of hn
  have HTG := Lk.mk (fun W g b q (hA : ArB W g b (putW zw 0 ws)) (hS : Stab b (fun W => TblOr W (.pointer q) (t.map entryOf)) W) => to_good g b (putW zw 0 ws) q (t.map entryOf) l0 s0 p0 a bz k W hA hS he (len17 hn) (fun e he => entry_words he) (ptrs17 hfb) hp (framesA_len he hlen _) hN)
  have hl1 := toW_len (pt := tPtrs (t.map entryOf)) hN
  have HTB := Lk.mk (fun W g b q (hA : ArB W g b (toW (tPtrs (t.map entryOf)) (putW zw 0 ws) (t.map entryOf) ((l0 : Int), ((s0 : Int), (p0 : Int))) a bz)) (hS : Stab b (fun W => TblOr W (.pointer q) (t.map entryOf)) W) => to_good g b _ q (t.map entryOf) a bz k a2 b2 k2 W hA hS he (len17 hn) (fun e he => entry_words he) (ptrs17 hfb) hp (framesA_len he hA.len _) hN2)
  have hsb := hN2.in2
  have hsa := hN.in_
  rw [hl1] at hsb
  have HTD := Lk.mk (fun W g b q (hA : ArB W g b (putW zw 0 ws)) (hp' : TblOr W (.pointer q) (t.map entryOf)) => to_bad g b _ q (t.map entryOf) ((l0 : Int), ((s0 : Int), (p0 : Int))) a2 b2 W hA hp' he (len17 hn) (fun e he => entry_words he) (by dsimp only; omega) (by omega) (framesA_len he hA.len _) hbad)
  dsimp only at HTD
  clear hz hzw ht hI hfb hT hn h256 hg1 hbad h0 hlen hwd hp he hl1 hsa hsb hN hN2
  generalize putW zw 0 ws = all at *
  generalize t.map entryOf = ent at *
  generalize toW (tPtrs ent) all ent ((l0 : Int), ((s0 : Int), (p0 : Int))) a bz = WA at *
  generalize toW (tPtrs ent) WA ent ((a : Int), ((bz : Int), (k : Int))) a2 b2 = WB at *
  go_enter Tryd.func7, Tryd.ntmps7
  go_wp2_with (first
    | (go_at_call 12; (with_reducible refine (HN.out).mono ?_); rintro e w1 ⟨p, rfl, htb, hb⟩; obtain ⟨q, rfl⟩ := tblPtr htb.or; have HTT := Lk.mk htb; have HW1 := Lk.mk (show w.heap.size < w1.heap.size from Nat.lt_of_lt_of_le (by simp) hb.size); have HX := Lk.mk (blk_below HX.out hb); have HB1 := Lk.mk (below_then H0.out H0.out.size hb); clear hb htb)
    | (go_at_call 10; (with_reducible refine (HG.out _ HB1.out).mono ?_); rintro e w' ⟨rfl, hw⟩; obtain rfl := hw.symm; clear hw)
    | (go_at_call 30; (with_reducible refine (HL.out _ HB2.out).mono ?_); rintro e w3 ⟨rfl, ha, hb⟩; have HN3 := Lk.mk (show w1.heap.size + 1 < w2.heap.size from blk_lt HA2.out.head); have HA3 := Lk.mk (HA2.out.below hb); have HD3 := Lk.mk ha; have HW3 := Lk.mk (below_then HW2.out HW2.out.size hb); have HX3 := Lk.mk (blk_below HX2.out hb); have HB3 := Lk.mk (below_then HB2.out HB2.out.size hb); obtain ⟨c0, c1, c2⟩ := cells3m HX3.out; clear hb ha)
    | (go_at_call 30; (with_reducible refine (HL.out _ HB1.out).mono ?_); rintro e w2 ⟨rfl, ha, hb⟩; have HA2 := Lk.mk ha; have HW2 := Lk.mk hb; have HX2 := Lk.mk (blk_below HX.out hb); have HB2 := Lk.mk (below_then HB1.out HB1.out.size hb); clear hb ha)
    | (go_at_call 34; (with_reducible refine (HTG.out _ _ _ _ HA3.out (stab_tbl HTT.out HW3.out (Nat.le_refl _))).mono ?_); rintro e w4 ⟨rfl, ha, hk⟩; have hal := below_alloc (Below.refl w4.heap.size w4) (.cells #[.int .i64 a, .int .i64 bz, .int .i64 k] 41); have hw1 := HW1.out; have hn3 := HN3.out; have hD := HD3.out.keep2 hk (by omega) (by omega); have HA4 := Lk.mk (ha.below hal); have HD4 := Lk.mk (hD.below hal); have HW4 := Lk.mk ((hk.then_ hal).below HW3.out (Nat.le_refl _) HW3.out.size); have hX4 := (hk.block _ (blk_lt HX3.out) (by omega)).trans HX3.out; have HX4 := Lk.mk (blk_below hX4 hal); have HB4 := Lk.mk ((hk.then_ hal).below HB3.out (by omega) HB3.out.size); obtain ⟨c0, c1, c2⟩ := cells3m HX4.out; have HT4 := Lk.mk (blk_new w4 (.cells #[.int .i64 a, .int .i64 bz, .int .i64 k] 41)); have HQ4 := Lk.mk (show w1.heap.size < w4.heap.size ∧ w2.heap.size < w4.heap.size from ⟨blk_lt ha.row, blk_lt hD.row⟩); obtain ⟨d0, d1, d2⟩ := cells3m HT4.out; clear ha hk hal hw1 hn3 hD hX4)
    | (go_at_call 34; (with_reducible refine (HTB.out _ _ _ _ HA4.out (stab_tbl HTT.out HW4.out (Nat.le_refl _))).mono ?_); rintro e w5 ⟨rfl, ha, hk⟩; have hal := below_alloc (Below.refl w5.heap.size w5) (.cells #[.int .i64 a2, .int .i64 b2, .int .i64 k2] 41); have hw1 := HW1.out; have hn3 := HN3.out; have hq := HQ4.out; have hD := HD4.out.keep2 hk (by omega) (by omega); have HA5 := Lk.mk (ha.below hal); have HD5 := Lk.mk (hD.below hal); have HW5 := Lk.mk ((hk.then_ hal).below HW4.out (Nat.le_refl _) HW4.out.size); have hX5 := (hk.block _ (blk_lt HX4.out) (by omega)).trans HX4.out; have HX5 := Lk.mk (blk_below hX5 hal); have HB5 := Lk.mk ((hk.then_ hal).below HB4.out (by omega) HB4.out.size); obtain ⟨c0, c1, c2⟩ := cells3m HX5.out; have HT5 := Lk.mk (blk_new w5 (.cells #[.int .i64 a2, .int .i64 b2, .int .i64 k2] 41)); have HQ5 := Lk.mk (show w2.heap.size < w5.heap.size from blk_lt hD.row); obtain ⟨f0, f1, f2⟩ := cells3m HT5.out; clear ha hk hal hw1 hn3 hD hX5 hq)
    | (go_at_call 34; (with_reducible refine (HTD.out _ _ _ _ HD5.out (HTT.out.below HW5.out).or).mono ?_); rintro e w6 ⟨⟨n6, hne6, rfl⟩, hb⟩; have hal := below_alloc (Below.refl w6.heap.size w6) (.cells #[.int .i64 0, .int .i64 0, .int .i64 0] 41); have hw1 := HW1.out; have hn3 := HN3.out; have hq := HQ5.out; have HB6 := Lk.mk (below_alloc (below_then HB5.out HB5.out.size hb) (.cells #[.int .i64 0, .int .i64 0, .int .i64 0] 41)); clear hb hal hw1 hn3 hq)
    | (go_at_call 29; (with_reducible refine (HAW.out _).mono ?_); rintro e w9 ⟨rfl, hb⟩; have HB9 := Lk.mk (below_then HB6.out HB6.out.size hb); clear hb))
  go_ret
  exact ⟨rfl, HB9.out⟩
set_option maxRecDepth 100000 in
set_option maxHeartbeats 8000000 in
theorem mt_good (V : Option Addr) (c0 : Nat) (ws : List Int) (T : Option Addr) (ct : Nat) (t : List (Int × List Int)) (l0 s0 p0 a bz k a2 b2 k2 : Nat) (w : World) (hz : ReadsInt w .u64 V ws.length ws) (hzw : Bm.Words ws) (ht : FnC w T t.length t) (hI : FnsOk t) (hfb : ∀ f ∈ t, f.2.length ≤ 1048576) (hT : Tab w) (hn : newOk t = true) (h256 : ws.length ≤ 256) (hg1 : greatL t = false) (hN : ToN (putW zw 0 ws) (t.map entryOf) l0 s0 p0 a bz k) (hN2 : ToN (toW (tPtrs (t.map entryOf)) (putW zw 0 ws) (t.map entryOf) ((l0 : Int), ((s0 : Int), (p0 : Int))) a bz) (t.map entryOf) a bz k a2 b2 k2) (hN3 : ToN (putW zw 0 ws) (t.map entryOf) l0 s0 p0 a2 b2 k2) :
    Calls Tryd.prog 7 #[.slice V ws.length c0, .slice T t.length ct, .agg #[.int .i64 l0, .int .i64 s0, .int .i64 p0], .int .i64 a, .int .i64 bz, .int .i64 a2, .int .i64 b2] w fun e w' => e = .returned (.bool true) ∧ Below w.heap.size w w' := by
  have hmz := hz.2.1
  have h0 := below_alloc (Below.refl w.heap.size w) (.cells #[.int .i64 l0, .int .i64 s0, .int .i64 p0] 41)
  have H0 := Lk.mk h0
  have HX := Lk.mk (blk_new w (.cells #[.int .i64 l0, .int .i64 s0, .int .i64 p0] 41))
  have HAW := Lk.mk (fun W => awake17_any W)
  have HG := Lk.mk (fun W (hb : Below w.heap.size w W) => great_any T ct t W (ht.below hb))
  rw [hg1] at HG
  have HN := Lk.mk (new_good T ct t _ (ht.below h0) hI (hT.below h0) hn)
  have HL := Lk.mk (fun W (hb : Below w.heap.size w W) => laid17_any V c0 ws W (hz.below hb) hzw h256)
  have hzi : ¬ (256 : Int) < (ws.length : Int) := by omega
  have hlen : (putW zw 0 ws).length ≤ 65536 := by rw [putW_length _ _ _ (by rw [zw_len]; omega), zw_len]; omega
  have hwd : Bm.Words (putW zw 0 ws) := putW_words (words_zero _) hzw
  have hp := ptOk_of hn
  have he := entIn_of hn
  have HTG := Lk.mk (fun W g b q (hA : ArB W g b (putW zw 0 ws)) (hS : Stab b (fun W => TblOr W (.pointer q) (t.map entryOf)) W) => to_good g b (putW zw 0 ws) q (t.map entryOf) l0 s0 p0 a bz k W hA hS he (len17 hn) (fun e he => entry_words he) (ptrs17 hfb) hp (framesA_len he hlen _) hN)
  have hl1 := toW_len (pt := tPtrs (t.map entryOf)) hN
  have HTB := Lk.mk (fun W g b q (hA : ArB W g b (toW (tPtrs (t.map entryOf)) (putW zw 0 ws) (t.map entryOf) ((l0 : Int), ((s0 : Int), (p0 : Int))) a bz)) (hS : Stab b (fun W => TblOr W (.pointer q) (t.map entryOf)) W) => to_good g b _ q (t.map entryOf) a bz k a2 b2 k2 W hA hS he (len17 hn) (fun e he => entry_words he) (ptrs17 hfb) hp (framesA_len he hA.len _) hN2)
  have HTD := Lk.mk (fun W g b q (hA : ArB W g b (putW zw 0 ws)) (hS : Stab b (fun W => TblOr W (.pointer q) (t.map entryOf)) W) => to_good g b _ q (t.map entryOf) l0 s0 p0 a2 b2 k2 W hA hS he (len17 hn) (fun e he => entry_words he) (ptrs17 hfb) hp (framesA_len he hA.len _) hN3)
  have hl2 := toW_len (pt := tPtrs (t.map entryOf)) hN2
  have hl3 := toW_len (pt := tPtrs (t.map entryOf)) hN3
  have HEQ := Lk.mk (twice_plain hp he hlen hwd hN rfl hN2 hN3).2
  have hin2 := hN3.in2
  have hkk1 := hN3.k1
  have hkk2 := hN3.k2
  have hss2 := hN3.sp2
  have hsm := small_of hlen hN3.may2
  obtain ⟨n, hnn⟩ : ∃ n, n = a2 + b2 - k2 := ⟨_, rfl⟩
  have HU := Lk.mk (fun W => by
    have h9 := used_all ((a2 : Int), ((b2 : Int), (k2 : Int))) W
    rw [usedL_small hsm.1 hsm.2] at h9
    dsimp only at h9
    rw [show (a2 : Int) + b2 - k2 = (n : Int) by omega] at h9
    exact h9)
  rw [← hnn] at HEQ
  have HR1 := Lk.mk (fun W g b (hA : ArB W g b (toW (tPtrs (t.map entryOf)) (toW (tPtrs (t.map entryOf)) (putW zw 0 ws) (t.map entryOf) ((l0 : Int), ((s0 : Int), (p0 : Int))) a bz) (t.map entryOf) ((a : Int), ((bz : Int), (k : Int))) a2 b2)) => row_ok g b _ k2 n W hA (by rw [hl2, hl1]; omega))
  have HR2 := Lk.mk (fun W g b (hA : ArB W g b (toW (tPtrs (t.map entryOf)) (putW zw 0 ws) (t.map entryOf) ((l0 : Int), ((s0 : Int), (p0 : Int))) a2 b2)) => row_ok g b _ k2 n W hA (by rw [hl3]; omega))
  clear hz hzw ht hI hfb hT hn h256 hg1 h0 hlen hwd hp he hl1 hl2 hl3 hN hN2 hN3 hin2 hkk1 hkk2 hss2 hsm hnn
  generalize putW zw 0 ws = all at *
  generalize t.map entryOf = ent at *
  generalize toW (tPtrs ent) all ent ((l0 : Int), ((s0 : Int), (p0 : Int))) a bz = WA at *
  generalize toW (tPtrs ent) WA ent ((a : Int), ((bz : Int), (k : Int))) a2 b2 = WB at *
  generalize toW (tPtrs ent) all ent ((l0 : Int), ((s0 : Int), (p0 : Int))) a2 b2 = WD at *
  rw [HEQ.out] at HR1
  generalize (WD.drop k2).take n = R at *
  have HSM := Lk.mk (fun W A c B d (h1 : ReadsInt W .u64 A R.length R) (h2 : ReadsInt W .u64 B R.length R) => by
    have h9 := rsame04_any A c R B d R W h1 h2
    rw [decide_eq_true rfl] at h9
    exact h9)
  go_enter Tryd.func7, Tryd.ntmps7
  go_wp2_with (first
    | (go_at_call 12; (with_reducible refine (HN.out).mono ?_); rintro e w1 ⟨p, rfl, htb, hb⟩; obtain ⟨q, rfl⟩ := tblPtr htb.or; have HTT := Lk.mk htb; have HW1 := Lk.mk (show w.heap.size < w1.heap.size from Nat.lt_of_lt_of_le (by simp) hb.size); have HX := Lk.mk (blk_below HX.out hb); have HB1 := Lk.mk (below_then H0.out H0.out.size hb); clear hb htb)
    | (go_at_call 10; (with_reducible refine (HG.out _ HB1.out).mono ?_); rintro e w' ⟨rfl, hw⟩; obtain rfl := hw.symm; clear hw)
    | (go_at_call 30; (with_reducible refine (HL.out _ HB2.out).mono ?_); rintro e w3 ⟨rfl, ha, hb⟩; have HN3 := Lk.mk (show w1.heap.size + 1 < w2.heap.size from blk_lt HA2.out.head); have HA3 := Lk.mk (HA2.out.below hb); have HD3 := Lk.mk ha; have HW3 := Lk.mk (below_then HW2.out HW2.out.size hb); have HX3 := Lk.mk (blk_below HX2.out hb); have HB3 := Lk.mk (below_then HB2.out HB2.out.size hb); obtain ⟨c0, c1, c2⟩ := cells3m HX3.out; clear hb ha)
    | (go_at_call 30; (with_reducible refine (HL.out _ HB1.out).mono ?_); rintro e w2 ⟨rfl, ha, hb⟩; have HA2 := Lk.mk ha; have HW2 := Lk.mk hb; have HX2 := Lk.mk (blk_below HX.out hb); have HB2 := Lk.mk (below_then HB1.out HB1.out.size hb); clear hb ha)
    | (go_at_call 34; (with_reducible refine (HTG.out _ _ _ _ HA3.out (stab_tbl HTT.out HW3.out (Nat.le_refl _))).mono ?_); rintro e w4 ⟨rfl, ha, hk⟩; have hal := below_alloc (Below.refl w4.heap.size w4) (.cells #[.int .i64 a, .int .i64 bz, .int .i64 k] 41); have hw1 := HW1.out; have hn3 := HN3.out; have hD := HD3.out.keep2 hk (by omega) (by omega); have HA4 := Lk.mk (ha.below hal); have HD4 := Lk.mk (hD.below hal); have HW4 := Lk.mk ((hk.then_ hal).below HW3.out (Nat.le_refl _) HW3.out.size); have hX4 := (hk.block _ (blk_lt HX3.out) (by omega)).trans HX3.out; have HX4 := Lk.mk (blk_below hX4 hal); have HB4 := Lk.mk ((hk.then_ hal).below HB3.out (by omega) HB3.out.size); obtain ⟨c0, c1, c2⟩ := cells3m HX4.out; have HT4 := Lk.mk (blk_new w4 (.cells #[.int .i64 a, .int .i64 bz, .int .i64 k] 41)); have HQ4 := Lk.mk (show w1.heap.size < w4.heap.size ∧ w2.heap.size < w4.heap.size from ⟨blk_lt ha.row, blk_lt hD.row⟩); obtain ⟨d0, d1, d2⟩ := cells3m HT4.out; clear ha hk hal hw1 hn3 hD hX4)
    | (go_at_call 34; (with_reducible refine (HTB.out _ _ _ _ HA4.out (stab_tbl HTT.out HW4.out (Nat.le_refl _))).mono ?_); rintro e w5 ⟨rfl, ha, hk⟩; have hal := below_alloc (Below.refl w5.heap.size w5) (.cells #[.int .i64 a2, .int .i64 b2, .int .i64 k2] 41); have hw1 := HW1.out; have hn3 := HN3.out; have hq := HQ4.out; have hD := HD4.out.keep2 hk (by omega) (by omega); have HA5 := Lk.mk (ha.below hal); have HD5 := Lk.mk (hD.below hal); have HW5 := Lk.mk ((hk.then_ hal).below HW4.out (Nat.le_refl _) HW4.out.size); have hX5 := (hk.block _ (blk_lt HX4.out) (by omega)).trans HX4.out; have HX5 := Lk.mk (blk_below hX5 hal); have HB5 := Lk.mk ((hk.then_ hal).below HB4.out (by omega) HB4.out.size); obtain ⟨c0, c1, c2⟩ := cells3m HX5.out; have HT5 := Lk.mk (blk_new w5 (.cells #[.int .i64 a2, .int .i64 b2, .int .i64 k2] 41)); have HQ5 := Lk.mk (show w2.heap.size < w5.heap.size from blk_lt hD.row); obtain ⟨f0, f1, f2⟩ := cells3m HT5.out; clear ha hk hal hw1 hn3 hD hX5 hq)
    | (go_at_call 34; (with_reducible refine (HTD.out _ _ _ _ HD5.out (stab_tbl HTT.out HW5.out (by have := HN3.out; omega))).mono ?_); rintro e w6 ⟨rfl, ha, hk⟩; have hal := below_alloc (Below.refl w6.heap.size w6) (.cells #[.int .i64 a2, .int .i64 b2, .int .i64 k2] 41); have hw1 := HW1.out; have hn3 := HN3.out; have hq := HQ5.out; have HD6 := Lk.mk (ha.below hal); have hA6 := HA5.out.keep2 hk (by omega) (by omega); have HA6 := Lk.mk (hA6.below hal); have hT6 := (hk.block _ (blk_lt HT5.out) (by omega)).trans HT5.out; have HT6 := Lk.mk (blk_below hT6 hal); have HR6 := Lk.mk (blk_new w6 (.cells #[.int .i64 a2, .int .i64 b2, .int .i64 k2] 41)); have HB6 := Lk.mk ((hk.then_ hal).below HB5.out (by omega) HB5.out.size); obtain ⟨f0, f1, f2⟩ := cells3m HT6.out; obtain ⟨g0, g1, g2⟩ := cells3m HR6.out; clear hA6 hT6; clear ha hk hal hw1 hn3 hq))
  have HTe := Lk.mk (blk_drew HT6.out)
  have HRe := Lk.mk (blk_drew HR6.out)
  have HAe := Lk.mk (HA6.out.below (below_drew (Below.refl _ _)))
  have HDe := Lk.mk (HD6.out.below (below_drew (Below.refl _ _)))
  have HBe := Lk.mk (below_drew HB6.out)
  go_region_held3 (fun W => W.cell? ⟨w5.heap.size, 0, none⟩ = some (.int .i64 a2) ∧ W.cell? ⟨w5.heap.size, 1, none⟩ = some (.int .i64 b2) ∧ W.cell? ⟨w5.heap.size, 2, none⟩ = some (.int .i64 k2)) (first | exact cells3m HT8.out | exact cells3m HT7.out | exact cells3m HTe.out) (first
    | (go_at_call 37; (with_reducible refine (HU.out _).mono ?_); rintro e w7 ⟨rfl, hb⟩; have HA7 := Lk.mk (HAe.out.below hb); have HD7 := Lk.mk (HDe.out.below hb); have HT7 := Lk.mk (blk_below HTe.out hb); have HR7 := Lk.mk (blk_below HRe.out hb); have HB7 := Lk.mk (below_then HBe.out HBe.out.size hb); clear hb)
    | (go_at_call 33; (with_reducible refine (HR1.out _ _ _ HA7.out).mono ?_); rintro e w8 ⟨v, rfl, ho, hb⟩; obtain ⟨AV, cV, rfl, _, _, _⟩ := own_full ho; have HV8 := Lk.mk (own_again17 ho); have HD8 := Lk.mk (HD7.out.below hb); have HT8 := Lk.mk (blk_below HT7.out hb); have HR8 := Lk.mk (blk_below HR7.out hb); have HB8 := Lk.mk (below_then HB7.out HB7.out.size hb); clear hb ho))
  obtain ⟨g0, g1, g2⟩ := cells3m HR8.out
  go_wp2
  have HTf := Lk.mk (blk_drew HT8.out)
  have HRf := Lk.mk (blk_drew HR8.out)
  have HDf := Lk.mk (HD8.out.below (below_drew (Below.refl _ _)))
  have HVf := Lk.mk (HV8.out.below (below_drew (Below.refl _ _)))
  have HBf := Lk.mk (below_drew HB8.out)
  go_region_held3 (fun W => W.cell? ⟨w6.heap.size, 0, none⟩ = some (.int .i64 a2) ∧ W.cell? ⟨w6.heap.size, 1, none⟩ = some (.int .i64 b2) ∧ W.cell? ⟨w6.heap.size, 2, none⟩ = some (.int .i64 k2)) (first | exact cells3m HR10.out | exact cells3m HR9.out | exact cells3m HRf.out) (first
    | (go_at_call 37; (with_reducible refine (HU.out _).mono ?_); rintro e w9 ⟨rfl, hb⟩; have HD9 := Lk.mk (HDf.out.below hb); have HV9 := Lk.mk (HVf.out.below hb); have HT9 := Lk.mk (blk_below HTf.out hb); have HR9 := Lk.mk (blk_below HRf.out hb); have HB9 := Lk.mk (below_then HBf.out HBf.out.size hb); clear hb)
    | (go_at_call 33; (with_reducible refine (HR2.out _ _ _ HD9.out).mono ?_); rintro e w10 ⟨v, rfl, ho, hb⟩; obtain ⟨AU, cU, rfl, _, _, _⟩ := own_full ho; have HU10 := Lk.mk (own_again17 ho); have HV10 := Lk.mk (HV9.out.below hb); have HT10 := Lk.mk (blk_below HT9.out hb); have HR10 := Lk.mk (blk_below HR9.out hb); have HB10 := Lk.mk (below_then HB9.out HB9.out.size hb); clear hb ho))
  obtain ⟨e0, e1, e2⟩ := cells3m HT10.out
  obtain ⟨g0, g1, g2⟩ := cells3m HR10.out
  go_wp2_with (first
    | (go_at_call 36; (with_reducible refine (HSM.out _ _ _ _ _ HV10.out HU10.out).mono ?_); rintro e w11 ⟨rfl, hb⟩; have HB11 := Lk.mk (below_then HB10.out HB10.out.size hb); clear hb)
    | (go_at_call 29; (with_reducible refine (HAW.out _).mono ?_); rintro e w12 ⟨rfl, hb⟩; have HB12 := Lk.mk (below_then HB11.out HB11.out.size hb); clear hb))
  go_ret
  exact ⟨rfl, HB12.out⟩
theorem lawOfMoveTwice (V : Option Addr) (c0 : Nat) (ws : List Int) (T : Option Addr) (ct : Nat) (t : List (Int × List Int)) (x : Int × (Int × Int)) (lo size at_ most : Int) (w : World) (hz : ReadsInt w .u64 V ws.length ws) (hzw : Bm.Words ws) (_ : ws.length ≤ c0) (_ : ws.length ≤ 1048576) (ht : FnC w T t.length t) (hI : FnsIn t) (_ : t.length ≤ 1048576) (hb : ∀ f ∈ t, f.2.length ≤ 1048576) (hx : StkIn x) (_ : -9223372036854775808 ≤ lo ∧ lo ≤ 9223372036854775807) (hsz : -9223372036854775808 ≤ size ∧ size ≤ 9223372036854775807) (_ : -9223372036854775808 ≤ at_ ∧ at_ ≤ 9223372036854775807) (hmo : -9223372036854775808 ≤ most ∧ most ≤ 9223372036854775807) (hT : Tab w) :
    Calls Tryd.prog 7 #[.slice V ws.length c0, .slice T t.length ct, .agg #[.int .i64 x.1, .int .i64 x.2.1, .int .i64 x.2.2], .int .i64 lo, .int .i64 size, .int .i64 at_, .int .i64 most] w fun e w' => e = .returned (.bool true) ∧ Below w.heap.size w w' := by
  have hI' : FnsOk t := fnsOk_of hI hb (Nat.le_refl _)
  by_cases h1 : newOk t = true
  · by_cases h2 : 256 < ws.length
    · exact mt_early V c0 ws T ct t x.1 x.2.1 x.2.2 lo size at_ most w hz ht hI' hT (.inr (.inl h2))
    · by_cases h3 : greatL t = true
      · exact mt_early V c0 ws T ct t x.1 x.2.1 x.2.2 lo size at_ most w hz ht hI' hT (.inr (.inr h3))
      · by_cases hok : ToOk (putW zw 0 ws) (t.map entryOf) x lo size
        · obtain ⟨l0, s0, p0, a, bz, k, rfl, rfl, rfl, _, hN⟩ := toN_of hok
          by_cases hok2 : ToOk (toW (tPtrs (t.map entryOf)) (putW zw 0 ws) (t.map entryOf) ((l0 : Int), ((s0 : Int), (p0 : Int))) a bz) (t.map entryOf) ((a : Int), ((bz : Int), (k : Int))) at_ most
          · obtain ⟨l1, s1, p1, a2, b2, k2, hx1, rfl, rfl, _, hN2⟩ := toN_of hok2
            simp only [Prod.mk.injEq] at hx1
            obtain ⟨e1, e2, e3⟩ := hx1
            obtain rfl : a = l1 := by omega
            obtain rfl : bz = s1 := by omega
            obtain rfl : k = p1 := by omega
            by_cases hok3 : ToOk (putW zw 0 ws) (t.map entryOf) ((l0 : Int), ((s0 : Int), (p0 : Int))) a2 b2
            · obtain ⟨l3, s3, p3, a3, b3, k3, hx3, ea, eb, _, hN3⟩ := toN_of hok3
              simp only [Prod.mk.injEq] at hx3
              obtain ⟨e4, e5, e6⟩ := hx3
              obtain rfl : l0 = l3 := by omega
              obtain rfl : s0 = s3 := by omega
              obtain rfl : p0 = p3 := by omega
              obtain rfl : a2 = a3 := by omega
              obtain rfl : b2 = b3 := by omega
              have hk := hN.k2
              have hk2 := hN2.k2
              have hk3 := hN3.k2
              have hs2 := hN.sp2
              have hs3 := hN2.sp2
              obtain rfl : k2 = k3 := by omega
              exact mt_good V c0 ws T ct t l0 s0 p0 a bz k a2 b2 k2 w hz hzw ht hI' hb hT h1 (by omega) (by simpa using h3) hN hN2 hN3
            · exact mt_bad3 V c0 ws T ct t l0 s0 p0 a bz k a2 b2 k2 w hz hzw ht hI' hb hT h1 (by omega) (by simpa using h3) hN hN2 hok3
          · exact mt_bad2 V c0 ws T ct t l0 s0 p0 a bz k at_ most w hz hzw ht hI' hb hT h1 (by omega) (by simpa using h3) hN hmo hok2
        · exact mt_bad V c0 ws T ct t x.1 x.2.1 x.2.2 lo size at_ most w hz hzw ht hI' hb hT h1 (by omega) (by simpa using h3) hx.2.1 hsz hok
  · exact mt_early V c0 ws T ct t x.1 x.2.1 x.2.2 lo size at_ most w hz ht hI' hT (.inl (by simpa using h1))
end Go.Proofs.YtcepafllgjnngaaDoor
