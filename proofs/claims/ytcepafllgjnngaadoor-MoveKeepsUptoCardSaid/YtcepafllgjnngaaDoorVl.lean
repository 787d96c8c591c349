/-
  The law MoveBack where the stack is moved; the law. Conditions: the table of deBruijn stands; the arguments read as told.
-/
import Derived.Test.YtcepafllgjnngaaDoorVk
namespace Go.Proofs.YtcepafllgjnngaaDoor
open Go.RowKit Go.Proofs.YtcepafllgjnngaaDoorW.PrintWords

theorem usedL_small {x : Int × (Int × Int)} (hx : Small x) (h2 : x.2.2 ≤ x.1 + x.2.1) : usedL x = x.1 + x.2.1 - x.2.2 := by
  have hp : plainB x = true := by
    unfold plainB
    obtain ⟨a1, a2, a3, a4, a5, a6⟩ := hx
    simp only [List.any_cons, List.any_nil, off_no a1 (by omega), off_no (Int.le_of_lt a3) (by omega), off_no a5 (by omega), Bool.or_false]
    rfl
  unfold usedL
  rw [if_pos hp, if_pos (by omega)]
theorem own_again17 {w : World} {base n c : Nat} {A : Option Addr} {l : List Int} (h : w.ownsRow base 23 1 (.slice A n c) n (nums .u64 l)) : ReadsInt w .u64 A n l := by
  obtain ⟨A', c', he, _, _, hr⟩ := own_full h
  injection he with h1 _ _
  rw [h1]; exact hr
set_option maxRecDepth 100000 in
set_option maxHeartbeats 8000000 in
theorem mb_good (V : Option Addr) (c0 : Nat) (ws : List Int) (T : Option Addr) (ct : Nat) (t : List (Int × List Int)) (l0 s0 p0 a bz k : Nat) (w : World) (hz : ReadsInt w .u64 V ws.length ws) (hzw : Bm.Words ws) (ht : FnC w T t.length t) (hI : FnsOk t) (hfb : ∀ f ∈ t, f.2.length ≤ 1048576) (hT : Tab w) (hn : newOk t = true) (h256 : ws.length ≤ 256) (hg1 : greatL t = false) (hN : ToN (putW zw 0 ws) (t.map entryOf) l0 s0 p0 a bz k) :
    Calls Tryd.prog 8 #[.slice V ws.length c0, .slice T t.length ct, .agg #[.int .i64 l0, .int .i64 s0, .int .i64 p0], .int .i64 a, .int .i64 bz] w fun e w' => e = .returned (.bool true) ∧ Below w.heap.size w w' := by
  have hmz := hz.2.1
  have h0 := below_alloc (Below.refl w.heap.size w) (.cells #[.int .i64 l0, .int .i64 s0, .int .i64 p0] 41)
  have H0 := Lk.mk h0
  have HX := Lk.mk (blk_new w (.cells #[.int .i64 l0, .int .i64 s0, .int .i64 p0] 41))
  have HAW := Lk.mk (fun W => awake17_any W)
  have HG := Lk.mk (fun W (hb : Below w.heap.size w W) => great_any T ct t W (ht.below hb))
  rw [hg1] at HG
  have HN := Lk.mk (new_good T ct t _ (ht.below h0) hI (hT.below h0) hn)
  have HL := Lk.mk (fun W (hb : Below w.heap.size w W) => laid17_any V c0 ws W (hz.below hb) hzw h256)
  have hzi : ¬ (256 : Int) < (ws.length : Int) := by omega
  have hlen : (putW zw 0 ws).length ≤ 65536 := by rw [putW_length _ _ _ (by rw [zw_len]; omega), zw_len]; omega
  have hwd : Bm.Words (putW zw 0 ws) := putW_words (words_zero _) hzw
  have hin := hN.in_
  have hs2 := hN.sp2
  have hsm := small_of hlen hN.may
  have hp := ptOk_of hn
  have he := entIn_of hn
  have hs0 : 0 < s0 := by have := hsm.1.2.2.1; dsimp only at this; omega
  obtain ⟨n, hnn⟩ : ∃ n, n = l0 + s0 - p0 := ⟨_, rfl⟩
  have HU := Lk.mk (fun W => by
    have h9 := used_all ((l0 : Int), ((s0 : Int), (p0 : Int))) W
    rw [usedL_small hsm.1 hsm.2] at h9
    dsimp only at h9
    rw [show (l0 : Int) + s0 - p0 = (n : Int) by omega] at h9
    exact h9)
  have HTG := Lk.mk (fun W g b q (hA : ArB W g b (putW zw 0 ws)) (hS : Stab b (fun W => TblOr W (.pointer q) (t.map entryOf)) W) => to_good g b (putW zw 0 ws) q (t.map entryOf) l0 s0 p0 a bz k W hA hS he (len17 hn) (fun e he => entry_words he) (ptrs17 hfb) hp (framesA_len he hlen _) hN)
  have hback := back_plain hp he hlen hwd hN rfl
  have hl1 := toW_len (pt := tPtrs (t.map entryOf)) hN
  have hlen2 : (putW (toW (tPtrs (t.map entryOf)) (putW zw 0 ws) (t.map entryOf) ((l0 : Int), ((s0 : Int), (p0 : Int))) a bz) l0 (List.replicate s0 0)).length = (putW zw 0 ws).length := by
    rw [putW_length _ _ _ (by rw [List.length_replicate, hl1]; exact hin), hl1]
  have hl3 := toW_len (pt := tPtrs (t.map entryOf)) hback.1
  have HR1 := Lk.mk (fun W g b (hA : ArB W g b (putW zw 0 ws)) => row_ok g b (putW zw 0 ws) p0 n W hA (by omega))
  have HTB := Lk.mk (fun W g b q (hA : ArB W g b _) (hS : Stab b (fun W => TblOr W (.pointer q) (t.map entryOf)) W) => to_good g b _ q (t.map entryOf) a bz k l0 s0 p0 W hA hS he (len17 hn) (fun e he => entry_words he) (ptrs17 hfb) hp (framesA_len he (by rw [hlen2]; exact hlen) _) hback.1)
  have HZ := Lk.mk (fun W g b (hA : ArB W g b (toW (tPtrs (t.map entryOf)) (putW zw 0 ws) (t.map entryOf) ((l0 : Int), ((s0 : Int), (p0 : Int))) a bz)) => zero_some g b _ l0 s0 W hA (by rw [hl1]; exact hin) hs0)
  have HR2 := Lk.mk (fun W g b (hA : ArB W g b (toW (tPtrs (t.map entryOf)) (putW (toW (tPtrs (t.map entryOf)) (putW zw 0 ws) (t.map entryOf) ((l0 : Int), ((s0 : Int), (p0 : Int))) a bz) l0 (List.replicate s0 0)) (t.map entryOf) ((a : Int), ((bz : Int), (k : Int))) l0 s0)) => row_ok g b _ p0 n W hA (by rw [hl3, hlen2]; omega))
  have HEQ := Lk.mk hback.2
  rw [← hnn] at HEQ
  clear hz hzw ht hI hfb hT hn h256 hg1 hN h0 hlen hwd hin hs2 hsm hp he hs0 hnn hback hl1 hlen2 hl3
  generalize putW zw 0 ws = all at *
  generalize t.map entryOf = ent at *
  generalize toW (tPtrs ent) all ent ((l0 : Int), ((s0 : Int), (p0 : Int))) a bz = WA at *
  generalize putW WA l0 (List.replicate s0 0) = W2 at *
  generalize toW (tPtrs ent) W2 ent ((a : Int), ((bz : Int), (k : Int))) l0 s0 = W3 at *
  generalize (all.drop p0).take n = R at *
  rw [HEQ.out] at HR2
  have HSM := Lk.mk (fun W A c B d (h1 : ReadsInt W .u64 A R.length R) (h2 : ReadsInt W .u64 B R.length R) => by
    have h9 := rsame04_any A c R B d R W h1 h2
    rw [decide_eq_true rfl] at h9
    exact h9)
  go_enter Tryd.func8, Tryd.ntmps8
  go_wp2_with (first
    | (go_at_call 12; (with_reducible refine (HN.out).mono ?_); rintro e w1 ⟨p, rfl, htb, hb⟩; obtain ⟨q, rfl⟩ := tblPtr htb.or; have HTT := Lk.mk htb; have HW1 := Lk.mk (show w.heap.size < w1.heap.size from Nat.lt_of_lt_of_le (by simp) hb.size); have HX := Lk.mk (blk_below HX.out hb); have HB := Lk.mk (below_then H0.out H0.out.size hb); clear hb htb)
    | (go_at_call 10; (with_reducible refine (HG.out _ HB.out).mono ?_); rintro e w' ⟨rfl, hw⟩; obtain rfl := hw.symm; clear hw)
    | (go_at_call 30; (with_reducible refine (HL.out _ HB.out).mono ?_); rintro e w2 ⟨rfl, ha, hb⟩; have HA := Lk.mk ha; have HS := Lk.mk (Stab.of_old (fun W hW => (HTT.out.below hW).or) hb (Nat.le_refl _)); have HX := Lk.mk (blk_below HX.out hb); have HB := Lk.mk (below_then HB.out HB.out.size hb); clear hb ha))
  have HXd := Lk.mk (blk_drew HX.out)
  have HAd := Lk.mk (HA.out.below (below_drew (Below.refl _ _)))
  have HBd := Lk.mk (below_drew HB.out)
  have HSd := Lk.mk (HS.out.keep (KeepW.of_below (below_drew (Below.refl _ _)) _))
  go_region_held3 (fun W => W.cell? ⟨w.heap.size, 0, none⟩ = some (.int .i64 l0) ∧ W.cell? ⟨w.heap.size, 1, none⟩ = some (.int .i64 s0) ∧ W.cell? ⟨w.heap.size, 2, none⟩ = some (.int .i64 p0)) (first | exact cells3m HX4.out | exact cells3m HX3.out | exact cells3m HXd.out) (first
    | (go_at_call 37; (with_reducible refine (HU.out _).mono ?_); rintro e w3 ⟨rfl, hb⟩; have HA3 := Lk.mk (HAd.out.below hb); have HS3 := Lk.mk (HSd.out.keep (KeepW.of_below hb _)); have HX3 := Lk.mk (blk_below HXd.out hb); have HB3 := Lk.mk (below_then HBd.out HBd.out.size hb); clear hb)
    | (go_at_call 33; (with_reducible refine (HR1.out _ _ _ HA3.out).mono ?_); rintro e w4 ⟨v, rfl, ho, hb⟩; obtain ⟨AV, cV, rfl, _, _, _⟩ := own_full ho; have HV4 := Lk.mk (own_stab ho HA3.out.lt); have HA4 := Lk.mk (HA3.out.below hb); have HS4 := Lk.mk (HS3.out.keep (KeepW.of_below hb _)); have HX4 := Lk.mk (blk_below HX3.out hb); have HB4 := Lk.mk (below_then HB3.out HB3.out.size hb); clear hb ho))
  obtain ⟨c0, c1, c2⟩ := cells3m HX4.out
  go_wp2_with (first
    | (go_at_call 34; (with_reducible refine (HTG.out _ _ _ _ HA4.out HS4.out).mono ?_); rintro e w5 ⟨rfl, ha, hk⟩; have hal := below_alloc (Below.refl w5.heap.size w5) (.cells #[.int .i64 a, .int .i64 bz, .int .i64 k] 41); have hw1 := HW1.out; have HA5 := Lk.mk (ha.below hal); have HS5 := Lk.mk (HS4.out.keep (hk.then_ hal)); have HV5 := Lk.mk (HV4.out.keep (hk.then_ hal)); have hX5 := (hk.block _ (blk_lt HX4.out) (by omega)).trans HX4.out; have HX5 := Lk.mk (blk_below hX5 hal); have HB5 := Lk.mk (below_then (hk.below HB4.out (by omega) HB4.out.size) (hk.below HB4.out (by omega) HB4.out.size).size hal); obtain ⟨d0, d1, d2⟩ := cells3m HX5.out; have HT5 := Lk.mk (blk_new w5 (.cells #[.int .i64 a, .int .i64 bz, .int .i64 k] 41)); have HT5n := Lk.mk (show w5.heap.size ≠ w1.heap.size from fun e => by have := blk_lt ha.row; omega); clear ha hk hal hw1 hX5)
    | (go_at_call 41; (with_reducible refine (HZ.out _ _ _ HA5.out).mono ?_); rintro e w6 ⟨rfl, ha, hk⟩; have hw1 := HW1.out; have hn5 := HT5n.out; have HA6 := Lk.mk ha; have HS6 := Lk.mk (HS5.out.keep hk); have HV6 := Lk.mk (HV5.out.keep hk); have HX6 := Lk.mk ((hk.block _ (blk_lt HX5.out) (by omega)).trans HX5.out); have HT6 := Lk.mk ((hk.block _ (blk_lt HT5.out) hn5).trans HT5.out); have HB6 := Lk.mk (hk.below HB5.out (by omega) HB5.out.size); obtain ⟨d0, d1, d2⟩ := cells3m HX6.out; obtain ⟨f0, f1, f2⟩ := cells3m HT6.out; clear ha hk hw1 hn5)
    | (go_at_call 34; (with_reducible refine (HTB.out _ _ _ _ HA6.out HS6.out).mono ?_); rintro e w7 ⟨rfl, ha, hk⟩; have hal := below_alloc (Below.refl w7.heap.size w7) (.cells #[.int .i64 l0, .int .i64 s0, .int .i64 p0] 41); have hw1 := HW1.out; have HA7 := Lk.mk (ha.below hal); have HV7 := Lk.mk (HV6.out.keep (hk.then_ hal)); have hX7 := (hk.block _ (blk_lt HX6.out) (by omega)).trans HX6.out; have HX7 := Lk.mk (blk_below hX7 hal); have HB7 := Lk.mk (below_then (hk.below HB6.out (by omega) HB6.out.size) (hk.below HB6.out (by omega) HB6.out.size).size hal); have HT7 := Lk.mk (blk_new w7 (.cells #[.int .i64 l0, .int .i64 s0, .int .i64 p0] 41)); clear ha hk hal hw1 hX7))
  have HXe := Lk.mk (blk_drew HX7.out)
  have HAe := Lk.mk (HA7.out.below (below_drew (Below.refl _ _)))
  have HBe := Lk.mk (below_drew HB7.out)
  have HVe := Lk.mk (HV7.out.keep (KeepW.of_below (below_drew (Below.refl _ _)) _))
  have HTe := Lk.mk (blk_drew HT7.out)
  go_region_held3 (fun W => W.cell? ⟨w.heap.size, 0, none⟩ = some (.int .i64 l0) ∧ W.cell? ⟨w.heap.size, 1, none⟩ = some (.int .i64 s0) ∧ W.cell? ⟨w.heap.size, 2, none⟩ = some (.int .i64 p0)) (first | exact cells3m HX9.out | exact cells3m HX8.out | exact cells3m HXe.out) (first
    | (go_at_call 37; (with_reducible refine (HU.out _).mono ?_); rintro e w8 ⟨rfl, hb⟩; have HA8 := Lk.mk (HAe.out.below hb); have HV8 := Lk.mk (HVe.out.keep (KeepW.of_below hb _)); have HX8 := Lk.mk (blk_below HXe.out hb); have HT8 := Lk.mk (blk_below HTe.out hb); have HB8 := Lk.mk (below_then HBe.out HBe.out.size hb); clear hb)
    | (go_at_call 33; (with_reducible refine (HR2.out _ _ _ HA8.out).mono ?_); rintro e w9 ⟨v, rfl, ho, hb⟩; obtain ⟨AR, cR, rfl, _, _, _⟩ := own_full ho; have HR9 := Lk.mk (own_again17 ho); have HV9 := Lk.mk (own_again17 (HV8.out.keep (KeepW.of_below hb _)).now); have HX9 := Lk.mk (blk_below HX8.out hb); have HT9 := Lk.mk (blk_below HT8.out hb); have HB9 := Lk.mk (below_then HB8.out HB8.out.size hb); clear hb ho))
  obtain ⟨e0, e1, e2⟩ := cells3m HX9.out
  obtain ⟨f0, f1, f2⟩ := cells3m HT9.out
  go_wp2_with (first
    | (go_at_call 36; (with_reducible refine (HSM.out _ _ _ _ _ HR9.out HV9.out).mono ?_); rintro e w10 ⟨rfl, hb⟩; have HB10 := Lk.mk (below_then HB9.out HB9.out.size hb); clear hb)
    | (go_at_call 29; (with_reducible refine (HAW.out _).mono ?_); rintro e w11 ⟨rfl, hb⟩; have HB11 := Lk.mk (below_then HB10.out HB10.out.size hb); clear hb))
  go_ret
  exact ⟨rfl, HB11.out⟩
end Go.Proofs.YtcepafllgjnngaaDoor
