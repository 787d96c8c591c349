/-
  The walk of the law SlotsOne where the table may be; conditions: what is handed in reads as told, the table of deBruijn stands.
-/
import Derived.Test.YtbikdngpannekaaDoorLc
import Derived.Test.YtbikdngpannekaaDoorEd
namespace Go.Proofs.YtbikdngpannekaaDoor
open Go.RowKit Go.Proofs.YtbikdngpannekaaDoorW.PrintWords

theorem put_any (g b : Nat) (ws : List Int) (p : Value) (ent : List (Int × (List Int × List Int))) (A : Option Addr) (c : Nat) (l : List Sl.Fr) (d s : Int) (v : Sl.Vl) (w : World) (hA : ArB w g b ws) (h : TblOr w p ent) (hr : kFr.C w A l.length l) (he : EntIn ent) (hw : ∀ e ∈ ent, Bm.Words e.2.1) (hv : VlIn v) (hs : s ≤ 9223372036854775807) :
    Calls Tryd.prog 45 #[.pointer (some ⟨g, 0, none⟩), p, .slice A l.length c, .int .i64 d, .int .i64 s, .agg #[.int .u8 v.1, .int .u64 v.2.1, .int .i64 v.2.2.1, .int .i64 v.2.2.2]] w fun e w' => ∃ n : Int, e = .returned (.int .i64 n) ∧ PutL w g b ws (Sl.addr (tSize ent) l d s) n w' := by
  cases ho : Sl.addrOk (tSize ent) l d s with
  | true =>
    have := put_in g b ws p ent A c l d s v w hA h hr he hw hv ho hs
    rw [show Sl.addr (tSize ent) l d s = (l.getD d.toNat Sl.dFr).1 + 2 + s by unfold Sl.addr; rw [if_pos ho]]
    exact this
  | false => exact put_out g b ws p ent A c l d s v w hA h hr he ho _
theorem cells6 {w : World} {g : Nat} {t : TypeId} {a b c d e f : Value} (h : w.heap[g]? = some (.cells #[a, b, c, d, e, f] t (0, 0))) : w.cell? ⟨g, 0, none⟩ = some a ∧ w.cell? ⟨g, 1, none⟩ = some b ∧ w.cell? ⟨g, 2, none⟩ = some c ∧ w.cell? ⟨g, 3, none⟩ = some d ∧ w.cell? ⟨g, 4, none⟩ = some e ∧ w.cell? ⟨g, 5, none⟩ = some f :=
  ⟨by rw [blk_cell h 0]; rfl, by rw [blk_cell h 1]; rfl, by rw [blk_cell h 2]; rfl, by rw [blk_cell h 3]; rfl, by rw [blk_cell h 4]; rfl, by rw [blk_cell h 5]; rfl⟩
set_option maxRecDepth 100000 in
set_option maxHeartbeats 2000000 in
theorem one_good (V : Option Addr) (c0 : Nat) (ws : List Int) (A : Option Addr) (c : Nat) (t : List (Int × List Int)) (B : Option Addr) (c' : Nat) (l : List Sl.Fr) (y : Int × (Int × Sl.Vl)) (w : World) (hz : ReadsInt w .u64 V ws.length ws) (hw : Bm.Words ws) (hr : FnC w A t.length t) (hl : kFr.C w B l.length l) (hI : FnsOk t) (hs : y.2.1 ≤ 9223372036854775807) (hv : VlIn y.2.2) (hT : Tab w) (hn : newOk t = true) :
    Calls Tryd.prog 9 #[.slice V ws.length c0, .slice A t.length c, .slice B l.length c', .agg #[.int .i64 y.1, .int .i64 y.2.1, .int .u8 y.2.2.1, .int .u64 y.2.2.2.1, .int .i64 y.2.2.2.2.1, .int .i64 y.2.2.2.2.2]] w fun e w' => e = .returned (.bool true) ∧ Below w.heap.size w w' := by
  have hE := entIn_of hn
  have HPU := Lk.mk (fun W g b p (hb : Below w.heap.size w W) (hA : ArB W g b (putW zw 0 ws)) (ht : TblAt W p (t.map entryOf)) => put_any g b (putW zw 0 ws) p (t.map entryOf) B c' l y.1 y.2.1 y.2.2 W hA ht.or (Kd.C_below hl hb) hE (fun _ => entry_words) hv hs)
  rw [szFun] at HPU
  obtain ⟨d, s, k, x, vd, vs⟩ := y
  have hba := below_alloc (Below.refl w.heap.size w) (.cells #[.int .i64 d, .int .i64 s, .int .u8 k, .int .u64 x, .int .i64 vd, .int .i64 vs] 78)
  have HX0 := Lk.mk (blk_new w (.cells #[.int .i64 d, .int .i64 s, .int .u8 k, .int .u64 x, .int .i64 vd, .int .i64 vs] 78))
  have HN := Lk.mk (new_good A c t _ (hr.below hba) hI (hT.below hba) hn)
  have hm := hl.2.1
  have hm2 := hz.2.1
  have HG := Lk.mk (fun W (hb : Below w.heap.size w W) => great16_any V ws.length c0 A c t B l.length c' W (hr.below hb) hm2 hm)
  have HT := Lk.mk hT
  have H0 := Lk.mk hba
  have hsz0 : (w.alloc (.cells #[.int .i64 d, .int .i64 s, .int .u8 k, .int .u64 x, .int .i64 vd, .int .i64 vs] 78)).heap.size = w.heap.size + 1 := by simp
  have RA := Lk.mk (fun W (hb : Below w.heap.size w W) => refAddress_any A c t B c' l d s W (hr.below hb) (Kd.C_below hl hb) (lSize_rng hn))
  have HLD := Lk.mk (fun W (hb : Below w.heap.size w W) (h256 : ws.length ≤ 256) => laid16_any V c0 ws W (hz.below hb) hw h256)
  have hpl := Lk.mk (fun (h256 : ws.length ≤ 256) => (by rw [putW_length _ _ _ (by rw [zw_len]; omega), zw_len] : (putW zw 0 ws).length = 256))
  dsimp only at *
  clear hr hl hI hT hn hz hba hE hw hv
  obtain ⟨g, hg⟩ : ∃ g, g = (decide (256 < ws.length) || greatL t || decide (40 < l.length)) := ⟨_, rfl⟩
  rw [← hg] at HG
  generalize Sl.addr (lSize t) l d s = want at *
  go_enter Tryd.func9, Tryd.ntmps9
  cases g with
  | true =>
    clear hg
    go_wp2_with (first
      | (go_at_call 18; (with_reducible refine (HN.out).mono ?_); rintro e w1 ⟨p, rfl, htb, hb⟩; have HB := Lk.mk (below_then H0.out H0.out.size hb); clear hb htb)
      | (go_at_call 19; (with_reducible refine (HG.out _ HB.out).mono ?_); rintro e w' ⟨rfl, hw⟩; obtain rfl := hw.symm; clear hw)
      | (go_at_call 15; (with_reducible refine (awake16_any _ (HT.out.below HB.out)).mono ?_); rintro e w1 ⟨rfl, hb⟩))
    go_ret
    exact ⟨rfl, below_then HB.out HB.out.size hb⟩
  | false =>
    have h256 : ws.length ≤ 256 := by
      rcases Nat.lt_or_ge 256 ws.length with h | h
      · rw [decide_eq_true h] at hg; cases hg
      · exact h
    clear hg
    have hal := hpl.out h256
    have HLE := Lk.mk h256
    clear h256 hpl
    generalize putW zw 0 ws = all at *
    go_wp2_with (first
      | (go_at_call 18; (with_reducible refine (HN.out).mono ?_); rintro e w1 ⟨p, rfl, htb, hb⟩; have HTB := Lk.mk htb; have HX1 := Lk.mk (blk_below HX0.out hb); have HB := Lk.mk (below_then H0.out H0.out.size hb); have hs1 := Nat.le_trans (Nat.le_of_eq hsz0.symm) hb.size; clear hb htb)
      | (go_at_call 19; (with_reducible refine (HG.out _ HB.out).mono ?_); rintro e w' ⟨rfl, hw⟩; obtain rfl := hw.symm; clear hw)
      | (go_at_call 44; (with_reducible refine (HLD.out _ HB.out HLE.out).mono ?_); rintro e w2 ⟨rfl, ha, hb⟩; have HA2 := Lk.mk ha; have HT2 := Lk.mk (HTB.out.below hb); have HX2 := Lk.mk (blk_below HX1.out hb); have HB2 := Lk.mk (below_then HB.out HB.out.size hb); clear hb ha)
      | (go_at_call 32; (with_reducible refine (row256 _ _ _ _ HA2.out hal).mono ?_); rintro e w3 ⟨v1, rfl, ho, hb⟩; have HS3 := Lk.mk (own_stab ho HA2.out.lt); have HA3 := Lk.mk (HA2.out.below hb); have HT3 := Lk.mk (HT2.out.below hb); have HX3 := Lk.mk (blk_below HX2.out hb); obtain ⟨c0, c1, c2, c3, c4, c5⟩ := cells6 HX3.out; have HB3 := Lk.mk (below_then HB2.out HB2.out.size hb); clear ho hb HA2)
      | (go_at_call 45; (with_reducible refine (HPU.out _ _ _ _ HB3.out HA3.out HT3.out).mono ?_); rintro e w4 ⟨n, rfl, hnn, ws', ha, hk, hl2, hn0, hsame⟩; have HA4 := Lk.mk ha; have HS4 := Lk.mk (HS3.out.keep hk); have HX4 := Lk.mk ((hk.block _ (blk_lt HX3.out) (by omega)).trans HX3.out); have HB4 := Lk.mk (hk.below HB3.out HB.out.size HB3.out.size); have HN0 := Lk.mk hn0; have HSM := Lk.mk hsame; have HL2 := Lk.mk (hl2.trans hal); clear ha hk hl2 hn0 hsame)
      | (go_at_call 32; (with_reducible refine (row256 _ _ _ _ HA4.out HL2.out).mono ?_); rintro e w5 ⟨v2, rfl, ho, hb⟩; rw [HL2.out] at ho; obtain ⟨A2, c2, rfl, _, _, hr2⟩ := own_full ho; have HO5 := Lk.mk hr2; clear hr2; have HS5 := Lk.mk (HS4.out.keep (KeepW.of_below hb _)); have HX5 := Lk.mk (blk_below HX4.out hb); obtain ⟨d0, d1, d2, d3, d4, d5⟩ := cells6 HX5.out; have HB5 := Lk.mk (below_then HB4.out HB4.out.size hb); clear ho hb)
      | (go_at_call 21; (with_reducible refine (RA.out _ HB5.out).mono ?_); rintro e w6 ⟨rfl, hb⟩; have hs6 := (HS5.out.keep (KeepW.of_below hb _)).now; rw [hal] at hs6; obtain ⟨A1, c1, rfl, _, _, hr1⟩ := own_full hs6; have HS6 := Lk.mk hr1; clear hs6 hr1; have HO6 := Lk.mk (HO5.out.below hb); have HB6 := Lk.mk (below_then HB5.out HB5.out.size hb); clear hb))
    clear HPU HN HG RA HLD HS3 HS4 HS5 HA3 HA4 HT2 HT3 HTB HX0 HX1 HX2 HX3 HX4 HX5 HO5
    go_loopg [18] 256 (fun gg v18 W => ∃ k : Nat, k ≤ 256 ∧ 256 - k ≤ gg ∧ v18 = .int .i64 k ∧ Lk (Below w6.heap.size w6 W))
    case atStart => exact ⟨0, by omega, by omega, rfl, ⟨Below.refl _ _⟩⟩
    case round =>
      obtain ⟨k, hk, hg, rfl, HBw⟩ := hrel
      by_cases hlt : k < 256
      · have hltz : (k : Int) < 256 := by omega
        have hkz : ¬ (k : Int) < 0 := by omega
        obtain ⟨ad, hA1, hc1⟩ := (HS6.out.below HBw.out).at_ (k : Int) (by omega) (by omega)
        obtain ⟨ad2, hA2, hc2⟩ := (HO6.out.below HBw.out).at_ (k : Int) (by omega) (by omega)
        subst hA1
        subst hA2
        rw [Int.toNat_natCast, rdk] at hc1 hc2
        by_cases he : ws'.getD k 0 = all.getD k 0
        · rw [he] at hc2
          generalize all.getD k 0 = x at *
          clear HSM HN0 he
          go_wp2
          go_region
          go_wp2
          go_roundg (256 - (k + 1))
          case measure => omega
          case rel => exact ⟨k + 1, by omega, by omega, by go_num, ⟨below_drew HBw.out⟩⟩
        · have hn : n = 0 := Decidable.byContradiction fun h => he (by rw [HN0.out h])
          have hw : (k : Int) = want := Decidable.byContradiction fun h => he (HSM.out k h)
          have hb : (ws'.getD k 0 != all.getD k 0) = true := by simpa using he
          subst hn
          clear HSM HN0
          subst hw
          generalize all.getD k 0 = x at *
          generalize ws'.getD k 0 = y at *
          go_wp2
          go_region
          go_wp2
          go_roundg (256 - (k + 1))
          case measure => omega
          case rel => exact ⟨k + 1, by omega, by omega, by go_num, ⟨below_drew HBw.out⟩⟩
      · obtain rfl : k = 256 := by omega
        have HB := Lk.mk (below_then HB6.out HB6.out.size HBw.out)
        go_wp2_with (go_at_call 15; (with_reducible refine (awake16_any _ (HT.out.below HB.out)).mono ?_); rintro e w1 ⟨rfl, hb⟩)
        go_ret
        exact ⟨rfl, below_then HB.out HB.out.size hb⟩
theorem lawOfSlotsOne (V : Option Addr) (c0 : Nat) (ws : List Int) (A : Option Addr) (c : Nat) (t : List (Int × List Int)) (B : Option Addr) (c' : Nat) (l : List Sl.Fr) (y : Int × (Int × Sl.Vl)) (w : World) (hz : ReadsInt w .u64 V ws.length ws) (hw : Bm.Words ws) (_ : ws.length ≤ c0) (_ : ws.length ≤ 1048576) (hr : FnC w A t.length t) (hI : FnsIn t) (_ : t.length ≤ 1048576) (hb : ∀ f ∈ t, f.2.length ≤ 1048576) (hl : kFr.C w B l.length l) (_ : FrIn l) (_ : l.length ≤ 1048576) (hy : ActIn y) (hT : Tab w) :
    Calls Tryd.prog 9 #[.slice V ws.length c0, .slice A t.length c, .slice B l.length c', .agg #[.int .i64 y.1, .int .i64 y.2.1, .int .u8 y.2.2.1, .int .u64 y.2.2.2.1, .int .i64 y.2.2.2.2.1, .int .i64 y.2.2.2.2.2]] w fun e w' => e = .returned (.bool true) ∧ Below w.heap.size w w' := by
  have hI' : FnsOk t := fnsOk_of hI hb (Nat.le_refl _)
  cases hn : newOk t with
  | false => exact one_bad V c0 ws A c t B c' l y w hz hr hl hI' hT hn
  | true => exact one_good V c0 ws A c t B c' l y w hz hw hr hl hI' hy.2.1.2 hy.2.2 hT hn
end Go.Proofs.YtbikdngpannekaaDoor
