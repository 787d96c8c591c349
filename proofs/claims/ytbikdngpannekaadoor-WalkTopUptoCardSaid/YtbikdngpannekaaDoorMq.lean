/-
  The walk of the law WalkTop where frames are gone through; conditions: what is handed in reads as told, the table of deBruijn stands.
-/
import Derived.Test.YtbikdngpannekaaDoorMp
import Derived.Test.YtbikdngpannekaaDoorEc
import Derived.Test.YtbikdngpannekaaDoorEe
import Derived.Deep.RegionHeld3
namespace Go.Proofs.YtbikdngpannekaaDoor
open Go.RowKit Go.Proofs.YtbikdngpannekaaDoorW.PrintWords

set_option maxRecDepth 100000 in
set_option maxHeartbeats 2000000 in
theorem top_go (V : Option Addr) (c : Nat) (ws : List Int) (B : Option Addr) (c' : Nat) (t : List (Int × List Int)) (x : Int × (Int × Int)) (w : World) (hr : ReadsInt w .u64 V ws.length ws) (hw : Bm.Words ws) (hq : FnC w B t.length t) (hI : FnsOk t) (hx : -9223372036854775808 ≤ x.2.1 ∧ x.2.1 ≤ 9223372036854775807) (hT : Tab w) (hn : newOk t = true) (h1 : ws.length ≤ 256) (h2 : greatL t = false) :
    Calls Tryd.prog 12 #[.slice V ws.length c, .slice B t.length c', .agg #[.int .i64 x.1, .int .i64 x.2.1, .int .i64 x.2.2]] w fun e w' => e = .returned (.bool true) ∧ Below w.heap.size w w' := by
  have hm := hr.2.1
  have hE := entIn_of hn
  have hpl : (putW zw 0 ws).length = 256 := by rw [putW_length _ _ _ (by rw [zw_len]; omega), zw_len]
  have hba := below_alloc (Below.refl w.heap.size w) (.cells #[.int .i64 x.1, .int .i64 x.2.1, .int .i64 x.2.2] 88)
  have HX0 := Lk.mk (blk_new w (.cells #[.int .i64 x.1, .int .i64 x.2.1, .int .i64 x.2.2] 88))
  have HN := Lk.mk (new_good B c' t _ (hq.below hba) hI (hT.below hba) hn)
  have HG := Lk.mk (fun W (hb : Below w.heap.size w W) => h2 ▸ great_any B c' t W (hq.below hb))
  have HLD := Lk.mk (fun W (hb : Below w.heap.size w W) => laid15_any V c ws W (hr.below hb) hw h1)
  have HF := Lk.mk (fun W g b p (hA : ArB W g b (putW zw 0 ws)) (ht : TblAt W p (t.map entryOf)) => frames_two g b (putW zw 0 ws) p (t.map entryOf) x W hA ht.or hE hx)
  rw [hpl] at HF
  have HEN := Lk.mk (fun W p (f : Sl.Fr) (ht : TblAt W p (t.map entryOf)) (hf : -1099511627776 ≤ f.1 ∧ f.1 ≤ 1099511627776) => end_any p (t.map entryOf) f W ht.or hf hE)
  have HT := Lk.mk hT
  have H0 := Lk.mk hba
  have h1z : ¬ (256 : Int) < (ws.length : Int) := by omega
  obtain ⟨lo, sz, sp⟩ := x
  dsimp only at *
  clear hr hw hq hI hT hba hn h2 hpl
  generalize putW zw 0 ws = all at *
  go_enter Tryd.func12, Tryd.ntmps12
  go_wp2_with (first
    | (go_at_call 18; (with_reducible refine (HN.out).mono ?_); rintro e w1 ⟨p, rfl, htb, hb⟩; have HTB := Lk.mk htb; have HX1 := Lk.mk (blk_below HX0.out hb); have HB := Lk.mk (below_then H0.out H0.out.size hb); clear hb htb)
    | (go_at_call 24; (with_reducible refine (HG.out _ HB.out).mono ?_); rintro e w' ⟨rfl, hw⟩; obtain rfl := hw.symm; clear hw))
  have HX1d := Lk.mk (blk_drew HX1.out)
  obtain ⟨t0, t1, t2, _, _, _⟩ := cells3c HX1d.out
  have HBd := Lk.mk (below_drew HB.out)
  have HTd := Lk.mk (HTB.out.below (below_drew (Below.refl _ _)))
  go_region_held3 (fun W => W.cell? ⟨w.heap.size, 0, none⟩ = some (.int .i64 lo) ∧ W.cell? ⟨w.heap.size, 1, none⟩ = some (.int .i64 sz) ∧ W.cell? ⟨w.heap.size, 2, none⟩ = some (.int .i64 sp)) (first | exact ⟨t0, t1, t2⟩ | exact ⟨d0, d1, d2⟩ | exact ⟨c0, c1, c2⟩) (first
    | (go_at_call 54; (with_reducible refine (HLD.out _ HBd.out).mono ?_); rintro e w2 ⟨rfl, ha, hb⟩; change ArB w2 (w1.heap.size + 1) w1.heap.size all at ha; have HA2 := Lk.mk ha; have HT2 := Lk.mk (HTd.out.below hb); have HX2 := Lk.mk (blk_below HX1d.out hb); obtain ⟨c0, c1, c2, _, _, _⟩ := cells3c HX2.out; have HB2 := Lk.mk (below_then HBd.out HBd.out.size hb); clear hb ha)
    | (go_at_call 53; (with_reducible refine (HF.out _ _ _ _ HA2.out HT2.out).mono ?_); rintro e w3 ⟨hb, A, m, cr, n, rfl, hor⟩; have HT3 := Lk.mk (HT2.out.below hb); have HX3 := Lk.mk (blk_below HX2.out hb); obtain ⟨d0, d1, d2, _, _, _⟩ := cells3c HX3.out; have HB3 := Lk.mk (below_then HB2.out HB2.out.size hb); have HOR := Lk.mk hor; clear hb hor))
  rcases HOR.out with ⟨n1, n2, rfl⟩ | ⟨r, rfl, rfl, hC, hrl, hs1, hs2, hd, hlast, hin⟩
  · have hnz : ¬ n = 0 := by omega
    go_wp2_with (go_at_call 52; (with_reducible refine (awake15_any _ (HT.out.below HB3.out)).mono ?_); rintro e w9 ⟨rfl, hb⟩; have HB9 := Lk.mk (below_then HB3.out HB3.out.size hb); clear hb)
    go_ret
    exact ⟨rfl, HB9.out⟩
  · by_cases hr0 : r.length = 0
    · rw [hr0] at *
      go_wp2_with (go_at_call 52; (with_reducible refine (awake15_any _ (HT.out.below HB3.out)).mono ?_); rintro e w9 ⟨rfl, hb⟩; have HB9 := Lk.mk (below_then HB3.out HB3.out.size hb); clear hb)
      go_ret
      exact ⟨rfl, HB9.out⟩
    · have HCr := Lk.mk hC
      have HD := Lk.mk hd
      have HIN := Lk.mk hin
      have HLA := Lk.mk (hlast (fun e => hr0 (by rw [e]; rfl)))
      clear hC hd hlast hin HF HLD HN HG
      have hrz : ¬ (r.length : Int) = 0 := by omega
      have hwr : IntKind.i64.wrap (lo + sz) = lo + sz := IntWalk.i64_in _ (by omega)
      go_wp2
      go_loopg [11] r.length (fun gg v11 wr => ∃ k : Nat, k ≤ r.length ∧ r.length - k ≤ gg ∧ v11 = .int .i64 k ∧ Lk (Below w3.heap.size w3 wr))
      case atStart => exact ⟨0, by omega, by omega, rfl, ⟨Below.refl _ _⟩⟩
      case round =>
        obtain ⟨k, hk, hg, rfl, HBw⟩ := hrel
        have HXw := Lk.mk (blk_below HX3.out HBw.out)
        obtain ⟨e0, e1, e2, _, _, _⟩ := cells3c HXw.out
        have HBw3 := Lk.mk (below_then HB3.out HB3.out.size HBw.out)
        by_cases hlt : k < r.length
        · have hltz : (k : Int) < (r.length : Int) := by omega
          obtain ⟨ad, rfl, f0, f1, f2⟩ := kFr_at (Kd.C_below HCr.out HBw.out) k hlt
          obtain ⟨q1, q2, q3, q4⟩ := HIN.out k hlt
          obtain ⟨q5, q6⟩ := HD.out k hlt
          have HE := Lk.mk (HEN.out _ _ (r.getD k Sl.dFr) (HT3.out.below (below_drew HBw.out)) (by omega))
          rw [if_neg (by omega), q6] at HE
          rw [q5] at HE f2
          rcases Nat.eq_zero_or_pos k with hk0 | hk0
          · rw [if_pos hk0] at HE f2
            rw [if_pos hk0] at HE
            clear q1 q2 q3 q4 q5 q6
            generalize r.getD k Sl.dFr = x at HE f0 f1 f2
            subst hk0
            rw [Nat.zero_mul, Addr.add_zero'] at f0 f1 f2
            obtain ⟨x0, f, lk⟩ := x
            dsimp only at HE f0 f1 f2
            go_wp2
            go_region
            go_wp2_with (go_at_call 34; (with_reducible refine (HE.out).mono ?_); rintro e w4 ⟨rfl, hb⟩)
            go_roundg (r.length - (0 + 1))
            case measure => omega
            case rel => exact ⟨0 + 1, by omega, by omega, by go_num, ⟨below_then (below_drew HBw.out) (below_drew HBw.out).size hb⟩⟩
          · obtain ⟨j, rfl⟩ : ∃ j, k = j + 1 := ⟨k - 1, by omega⟩
            obtain ⟨ad', had, g0, g1, g2⟩ := kFr_at (Kd.C_below HCr.out HBw.out) j (by omega)
            obtain rfl := Option.some.inj had
            rw [if_neg (by omega), show j + 1 - 1 = j from rfl] at HE f2
            rw [if_neg (by omega)] at HE
            clear q1 q2 q3 q4 q5 q6
            generalize r.getD (j + 1) Sl.dFr = x at HE f0 f1 f2
            generalize r.getD j Sl.dFr = y at HE f0 f1 f2 g0 g1 g2
            obtain ⟨x0, f, lk⟩ := x
            obtain ⟨y0, yf, yk⟩ := y
            dsimp only at HE f0 f1 f2 g0 g1 g2
            go_wp2
            go_region
            go_wp2_with (go_at_call 34; (with_reducible refine (HE.out).mono ?_); rintro e w4 ⟨rfl, hb⟩)
            go_roundg (r.length - (j + 1 + 1))
            case measure => omega
            case rel => exact ⟨j + 1 + 1, by omega, by omega, by go_num, ⟨below_then (below_drew HBw.out) (below_drew HBw.out).size hb⟩⟩
        · obtain rfl : k = r.length := by omega
          have hltz : ¬ (r.length : Int) < (r.length : Int) := by omega
          obtain ⟨ad, rfl, f0, f1, f2⟩ := kFr_at (Kd.C_below HCr.out HBw.out) (r.length - 1) (by omega)
          rw [HLA.out] at f0
          obtain ⟨n, hn⟩ : ∃ n, r.length = n + 1 := ⟨r.length - 1, by omega⟩
          rw [hn, Nat.add_sub_cancel] at f0
          rw [hn] at hltz ⊢
          have hnb : (n : Int) ≤ 1000000 := by omega
          have hn0 : (0 : Int) ≤ (n : Int) := by omega
          have hn1 : (n : Int) < (n : Int) + 1 := by omega
          have hnw : IntKind.i64.wrap (n : Int) = n := IntWalk.i64_in _ (by omega)
          clear hr0 hrz hrl hlt hk hg hn HIN HD HLA HCr f1 f2
          have HBd := Lk.mk (below_drew HBw3.out)
          have e2d := pw_cell_below (below_drew (Below.refl _ _)) e2
          have f0d := pw_cell_below (below_drew (Below.refl _ _)) f0
          go_wp2
          go_region_held3 (fun W => W.cell? ⟨w.heap.size, 2, none⟩ = some (.int .i64 sp) ∧ W.cell? (ad.add (n * 3)) = some (.int .i64 sp)) (first | exact ⟨e2d, f0d⟩ | exact ⟨e2x, f0x⟩) (first
            | (go_at_call 52; (with_reducible refine (awake15_any _ (HT.out.below HBd.out)).mono ?_); rintro e w9 ⟨rfl, hb⟩; have e2x := pw_cell_below hb e2d; have f0x := pw_cell_below hb f0d; have HB9 := Lk.mk (below_then HBd.out HBd.out.size hb); clear hb))
          go_wp2
          go_ret
          exact ⟨rfl, HB9.out⟩
theorem lawOfWalkTop (V : Option Addr) (c : Nat) (ws : List Int) (B : Option Addr) (c' : Nat) (t : List (Int × List Int)) (x : Int × (Int × Int)) (w : World) (hr : ReadsInt w .u64 V ws.length ws) (hw : Bm.Words ws) (_ : ws.length ≤ c) (_ : ws.length ≤ 1048576) (hq : FnC w B t.length t) (hI : FnsIn t) (_ : t.length ≤ 1048576) (hb : ∀ f ∈ t, f.2.length ≤ 1048576) (hx : StkIn x) (hT : Tab w) :
    Calls Tryd.prog 12 #[.slice V ws.length c, .slice B t.length c', .agg #[.int .i64 x.1, .int .i64 x.2.1, .int .i64 x.2.2]] w fun e w' => e = .returned (.bool true) ∧ Below w.heap.size w w' := by
  have hI' : FnsOk t := fnsOk_of hI hb (Nat.le_refl _)
  cases hn : newOk t with
  | false => exact top_early V c ws B c' t x w hr hq hI' hT hn
  | true =>
    by_cases h1 : 256 < ws.length
    · exact top_cut V c ws B c' t x w hr hq hI' hT hn (.inl h1)
    · cases h2 : greatL t with
      | true => exact top_cut V c ws B c' t x w hr hq hI' hT hn (.inr h2)
      | false => exact top_go V c ws B c' t x w hr hw hq hI' hx.2.1 hT hn (by omega) h2
end Go.Proofs.YtbikdngpannekaaDoor
