/-
  The walk of the law WalkIs; conditions: what is handed in reads as told, the table of deBruijn stands.
-/
import Derived.Test.YtbikdngpannekaaDoorMs
import Derived.Test.YtbikdngpannekaaDoorMt
import Derived.Test.YtbikdngpannekaaDoorMm
import Derived.Test.YtbikdngpannekaaDoorDj
import Derived.Test.YtbikdngpannekaaDoorEe
import Derived.Deep.RegionHeld3
namespace Go.Proofs.YtbikdngpannekaaDoor
open Go.RowKit Go.Proofs.YtbikdngpannekaaDoorW.PrintWords

set_option maxRecDepth 100000 in
set_option maxHeartbeats 2000000 in
theorem is15_early (V : Option Addr) (c : Nat) (ws : List Int) (B : Option Addr) (c' : Nat) (t : List (Int × List Int)) (x : Int × (Int × Int)) (w : World) (hr : ReadsInt w .u64 V ws.length ws) (hq : FnC w B t.length t) (hT : Tab w) (h : 256 < ws.length ∨ greatL t = true) :
    Calls Tryd.prog 13 #[.slice V ws.length c, .slice B t.length c', .agg #[.int .i64 x.1, .int .i64 x.2.1, .int .i64 x.2.2]] w fun e w' => e = .returned (.bool true) ∧ Below w.heap.size w w' := by
  obtain ⟨lo, sz, sp⟩ := x
  have hm := hr.2.1
  have hba := below_alloc (Below.refl w.heap.size w) (.cells #[.int .i64 lo, .int .i64 sz, .int .i64 sp] 88)
  have HG := Lk.mk (great_any B c' t _ (hq.below hba))
  have HT := Lk.mk (hT.below hba)
  have H0 := Lk.mk hba
  dsimp only
  clear hr hq hT hba
  by_cases h1 : 256 < ws.length
  · have h1z : (256 : Int) < (ws.length : Int) := by omega
    clear h
    go_enter Tryd.func13, Tryd.ntmps13
    go_wp2_with (go_at_call 52; (with_reducible refine (awake15_any _ HT.out).mono ?_); rintro e w9 ⟨rfl, hb⟩; have HB9 := Lk.mk (below_then H0.out H0.out.size hb); clear hb)
    go_ret
    exact ⟨rfl, HB9.out⟩
  · have h1z : ¬ (256 : Int) < (ws.length : Int) := by omega
    rw [h.resolve_left h1] at HG
    clear h
    go_enter Tryd.func13, Tryd.ntmps13
    go_wp2_with (first
      | (go_at_call 24; (with_reducible refine (HG.out).mono ?_); rintro e w' ⟨rfl, hw⟩; obtain rfl := hw.symm; clear hw)
      | (go_at_call 52; (with_reducible refine (awake15_any _ HT.out).mono ?_); rintro e w9 ⟨rfl, hb⟩; have HB9 := Lk.mk (below_then H0.out H0.out.size hb); clear hb))
    go_ret
    exact ⟨rfl, HB9.out⟩
set_option maxRecDepth 100000 in
set_option maxHeartbeats 2000000 in
theorem is15_none (V : Option Addr) (c : Nat) (ws : List Int) (B : Option Addr) (c' : Nat) (t : List (Int × List Int)) (x : Int × (Int × Int)) (w : World) (hr : ReadsInt w .u64 V ws.length ws) (hw : Bm.Words ws) (hq : FnC w B t.length t) (hI : FnsOk t) (hT : Tab w) (h1 : ws.length ≤ 256) (h2 : greatL t = false) (hn : newOk t = false) :
    Calls Tryd.prog 13 #[.slice V ws.length c, .slice B t.length c', .agg #[.int .i64 x.1, .int .i64 x.2.1, .int .i64 x.2.2]] w fun e w' => e = .returned (.bool true) ∧ Below w.heap.size w w' := by
  obtain ⟨lo, sz, sp⟩ := x
  have hm := hr.2.1
  have hba := below_alloc (Below.refl w.heap.size w) (.cells #[.int .i64 lo, .int .i64 sz, .int .i64 sp] 88)
  have HG := Lk.mk (h2 ▸ great_any B c' t _ (hq.below hba))
  have HN := Lk.mk (fun W (hb : Below w.heap.size w W) => new_bad B c' t W (hq.below hb) hI (hT.below hb) hn)
  have HLD := Lk.mk (laid15_any V c ws _ (hr.below hba) hw h1)
  have HST := Lk.mk (fun W A c1 (hb : Below w.heap.size w W) (hz : ReadsInt W .u64 A zw.length zw) => refStore04_any A c1 zw V c ws W hz (hr.below hb) (by rw [zw_len]; omega) (by rw [zw_len]; omega))
  rw [zw_len] at HST
  have HT := Lk.mk hT
  have H0 := Lk.mk hba
  have h1z : ¬ (256 : Int) < (ws.length : Int) := by omega
  dsimp only
  clear hr hq hI hT hba hn h2 hw
  have hmk := make256
  have HZ := Lk.mk (fun W => own_reads' (own_lit W W.heap.size 25 .u64 zw (Nat.le_refl _) (by rw [zw_len]; omega)))
  rw [zw_len] at HZ
  generalize hz : zw = Z at *
  clear hz
  go_enter Tryd.func13, Tryd.ntmps13
  go_wp2_with (first
    | (go_at_call 24; (with_reducible refine (HG.out).mono ?_); rintro e w' ⟨rfl, hw⟩; obtain rfl := hw.symm; clear hw)
    | (go_at_call 54; (with_reducible refine (HLD.out).mono ?_); rintro e w1 ⟨rfl, _, hb⟩; have HB1 := Lk.mk (below_then H0.out H0.out.size hb); clear hb)
    | (go_at_call 18; (with_reducible refine (HN.out _ HB1.out).mono ?_); rintro e w2 ⟨rfl, hb⟩; have HBz := Lk.mk (below_alloc (below_then HB1.out HB1.out.size hb) (.cells (nums .u64 Z).toArray 25)); clear hb)
    | (go_at_call 28; (with_reducible refine (HST.out _ _ _ HBz.out (HZ.out _)).mono ?_); rintro e w3 ⟨v, rfl, ho, hb⟩; have HB3 := Lk.mk (below_then HBz.out HBz.out.size hb); clear ho hb)
    | (go_at_call 52; (with_reducible refine (awake15_any _ (HT.out.below HB3.out)).mono ?_); rintro e w9 ⟨rfl, hb⟩; have HB9 := Lk.mk (below_then HB3.out HB3.out.size hb); clear hb))
  go_ret
  exact ⟨rfl, HB9.out⟩
set_option maxRecDepth 100000 in
set_option maxHeartbeats 2000000 in
theorem is15_good (V : Option Addr) (c : Nat) (ws : List Int) (B : Option Addr) (c' : Nat) (t : List (Int × List Int)) (x : Int × (Int × Int)) (w : World) (hr : ReadsInt w .u64 V ws.length ws) (hw : Bm.Words ws) (hq : FnC w B t.length t) (hI : FnsOk t) (hx : -9223372036854775808 ≤ x.2.1 ∧ x.2.1 ≤ 9223372036854775807) (hT : Tab w) (h1 : ws.length ≤ 256) (h2 : greatL t = false) (hn : newOk t = true) :
    Calls Tryd.prog 13 #[.slice V ws.length c, .slice B t.length c', .agg #[.int .i64 x.1, .int .i64 x.2.1, .int .i64 x.2.2]] w fun e w' => e = .returned (.bool true) ∧ Below w.heap.size w w' := by
  have hm := hr.2.1
  have hE := entIn_of hn
  have hpl : (putW zw 0 ws).length = 256 := by rw [putW_length _ _ _ (by rw [zw_len]; omega), zw_len]
  have hpw : Bm.Words (putW zw 0 ws) := putW_words (words_zero _) hw
  have hba := below_alloc (Below.refl w.heap.size w) (.cells #[.int .i64 x.1, .int .i64 x.2.1, .int .i64 x.2.2] 88)
  have HX0 := Lk.mk (blk_new w (.cells #[.int .i64 x.1, .int .i64 x.2.1, .int .i64 x.2.2] 88))
  have hs : (w.alloc (.cells #[.int .i64 x.1, .int .i64 x.2.1, .int .i64 x.2.2] 88)).heap.size = w.heap.size + 1 := by simp
  have HG := Lk.mk (h2 ▸ great_any B c' t _ (hq.below hba))
  have HN := Lk.mk (fun W (hb : Below w.heap.size w W) => new_good B c' t W (hq.below hb) hI (hT.below hb) hn)
  have hld := laid15_any V c ws _ (hr.below hba) hw h1
  have HSL := Lk.mk hs
  rw [hs] at hld
  have HLD := Lk.mk hld
  have HST := Lk.mk (fun W A c1 (hb : Below w.heap.size w W) (hz : ReadsInt W .u64 A zw.length zw) => refStore04_any A c1 zw V c ws W hz (hr.below hb) (by rw [zw_len]; omega) (by rw [zw_len]; omega))
  rw [zw_len] at HST
  have HF := Lk.mk (fun W g b p (hA : ArB W g b (putW zw 0 ws)) (ht : TblAt W p (t.map entryOf)) => frames_all g b (putW zw 0 ws) p (t.map entryOf) x W hA ht.or hE hx)
  have HRF := Lk.mk (fun W A c (hb : Below w.heap.size w W) (hA : ReadsInt W .u64 A (putW zw 0 ws).length (putW zw 0 ws)) => refFrames15_any A c (putW zw 0 ws) B c' t x W hA hpw (hq.below hb) hn (by omega) hx)
  have HSM := Lk.mk (fun W A c A' c' (l : List Sl.Fr) (hl : kFr.C W A l.length l) (hl' : kFr.C W A' l.length l) => refSame15_any A c l A' c' l W hl hl')
  have HM1 := Lk.mk (fun W g b (hA : ArB W g b (putW zw 0 ws)) => wMay_any g b (putW zw 0 ws) (some ⟨W.heap.size, 0, none⟩) 1 [((x.1, (x.2.1, x.2.2)) : Sl.Fr)] (W.alloc (.cells #[.int .i64 x.1, .int .i64 x.2.1, .int .i64 x.2.2] 88)) (hA.below (below_alloc (Below.refl _ _) _))
    (kFr_one (ad := ⟨W.heap.size, 0, none⟩) (by rw [add_plain]; exact (cells3c (blk_new W _)).1) (by rw [add_plain]; exact (cells3c (blk_new W _)).2.1) (by rw [add_plain]; exact (cells3c (blk_new W _)).2.2.1)) (fun y hy => by obtain rfl : y = _ := (by simpa using hy); exact hx))
  have HM0 := Lk.mk (fun W g b (hA : ArB W g b (putW zw 0 ws)) => wMay_any g b (putW zw 0 ws) none 0 [] W hA (Kd.C_nil kFr W) (fun y hy => by cases hy))
  have HRM := Lk.mk (fun W => refSMay_any x 256 W (by decide) hx)
  have hany : ∀ b : Bool, (!([((x.1, (x.2.1, x.2.2)) : Sl.Fr)].any fun y => !(mayS 256 y))) = mayS 256 (x.1, (x.2.1, x.2.2)) := fun _ => by simp
  rw [hpl] at HRF HM1 HM0
  rw [hany true] at HM1
  rw [show ((256 : Nat) : Int) = 256 from rfl] at HRM
  simp only [List.any_nil, Bool.not_false, List.length_nil, List.length_singleton, decide_true] at HM0 HM1 HSM
  have HT := Lk.mk hT
  have H0 := Lk.mk hba
  have h1z : ¬ (256 : Int) < (ws.length : Int) := by omega
  obtain ⟨lo, sz, sp⟩ := x
  dsimp only at *
  have HQ := Lk.mk hq
  clear hr hw hq hI hT hba hn h2 hpw hld hs hany hE
  have hmk := make256
  have HZ := Lk.mk (fun W => own_reads' (own_lit W W.heap.size 25 .u64 zw (Nat.le_refl _) (by rw [zw_len]; omega)))
  rw [zw_len] at HZ
  generalize framesA (putW zw 0 ws) (t.map entryOf) (lo, (sz, sp)) = fa at *
  obtain ⟨fr, n⟩ := fa
  generalize mayS 256 (lo, (sz, sp)) = mb at *
  dsimp only at HF HRF
  generalize hz : zw = Z at *
  clear hz
  generalize putW Z 0 ws = all at *
  go_enter Tryd.func13, Tryd.ntmps13
  go_wp2_with (first
    | (go_at_call 24; (with_reducible refine (HG.out).mono ?_); rintro e w' ⟨rfl, hw⟩; obtain rfl := hw.symm; clear hw)
    | (go_at_call 54; (with_reducible refine (HLD.out).mono ?_); rintro e w1 ⟨rfl, ha, hb⟩; have HA1 := Lk.mk ha; have HX1 := Lk.mk (blk_below HX0.out (HSL.out ▸ hb)); have HB1 := Lk.mk (below_then H0.out H0.out.size (HSL.out ▸ hb)); clear hb ha)
    | (go_at_call 18; (with_reducible refine (HN.out _ HB1.out).mono ?_); rintro e w2 ⟨p, rfl, htb, hb⟩; have HTB := Lk.mk (htb.below (below_alloc (Below.refl _ _) (.cells (nums .u64 Z).toArray 25))); have HA2 := Lk.mk ((HA1.out.below hb).below (below_alloc (Below.refl _ _) (.cells (nums .u64 Z).toArray 25))); have HX2 := Lk.mk (blk_alloc (blk_below HX1.out hb) (.cells (nums .u64 Z).toArray 25)); have HBz := Lk.mk (below_alloc (below_then HB1.out HB1.out.size hb) (.cells (nums .u64 Z).toArray 25)); clear hb htb)
    | (go_at_call 28; (with_reducible refine (HST.out _ _ _ HBz.out (HZ.out _)).mono ?_); rintro e w3 ⟨v, rfl, ho, hb⟩; obtain ⟨A2, c2, rfl, hr2⟩ := own_reads ho; rw [hpl] at hr2; have HO3 := Lk.mk hr2; have HTB3 := Lk.mk (HTB.out.below hb); have HA3 := Lk.mk (HA2.out.below hb); have HX3 := Lk.mk (blk_below HX2.out hb); obtain ⟨s0, s1, s2, _, _, _⟩ := cells3c HX3.out; have HB3 := Lk.mk (below_then HBz.out HBz.out.size hb); clear ho hb hr2)
    | (go_at_call 53; (with_reducible refine (HF.out _ _ _ _ HA3.out HTB3.out).mono ?_); rintro e w4 ⟨hb, A4, c4, rfl, hC⟩; have HC4 := Lk.mk hC; have HO4 := Lk.mk (HO3.out.below hb); have HA4 := Lk.mk (HA3.out.below hb); have HX4 := Lk.mk (blk_below HX3.out hb); obtain ⟨t0, t1, t2, _, _, _⟩ := cells3c HX4.out; have HB4 := Lk.mk (below_then HB3.out HB3.out.size hb); clear hb hC)
    | (go_at_call 55; (with_reducible refine (HRF.out _ _ _ HB4.out HO4.out).mono ?_); rintro e w5 ⟨hb, A5, c5, rfl, hC⟩; have HC5 := Lk.mk hC; have HC45 := Lk.mk (Kd.C_below HC4.out hb); have HA5 := Lk.mk (HA4.out.below hb); have HX5 := Lk.mk (blk_below HX4.out hb); have HB5 := Lk.mk (below_then HB4.out HB4.out.size hb); clear hb hC))
  obtain ⟨u0, u1, u2, _, _, _⟩ := cells3c (blk_drew HX5.out)
  have HBd := Lk.mk (below_drew HB5.out)
  go_region_held3 (fun W => W.cell? ⟨w.heap.size, 0, none⟩ = some (.int .i64 lo) ∧ W.cell? ⟨w.heap.size, 1, none⟩ = some (.int .i64 sz) ∧ W.cell? ⟨w.heap.size, 2, none⟩ = some (.int .i64 sp)) (first | exact ⟨u0, u1, u2⟩ | exact ⟨pw_cell_below (below_alloc (Below.refl _ _) _) v0, pw_cell_below (below_alloc (Below.refl _ _) _) v1, pw_cell_below (below_alloc (Below.refl _ _) _) v2⟩ | exact ⟨v0, v1, v2⟩ | exact ⟨x0, x1, x2⟩ | exact ⟨y0, y1, y2⟩ | exact ⟨z0, z1, z2⟩ | exact ⟨q0, q1, q2⟩) (first
    | (go_at_call 56; (with_reducible refine (HSM.out _ _ _ _ _ _ (Kd.C_drew HC45.out) (Kd.C_drew HC5.out)).mono ?_); rintro e w6 ⟨rfl, hb⟩; have HA6 := Lk.mk ((HA5.out.below (below_drew (Below.refl _ _))).below hb); have HX6 := Lk.mk (blk_below (blk_drew HX5.out) hb); obtain ⟨v0, v1, v2, _, _, _⟩ := cells3c HX6.out; have HB6 := Lk.mk (below_then HBd.out HBd.out.size hb); clear hb)
    | (go_at_call 57; (with_reducible refine (HM1.out _ _ _ HA6.out).mono ?_); rintro e w7 ⟨rfl, hb⟩; have HX7 := Lk.mk (blk_below (blk_alloc HX6.out (.cells #[.int .i64 lo, .int .i64 sz, .int .i64 sp] 88)) hb); have HA7 := Lk.mk ((HA6.out.below (below_alloc (Below.refl _ _) (.cells #[.int .i64 lo, .int .i64 sz, .int .i64 sp] 88))).below hb); obtain ⟨x0, x1, x2, _, _, _⟩ := cells3c HX7.out; have HB7 := Lk.mk (below_then (below_alloc HB6.out (.cells #[.int .i64 lo, .int .i64 sz, .int .i64 sp] 88)) (below_alloc HB6.out (.cells #[.int .i64 lo, .int .i64 sz, .int .i64 sp] 88)).size hb); clear hb)
    | (go_at_call 58; (with_reducible refine (HRM.out _).mono ?_); rintro e w8 ⟨rfl, hb⟩; have HX8 := Lk.mk (blk_below HX7.out hb); have HA8 := Lk.mk (HA7.out.below hb); obtain ⟨y0, y1, y2, _, _, _⟩ := cells3c HX8.out; have HB8 := Lk.mk (below_then HB7.out HB7.out.size hb); clear hb)
    | (go_at_call 57; (with_reducible refine (HM0.out _ _ _ HA8.out).mono ?_); rintro e w9 ⟨rfl, hb⟩; have HX9 := Lk.mk (blk_below HX8.out hb); obtain ⟨z0, z1, z2, _, _, _⟩ := cells3c HX9.out; have HB9 := Lk.mk (below_then HB8.out HB8.out.size hb); clear hb)
    | (go_at_call 52; (with_reducible refine (awake15_any _ (HT.out.below HB9.out)).mono ?_); rintro e w10 ⟨rfl, hb⟩; obtain ⟨q0, q1, q2, _, _, _⟩ := cells3c (blk_below HX9.out hb); have HBx := Lk.mk (below_then HB9.out HB9.out.size hb); clear hb))
  go_wp2
  go_ret
  exact ⟨rfl, HBx.out⟩
theorem lawOfWalkIs (V : Option Addr) (c : Nat) (ws : List Int) (B : Option Addr) (c' : Nat) (t : List (Int × List Int)) (x : Int × (Int × Int)) (w : World) (hr : ReadsInt w .u64 V ws.length ws) (hw : Bm.Words ws) (_ : ws.length ≤ c) (hq : FnC w B t.length t) (hI : FnsIn t) (hx : StkIn x) (hT : Tab w) :
    Calls Tryd.prog 13 #[.slice V ws.length c, .slice B t.length c', .agg #[.int .i64 x.1, .int .i64 x.2.1, .int .i64 x.2.2]] w fun e w' => e = .returned (.bool true) ∧ Below w.heap.size w w' := by
  by_cases h : 256 < ws.length ∨ greatL t = true
  · exact is15_early V c ws B c' t x w hr hq hT h
  · have h1 : ws.length ≤ 256 := by
      rcases Nat.lt_or_ge 256 ws.length with g | g
      · exact absurd (.inl g) h
      · exact g
    have h2 : greatL t = false := by
      cases g : greatL t with
      | false => rfl
      | true => exact absurd (.inr g) h
    cases hn : newOk t with
    | false => exact is15_none V c ws B c' t x w hr hw hq (hI.ok h2) hT h1 h2 hn
    | true => exact is15_good V c ws B c' t x w hr hw hq (hI.ok h2) hx.2.1 hT h1 h2 hn
end Go.Proofs.YtbikdngpannekaaDoor
