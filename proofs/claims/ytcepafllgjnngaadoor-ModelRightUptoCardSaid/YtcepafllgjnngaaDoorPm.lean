/-
  The walks of the reference's has and Fits at rows of frames; conditions: the functions and the row read as told. Printed by gen_rfits.py.
-/
import Derived.Test.YtcepafllgjnngaaDoorPd
import Derived.Test.YtcepafllgjnngaaDoorPe
import Derived.Deep.RegionHeld3
namespace Go.Proofs.YtcepafllgjnngaaDoor
open Go.RowKit Go.Proofs.YtcepafllgjnngaaDoorW.PrintWords

set_option maxRecDepth 100000 in
set_option maxHeartbeats 2000000 in
theorem rhas19_any (A : Option Addr) (c : Nat) (l : List Af) (d s : Int) (w : World) (hr : kAf.C w A l.length l) :
    Calls Tryd.prog 115 #[.slice A l.length c, .int .i64 d, .int .i64 s] w fun e w' => e = .returned (.bool (hasA l d s)) ∧ w' = w := by
  have hm := hr.2.1
  have H := Lk.mk (show hasA l d s = (decide (0 ≤ d) && decide (d < l.length) && decide (0 ≤ s) && decide (s < (l.getD d.toNat dAf).2.length)) from rfl)
  generalize hasA l d s = r at *
  by_cases h0 : 0 ≤ d
  · obtain ⟨k, rfl⟩ := Int.eq_ofNat_of_zero_le h0
    rw [Int.toNat_natCast] at H
    by_cases h1 : (k : Int) < (l.length : Int)
    · by_cases h2 : 0 ≤ s
      · obtain ⟨ad, A1, c1, rfl, a0, a1, _, _⟩ := kAf_at hr k (by omega)
        clear hr a0
        generalize l.getD k dAf = f at *
        go_enter Tryd.func115, Tryd.ntmps115
        go_wp2
        go_ret
        exact ⟨ret_bool (by rw [H.out, decide_eq_true h0, decide_eq_true h1, decide_eq_true h2]; rfl), rfl⟩
      · clear hr
        go_enter Tryd.func115, Tryd.ntmps115
        go_wp2
        go_ret
        exact ⟨ret_bool (by rw [H.out, decide_eq_false (show ¬ 0 ≤ s by omega)]; simp), rfl⟩
    · clear hr
      go_enter Tryd.func115, Tryd.ntmps115
      go_wp2
      go_ret
      exact ⟨ret_bool (by rw [H.out, decide_eq_false (show ¬ (k : Int) < (l.length : Int) by omega)]; simp), rfl⟩
  · clear hr
    go_enter Tryd.func115, Tryd.ntmps115
    go_wp2
    go_ret
    exact ⟨ret_bool (by rw [H.out, decide_eq_false (show ¬ 0 ≤ d by omega)]; rfl), rfl⟩
set_option maxRecDepth 100000 in
set_option maxHeartbeats 2000000 in
theorem rfits_any (T : Option Addr) (ct : Nat) (t : List (Int × List Int)) (A : Option Addr) (c : Nat) (l : List Af) (k : Nat) (s : Int) (v : Sl.Vl) (w : World) (ht : FnC w T t.length t) (hw : ∀ f ∈ t, Bm.Words f.2) (hr : kAf.C w A l.length l) (hk : k < l.length) (hs : s ≤ 9223372036854775807) (hv : VlIn v) :
    Calls Tryd.prog 70 #[.slice T t.length ct, .slice A l.length c, .int .i64 k, .int .i64 s, .agg #[.int .u8 v.1, .int .u64 v.2.1, .int .i64 v.2.2.1, .int .i64 v.2.2.2]] w fun e w' => e = .returned (.int .i64 (fitsN (lPtr t) l k s v)) ∧ Below w.heap.size w w' := by
  have hm := hr.2.1
  have hkz : (k : Int) < (l.length : Int) := by omega
  have HN := Lk.mk (show fitsN (lPtr t) l k s v = if Sl.mayV v = true then (if lPtr t (l.getD (k : Int).toNat dAf).1 s = !(decide (v.1 = 1)) then (if v.1 = 2 then (if hasA l v.2.2.1 v.2.2.2 = true then (if v.2.2.1 ≤ (k : Int) then 0 else 7) else 2) else 0) else 5) else 1 from rfl)
  rw [Int.toNat_natCast] at HN
  obtain ⟨v0, v1, v2, v3⟩ := v
  dsimp only at *
  have HB := Lk.mk (below_alloc (Below.refl w.heap.size w) (.cells #[.int .u8 v0, .int .u64 v1, .int .i64 v2, .int .i64 v3] 56))
  have HX := Lk.mk (blk_new w (.cells #[.int .u8 v0, .int .u64 v1, .int .i64 v2, .int .i64 v3] 56))
  obtain ⟨x0, x1, x2, x3⟩ := cells4v HX.out
  have HM := Lk.mk (refVMay_any (v0, v1, v2, v3) (w.alloc (.cells #[.int .u8 v0, .int .u64 v1, .int .i64 v2, .int .i64 v3] 56)) hv)
  have HH := Lk.mk (fun W (hb : Below w.heap.size w W) => rhas19_any A c l v2 v3 W (Kd.C_below hr hb))
  obtain ⟨ad, A1, c1, rfl, a0, a1, _, _⟩ := kAf_at hr k hk
  have HA0 := Lk.mk a0
  have HP := Lk.mk (fun W (hb : Below w.heap.size w W) => refPtr_any T ct t (l.getD k dAf).1 s W (ht.below hb) hw hs)
  clear ht hw hr hk hs hv a0 a1
  generalize l.getD k dAf = f at *
  obtain ⟨f0, f1⟩ := f
  dsimp only at *
  generalize fitsN (lPtr t) l k s (v0, v1, v2, v3) = n at *
  generalize lPtr t f0 s = pt at *
  generalize hasA l v2 v3 = hz at *
  cases hmy : Sl.mayV (v0, v1, v2, v3) with
  | false =>
    rw [hmy] at HM HN
    rw [if_neg (by decide)] at HN
    clear hmy HP
    go_enter Tryd.func70, Tryd.ntmps70
    go_wp2_with (go_at_call 114; (with_reducible refine (HM.out).mono ?_); rintro e w1 ⟨rfl, hb⟩; have HX := Lk.mk (blk_below HX.out hb); have HB := Lk.mk (below_then HB.out HB.out.size hb); have a0 := pw_cell_below HB.out HA0.out; obtain ⟨x0, x1, x2, x3⟩ := cells4v HX.out; clear hb)
    go_ret
    exact ⟨by rw [HN.out]; first | done | rfl, HB.out⟩
  | true =>
    rw [hmy] at HM HN
    rw [if_pos rfl] at HN
    clear hmy
    by_cases h1 : v0 = 1
    · subst h1
      cases pt with
      | true =>
        rw [if_neg (by simp)] at HN
        go_enter Tryd.func70, Tryd.ntmps70
        go_wp2_with (go_at_call 114; (with_reducible refine (HM.out).mono ?_); rintro e w1 ⟨rfl, hb⟩; have HX := Lk.mk (blk_below HX.out hb); have HB := Lk.mk (below_then HB.out HB.out.size hb); have a0 := pw_cell_below HB.out HA0.out; obtain ⟨x0, x1, x2, x3⟩ := cells4v HX.out; clear hb)
        have HX := Lk.mk (blk_drew HX.out)
        have HB := Lk.mk (below_drew HB.out)
        have a0 := pw_cell_below HB.out HA0.out
        obtain ⟨x0, x1, x2, x3⟩ := cells4v HX.out
        go_region_held3 (fun W => W.cell? (ad.add (k * 2)) = some (.int .i64 f0) ∧ W.cell? ⟨w.heap.size, 0, none⟩ = some (.int .u8 1)) (first | exact ⟨a0, x0⟩ | exact ⟨pw_cell_below HB.out HA0.out, (cells4v HX.out).1⟩) (first
          | (go_at_call 108; (with_reducible refine (HP.out _ HB.out).mono ?_); rintro e w2 ⟨rfl, hb⟩; have HX := Lk.mk (blk_below HX.out hb); have HB := Lk.mk (below_then HB.out HB.out.size hb); obtain ⟨x0, x1, x2, x3⟩ := cells4v HX.out; clear hb))
        go_wp2
        go_ret
        exact ⟨by rw [HN.out]; first | done | rfl, HB.out⟩
      | false =>
        rw [if_pos (by simp), if_neg (by decide)] at HN
        go_enter Tryd.func70, Tryd.ntmps70
        go_wp2_with (go_at_call 114; (with_reducible refine (HM.out).mono ?_); rintro e w1 ⟨rfl, hb⟩; have HX := Lk.mk (blk_below HX.out hb); have HB := Lk.mk (below_then HB.out HB.out.size hb); have a0 := pw_cell_below HB.out HA0.out; obtain ⟨x0, x1, x2, x3⟩ := cells4v HX.out; clear hb)
        have HX := Lk.mk (blk_drew HX.out)
        have HB := Lk.mk (below_drew HB.out)
        have a0 := pw_cell_below HB.out HA0.out
        obtain ⟨x0, x1, x2, x3⟩ := cells4v HX.out
        go_region_held3 (fun W => W.cell? (ad.add (k * 2)) = some (.int .i64 f0) ∧ W.cell? ⟨w.heap.size, 0, none⟩ = some (.int .u8 1)) (first | exact ⟨a0, x0⟩ | exact ⟨pw_cell_below HB.out HA0.out, (cells4v HX.out).1⟩) (first
          | (go_at_call 108; (with_reducible refine (HP.out _ HB.out).mono ?_); rintro e w2 ⟨rfl, hb⟩; have HX := Lk.mk (blk_below HX.out hb); have HB := Lk.mk (below_then HB.out HB.out.size hb); obtain ⟨x0, x1, x2, x3⟩ := cells4v HX.out; clear hb))
        go_wp2
        go_ret
        exact ⟨by rw [HN.out]; first | done | rfl, HB.out⟩
    · have hd1 : (v0 == 1) = false := beq_false_of_ne h1
      cases pt with
      | false =>
        rw [if_neg (by simp [h1])] at HN
        go_enter Tryd.func70, Tryd.ntmps70
        go_wp2_with (go_at_call 114; (with_reducible refine (HM.out).mono ?_); rintro e w1 ⟨rfl, hb⟩; have HX := Lk.mk (blk_below HX.out hb); have HB := Lk.mk (below_then HB.out HB.out.size hb); have a0 := pw_cell_below HB.out HA0.out; obtain ⟨x0, x1, x2, x3⟩ := cells4v HX.out; clear hb)
        have HX := Lk.mk (blk_drew HX.out)
        have HB := Lk.mk (below_drew HB.out)
        have a0 := pw_cell_below HB.out HA0.out
        obtain ⟨x0, x1, x2, x3⟩ := cells4v HX.out
        go_region_held3 (fun W => W.cell? (ad.add (k * 2)) = some (.int .i64 f0) ∧ W.cell? ⟨w.heap.size, 0, none⟩ = some (.int .u8 v0)) (first | exact ⟨a0, x0⟩ | exact ⟨pw_cell_below HB.out HA0.out, (cells4v HX.out).1⟩) (first
          | (go_at_call 108; (with_reducible refine (HP.out _ HB.out).mono ?_); rintro e w2 ⟨rfl, hb⟩; have HX := Lk.mk (blk_below HX.out hb); have HB := Lk.mk (below_then HB.out HB.out.size hb); obtain ⟨x0, x1, x2, x3⟩ := cells4v HX.out; clear hb))
        go_wp2
        go_ret
        exact ⟨by rw [HN.out]; first | done | rfl, HB.out⟩
      | true =>
        rw [if_pos (by simp [h1])] at HN
        by_cases h2 : v0 = 2
        · subst h2
          rw [if_pos rfl] at HN
          cases hz with
          | false =>
            rw [if_neg (by decide)] at HN
            go_enter Tryd.func70, Tryd.ntmps70
            go_wp2_with (go_at_call 114; (with_reducible refine (HM.out).mono ?_); rintro e w1 ⟨rfl, hb⟩; have HX := Lk.mk (blk_below HX.out hb); have HB := Lk.mk (below_then HB.out HB.out.size hb); have a0 := pw_cell_below HB.out HA0.out; obtain ⟨x0, x1, x2, x3⟩ := cells4v HX.out; clear hb)
            have HX := Lk.mk (blk_drew HX.out)
            have HB := Lk.mk (below_drew HB.out)
            have a0 := pw_cell_below HB.out HA0.out
            obtain ⟨x0, x1, x2, x3⟩ := cells4v HX.out
            go_region_held3 (fun W => W.cell? (ad.add (k * 2)) = some (.int .i64 f0) ∧ W.cell? ⟨w.heap.size, 0, none⟩ = some (.int .u8 2)) (first | exact ⟨a0, x0⟩ | exact ⟨pw_cell_below HB.out HA0.out, (cells4v HX.out).1⟩) (first
              | (go_at_call 108; (with_reducible refine (HP.out _ HB.out).mono ?_); rintro e w2 ⟨rfl, hb⟩; have HX := Lk.mk (blk_below HX.out hb); have HB := Lk.mk (below_then HB.out HB.out.size hb); obtain ⟨x0, x1, x2, x3⟩ := cells4v HX.out; clear hb))
            go_wp2_with (go_at_call 115; (with_reducible refine (HH.out _ HB.out).mono ?_); rintro e w' ⟨rfl, hw⟩; obtain rfl := hw.symm; clear hw)
            go_ret
            exact ⟨by rw [HN.out]; first | done | rfl, HB.out⟩
          | true =>
            rw [if_pos rfl] at HN
            by_cases h3 : v2 ≤ (k : Int)
            · rw [if_pos h3] at HN
              go_enter Tryd.func70, Tryd.ntmps70
              go_wp2_with (go_at_call 114; (with_reducible refine (HM.out).mono ?_); rintro e w1 ⟨rfl, hb⟩; have HX := Lk.mk (blk_below HX.out hb); have HB := Lk.mk (below_then HB.out HB.out.size hb); have a0 := pw_cell_below HB.out HA0.out; obtain ⟨x0, x1, x2, x3⟩ := cells4v HX.out; clear hb)
              have HX := Lk.mk (blk_drew HX.out)
              have HB := Lk.mk (below_drew HB.out)
              have a0 := pw_cell_below HB.out HA0.out
              obtain ⟨x0, x1, x2, x3⟩ := cells4v HX.out
              go_region_held3 (fun W => W.cell? (ad.add (k * 2)) = some (.int .i64 f0) ∧ W.cell? ⟨w.heap.size, 0, none⟩ = some (.int .u8 2)) (first | exact ⟨a0, x0⟩ | exact ⟨pw_cell_below HB.out HA0.out, (cells4v HX.out).1⟩) (first
                | (go_at_call 108; (with_reducible refine (HP.out _ HB.out).mono ?_); rintro e w2 ⟨rfl, hb⟩; have HX := Lk.mk (blk_below HX.out hb); have HB := Lk.mk (below_then HB.out HB.out.size hb); obtain ⟨x0, x1, x2, x3⟩ := cells4v HX.out; clear hb))
              go_wp2_with (go_at_call 115; (with_reducible refine (HH.out _ HB.out).mono ?_); rintro e w' ⟨rfl, hw⟩; obtain rfl := hw.symm; clear hw)
              go_ret
              exact ⟨by rw [HN.out]; first | done | rfl, HB.out⟩
            · rw [if_neg h3] at HN
              have h4 : (k : Int) < v2 := by omega
              go_enter Tryd.func70, Tryd.ntmps70
              go_wp2_with (go_at_call 114; (with_reducible refine (HM.out).mono ?_); rintro e w1 ⟨rfl, hb⟩; have HX := Lk.mk (blk_below HX.out hb); have HB := Lk.mk (below_then HB.out HB.out.size hb); have a0 := pw_cell_below HB.out HA0.out; obtain ⟨x0, x1, x2, x3⟩ := cells4v HX.out; clear hb)
              have HX := Lk.mk (blk_drew HX.out)
              have HB := Lk.mk (below_drew HB.out)
              have a0 := pw_cell_below HB.out HA0.out
              obtain ⟨x0, x1, x2, x3⟩ := cells4v HX.out
              go_region_held3 (fun W => W.cell? (ad.add (k * 2)) = some (.int .i64 f0) ∧ W.cell? ⟨w.heap.size, 0, none⟩ = some (.int .u8 2)) (first | exact ⟨a0, x0⟩ | exact ⟨pw_cell_below HB.out HA0.out, (cells4v HX.out).1⟩) (first
                | (go_at_call 108; (with_reducible refine (HP.out _ HB.out).mono ?_); rintro e w2 ⟨rfl, hb⟩; have HX := Lk.mk (blk_below HX.out hb); have HB := Lk.mk (below_then HB.out HB.out.size hb); obtain ⟨x0, x1, x2, x3⟩ := cells4v HX.out; clear hb))
              go_wp2_with (go_at_call 115; (with_reducible refine (HH.out _ HB.out).mono ?_); rintro e w' ⟨rfl, hw⟩; obtain rfl := hw.symm; clear hw)
              go_ret
              exact ⟨by rw [HN.out]; first | done | rfl, HB.out⟩
        · rw [if_neg h2] at HN
          have hd2 : (v0 == 2) = false := beq_false_of_ne h2
          go_enter Tryd.func70, Tryd.ntmps70
          go_wp2_with (go_at_call 114; (with_reducible refine (HM.out).mono ?_); rintro e w1 ⟨rfl, hb⟩; have HX := Lk.mk (blk_below HX.out hb); have HB := Lk.mk (below_then HB.out HB.out.size hb); have a0 := pw_cell_below HB.out HA0.out; obtain ⟨x0, x1, x2, x3⟩ := cells4v HX.out; clear hb)
          have HX := Lk.mk (blk_drew HX.out)
          have HB := Lk.mk (below_drew HB.out)
          have a0 := pw_cell_below HB.out HA0.out
          obtain ⟨x0, x1, x2, x3⟩ := cells4v HX.out
          go_region_held3 (fun W => W.cell? (ad.add (k * 2)) = some (.int .i64 f0) ∧ W.cell? ⟨w.heap.size, 0, none⟩ = some (.int .u8 v0)) (first | exact ⟨a0, x0⟩ | exact ⟨pw_cell_below HB.out HA0.out, (cells4v HX.out).1⟩) (first
            | (go_at_call 108; (with_reducible refine (HP.out _ HB.out).mono ?_); rintro e w2 ⟨rfl, hb⟩; have HX := Lk.mk (blk_below HX.out hb); have HB := Lk.mk (below_then HB.out HB.out.size hb); obtain ⟨x0, x1, x2, x3⟩ := cells4v HX.out; clear hb))
          go_wp2
          go_ret
          exact ⟨by rw [HN.out]; first | done | rfl, HB.out⟩
end Go.Proofs.YtcepafllgjnngaaDoor
