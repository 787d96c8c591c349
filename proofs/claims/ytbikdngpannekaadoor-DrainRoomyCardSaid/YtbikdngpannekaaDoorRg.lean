/-
  The walk of the reference's Roomy, case by case; conditions: the functions read as told. Printed by gen_rroomy.py.
-/
import Derived.Test.YtbikdngpannekaaDoorRf
import Derived.Deep.RegionHeld3
namespace Go.Proofs.YtbikdngpannekaaDoor
open Go.RowKit Go.Proofs.YtbikdngpannekaaDoorW.PrintWords

set_option maxRecDepth 100000 in
set_option maxHeartbeats 2000000 in
theorem rroomy_may (pg pr lm : Int) (A : Option Addr) (c : Nat) (l : List (Int × List Int)) (f g : Int) (w : World) (hr : FnC w A l.length l) (hI : ∀ f ∈ l, Bm.Words f.2 ∧ f.2.length ≤ 68719476736) (hlm : I64 lm) (hm : mayC pg pr lm l = false) :
    Calls Tryd.prog 49 #[.agg #[.int .i64 pg, .int .i64 pr, .int .i64 lm, .slice A l.length c], .int .i64 f, .int .i64 g] w fun e w' => e = .returned (.bool false) ∧ Below w.heap.size w w' := by
  have HM := Lk.mk (fun W (hb : Below w.heap.size w W) => rmayC_any pg pr lm A c l W (hr.below hb) hI hlm)
  rw [hm] at HM
  clear hr hI hlm hm
  have HB := Lk.mk (below_alloc (Below.refl w.heap.size w) (.cells #[.int .i64 pg, .int .i64 pr, .int .i64 lm, .slice A l.length c] 83))
  have HX := Lk.mk (blk_new w (.cells #[.int .i64 pg, .int .i64 pr, .int .i64 lm, .slice A l.length c] 83))
  obtain ⟨c0, c1, c2, c3⟩ := cells4w HX.out
  go_enter Tryd.func49, Tryd.ntmps49
  go_wp2_with (go_at_call 101; (with_reducible refine (HM.out _ HB.out).mono ?_); rintro e w1 ⟨rfl, hb⟩; have HX := Lk.mk (blk_below HX.out hb); have HB := Lk.mk (below_then HB.out HB.out.size hb); obtain ⟨c0, c1, c2, c3⟩ := cells4w HX.out; clear hb)
  go_ret
  exact ⟨ret_bool (by first | rfl | simp), HB.out⟩
set_option maxRecDepth 100000 in
set_option maxHeartbeats 2000000 in
theorem rroomy_f (pg pr lm : Int) (A : Option Addr) (c : Nat) (l : List (Int × List Int)) (f g : Int) (w : World) (hr : FnC w A l.length l) (hI : ∀ f ∈ l, Bm.Words f.2 ∧ f.2.length ≤ 68719476736) (hlm : I64 lm) (hm : mayC pg pr lm l = true) (hf : lWords l f < 0) :
    Calls Tryd.prog 49 #[.agg #[.int .i64 pg, .int .i64 pr, .int .i64 lm, .slice A l.length c], .int .i64 f, .int .i64 g] w fun e w' => e = .returned (.bool false) ∧ Below w.heap.size w w' := by
  have hn := (mayC_new hm).1
  have hL := (mayC_new hm).2
  have HM := Lk.mk (fun W (hb : Below w.heap.size w W) => rmayC_any pg pr lm A c l W (hr.below hb) hI hlm)
  rw [hm] at HM
  have HWf := Lk.mk (fun W (hb : Below w.heap.size w W) => refWords_any A c l f W (hr.below hb) (by have := (lSize_in hn f).2.1; omega))
  have HWg := Lk.mk (fun W (hb : Below w.heap.size w W) => refWords_any A c l g W (hr.below hb) (by have := (lSize_in hn g).2.1; omega))
  clear hr hI hlm hm hn
  clear hL
  have HB := Lk.mk (below_alloc (Below.refl w.heap.size w) (.cells #[.int .i64 pg, .int .i64 pr, .int .i64 lm, .slice A l.length c] 83))
  have HX := Lk.mk (blk_new w (.cells #[.int .i64 pg, .int .i64 pr, .int .i64 lm, .slice A l.length c] 83))
  obtain ⟨c0, c1, c2, c3⟩ := cells4w HX.out
  generalize lWords l f = x at *
  go_enter Tryd.func49, Tryd.ntmps49
  go_wp2_with (first
    | (go_at_call 101; (with_reducible refine (HM.out _ HB.out).mono ?_); rintro e w1 ⟨rfl, hb⟩; have HX := Lk.mk (blk_below HX.out hb); have HB := Lk.mk (below_then HB.out HB.out.size hb); obtain ⟨c0, c1, c2, c3⟩ := cells4w HX.out; clear hb)
    | (go_at_call 36; (with_reducible refine (HWf.out _ HB.out).mono ?_); rintro e w' ⟨rfl, hw⟩; obtain rfl := hw.symm; clear hw)
    | (go_at_call 36; (with_reducible refine (HWg.out _ HB.out).mono ?_); rintro e w' ⟨rfl, hw⟩; obtain rfl := hw.symm; clear hw))
  go_ret
  exact ⟨ret_bool (by first | rfl | simp), HB.out⟩
set_option maxRecDepth 100000 in
set_option maxHeartbeats 2000000 in
theorem rroomy_g (pg pr lm : Int) (A : Option Addr) (c : Nat) (l : List (Int × List Int)) (f g : Int) (w : World) (hr : FnC w A l.length l) (hI : ∀ f ∈ l, Bm.Words f.2 ∧ f.2.length ≤ 68719476736) (hlm : I64 lm) (hm : mayC pg pr lm l = true) (hf : 0 ≤ lWords l f) (hg : lWords l g < 0) :
    Calls Tryd.prog 49 #[.agg #[.int .i64 pg, .int .i64 pr, .int .i64 lm, .slice A l.length c], .int .i64 f, .int .i64 g] w fun e w' => e = .returned (.bool false) ∧ Below w.heap.size w w' := by
  have hn := (mayC_new hm).1
  have hL := (mayC_new hm).2
  have HM := Lk.mk (fun W (hb : Below w.heap.size w W) => rmayC_any pg pr lm A c l W (hr.below hb) hI hlm)
  rw [hm] at HM
  have HWf := Lk.mk (fun W (hb : Below w.heap.size w W) => refWords_any A c l f W (hr.below hb) (by have := (lSize_in hn f).2.1; omega))
  have HWg := Lk.mk (fun W (hb : Below w.heap.size w W) => refWords_any A c l g W (hr.below hb) (by have := (lSize_in hn g).2.1; omega))
  clear hr hI hlm hm hn
  clear hL
  have HB := Lk.mk (below_alloc (Below.refl w.heap.size w) (.cells #[.int .i64 pg, .int .i64 pr, .int .i64 lm, .slice A l.length c] 83))
  have HX := Lk.mk (blk_new w (.cells #[.int .i64 pg, .int .i64 pr, .int .i64 lm, .slice A l.length c] 83))
  obtain ⟨c0, c1, c2, c3⟩ := cells4w HX.out
  generalize lWords l f = x at *
  generalize lWords l g = y at *
  have hx : ¬ x < 0 := by omega
  clear hf
  go_enter Tryd.func49, Tryd.ntmps49
  go_wp2_with (first
    | (go_at_call 101; (with_reducible refine (HM.out _ HB.out).mono ?_); rintro e w1 ⟨rfl, hb⟩; have HX := Lk.mk (blk_below HX.out hb); have HB := Lk.mk (below_then HB.out HB.out.size hb); obtain ⟨c0, c1, c2, c3⟩ := cells4w HX.out; clear hb)
    | (go_at_call 36; (with_reducible refine (HWf.out _ HB.out).mono ?_); rintro e w' ⟨rfl, hw⟩; obtain rfl := hw.symm; clear hw)
    | (go_at_call 36; (with_reducible refine (HWg.out _ HB.out).mono ?_); rintro e w' ⟨rfl, hw⟩; obtain rfl := hw.symm; clear hw))
  go_ret
  exact ⟨ret_bool (by first | rfl | simp), HB.out⟩
set_option maxRecDepth 100000 in
set_option maxHeartbeats 2000000 in
theorem rroomy_over (pg pr lm : Int) (A : Option Addr) (c : Nat) (l : List (Int × List Int)) (f g : Int) (w : World) (hr : FnC w A l.length l) (hI : ∀ f ∈ l, Bm.Words f.2 ∧ f.2.length ≤ 68719476736) (hlm : I64 lm) (hm : mayC pg pr lm l = true) (a b : Nat) (ha : lWords l f = (a : Int)) (hb9 : lWords l g = (b : Int)) (h1 : 1 ≤ a) (hab : a + b ≤ 1000000) (h3 : lm < (a : Int) + (b : Int)) :
    Calls Tryd.prog 49 #[.agg #[.int .i64 pg, .int .i64 pr, .int .i64 lm, .slice A l.length c], .int .i64 f, .int .i64 g] w fun e w' => e = .returned (.bool false) ∧ Below w.heap.size w w' := by
  have hn := (mayC_new hm).1
  have hL := (mayC_new hm).2
  have HM := Lk.mk (fun W (hb : Below w.heap.size w W) => rmayC_any pg pr lm A c l W (hr.below hb) hI hlm)
  rw [hm] at HM
  have HWf := Lk.mk (fun W (hb : Below w.heap.size w W) => refWords_any A c l f W (hr.below hb) (by have := (lSize_in hn f).2.1; omega))
  have HWg := Lk.mk (fun W (hb : Below w.heap.size w W) => refWords_any A c l g W (hr.below hb) (by have := (lSize_in hn g).2.1; omega))
  clear hr hI hlm hm hn
  obtain ⟨m, rfl, hmp, hm16, hm64⟩ := limB_pow hL
  rw [ha] at HWf
  rw [hb9] at HWg
  have ha0 : ¬ (a : Int) < 0 := by omega
  have hb0 : ¬ (b : Int) < 0 := by omega
  have hsum : IntKind.i64.wrap ((a : Int) + (b : Int)) = (a : Int) + (b : Int) := IntWalk.i64_in _ (by omega)
  clear hL hmp hm16 hm64 ha hb9 h1 hab
  have HB := Lk.mk (below_alloc (Below.refl w.heap.size w) (.cells #[.int .i64 pg, .int .i64 pr, .int .i64 m, .slice A l.length c] 83))
  have HX := Lk.mk (blk_new w (.cells #[.int .i64 pg, .int .i64 pr, .int .i64 m, .slice A l.length c] 83))
  obtain ⟨c0, c1, c2, c3⟩ := cells4w HX.out
  go_enter Tryd.func49, Tryd.ntmps49
  go_wp2_with (first
    | (go_at_call 101; (with_reducible refine (HM.out _ HB.out).mono ?_); rintro e w1 ⟨rfl, hb⟩; have HX := Lk.mk (blk_below HX.out hb); have HB := Lk.mk (below_then HB.out HB.out.size hb); obtain ⟨c0, c1, c2, c3⟩ := cells4w HX.out; clear hb)
    | (go_at_call 36; (with_reducible refine (HWf.out _ HB.out).mono ?_); rintro e w' ⟨rfl, hw⟩; obtain rfl := hw.symm; clear hw)
    | (go_at_call 36; (with_reducible refine (HWg.out _ HB.out).mono ?_); rintro e w' ⟨rfl, hw⟩; obtain rfl := hw.symm; clear hw))
  have HX := Lk.mk (blk_drew HX.out)
  have HB := Lk.mk (below_drew HB.out)
  obtain ⟨c0, c1, c2, c3⟩ := cells4w HX.out
  go_region_held3 (fun W => W.cell? ⟨w.heap.size, 3, none⟩ = some (.slice A l.length c)) (first | exact c3) (first
    | (go_at_call 36; (with_reducible refine (HWf.out _ HB.out).mono ?_); rintro e w' ⟨rfl, hw⟩; obtain rfl := hw.symm; clear hw)
    | (go_at_call 36; (with_reducible refine (HWg.out _ HB.out).mono ?_); rintro e w' ⟨rfl, hw⟩; obtain rfl := hw.symm; clear hw))
  go_wp2
  go_ret
  exact ⟨ret_bool (by first | rfl | simp), HB.out⟩
set_option maxRecDepth 100000 in
set_option maxHeartbeats 2000000 in
theorem rroomy_ok (pg pr lm : Int) (A : Option Addr) (c : Nat) (l : List (Int × List Int)) (f g : Int) (w : World) (hr : FnC w A l.length l) (hI : ∀ f ∈ l, Bm.Words f.2 ∧ f.2.length ≤ 68719476736) (hlm : I64 lm) (hm : mayC pg pr lm l = true) (a b : Nat) (ha : lWords l f = (a : Int)) (hb9 : lWords l g = (b : Int)) (h1 : 1 ≤ a) (hab : a + b ≤ 1000000) (h3 : (a : Int) + (b : Int) ≤ lm) :
    Calls Tryd.prog 49 #[.agg #[.int .i64 pg, .int .i64 pr, .int .i64 lm, .slice A l.length c], .int .i64 f, .int .i64 g] w fun e w' => e = .returned (.bool (decide (costZ a b ≤ pg))) ∧ Below w.heap.size w w' := by
  have hn := (mayC_new hm).1
  have hL := (mayC_new hm).2
  have HM := Lk.mk (fun W (hb : Below w.heap.size w W) => rmayC_any pg pr lm A c l W (hr.below hb) hI hlm)
  rw [hm] at HM
  have HWf := Lk.mk (fun W (hb : Below w.heap.size w W) => refWords_any A c l f W (hr.below hb) (by have := (lSize_in hn f).2.1; omega))
  have HWg := Lk.mk (fun W (hb : Below w.heap.size w W) => refWords_any A c l g W (hr.below hb) (by have := (lSize_in hn g).2.1; omega))
  clear hr hI hlm hm hn
  obtain ⟨m, rfl, hmp, hm16, hm64⟩ := limB_pow hL
  rw [ha] at HWf
  rw [hb9] at HWg
  have ha0 : ¬ (a : Int) < 0 := by omega
  have hb0 : ¬ (b : Int) < 0 := by omega
  have hsum : IntKind.i64.wrap ((a : Int) + (b : Int)) = (a : Int) + (b : Int) := IntWalk.i64_in _ (by omega)
  have HF := Lk.mk (fun W => rfirst_ok a m W hL h1 (by omega))
  have hsp := Rk.rnd_pow (s := 16) (w := a) (by decide)
  have hsl := Rk.rnd_le (s := 16) (w := a) (m := m) hmp hm16 (by omega) (by omega)
  have hsg := Rk.rnd_ge (s := 16) (w := a) (by omega)
  have HG := Lk.mk (fun W => rgrow_ok (Rk.rnd 16 a) a b m W hL hsp hsg.1 hsl hsg.2 (by omega))
  have htl := Rk.rnd_le (s := Rk.rnd 16 a) (w := a + b) (m := m) hmp hsl (by omega) (by omega)
  have htg := Rk.rnd_ge (s := Rk.rnd 16 a) (w := a + b) (by omega)
  have HP1 := Lk.mk (fun W => rpages_any ((Rk.rnd 16 a : Nat) : Int) W (by omega))
  have HP2 := Lk.mk (fun W => rpages_any ((Rk.rnd (Rk.rnd 16 a) (a + b) : Nat) : Int) W (by omega))
  have hp1 := pagesZ_rng (n := Rk.rnd 16 a) (by omega)
  have hp2 := pagesZ_rng (n := Rk.rnd (Rk.rnd 16 a) (a + b)) (by omega)
  have HC := Lk.mk (show costZ a b = pagesZ (Rk.rnd 16 a : Nat) + (if Rk.rnd (Rk.rnd 16 a) (a + b) = Rk.rnd 16 a then 0 else pagesZ (Rk.rnd (Rk.rnd 16 a) (a + b) : Nat)) from rfl)
  have hov : ¬ (m : Int) < (a : Int) + (b : Int) := by omega
  clear hL hmp hm16 hm64 ha hb9 h1 h3 hsp hsl hsg htl hab
  generalize costZ a b = cst at *
  generalize hs9 : Rk.rnd 16 a = s at *
  clear hs9
  generalize hs9 : Rk.rnd s (a + b) = t at *
  clear hs9
  generalize hs9 : pagesZ (s : Int) = x at *
  generalize hs8 : pagesZ (t : Int) = y at *
  clear hs9 hs8
  have hwr : IntKind.i64.wrap (x + y) = x + y := IntWalk.i64_in _ (by omega)
  clear hp1 hp2
  have HB := Lk.mk (below_alloc (Below.refl w.heap.size w) (.cells #[.int .i64 pg, .int .i64 pr, .int .i64 m, .slice A l.length c] 83))
  have HX := Lk.mk (blk_new w (.cells #[.int .i64 pg, .int .i64 pr, .int .i64 m, .slice A l.length c] 83))
  obtain ⟨c0, c1, c2, c3⟩ := cells4w HX.out
  by_cases hst : t = s
  · subst hst
    rw [if_pos rfl, Int.add_zero] at HC
    obtain rfl := HC.out
    clear htg
    go_enter Tryd.func49, Tryd.ntmps49
    go_wp2_with (first
      | (go_at_call 101; (with_reducible refine (HM.out _ HB.out).mono ?_); rintro e w1 ⟨rfl, hb⟩; have HX := Lk.mk (blk_below HX.out hb); have HB := Lk.mk (below_then HB.out HB.out.size hb); obtain ⟨c0, c1, c2, c3⟩ := cells4w HX.out; clear hb)
      | (go_at_call 36; (with_reducible refine (HWf.out _ HB.out).mono ?_); rintro e w' ⟨rfl, hw⟩; obtain rfl := hw.symm; clear hw)
      | (go_at_call 36; (with_reducible refine (HWg.out _ HB.out).mono ?_); rintro e w' ⟨rfl, hw⟩; obtain rfl := hw.symm; clear hw))
    have HX := Lk.mk (blk_drew HX.out)
    have HB := Lk.mk (below_drew HB.out)
    obtain ⟨c0, c1, c2, c3⟩ := cells4w HX.out
    go_region_held3 (fun W => W.cell? ⟨w.heap.size, 3, none⟩ = some (.slice A l.length c)) (first | exact c3) (first
      | (go_at_call 36; (with_reducible refine (HWf.out _ HB.out).mono ?_); rintro e w' ⟨rfl, hw⟩; obtain rfl := hw.symm; clear hw)
      | (go_at_call 36; (with_reducible refine (HWg.out _ HB.out).mono ?_); rintro e w' ⟨rfl, hw⟩; obtain rfl := hw.symm; clear hw))
    go_wp2_with (first
      | (go_at_call 102; (with_reducible refine (HF.out _).mono ?_); rintro e w' ⟨rfl, hw⟩; obtain rfl := hw.symm; clear hw)
      | (go_at_call 103; (with_reducible refine (HG.out _).mono ?_); rintro e w' ⟨rfl, hw⟩; obtain rfl := hw.symm; clear hw)
      | (go_at_call 51; (with_reducible refine (HP1.out _).mono ?_); rintro e w' ⟨rfl, hw⟩; obtain rfl := hw.symm; clear hw)
      | (go_at_call 51; (with_reducible refine (HP2.out _).mono ?_); rintro e w' ⟨rfl, hw⟩; obtain rfl := hw.symm; clear hw))
    go_ret
    exact ⟨rfl, HB.out⟩
  · have hst2 : (s : Int) < (t : Int) := by omega
    rw [if_neg hst] at HC
    obtain rfl := HC.out
    clear hst htg
    go_enter Tryd.func49, Tryd.ntmps49
    go_wp2_with (first
      | (go_at_call 101; (with_reducible refine (HM.out _ HB.out).mono ?_); rintro e w1 ⟨rfl, hb⟩; have HX := Lk.mk (blk_below HX.out hb); have HB := Lk.mk (below_then HB.out HB.out.size hb); obtain ⟨c0, c1, c2, c3⟩ := cells4w HX.out; clear hb)
      | (go_at_call 36; (with_reducible refine (HWf.out _ HB.out).mono ?_); rintro e w' ⟨rfl, hw⟩; obtain rfl := hw.symm; clear hw)
      | (go_at_call 36; (with_reducible refine (HWg.out _ HB.out).mono ?_); rintro e w' ⟨rfl, hw⟩; obtain rfl := hw.symm; clear hw))
    have HX := Lk.mk (blk_drew HX.out)
    have HB := Lk.mk (below_drew HB.out)
    obtain ⟨c0, c1, c2, c3⟩ := cells4w HX.out
    go_region_held3 (fun W => W.cell? ⟨w.heap.size, 3, none⟩ = some (.slice A l.length c)) (first | exact c3) (first
      | (go_at_call 36; (with_reducible refine (HWf.out _ HB.out).mono ?_); rintro e w' ⟨rfl, hw⟩; obtain rfl := hw.symm; clear hw)
      | (go_at_call 36; (with_reducible refine (HWg.out _ HB.out).mono ?_); rintro e w' ⟨rfl, hw⟩; obtain rfl := hw.symm; clear hw))
    go_wp2_with (first
      | (go_at_call 102; (with_reducible refine (HF.out _).mono ?_); rintro e w' ⟨rfl, hw⟩; obtain rfl := hw.symm; clear hw)
      | (go_at_call 103; (with_reducible refine (HG.out _).mono ?_); rintro e w' ⟨rfl, hw⟩; obtain rfl := hw.symm; clear hw)
      | (go_at_call 51; (with_reducible refine (HP1.out _).mono ?_); rintro e w' ⟨rfl, hw⟩; obtain rfl := hw.symm; clear hw)
      | (go_at_call 51; (with_reducible refine (HP2.out _).mono ?_); rintro e w' ⟨rfl, hw⟩; obtain rfl := hw.symm; clear hw))
    go_ret
    exact ⟨rfl, HB.out⟩
def roomyB (pg pr lm : Int) (l : List (Int × List Int)) (f g : Int) : Bool := mayC pg pr lm l && decide (0 ≤ lWords l f) && decide (0 ≤ lWords l g) && decide (lWords l f + lWords l g ≤ lm) && decide (costZ (lWords l f).toNat (lWords l g).toNat ≤ pg)
theorem lWords_one {l : List (Int × List Int)} {f : Int} (hn : newOk l = true) (h : 0 ≤ lWords l f) : ∃ a : Nat, lWords l f = (a : Int) ∧ 1 ≤ a ∧ a ≤ 1002 := by
  have hi := (lSize_in hn f).2.1
  unfold lWords at h ⊢
  by_cases hs : lSize l f < 0
  · rw [if_pos hs] at h; omega
  · rw [if_neg hs] at h ⊢
    exact ⟨(lSize l f + 2).toNat, by omega, by omega, by omega⟩
theorem roomy_cases (pg pr lm : Int) (l : List (Int × List Int)) (f g : Int) : (mayC pg pr lm l = false ∧ roomyB pg pr lm l f g = false) ∨ mayC pg pr lm l = true ∧ ((lWords l f < 0 ∧ roomyB pg pr lm l f g = false) ∨ (0 ≤ lWords l f ∧ lWords l g < 0 ∧ roomyB pg pr lm l f g = false) ∨ ∃ a b : Nat, lWords l f = (a : Int) ∧ lWords l g = (b : Int) ∧ 1 ≤ a ∧ a + b ≤ 1000000 ∧ ((lm < (a : Int) + (b : Int) ∧ roomyB pg pr lm l f g = false) ∨ ((a : Int) + (b : Int) ≤ lm ∧ roomyB pg pr lm l f g = decide (costZ a b ≤ pg)))) := by
  unfold roomyB
  cases hm : mayC pg pr lm l with
  | false => exact .inl ⟨rfl, rfl⟩
  | true =>
    refine .inr ⟨rfl, ?_⟩
    by_cases hf : 0 ≤ lWords l f
    · by_cases hg : 0 ≤ lWords l g
      · obtain ⟨a, ha, ha1, ha2⟩ := lWords_one (mayC_new hm).1 hf
        obtain ⟨b, hb, hb1, hb2⟩ := lWords_one (mayC_new hm).1 hg
        refine .inr (.inr ⟨a, b, ha, hb, ha1, by omega, ?_⟩)
        rw [ha, hb, Int.toNat_natCast, Int.toNat_natCast, decide_eq_true (show (0 : Int) ≤ (a : Int) by omega), decide_eq_true (show (0 : Int) ≤ (b : Int) by omega)]
        by_cases h : (a : Int) + (b : Int) ≤ lm
        · rw [decide_eq_true h]; exact .inr ⟨h, rfl⟩
        · rw [decide_eq_false h]; exact .inl ⟨by omega, rfl⟩
      · rw [decide_eq_true hf, decide_eq_false hg]; exact .inr (.inl ⟨hf, by omega, rfl⟩)
    · rw [decide_eq_false hf]; exact .inl ⟨by omega, rfl⟩
theorem rroomy_any (pg pr lm : Int) (A : Option Addr) (c : Nat) (l : List (Int × List Int)) (f g : Int) (w : World) (hr : FnC w A l.length l) (hI : ∀ f ∈ l, Bm.Words f.2 ∧ f.2.length ≤ 68719476736) (hlm : I64 lm) :
    Calls Tryd.prog 49 #[.agg #[.int .i64 pg, .int .i64 pr, .int .i64 lm, .slice A l.length c], .int .i64 f, .int .i64 g] w fun e w' => e = .returned (.bool (roomyB pg pr lm l f g)) ∧ Below w.heap.size w w' := by
  rcases roomy_cases pg pr lm l f g with ⟨hm, e⟩ | ⟨hm, ⟨hf, e⟩ | ⟨hf, hg, e⟩ | ⟨a, b, ha, hb, h1, h2, ⟨h3, e⟩ | ⟨h3, e⟩⟩⟩
  · rw [e]; exact rroomy_may pg pr lm A c l f g w hr hI hlm hm
  · rw [e]; exact rroomy_f pg pr lm A c l f g w hr hI hlm hm hf
  · rw [e]; exact rroomy_g pg pr lm A c l f g w hr hI hlm hm hf hg
  · rw [e]; exact rroomy_over pg pr lm A c l f g w hr hI hlm hm a b ha hb h1 h2 h3
  · rw [e]; exact rroomy_ok pg pr lm A c l f g w hr hI hlm hm a b ha hb h1 h2 h3
theorem droomy_any (pg pr lm : Int) (A : Option Addr) (c : Nat) (l : List (Int × List Int)) (f g : Int) (w : World) (hr : FnC w A l.length l) (hw : FnsOk l) (hT : Tab w) (hlm : I64 lm) :
    Calls Tryd.prog 48 #[.agg #[.int .i64 pg, .int .i64 pr, .int .i64 lm, .slice A l.length c], .int .i64 f, .int .i64 g] w fun e w' => e = .returned (.bool (roomyB pg pr lm l f g)) ∧ Below w.heap.size w w' := by
  rcases roomy_cases pg pr lm l f g with ⟨hm, e⟩ | ⟨hm, ⟨hf, e⟩ | ⟨hf, hg, e⟩ | ⟨a, b, ha, hb, h1, h2, ⟨h3, e⟩ | ⟨h3, e⟩⟩⟩
  · rw [e]; exact roomy_may pg pr lm A c l f g w hr hw hT hlm hm
  · rw [e]; exact roomy_f pg pr lm A c l f g w hr hw hT hlm hm hf
  · rw [e]; exact roomy_g pg pr lm A c l f g w hr hw hT hlm hm hf hg
  · rw [e]
    by_cases h : lm < (a : Int)
    · exact roomy_first pg pr lm A c l f g w hr hw hT hlm hm a b ha hb h1 h
    · exact roomy_grow pg pr lm A c l f g w hr hw hT hlm hm a b ha hb h1 (by omega) h3
  · rw [e]; exact roomy_ok pg pr lm A c l f g w hr hw hT hlm hm a b ha hb h1 (by omega) h3
end Go.Proofs.YtbikdngpannekaaDoor
