/-
  The walk of drain.Roomy, case by case; conditions: the functions read as told. Printed by gen_roomy.py.
-/
import Derived.Test.YtbikdngpannekaaDoorRe
namespace Go.Proofs.YtbikdngpannekaaDoor
open Go.RowKit Go.Proofs.YtbikdngpannekaaDoorW.PrintWords

theorem ent_rng {t : List (Int × List Int)} (h : newOk t = true) : ∀ e ∈ t.map entryOf, -9223372036854775808 ≤ e.1 ∧ e.1 ≤ 9223372036854775805 := by
  intro e he
  obtain ⟨f, hf, rfl⟩ := List.mem_map.1 he
  have := (may_iff f.1 f.2).1 (newOk_may h f hf)
  have h1 : (entryOf f).1 = f.1 := rfl
  omega
theorem mayC_new {pg pr lm : Int} {l : List (Int × List Int)} (h : mayC pg pr lm l = true) : newOk l = true ∧ limB lm = true := by
  unfold mayC at h
  simp only [Bool.and_eq_true] at h
  exact ⟨h.1.1.1.1, h.1.1.2⟩
set_option maxRecDepth 100000 in
set_option maxHeartbeats 2000000 in
theorem roomy_may (pg pr lm : Int) (A : Option Addr) (c : Nat) (l : List (Int × List Int)) (f g : Int) (w : World) (hr : FnC w A l.length l) (hw : FnsOk l) (hT : Tab w) (hlm : I64 lm) (hm : mayC pg pr lm l = false) :
    Calls Tryd.prog 48 #[.agg #[.int .i64 pg, .int .i64 pr, .int .i64 lm, .slice A l.length c], .int .i64 f, .int .i64 g] w fun e w' => e = .returned (.bool false) ∧ Below w.heap.size w w' := by
  have HM := Lk.mk (fun W (hb : Below w.heap.size w W) => mmayC_any pg pr lm A c l W (hr.below hb) hw (hT.below hb) hlm)
  rw [hm] at HM
  clear hr hw hT hlm hm
  have hs1 : (w.alloc (.cells #[.int .i64 pg, .int .i64 pr, .int .i64 lm, .slice A l.length c] 83)).heap.size = w.heap.size + 1 := by simp
  have HB := Lk.mk (below_alloc (below_alloc (Below.refl w.heap.size w) (.cells #[.int .i64 pg, .int .i64 pr, .int .i64 lm, .slice A l.length c] 83)) (.cells #[.bool false] 4))
  have HX := Lk.mk (blk_alloc (blk_new w (.cells #[.int .i64 pg, .int .i64 pr, .int .i64 lm, .slice A l.length c] 83)) (.cells #[.bool false] 4))
  have he0 := blk_new (w.alloc (.cells #[.int .i64 pg, .int .i64 pr, .int .i64 lm, .slice A l.length c] 83)) (.cells #[.bool false] 4)
  rw [hs1] at he0
  have HE := Lk.mk he0
  clear he0
  obtain ⟨c0, c1, c2, c3⟩ := cells4w HX.out
  have e0 := blk_cell HE.out 0
  have ez := blk_frozen HE.out 0
  simp only [List.getElem?_toArray, List.getElem?_cons_zero] at e0
  go_enter_defers Tryd.func48, Tryd.ntmps48
  go_wp2_with (first
    | (go_at_call 98; (with_reducible refine (HM.out _ HB.out).mono ?_); rintro e w1 ⟨rfl, hb⟩; have HX := Lk.mk (blk_below HX.out hb); have HE := Lk.mk (blk_below HE.out hb); have HB := Lk.mk (below_then HB.out HB.out.size hb); obtain ⟨c0, c1, c2, c3⟩ := cells4w HX.out; have e0 := blk_cell HE.out 0; have ez := blk_frozen HE.out 0; simp only [List.getElem?_toArray, List.getElem?_cons_zero] at e0; clear hb)
    | (go_at_call 97; (with_reducible refine (dmust_no _).mono ?_); rintro e w' ⟨rfl, hw⟩; obtain rfl := hw.symm; clear hw))
  refine leaves_cons (f := 96) (args := #[.pointer (some ⟨w.heap.size + 1, 0, none⟩)]) (by simp) (by simp [go_sem]) ?_
  refine (dlit_thrown (w.heap.size + 1) (.bool false) _ e0 ez).mono ?_
  rintro e u' w'' ⟨rfl, rfl, rfl⟩
  have hcE2 := blk_cell (blk_alloc (blk_put (cs' := #[.bool false]) HE.out 0 (.bool false) rfl) (.cells #[] 139)) 0
  simp only [List.getElem?_toArray, List.getElem?_cons_zero] at hcE2
  have HBZ := Lk.mk (below_alloc (HB.out.setCell (p := ⟨w.heap.size + 1, 0, none⟩) (Nat.le_succ _) (.bool false)) (.cells #[] 139))
  simp [Leaves, settle, results, Tryd.results48, go_sem]
  refine ⟨.bool false, ?_, rfl, HBZ.out⟩
  rw [hcE2]
set_option maxRecDepth 100000 in
set_option maxHeartbeats 2000000 in
theorem roomy_f (pg pr lm : Int) (A : Option Addr) (c : Nat) (l : List (Int × List Int)) (f g : Int) (w : World) (hr : FnC w A l.length l) (hw : FnsOk l) (hT : Tab w) (hlm : I64 lm) (hm : mayC pg pr lm l = true) (hf : lWords l f < 0) :
    Calls Tryd.prog 48 #[.agg #[.int .i64 pg, .int .i64 pr, .int .i64 lm, .slice A l.length c], .int .i64 f, .int .i64 g] w fun e w' => e = .returned (.bool false) ∧ Below w.heap.size w w' := by
  have hn := (mayC_new hm).1
  have hL := (mayC_new hm).2
  have HM := Lk.mk (fun W (hb : Below w.heap.size w W) => mmayC_any pg pr lm A c l W (hr.below hb) hw (hT.below hb) hlm)
  rw [hm] at HM
  have HN := Lk.mk (fun W (hb : Below w.heap.size w W) => new_good A c l W (hr.below hb) hw (hT.below hb) hn)
  have HWf := Lk.mk (show ∀ W p, TblAt W p (l.map entryOf) → Calls Tryd.prog 76 #[p, .int .i64 f] W fun e w' => e = .returned (.int .i64 (lWords l f)) ∧ w' = W from fun W p h => tWords_map hn f ▸ words_any _ _ f W h.or (ent_rng hn))
  have HWg := Lk.mk (show ∀ W p, TblAt W p (l.map entryOf) → Calls Tryd.prog 76 #[p, .int .i64 g] W fun e w' => e = .returned (.int .i64 (lWords l g)) ∧ w' = W from fun W p h => tWords_map hn g ▸ words_any _ _ g W h.or (ent_rng hn))
  clear hr hw hT hlm hm hn
  clear hL
  have hs1 : (w.alloc (.cells #[.int .i64 pg, .int .i64 pr, .int .i64 lm, .slice A l.length c] 83)).heap.size = w.heap.size + 1 := by simp
  have HB := Lk.mk (below_alloc (below_alloc (Below.refl w.heap.size w) (.cells #[.int .i64 pg, .int .i64 pr, .int .i64 lm, .slice A l.length c] 83)) (.cells #[.bool false] 4))
  have HX := Lk.mk (blk_alloc (blk_new w (.cells #[.int .i64 pg, .int .i64 pr, .int .i64 lm, .slice A l.length c] 83)) (.cells #[.bool false] 4))
  have he0 := blk_new (w.alloc (.cells #[.int .i64 pg, .int .i64 pr, .int .i64 lm, .slice A l.length c] 83)) (.cells #[.bool false] 4)
  rw [hs1] at he0
  have HE := Lk.mk he0
  clear he0
  obtain ⟨c0, c1, c2, c3⟩ := cells4w HX.out
  have e0 := blk_cell HE.out 0
  have ez := blk_frozen HE.out 0
  simp only [List.getElem?_toArray, List.getElem?_cons_zero] at e0
  generalize lWords l f = x at *
  have hx : ¬ 0 ≤ x := by omega
  clear hf
  go_enter_defers Tryd.func48, Tryd.ntmps48
  go_wp2_with (first
    | (go_at_call 98; (with_reducible refine (HM.out _ HB.out).mono ?_); rintro e w1 ⟨rfl, hb⟩; have HX := Lk.mk (blk_below HX.out hb); have HE := Lk.mk (blk_below HE.out hb); have HB := Lk.mk (below_then HB.out HB.out.size hb); obtain ⟨c0, c1, c2, c3⟩ := cells4w HX.out; have e0 := blk_cell HE.out 0; have ez := blk_frozen HE.out 0; simp only [List.getElem?_toArray, List.getElem?_cons_zero] at e0; clear hb)
    | (go_at_call 18; (with_reducible refine (HN.out _ HB.out).mono ?_); rintro e w2 ⟨p, rfl, htb, hb⟩; have HT := Lk.mk htb; clear htb; have HX := Lk.mk (blk_below HX.out hb); have HE := Lk.mk (blk_below HE.out hb); have HB := Lk.mk (below_then HB.out HB.out.size hb); obtain ⟨c0, c1, c2, c3⟩ := cells4w HX.out; have e0 := blk_cell HE.out 0; have ez := blk_frozen HE.out 0; simp only [List.getElem?_toArray, List.getElem?_cons_zero] at e0; clear hb)
    | (go_at_call 76; (with_reducible refine (HWf.out _ _ HT.out).mono ?_); rintro e w' ⟨rfl, hw⟩; obtain rfl := hw.symm; clear hw)
    | (go_at_call 76; (with_reducible refine (HWg.out _ _ HT.out).mono ?_); rintro e w' ⟨rfl, hw⟩; obtain rfl := hw.symm; clear hw)
    | (go_at_call 97; (with_reducible refine (dmust_ok _).mono ?_); rintro e w' ⟨rfl, hw⟩; obtain rfl := hw.symm; clear hw)
    | (go_at_call 97; (with_reducible refine (dmust_no _).mono ?_); rintro e w' ⟨rfl, hw⟩; obtain rfl := hw.symm; clear hw))
  refine leaves_cons (f := 96) (args := #[.pointer (some ⟨w.heap.size + 1, 0, none⟩)]) (by simp) (by simp [go_sem]) ?_
  refine (dlit_thrown (w.heap.size + 1) (.bool false) _ e0 ez).mono ?_
  rintro e u' w'' ⟨rfl, rfl, rfl⟩
  have hcE2 := blk_cell (blk_alloc (blk_put (cs' := #[.bool false]) HE.out 0 (.bool false) rfl) (.cells #[] 139)) 0
  simp only [List.getElem?_toArray, List.getElem?_cons_zero] at hcE2
  have HBZ := Lk.mk (below_alloc (HB.out.setCell (p := ⟨w.heap.size + 1, 0, none⟩) (Nat.le_succ _) (.bool false)) (.cells #[] 139))
  simp [Leaves, settle, results, Tryd.results48, go_sem]
  refine ⟨.bool false, ?_, rfl, HBZ.out⟩
  rw [hcE2]
set_option maxRecDepth 100000 in
set_option maxHeartbeats 2000000 in
theorem roomy_g (pg pr lm : Int) (A : Option Addr) (c : Nat) (l : List (Int × List Int)) (f g : Int) (w : World) (hr : FnC w A l.length l) (hw : FnsOk l) (hT : Tab w) (hlm : I64 lm) (hm : mayC pg pr lm l = true) (hf : 0 ≤ lWords l f) (hg : lWords l g < 0) :
    Calls Tryd.prog 48 #[.agg #[.int .i64 pg, .int .i64 pr, .int .i64 lm, .slice A l.length c], .int .i64 f, .int .i64 g] w fun e w' => e = .returned (.bool false) ∧ Below w.heap.size w w' := by
  have hn := (mayC_new hm).1
  have hL := (mayC_new hm).2
  have HM := Lk.mk (fun W (hb : Below w.heap.size w W) => mmayC_any pg pr lm A c l W (hr.below hb) hw (hT.below hb) hlm)
  rw [hm] at HM
  have HN := Lk.mk (fun W (hb : Below w.heap.size w W) => new_good A c l W (hr.below hb) hw (hT.below hb) hn)
  have HWf := Lk.mk (show ∀ W p, TblAt W p (l.map entryOf) → Calls Tryd.prog 76 #[p, .int .i64 f] W fun e w' => e = .returned (.int .i64 (lWords l f)) ∧ w' = W from fun W p h => tWords_map hn f ▸ words_any _ _ f W h.or (ent_rng hn))
  have HWg := Lk.mk (show ∀ W p, TblAt W p (l.map entryOf) → Calls Tryd.prog 76 #[p, .int .i64 g] W fun e w' => e = .returned (.int .i64 (lWords l g)) ∧ w' = W from fun W p h => tWords_map hn g ▸ words_any _ _ g W h.or (ent_rng hn))
  clear hr hw hT hlm hm hn
  clear hL
  have hs1 : (w.alloc (.cells #[.int .i64 pg, .int .i64 pr, .int .i64 lm, .slice A l.length c] 83)).heap.size = w.heap.size + 1 := by simp
  have HB := Lk.mk (below_alloc (below_alloc (Below.refl w.heap.size w) (.cells #[.int .i64 pg, .int .i64 pr, .int .i64 lm, .slice A l.length c] 83)) (.cells #[.bool false] 4))
  have HX := Lk.mk (blk_alloc (blk_new w (.cells #[.int .i64 pg, .int .i64 pr, .int .i64 lm, .slice A l.length c] 83)) (.cells #[.bool false] 4))
  have he0 := blk_new (w.alloc (.cells #[.int .i64 pg, .int .i64 pr, .int .i64 lm, .slice A l.length c] 83)) (.cells #[.bool false] 4)
  rw [hs1] at he0
  have HE := Lk.mk he0
  clear he0
  obtain ⟨c0, c1, c2, c3⟩ := cells4w HX.out
  have e0 := blk_cell HE.out 0
  have ez := blk_frozen HE.out 0
  simp only [List.getElem?_toArray, List.getElem?_cons_zero] at e0
  generalize lWords l f = x at *
  generalize lWords l g = y at *
  have HYN := Lk.mk (show decide (0 ≤ y) = false from decide_eq_false (by omega))
  clear hg
  go_enter_defers Tryd.func48, Tryd.ntmps48
  go_wp2_with (first
    | (go_at_call 98; (with_reducible refine (HM.out _ HB.out).mono ?_); rintro e w1 ⟨rfl, hb⟩; have HX := Lk.mk (blk_below HX.out hb); have HE := Lk.mk (blk_below HE.out hb); have HB := Lk.mk (below_then HB.out HB.out.size hb); obtain ⟨c0, c1, c2, c3⟩ := cells4w HX.out; have e0 := blk_cell HE.out 0; have ez := blk_frozen HE.out 0; simp only [List.getElem?_toArray, List.getElem?_cons_zero] at e0; clear hb)
    | (go_at_call 18; (with_reducible refine (HN.out _ HB.out).mono ?_); rintro e w2 ⟨p, rfl, htb, hb⟩; have HT := Lk.mk htb; clear htb; have HX := Lk.mk (blk_below HX.out hb); have HE := Lk.mk (blk_below HE.out hb); have HB := Lk.mk (below_then HB.out HB.out.size hb); obtain ⟨c0, c1, c2, c3⟩ := cells4w HX.out; have e0 := blk_cell HE.out 0; have ez := blk_frozen HE.out 0; simp only [List.getElem?_toArray, List.getElem?_cons_zero] at e0; clear hb)
    | (go_at_call 76; (with_reducible refine (HWf.out _ _ HT.out).mono ?_); rintro e w' ⟨rfl, hw⟩; obtain rfl := hw.symm; clear hw)
    | (go_at_call 76; (with_reducible refine (HWg.out _ _ HT.out).mono ?_); rintro e w' ⟨rfl, hw⟩; obtain rfl := hw.symm; clear hw)
    | (go_at_call 97; (with_reducible refine (dmust_ok _).mono ?_); rintro e w' ⟨rfl, hw⟩; obtain rfl := hw.symm; clear hw)
    | (go_at_call 97; (with_reducible refine (dmust_no _).mono ?_); rintro e w' ⟨rfl, hw⟩; obtain rfl := hw.symm; clear hw)
    | (go_at_call 97; rw [HYN.out]; (with_reducible refine (dmust_no _).mono ?_); rintro e w' ⟨rfl, hw⟩; obtain rfl := hw.symm; clear hw))
  refine leaves_cons (f := 96) (args := #[.pointer (some ⟨w.heap.size + 1, 0, none⟩)]) (by simp) (by simp [go_sem]) ?_
  refine (dlit_thrown (w.heap.size + 1) (.bool false) _ e0 ez).mono ?_
  rintro e u' w'' ⟨rfl, rfl, rfl⟩
  have hcE2 := blk_cell (blk_alloc (blk_put (cs' := #[.bool false]) HE.out 0 (.bool false) rfl) (.cells #[] 139)) 0
  simp only [List.getElem?_toArray, List.getElem?_cons_zero] at hcE2
  have HBZ := Lk.mk (below_alloc (HB.out.setCell (p := ⟨w.heap.size + 1, 0, none⟩) (Nat.le_succ _) (.bool false)) (.cells #[] 139))
  simp [Leaves, settle, results, Tryd.results48, go_sem]
  refine ⟨.bool false, ?_, rfl, HBZ.out⟩
  rw [hcE2]
set_option maxRecDepth 100000 in
set_option maxHeartbeats 2000000 in
theorem roomy_first (pg pr lm : Int) (A : Option Addr) (c : Nat) (l : List (Int × List Int)) (f g : Int) (w : World) (hr : FnC w A l.length l) (hw : FnsOk l) (hT : Tab w) (hlm : I64 lm) (hm : mayC pg pr lm l = true) (a b : Nat) (ha : lWords l f = (a : Int)) (hb9 : lWords l g = (b : Int)) (h1 : 1 ≤ a) (h2 : lm < (a : Int)) :
    Calls Tryd.prog 48 #[.agg #[.int .i64 pg, .int .i64 pr, .int .i64 lm, .slice A l.length c], .int .i64 f, .int .i64 g] w fun e w' => e = .returned (.bool false) ∧ Below w.heap.size w w' := by
  have hn := (mayC_new hm).1
  have hL := (mayC_new hm).2
  have HM := Lk.mk (fun W (hb : Below w.heap.size w W) => mmayC_any pg pr lm A c l W (hr.below hb) hw (hT.below hb) hlm)
  rw [hm] at HM
  have HN := Lk.mk (fun W (hb : Below w.heap.size w W) => new_good A c l W (hr.below hb) hw (hT.below hb) hn)
  have HWf := Lk.mk (show ∀ W p, TblAt W p (l.map entryOf) → Calls Tryd.prog 76 #[p, .int .i64 f] W fun e w' => e = .returned (.int .i64 (lWords l f)) ∧ w' = W from fun W p h => tWords_map hn f ▸ words_any _ _ f W h.or (ent_rng hn))
  have HWg := Lk.mk (show ∀ W p, TblAt W p (l.map entryOf) → Calls Tryd.prog 76 #[p, .int .i64 g] W fun e w' => e = .returned (.int .i64 (lWords l g)) ∧ w' = W from fun W p h => tWords_map hn g ▸ words_any _ _ g W h.or (ent_rng hn))
  clear hr hw hT hlm hm hn
  obtain ⟨m, rfl, hmp, hm16, hm64⟩ := limB_pow hL
  rw [ha] at HWf
  rw [hb9] at HWg
  have ha0 : (0 : Int) ≤ (a : Int) := by omega
  have hb0 : (0 : Int) ≤ (b : Int) := by omega
  have HF := Lk.mk (fun W => first_over a m W hL h1 (by omega))
  clear hL hmp hm16 hm64 ha hb9 h1 h2
  have hs1 : (w.alloc (.cells #[.int .i64 pg, .int .i64 pr, .int .i64 m, .slice A l.length c] 83)).heap.size = w.heap.size + 1 := by simp
  have HB := Lk.mk (below_alloc (below_alloc (Below.refl w.heap.size w) (.cells #[.int .i64 pg, .int .i64 pr, .int .i64 m, .slice A l.length c] 83)) (.cells #[.bool false] 4))
  have HX := Lk.mk (blk_alloc (blk_new w (.cells #[.int .i64 pg, .int .i64 pr, .int .i64 m, .slice A l.length c] 83)) (.cells #[.bool false] 4))
  have he0 := blk_new (w.alloc (.cells #[.int .i64 pg, .int .i64 pr, .int .i64 m, .slice A l.length c] 83)) (.cells #[.bool false] 4)
  rw [hs1] at he0
  have HE := Lk.mk he0
  clear he0
  obtain ⟨c0, c1, c2, c3⟩ := cells4w HX.out
  have e0 := blk_cell HE.out 0
  have ez := blk_frozen HE.out 0
  simp only [List.getElem?_toArray, List.getElem?_cons_zero] at e0
  go_enter_defers Tryd.func48, Tryd.ntmps48
  go_wp2_with (first
    | (go_at_call 98; (with_reducible refine (HM.out _ HB.out).mono ?_); rintro e w1 ⟨rfl, hb⟩; have HX := Lk.mk (blk_below HX.out hb); have HE := Lk.mk (blk_below HE.out hb); have HB := Lk.mk (below_then HB.out HB.out.size hb); obtain ⟨c0, c1, c2, c3⟩ := cells4w HX.out; have e0 := blk_cell HE.out 0; have ez := blk_frozen HE.out 0; simp only [List.getElem?_toArray, List.getElem?_cons_zero] at e0; clear hb)
    | (go_at_call 18; (with_reducible refine (HN.out _ HB.out).mono ?_); rintro e w2 ⟨p, rfl, htb, hb⟩; have HT := Lk.mk htb; clear htb; have HX := Lk.mk (blk_below HX.out hb); have HE := Lk.mk (blk_below HE.out hb); have HB := Lk.mk (below_then HB.out HB.out.size hb); obtain ⟨c0, c1, c2, c3⟩ := cells4w HX.out; have e0 := blk_cell HE.out 0; have ez := blk_frozen HE.out 0; simp only [List.getElem?_toArray, List.getElem?_cons_zero] at e0; clear hb)
    | (go_at_call 76; (with_reducible refine (HWf.out _ _ HT.out).mono ?_); rintro e w' ⟨rfl, hw⟩; obtain rfl := hw.symm; clear hw)
    | (go_at_call 76; (with_reducible refine (HWg.out _ _ HT.out).mono ?_); rintro e w' ⟨rfl, hw⟩; obtain rfl := hw.symm; clear hw)
    | (go_at_call 97; (with_reducible refine (dmust_ok _).mono ?_); rintro e w' ⟨rfl, hw⟩; obtain rfl := hw.symm; clear hw)
    | (go_at_call 97; (with_reducible refine (dmust_no _).mono ?_); rintro e w' ⟨rfl, hw⟩; obtain rfl := hw.symm; clear hw))
  have HX := Lk.mk (blk_drew HX.out)
  have HE := Lk.mk (blk_drew HE.out)
  have HB := Lk.mk (below_drew HB.out)
  have HT := Lk.mk (HT.out.below (below_drew (Below.refl _ _)))
  obtain ⟨c0, c1, c2, c3⟩ := cells4w HX.out
  go_region_held3 (fun W => W.cell? ⟨w.heap.size, 2, none⟩ = some (.int .i64 m)) (first | exact c2) (first
    | (go_at_call 76; (with_reducible refine (HWf.out _ _ HT.out).mono ?_); rintro e w' ⟨rfl, hw⟩; obtain rfl := hw.symm; clear hw)
    | (go_at_call 76; (with_reducible refine (HWg.out _ _ HT.out).mono ?_); rintro e w' ⟨rfl, hw⟩; obtain rfl := hw.symm; clear hw)
    | (go_at_call 99; (with_reducible refine (HF.out _).mono ?_); rintro e w3 ⟨rfl, hb⟩; have HT := Lk.mk (HT.out.below hb); have HX := Lk.mk (blk_below HX.out hb); have HE := Lk.mk (blk_below HE.out hb); have HB := Lk.mk (below_then HB.out HB.out.size hb); obtain ⟨c0, c1, c2, c3⟩ := cells4w HX.out; have e0 := blk_cell HE.out 0; have ez := blk_frozen HE.out 0; simp only [List.getElem?_toArray, List.getElem?_cons_zero] at e0; clear hb))
  go_wp2_with (first
    | (go_at_call 97; (with_reducible refine (dmust_ok _).mono ?_); rintro e w' ⟨rfl, hw⟩; obtain rfl := hw.symm; clear hw)
    | (go_at_call 97; (with_reducible refine (dmust_no _).mono ?_); rintro e w' ⟨rfl, hw⟩; obtain rfl := hw.symm; clear hw))
  refine leaves_cons (f := 96) (args := #[.pointer (some ⟨w.heap.size + 1, 0, none⟩)]) (by simp) (by simp [go_sem]) ?_
  refine (dlit_thrown (w.heap.size + 1) (.bool false) _ e0 ez).mono ?_
  rintro e u' w'' ⟨rfl, rfl, rfl⟩
  have hcE2 := blk_cell (blk_alloc (blk_put (cs' := #[.bool false]) HE.out 0 (.bool false) rfl) (.cells #[] 139)) 0
  simp only [List.getElem?_toArray, List.getElem?_cons_zero] at hcE2
  have HBZ := Lk.mk (below_alloc (HB.out.setCell (p := ⟨w.heap.size + 1, 0, none⟩) (Nat.le_succ _) (.bool false)) (.cells #[] 139))
  simp [Leaves, settle, results, Tryd.results48, go_sem]
  refine ⟨.bool false, ?_, rfl, HBZ.out⟩
  rw [hcE2]
set_option maxRecDepth 100000 in
set_option maxHeartbeats 2000000 in
theorem roomy_grow (pg pr lm : Int) (A : Option Addr) (c : Nat) (l : List (Int × List Int)) (f g : Int) (w : World) (hr : FnC w A l.length l) (hw : FnsOk l) (hT : Tab w) (hlm : I64 lm) (hm : mayC pg pr lm l = true) (a b : Nat) (ha : lWords l f = (a : Int)) (hb9 : lWords l g = (b : Int)) (h1 : 1 ≤ a) (h2 : (a : Int) ≤ lm) (h3 : lm < (a : Int) + (b : Int)) :
    Calls Tryd.prog 48 #[.agg #[.int .i64 pg, .int .i64 pr, .int .i64 lm, .slice A l.length c], .int .i64 f, .int .i64 g] w fun e w' => e = .returned (.bool false) ∧ Below w.heap.size w w' := by
  have hn := (mayC_new hm).1
  have hL := (mayC_new hm).2
  have HM := Lk.mk (fun W (hb : Below w.heap.size w W) => mmayC_any pg pr lm A c l W (hr.below hb) hw (hT.below hb) hlm)
  rw [hm] at HM
  have HN := Lk.mk (fun W (hb : Below w.heap.size w W) => new_good A c l W (hr.below hb) hw (hT.below hb) hn)
  have HWf := Lk.mk (show ∀ W p, TblAt W p (l.map entryOf) → Calls Tryd.prog 76 #[p, .int .i64 f] W fun e w' => e = .returned (.int .i64 (lWords l f)) ∧ w' = W from fun W p h => tWords_map hn f ▸ words_any _ _ f W h.or (ent_rng hn))
  have HWg := Lk.mk (show ∀ W p, TblAt W p (l.map entryOf) → Calls Tryd.prog 76 #[p, .int .i64 g] W fun e w' => e = .returned (.int .i64 (lWords l g)) ∧ w' = W from fun W p h => tWords_map hn g ▸ words_any _ _ g W h.or (ent_rng hn))
  clear hr hw hT hlm hm hn
  obtain ⟨m, rfl, hmp, hm16, hm64⟩ := limB_pow hL
  rw [ha] at HWf
  rw [hb9] at HWg
  have ha0 : (0 : Int) ≤ (a : Int) := by omega
  have hb0 : (0 : Int) ≤ (b : Int) := by omega
  have HF := Lk.mk (fun W => first_ok a m W hL h1 (by omega))
  have hsp := Rk.rnd_pow (s := 16) (w := a) (by decide)
  have hsl := Rk.rnd_le (s := 16) (w := a) (m := m) hmp hm16 (by omega) (by omega)
  have hsg := Rk.rnd_ge (s := 16) (w := a) (by omega)
  have HG := Lk.mk (fun W => grow_over (Rk.rnd 16 a) a b m W hL hsp hsg.1 hsl hsg.2 (by omega))
  clear hL hmp hm16 hm64 ha hb9 h1 h2 h3 hsp hsl hsg
  generalize Rk.rnd 16 a = s at *
  have hs1 : (w.alloc (.cells #[.int .i64 pg, .int .i64 pr, .int .i64 m, .slice A l.length c] 83)).heap.size = w.heap.size + 1 := by simp
  have HB := Lk.mk (below_alloc (below_alloc (Below.refl w.heap.size w) (.cells #[.int .i64 pg, .int .i64 pr, .int .i64 m, .slice A l.length c] 83)) (.cells #[.bool false] 4))
  have HX := Lk.mk (blk_alloc (blk_new w (.cells #[.int .i64 pg, .int .i64 pr, .int .i64 m, .slice A l.length c] 83)) (.cells #[.bool false] 4))
  have he0 := blk_new (w.alloc (.cells #[.int .i64 pg, .int .i64 pr, .int .i64 m, .slice A l.length c] 83)) (.cells #[.bool false] 4)
  rw [hs1] at he0
  have HE := Lk.mk he0
  clear he0
  obtain ⟨c0, c1, c2, c3⟩ := cells4w HX.out
  have e0 := blk_cell HE.out 0
  have ez := blk_frozen HE.out 0
  simp only [List.getElem?_toArray, List.getElem?_cons_zero] at e0
  go_enter_defers Tryd.func48, Tryd.ntmps48
  go_wp2_with (first
    | (go_at_call 98; (with_reducible refine (HM.out _ HB.out).mono ?_); rintro e w1 ⟨rfl, hb⟩; have HX := Lk.mk (blk_below HX.out hb); have HE := Lk.mk (blk_below HE.out hb); have HB := Lk.mk (below_then HB.out HB.out.size hb); obtain ⟨c0, c1, c2, c3⟩ := cells4w HX.out; have e0 := blk_cell HE.out 0; have ez := blk_frozen HE.out 0; simp only [List.getElem?_toArray, List.getElem?_cons_zero] at e0; clear hb)
    | (go_at_call 18; (with_reducible refine (HN.out _ HB.out).mono ?_); rintro e w2 ⟨p, rfl, htb, hb⟩; have HT := Lk.mk htb; clear htb; have HX := Lk.mk (blk_below HX.out hb); have HE := Lk.mk (blk_below HE.out hb); have HB := Lk.mk (below_then HB.out HB.out.size hb); obtain ⟨c0, c1, c2, c3⟩ := cells4w HX.out; have e0 := blk_cell HE.out 0; have ez := blk_frozen HE.out 0; simp only [List.getElem?_toArray, List.getElem?_cons_zero] at e0; clear hb)
    | (go_at_call 76; (with_reducible refine (HWf.out _ _ HT.out).mono ?_); rintro e w' ⟨rfl, hw⟩; obtain rfl := hw.symm; clear hw)
    | (go_at_call 76; (with_reducible refine (HWg.out _ _ HT.out).mono ?_); rintro e w' ⟨rfl, hw⟩; obtain rfl := hw.symm; clear hw)
    | (go_at_call 97; (with_reducible refine (dmust_ok _).mono ?_); rintro e w' ⟨rfl, hw⟩; obtain rfl := hw.symm; clear hw)
    | (go_at_call 97; (with_reducible refine (dmust_no _).mono ?_); rintro e w' ⟨rfl, hw⟩; obtain rfl := hw.symm; clear hw))
  have HX := Lk.mk (blk_drew HX.out)
  have HE := Lk.mk (blk_drew HE.out)
  have HB := Lk.mk (below_drew HB.out)
  have HT := Lk.mk (HT.out.below (below_drew (Below.refl _ _)))
  obtain ⟨c0, c1, c2, c3⟩ := cells4w HX.out
  go_region_held3 (fun W => W.cell? ⟨w.heap.size, 2, none⟩ = some (.int .i64 m)) (first | exact c2) (first
    | (go_at_call 76; (with_reducible refine (HWf.out _ _ HT.out).mono ?_); rintro e w' ⟨rfl, hw⟩; obtain rfl := hw.symm; clear hw)
    | (go_at_call 76; (with_reducible refine (HWg.out _ _ HT.out).mono ?_); rintro e w' ⟨rfl, hw⟩; obtain rfl := hw.symm; clear hw)
    | (go_at_call 99; (with_reducible refine (HF.out _).mono ?_); rintro e w3 ⟨rfl, hb⟩; have HT := Lk.mk (HT.out.below hb); have HX := Lk.mk (blk_below HX.out hb); have HE := Lk.mk (blk_below HE.out hb); have HB := Lk.mk (below_then HB.out HB.out.size hb); obtain ⟨c0, c1, c2, c3⟩ := cells4w HX.out; have e0 := blk_cell HE.out 0; have ez := blk_frozen HE.out 0; simp only [List.getElem?_toArray, List.getElem?_cons_zero] at e0; clear hb))
  go_wp2_with (first
    | (go_at_call 97; (with_reducible refine (dmust_ok _).mono ?_); rintro e w' ⟨rfl, hw⟩; obtain rfl := hw.symm; clear hw)
    | (go_at_call 97; (with_reducible refine (dmust_no _).mono ?_); rintro e w' ⟨rfl, hw⟩; obtain rfl := hw.symm; clear hw))
  have HX := Lk.mk (blk_drew HX.out)
  have HE := Lk.mk (blk_drew HE.out)
  have HB := Lk.mk (below_drew HB.out)
  have HT := Lk.mk (HT.out.below (below_drew (Below.refl _ _)))
  obtain ⟨c0, c1, c2, c3⟩ := cells4w HX.out
  go_region_held3 (fun W => W.cell? ⟨w.heap.size, 2, none⟩ = some (.int .i64 m)) (first | exact c2) (first
    | (go_at_call 76; (with_reducible refine (HWf.out _ _ HT.out).mono ?_); rintro e w' ⟨rfl, hw⟩; obtain rfl := hw.symm; clear hw)
    | (go_at_call 76; (with_reducible refine (HWg.out _ _ HT.out).mono ?_); rintro e w' ⟨rfl, hw⟩; obtain rfl := hw.symm; clear hw)
    | (go_at_call 100; (with_reducible refine (HG.out _).mono ?_); rintro e w3 ⟨rfl, hb⟩; have HT := Lk.mk (HT.out.below hb); have HX := Lk.mk (blk_below HX.out hb); have HE := Lk.mk (blk_below HE.out hb); have HB := Lk.mk (below_then HB.out HB.out.size hb); obtain ⟨c0, c1, c2, c3⟩ := cells4w HX.out; have e0 := blk_cell HE.out 0; have ez := blk_frozen HE.out 0; simp only [List.getElem?_toArray, List.getElem?_cons_zero] at e0; clear hb))
  go_wp2_with (first
    | (go_at_call 97; (with_reducible refine (dmust_ok _).mono ?_); rintro e w' ⟨rfl, hw⟩; obtain rfl := hw.symm; clear hw)
    | (go_at_call 97; (with_reducible refine (dmust_no _).mono ?_); rintro e w' ⟨rfl, hw⟩; obtain rfl := hw.symm; clear hw))
  refine leaves_cons (f := 96) (args := #[.pointer (some ⟨w.heap.size + 1, 0, none⟩)]) (by simp) (by simp [go_sem]) ?_
  refine (dlit_thrown (w.heap.size + 1) (.bool false) _ e0 ez).mono ?_
  rintro e u' w'' ⟨rfl, rfl, rfl⟩
  have hcE2 := blk_cell (blk_alloc (blk_put (cs' := #[.bool false]) HE.out 0 (.bool false) rfl) (.cells #[] 139)) 0
  simp only [List.getElem?_toArray, List.getElem?_cons_zero] at hcE2
  have HBZ := Lk.mk (below_alloc (HB.out.setCell (p := ⟨w.heap.size + 1, 0, none⟩) (Nat.le_succ _) (.bool false)) (.cells #[] 139))
  simp [Leaves, settle, results, Tryd.results48, go_sem]
  refine ⟨.bool false, ?_, rfl, HBZ.out⟩
  rw [hcE2]
def costZ (a b : Nat) : Int := pagesZ (Rk.rnd 16 a : Nat) + (if Rk.rnd (Rk.rnd 16 a) (a + b) = Rk.rnd 16 a then 0 else pagesZ (Rk.rnd (Rk.rnd 16 a) (a + b) : Nat))
theorem pagesZ_rng {n : Nat} (h : n ≤ 65536) : 0 ≤ pagesZ (n : Int) ∧ pagesZ (n : Int) ≤ 1024 := by
  unfold pagesZ
  split
  · split <;> omega
  · omega
set_option maxRecDepth 100000 in
set_option maxHeartbeats 2000000 in
theorem roomy_ok (pg pr lm : Int) (A : Option Addr) (c : Nat) (l : List (Int × List Int)) (f g : Int) (w : World) (hr : FnC w A l.length l) (hw : FnsOk l) (hT : Tab w) (hlm : I64 lm) (hm : mayC pg pr lm l = true) (a b : Nat) (ha : lWords l f = (a : Int)) (hb9 : lWords l g = (b : Int)) (h1 : 1 ≤ a) (h2 : (a : Int) ≤ lm) (h3 : (a : Int) + (b : Int) ≤ lm) :
    Calls Tryd.prog 48 #[.agg #[.int .i64 pg, .int .i64 pr, .int .i64 lm, .slice A l.length c], .int .i64 f, .int .i64 g] w fun e w' => e = .returned (.bool (decide (costZ a b ≤ pg))) ∧ Below w.heap.size w w' := by
  have hn := (mayC_new hm).1
  have hL := (mayC_new hm).2
  have HM := Lk.mk (fun W (hb : Below w.heap.size w W) => mmayC_any pg pr lm A c l W (hr.below hb) hw (hT.below hb) hlm)
  rw [hm] at HM
  have HN := Lk.mk (fun W (hb : Below w.heap.size w W) => new_good A c l W (hr.below hb) hw (hT.below hb) hn)
  have HWf := Lk.mk (show ∀ W p, TblAt W p (l.map entryOf) → Calls Tryd.prog 76 #[p, .int .i64 f] W fun e w' => e = .returned (.int .i64 (lWords l f)) ∧ w' = W from fun W p h => tWords_map hn f ▸ words_any _ _ f W h.or (ent_rng hn))
  have HWg := Lk.mk (show ∀ W p, TblAt W p (l.map entryOf) → Calls Tryd.prog 76 #[p, .int .i64 g] W fun e w' => e = .returned (.int .i64 (lWords l g)) ∧ w' = W from fun W p h => tWords_map hn g ▸ words_any _ _ g W h.or (ent_rng hn))
  clear hr hw hT hlm hm hn
  obtain ⟨m, rfl, hmp, hm16, hm64⟩ := limB_pow hL
  rw [ha] at HWf
  rw [hb9] at HWg
  have ha0 : (0 : Int) ≤ (a : Int) := by omega
  have hb0 : (0 : Int) ≤ (b : Int) := by omega
  have HF := Lk.mk (fun W => first_ok a m W hL h1 (by omega))
  have hsp := Rk.rnd_pow (s := 16) (w := a) (by decide)
  have hsl := Rk.rnd_le (s := 16) (w := a) (m := m) hmp hm16 (by omega) (by omega)
  have hsg := Rk.rnd_ge (s := 16) (w := a) (by omega)
  have HG := Lk.mk (fun W => grow_ok (Rk.rnd 16 a) a b m W hL hsp hsg.1 hsl hsg.2 (by omega))
  have htl := Rk.rnd_le (s := Rk.rnd 16 a) (w := a + b) (m := m) hmp hsl (by omega) (by omega)
  have HP1 := Lk.mk (fun W => dpages_any ((Rk.rnd 16 a : Nat) : Int) W (by omega))
  have HP2 := Lk.mk (fun W => dpages_any ((Rk.rnd (Rk.rnd 16 a) (a + b) : Nat) : Int) W (by omega))
  have hp1 := pagesZ_rng (n := Rk.rnd 16 a) (by omega)
  have hp2 := pagesZ_rng (n := Rk.rnd (Rk.rnd 16 a) (a + b)) (by omega)
  have HC := Lk.mk (show costZ a b = pagesZ (Rk.rnd 16 a : Nat) + (if Rk.rnd (Rk.rnd 16 a) (a + b) = Rk.rnd 16 a then 0 else pagesZ (Rk.rnd (Rk.rnd 16 a) (a + b) : Nat)) from rfl)
  clear hL hmp hm16 hm64 ha hb9 h1 h2 h3 hsp hsl hsg htl
  generalize costZ a b = cst at *
  generalize hs9 : Rk.rnd 16 a = s at *
  clear hs9
  generalize hs9 : Rk.rnd s (a + b) = t at *
  clear hs9
  generalize hs9 : pagesZ (s : Int) = x at *
  generalize hs8 : pagesZ (t : Int) = y at *
  clear hs9 hs8
  have hwr : IntKind.i64.wrap (x + y) = x + y := IntWalk.i64_in _ (by omega)
  clear hp1 hp2
  have hs1 : (w.alloc (.cells #[.int .i64 pg, .int .i64 pr, .int .i64 m, .slice A l.length c] 83)).heap.size = w.heap.size + 1 := by simp
  have HB := Lk.mk (below_alloc (below_alloc (Below.refl w.heap.size w) (.cells #[.int .i64 pg, .int .i64 pr, .int .i64 m, .slice A l.length c] 83)) (.cells #[.bool false] 4))
  have HX := Lk.mk (blk_alloc (blk_new w (.cells #[.int .i64 pg, .int .i64 pr, .int .i64 m, .slice A l.length c] 83)) (.cells #[.bool false] 4))
  have he0 := blk_new (w.alloc (.cells #[.int .i64 pg, .int .i64 pr, .int .i64 m, .slice A l.length c] 83)) (.cells #[.bool false] 4)
  rw [hs1] at he0
  have HE := Lk.mk he0
  clear he0
  obtain ⟨c0, c1, c2, c3⟩ := cells4w HX.out
  have e0 := blk_cell HE.out 0
  have ez := blk_frozen HE.out 0
  simp only [List.getElem?_toArray, List.getElem?_cons_zero] at e0
  by_cases hst : t = s
  · subst hst
    rw [if_pos rfl, Int.add_zero] at HC
    obtain rfl := HC.out
    go_enter_defers Tryd.func48, Tryd.ntmps48
    go_wp2_with (first
      | (go_at_call 98; (with_reducible refine (HM.out _ HB.out).mono ?_); rintro e w1 ⟨rfl, hb⟩; have HX := Lk.mk (blk_below HX.out hb); have HE := Lk.mk (blk_below HE.out hb); have HB := Lk.mk (below_then HB.out HB.out.size hb); obtain ⟨c0, c1, c2, c3⟩ := cells4w HX.out; have e0 := blk_cell HE.out 0; have ez := blk_frozen HE.out 0; simp only [List.getElem?_toArray, List.getElem?_cons_zero] at e0; clear hb)
      | (go_at_call 18; (with_reducible refine (HN.out _ HB.out).mono ?_); rintro e w2 ⟨p, rfl, htb, hb⟩; have HT := Lk.mk htb; clear htb; have HX := Lk.mk (blk_below HX.out hb); have HE := Lk.mk (blk_below HE.out hb); have HB := Lk.mk (below_then HB.out HB.out.size hb); obtain ⟨c0, c1, c2, c3⟩ := cells4w HX.out; have e0 := blk_cell HE.out 0; have ez := blk_frozen HE.out 0; simp only [List.getElem?_toArray, List.getElem?_cons_zero] at e0; clear hb)
      | (go_at_call 76; (with_reducible refine (HWf.out _ _ HT.out).mono ?_); rintro e w' ⟨rfl, hw⟩; obtain rfl := hw.symm; clear hw)
      | (go_at_call 76; (with_reducible refine (HWg.out _ _ HT.out).mono ?_); rintro e w' ⟨rfl, hw⟩; obtain rfl := hw.symm; clear hw)
      | (go_at_call 97; (with_reducible refine (dmust_ok _).mono ?_); rintro e w' ⟨rfl, hw⟩; obtain rfl := hw.symm; clear hw)
      | (go_at_call 97; (with_reducible refine (dmust_no _).mono ?_); rintro e w' ⟨rfl, hw⟩; obtain rfl := hw.symm; clear hw))
    have HX := Lk.mk (blk_drew HX.out)
    have HE := Lk.mk (blk_drew HE.out)
    have HB := Lk.mk (below_drew HB.out)
    have HT := Lk.mk (HT.out.below (below_drew (Below.refl _ _)))
    obtain ⟨c0, c1, c2, c3⟩ := cells4w HX.out
    go_region_held3 (fun W => W.cell? ⟨w.heap.size, 2, none⟩ = some (.int .i64 m)) (first | exact c2) (first
      | (go_at_call 76; (with_reducible refine (HWf.out _ _ HT.out).mono ?_); rintro e w' ⟨rfl, hw⟩; obtain rfl := hw.symm; clear hw)
      | (go_at_call 76; (with_reducible refine (HWg.out _ _ HT.out).mono ?_); rintro e w' ⟨rfl, hw⟩; obtain rfl := hw.symm; clear hw)
      | (go_at_call 99; (with_reducible refine (HF.out _).mono ?_); rintro e w3 ⟨rfl, hb⟩; have HT := Lk.mk (HT.out.below hb); have HX := Lk.mk (blk_below HX.out hb); have HE := Lk.mk (blk_below HE.out hb); have HB := Lk.mk (below_then HB.out HB.out.size hb); obtain ⟨c0, c1, c2, c3⟩ := cells4w HX.out; have e0 := blk_cell HE.out 0; have ez := blk_frozen HE.out 0; simp only [List.getElem?_toArray, List.getElem?_cons_zero] at e0; clear hb))
    go_wp2_with (first
      | (go_at_call 97; (with_reducible refine (dmust_ok _).mono ?_); rintro e w' ⟨rfl, hw⟩; obtain rfl := hw.symm; clear hw)
      | (go_at_call 97; (with_reducible refine (dmust_no _).mono ?_); rintro e w' ⟨rfl, hw⟩; obtain rfl := hw.symm; clear hw))
    have HX := Lk.mk (blk_drew HX.out)
    have HE := Lk.mk (blk_drew HE.out)
    have HB := Lk.mk (below_drew HB.out)
    have HT := Lk.mk (HT.out.below (below_drew (Below.refl _ _)))
    obtain ⟨c0, c1, c2, c3⟩ := cells4w HX.out
    go_region_held3 (fun W => W.cell? ⟨w.heap.size, 2, none⟩ = some (.int .i64 m)) (first | exact c2) (first
      | (go_at_call 76; (with_reducible refine (HWf.out _ _ HT.out).mono ?_); rintro e w' ⟨rfl, hw⟩; obtain rfl := hw.symm; clear hw)
      | (go_at_call 76; (with_reducible refine (HWg.out _ _ HT.out).mono ?_); rintro e w' ⟨rfl, hw⟩; obtain rfl := hw.symm; clear hw)
      | (go_at_call 100; (with_reducible refine (HG.out _).mono ?_); rintro e w3 ⟨rfl, hb⟩; have HT := Lk.mk (HT.out.below hb); have HX := Lk.mk (blk_below HX.out hb); have HE := Lk.mk (blk_below HE.out hb); have HB := Lk.mk (below_then HB.out HB.out.size hb); obtain ⟨c0, c1, c2, c3⟩ := cells4w HX.out; have e0 := blk_cell HE.out 0; have ez := blk_frozen HE.out 0; simp only [List.getElem?_toArray, List.getElem?_cons_zero] at e0; clear hb))
    go_wp2_with (first
      | (go_at_call 97; (with_reducible refine (dmust_ok _).mono ?_); rintro e w' ⟨rfl, hw⟩; obtain rfl := hw.symm; clear hw)
      | (go_at_call 97; (with_reducible refine (dmust_no _).mono ?_); rintro e w' ⟨rfl, hw⟩; obtain rfl := hw.symm; clear hw)
      | (go_at_call 50; (with_reducible refine (HP1.out _).mono ?_); rintro e w3 ⟨rfl, hb⟩; have HT := Lk.mk (HT.out.below hb); have HX := Lk.mk (blk_below HX.out hb); have HE := Lk.mk (blk_below HE.out hb); have HB := Lk.mk (below_then HB.out HB.out.size hb); obtain ⟨c0, c1, c2, c3⟩ := cells4w HX.out; have e0 := blk_cell HE.out 0; have ez := blk_frozen HE.out 0; simp only [List.getElem?_toArray, List.getElem?_cons_zero] at e0; clear hb)
      | (go_at_call 50; (with_reducible refine (HP2.out _).mono ?_); rintro e w3 ⟨rfl, hb⟩; have HT := Lk.mk (HT.out.below hb); have HX := Lk.mk (blk_below HX.out hb); have HE := Lk.mk (blk_below HE.out hb); have HB := Lk.mk (below_then HB.out HB.out.size hb); obtain ⟨c0, c1, c2, c3⟩ := cells4w HX.out; have e0 := blk_cell HE.out 0; have ez := blk_frozen HE.out 0; simp only [List.getElem?_toArray, List.getElem?_cons_zero] at e0; clear hb))
    have HE5 := Lk.mk (blk_put (cs' := #[.bool (decide (cst ≤ pg))]) HE.out 0 (.bool (decide (cst ≤ pg))) rfl)
    have hr1 := blk_cell HE5.out 0
    simp only [List.getElem?_toArray, List.getElem?_cons_zero] at hr1
    have HBZ := Lk.mk (HB.out.setCell (p := ⟨w.heap.size + 1, 0, none⟩) (Nat.le_succ _) (.bool (decide (cst ≤ pg))))
    refine leaves_cons (f := 96) (args := #[.pointer (some ⟨w.heap.size + 1, 0, none⟩)]) (by simp) (by simp [go_sem]) ?_
    refine (dlit_idle _ _).mono ?_
    rintro e u' w'' ⟨rfl, rfl, rfl⟩
    simp [Leaves, settle, results, Tryd.results48, go_sem]
    refine ⟨.bool (decide (cst ≤ pg)), ?_, rfl, HBZ.out⟩
    rw [hr1]
  · have hst2 : ¬ (t : Int) = (s : Int) := by omega
    rw [if_neg hst] at HC
    obtain rfl := HC.out
    clear hst
    go_enter_defers Tryd.func48, Tryd.ntmps48
    go_wp2_with (first
      | (go_at_call 98; (with_reducible refine (HM.out _ HB.out).mono ?_); rintro e w1 ⟨rfl, hb⟩; have HX := Lk.mk (blk_below HX.out hb); have HE := Lk.mk (blk_below HE.out hb); have HB := Lk.mk (below_then HB.out HB.out.size hb); obtain ⟨c0, c1, c2, c3⟩ := cells4w HX.out; have e0 := blk_cell HE.out 0; have ez := blk_frozen HE.out 0; simp only [List.getElem?_toArray, List.getElem?_cons_zero] at e0; clear hb)
      | (go_at_call 18; (with_reducible refine (HN.out _ HB.out).mono ?_); rintro e w2 ⟨p, rfl, htb, hb⟩; have HT := Lk.mk htb; clear htb; have HX := Lk.mk (blk_below HX.out hb); have HE := Lk.mk (blk_below HE.out hb); have HB := Lk.mk (below_then HB.out HB.out.size hb); obtain ⟨c0, c1, c2, c3⟩ := cells4w HX.out; have e0 := blk_cell HE.out 0; have ez := blk_frozen HE.out 0; simp only [List.getElem?_toArray, List.getElem?_cons_zero] at e0; clear hb)
      | (go_at_call 76; (with_reducible refine (HWf.out _ _ HT.out).mono ?_); rintro e w' ⟨rfl, hw⟩; obtain rfl := hw.symm; clear hw)
      | (go_at_call 76; (with_reducible refine (HWg.out _ _ HT.out).mono ?_); rintro e w' ⟨rfl, hw⟩; obtain rfl := hw.symm; clear hw)
      | (go_at_call 97; (with_reducible refine (dmust_ok _).mono ?_); rintro e w' ⟨rfl, hw⟩; obtain rfl := hw.symm; clear hw)
      | (go_at_call 97; (with_reducible refine (dmust_no _).mono ?_); rintro e w' ⟨rfl, hw⟩; obtain rfl := hw.symm; clear hw))
    have HX := Lk.mk (blk_drew HX.out)
    have HE := Lk.mk (blk_drew HE.out)
    have HB := Lk.mk (below_drew HB.out)
    have HT := Lk.mk (HT.out.below (below_drew (Below.refl _ _)))
    obtain ⟨c0, c1, c2, c3⟩ := cells4w HX.out
    go_region_held3 (fun W => W.cell? ⟨w.heap.size, 2, none⟩ = some (.int .i64 m)) (first | exact c2) (first
      | (go_at_call 76; (with_reducible refine (HWf.out _ _ HT.out).mono ?_); rintro e w' ⟨rfl, hw⟩; obtain rfl := hw.symm; clear hw)
      | (go_at_call 76; (with_reducible refine (HWg.out _ _ HT.out).mono ?_); rintro e w' ⟨rfl, hw⟩; obtain rfl := hw.symm; clear hw)
      | (go_at_call 99; (with_reducible refine (HF.out _).mono ?_); rintro e w3 ⟨rfl, hb⟩; have HT := Lk.mk (HT.out.below hb); have HX := Lk.mk (blk_below HX.out hb); have HE := Lk.mk (blk_below HE.out hb); have HB := Lk.mk (below_then HB.out HB.out.size hb); obtain ⟨c0, c1, c2, c3⟩ := cells4w HX.out; have e0 := blk_cell HE.out 0; have ez := blk_frozen HE.out 0; simp only [List.getElem?_toArray, List.getElem?_cons_zero] at e0; clear hb))
    go_wp2_with (first
      | (go_at_call 97; (with_reducible refine (dmust_ok _).mono ?_); rintro e w' ⟨rfl, hw⟩; obtain rfl := hw.symm; clear hw)
      | (go_at_call 97; (with_reducible refine (dmust_no _).mono ?_); rintro e w' ⟨rfl, hw⟩; obtain rfl := hw.symm; clear hw))
    have HX := Lk.mk (blk_drew HX.out)
    have HE := Lk.mk (blk_drew HE.out)
    have HB := Lk.mk (below_drew HB.out)
    have HT := Lk.mk (HT.out.below (below_drew (Below.refl _ _)))
    obtain ⟨c0, c1, c2, c3⟩ := cells4w HX.out
    go_region_held3 (fun W => W.cell? ⟨w.heap.size, 2, none⟩ = some (.int .i64 m)) (first | exact c2) (first
      | (go_at_call 76; (with_reducible refine (HWf.out _ _ HT.out).mono ?_); rintro e w' ⟨rfl, hw⟩; obtain rfl := hw.symm; clear hw)
      | (go_at_call 76; (with_reducible refine (HWg.out _ _ HT.out).mono ?_); rintro e w' ⟨rfl, hw⟩; obtain rfl := hw.symm; clear hw)
      | (go_at_call 100; (with_reducible refine (HG.out _).mono ?_); rintro e w3 ⟨rfl, hb⟩; have HT := Lk.mk (HT.out.below hb); have HX := Lk.mk (blk_below HX.out hb); have HE := Lk.mk (blk_below HE.out hb); have HB := Lk.mk (below_then HB.out HB.out.size hb); obtain ⟨c0, c1, c2, c3⟩ := cells4w HX.out; have e0 := blk_cell HE.out 0; have ez := blk_frozen HE.out 0; simp only [List.getElem?_toArray, List.getElem?_cons_zero] at e0; clear hb))
    go_wp2_with (first
      | (go_at_call 97; (with_reducible refine (dmust_ok _).mono ?_); rintro e w' ⟨rfl, hw⟩; obtain rfl := hw.symm; clear hw)
      | (go_at_call 97; (with_reducible refine (dmust_no _).mono ?_); rintro e w' ⟨rfl, hw⟩; obtain rfl := hw.symm; clear hw)
      | (go_at_call 50; (with_reducible refine (HP1.out _).mono ?_); rintro e w3 ⟨rfl, hb⟩; have HT := Lk.mk (HT.out.below hb); have HX := Lk.mk (blk_below HX.out hb); have HE := Lk.mk (blk_below HE.out hb); have HB := Lk.mk (below_then HB.out HB.out.size hb); obtain ⟨c0, c1, c2, c3⟩ := cells4w HX.out; have e0 := blk_cell HE.out 0; have ez := blk_frozen HE.out 0; simp only [List.getElem?_toArray, List.getElem?_cons_zero] at e0; clear hb)
      | (go_at_call 50; (with_reducible refine (HP2.out _).mono ?_); rintro e w3 ⟨rfl, hb⟩; have HT := Lk.mk (HT.out.below hb); have HX := Lk.mk (blk_below HX.out hb); have HE := Lk.mk (blk_below HE.out hb); have HB := Lk.mk (below_then HB.out HB.out.size hb); obtain ⟨c0, c1, c2, c3⟩ := cells4w HX.out; have e0 := blk_cell HE.out 0; have ez := blk_frozen HE.out 0; simp only [List.getElem?_toArray, List.getElem?_cons_zero] at e0; clear hb))
    have HE5 := Lk.mk (blk_put (cs' := #[.bool (decide (x + y ≤ pg))]) HE.out 0 (.bool (decide (x + y ≤ pg))) rfl)
    have hr1 := blk_cell HE5.out 0
    simp only [List.getElem?_toArray, List.getElem?_cons_zero] at hr1
    have HBZ := Lk.mk (HB.out.setCell (p := ⟨w.heap.size + 1, 0, none⟩) (Nat.le_succ _) (.bool (decide (x + y ≤ pg))))
    refine leaves_cons (f := 96) (args := #[.pointer (some ⟨w.heap.size + 1, 0, none⟩)]) (by simp) (by simp [go_sem]) ?_
    refine (dlit_idle _ _).mono ?_
    rintro e u' w'' ⟨rfl, rfl, rfl⟩
    simp [Leaves, settle, results, Tryd.results48, go_sem]
    refine ⟨.bool (decide (x + y ≤ pg)), ?_, rfl, HBZ.out⟩
    rw [hr1]
end Go.Proofs.YtbikdngpannekaaDoor
