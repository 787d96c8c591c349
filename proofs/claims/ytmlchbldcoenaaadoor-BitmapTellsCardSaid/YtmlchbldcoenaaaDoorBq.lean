/-
  The walk of the law FnsTells; conditions: the functions read as told, the table of deBruijn stands.
-/
import Derived.Test.YtmlchbldcoenaaaDoorBp
import Derived.Deep.RegionHeld3
namespace Go.Proofs.YtmlchbldcoenaaaDoor
open Go.RowKit Go.Proofs.YtmlchbldcoenaaaDoorW.PrintWords

/-- what the machine's types say of a row of functions -/
def FnsIn (l : List (Int × List Int)) : Prop := ∀ f ∈ l, Bm.Words f.2 ∧ -9223372036854775808 ≤ f.1 ∧ f.1 ≤ 9223372036854775807
theorem FnsIn.ok {l : List (Int × List Int)} (h : FnsIn l) (hg : greatL l = false) : FnsOk l := by
  intro f hf
  have h1 := h f hf
  unfold greatL at hg
  rw [Bool.or_eq_false_iff, List.any_eq_false] at hg
  have := hg.2 f hf
  simp at this
  exact ⟨h1.1, by omega, h1.2⟩
theorem FnsIn.len {l : List (Int × List Int)} (hg : greatL l = false) {f : Int × List Int} (hf : f ∈ l) : f.2.length ≤ 40 := by
  unfold greatL at hg
  rw [Bool.or_eq_false_iff, List.any_eq_false] at hg
  have := hg.2 f hf
  simpa using this
theorem t_nil (f i : Int) : tSize [] f = -1 ∧ tWords [] f = -1 ∧ tPtr [] f i = false ∧ tPtrs [] f = [] := by
  have h : tHas [] f = false := by
    unfold tHas
    by_cases h0 : 0 ≤ f
    · rw [decide_eq_false (show ¬ f < ((([] : List (Int × (List Int × List Int))).length : Nat) : Int) by simp; omega), Bool.and_false]
    · rw [decide_eq_false h0, Bool.false_and]
  refine ⟨?_, ?_, ?_, ?_⟩
  · unfold tSize; rw [h]; rfl
  · unfold tWords; rw [h]; rfl
  · unfold tPtr; rw [h]; rfl
  · unfold tPtrs; rw [h]; rfl

set_option maxRecDepth 100000 in
set_option maxHeartbeats 4000000 in
theorem tells_great (A : Option Addr) (c : Nat) (l : List (Int × List Int)) (f i : Int) (w : World) (hr : FnC w A l.length l) (hT : Tab w) (hg : greatL l = true) :
    Calls Tryd.prog 5 #[.slice A l.length c, .int .i64 f, .int .i64 i] w fun e w' => e = .returned (.bool true) ∧ Below w.heap.size w w' := by
  have HG := Lk.mk (hg ▸ great_any A c l w hr)
  have HA := Lk.mk (awake_any w hT)
  clear hr hT hg
  go_enter Tryd.func5, Tryd.ntmps5
  go_wp2_with (first
    | (go_at_call 12; (with_reducible refine HG.out.mono ?_); rintro e w' ⟨rfl, rfl⟩)
    | (go_at_call 13; (with_reducible refine HA.out.mono ?_); rintro e w' ⟨rfl, hb⟩))
  go_ret
  exact ⟨rfl, hb⟩

set_option maxRecDepth 100000 in
set_option maxHeartbeats 4000000 in
theorem tells_bad (A : Option Addr) (c : Nat) (l : List (Int × List Int)) (f i : Int) (w : World) (hr : FnC w A l.length l) (hI : FnsIn l) (hi : i ≤ 9223372036854775807) (hT : Tab w) (hg : greatL l = false) (hn : newOk l = false) :
    Calls Tryd.prog 5 #[.slice A l.length c, .int .i64 f, .int .i64 i] w fun e w' => e = .returned (.bool true) ∧ Below w.heap.size w w' := by
  have HG := Lk.mk (hg ▸ great_any A c l w hr)
  have HN := Lk.mk (new_bad A c l w hr (hI.ok hg) hT hn)
  have HT := Lk.mk hT
  obtain ⟨t1, t2, t3, t4⟩ := t_nil f i
  have HS := Lk.mk (show ∀ W, Calls Tryd.prog 25 #[.pointer none, .int .i64 f] W fun e w' => e = .returned (.int .i64 (-1)) ∧ w' = W from fun W => t1 ▸ size_any _ [] f W (Or.inl ⟨rfl, rfl⟩))
  have HWd := Lk.mk (show ∀ W, Calls Tryd.prog 26 #[.pointer none, .int .i64 f] W fun e w' => e = .returned (.int .i64 (-1)) ∧ w' = W from fun W => t2 ▸ words_any _ [] f W (Or.inl ⟨rfl, rfl⟩) (fun e he => by simp at he))
  have HP := Lk.mk (show ∀ W, Calls Tryd.prog 27 #[.pointer none, .int .i64 f, .int .i64 i] W fun e w' => e = .returned (.bool false) ∧ Below W.heap.size W w' from fun W => t3 ▸ ptr_any _ [] f i W (Or.inl ⟨rfl, rfl⟩) (fun e he => by simp at he) hi)
  have HPs := Lk.mk (show ∀ W, Calls Tryd.prog 16 #[.pointer none, .int .i64 f] W fun e w' => ∃ B d, e = .returned (.slice B 0 d) ∧ Below W.heap.size W w' from fun W => (ptrs_any _ [] f W (Or.inl ⟨rfl, rfl⟩) (fun e he => by simp at he)).mono (by
    rintro e w' ⟨v, rfl, ho, hb⟩
    rw [t4] at ho
    obtain ⟨B, d, rfl, _⟩ := own_reads ho
    exact ⟨B, d, rfl, hb⟩))
  clear hr hT hg hn hI t1 t2 t3 t4
  go_enter Tryd.func5, Tryd.ntmps5
  go_wp2_with (first
    | (go_at_call 12; (with_reducible refine HG.out.mono ?_); rintro e w' ⟨rfl, rfl⟩)
    | (go_at_call 14; (with_reducible refine HN.out.mono ?_); rintro e w' ⟨rfl, hb⟩; have HB := Lk.mk hb; clear hb)
    | (go_at_call 25; (with_reducible refine (HS.out _).mono ?_); rintro e w' ⟨rfl, rfl⟩)
    | (go_at_call 26; (with_reducible refine (HWd.out _).mono ?_); rintro e w' ⟨rfl, rfl⟩)
    | (go_at_call 27; (with_reducible refine (HP.out _).mono ?_); rintro e w' ⟨rfl, hb⟩; have HB := Lk.mk (below_then HB.out HB.out.size hb); clear hb)
    | (go_at_call 16; (with_reducible refine (HPs.out _).mono ?_); rintro e w' ⟨B, d, rfl, hb⟩; have HB := Lk.mk (below_then HB.out HB.out.size hb); clear hb)
    | (go_at_call 15; (with_reducible refine (fns_nil _).mono ?_); rintro e w' ⟨rfl, rfl⟩)
    | (go_at_call 13; (with_reducible refine (awake_any _ (HT.out.below HB.out)).mono ?_); rintro e w' ⟨rfl, hb⟩; have HB := Lk.mk (below_then HB.out HB.out.size hb); clear hb))
  go_ret
  exact ⟨rfl, HB.out⟩

set_option maxRecDepth 100000 in
set_option maxHeartbeats 4000000 in
theorem tells_good (A : Option Addr) (c : Nat) (l : List (Int × List Int)) (f i : Int) (w : World) (hr : FnC w A l.length l) (hI : FnsIn l) (hi : i ≤ 9223372036854775807) (hT : Tab w) (hg : greatL l = false) (hn : newOk l = true) :
    Calls Tryd.prog 5 #[.slice A l.length c, .int .i64 f, .int .i64 i] w fun e w' => e = .returned (.bool true) ∧ Below w.heap.size w w' := by
  have HG := Lk.mk (hg ▸ great_any A c l w hr)
  have HN := Lk.mk (new_good A c l w hr (hI.ok hg) hT hn)
  have HT := Lk.mk hT
  have HS := Lk.mk (show ∀ W p, TblAt W p (l.map entryOf) → Calls Tryd.prog 25 #[p, .int .i64 f] W fun e w' => e = .returned (.int .i64 (lSize l f)) ∧ w' = W from fun W p h => tSize_map l f ▸ size_any _ _ f W h.or)
  have HWd := Lk.mk (show ∀ W p, TblAt W p (l.map entryOf) → Calls Tryd.prog 26 #[p, .int .i64 f] W fun e w' => e = .returned (.int .i64 (lWords l f)) ∧ w' = W from fun W p h => tWords_map hn f ▸ words_any _ _ f W h.or (by
    intro e he
    obtain ⟨g, hg', rfl⟩ := List.mem_map.1 he
    have := (may_iff _ _).1 (newOk_may hn g hg')
    show _ ≤ g.1 ∧ g.1 ≤ _
    omega))
  have HP := Lk.mk (show ∀ W p, TblAt W p (l.map entryOf) → Calls Tryd.prog 27 #[p, .int .i64 f, .int .i64 i] W fun e w' => e = .returned (.bool (lPtr l f i)) ∧ Below W.heap.size W w' from fun W p h => tPtr_map hn f i ▸ ptr_any _ _ f i W h.or (fun _ => entry_words) hi)
  have HPs := Lk.mk (show ∀ W p, TblAt W p (l.map entryOf) → Calls Tryd.prog 16 #[p, .int .i64 f] W fun e w' => ∃ B d, e = .returned (.slice B (lBits l f).length d) ∧ ReadsInt w' .i64 B (lBits l f).length (lBits l f) ∧ Below W.heap.size W w' from fun W p h => (ptrs_any _ _ f W h.or (by
    intro e he
    obtain ⟨g, hg', rfl⟩ := List.mem_map.1 he
    have h1 := FnsIn.len hg hg'
    have h2 := Bm.bitsL_length g.2 g.1
    show (Bm.bitsL g.2 g.1).length * 8 ≤ _
    omega)).mono (by
    rintro e w' ⟨v, rfl, ho, hb⟩
    rw [tPtrs_map] at ho
    obtain ⟨B, d, rfl, h2⟩ := own_reads ho
    exact ⟨B, d, rfl, h2, hb⟩))
  have RS := Lk.mk (show ∀ W, Below w.heap.size w W → Calls Tryd.prog 28 #[.slice A l.length c, .int .i64 f] W fun e w' => e = .returned (.int .i64 (lSize l f)) ∧ w' = W from fun W h => refSize_any A c l f W (hr.below h))
  have RW := Lk.mk (show ∀ W, Below w.heap.size w W → Calls Tryd.prog 29 #[.slice A l.length c, .int .i64 f] W fun e w' => e = .returned (.int .i64 (lWords l f)) ∧ w' = W from fun W h => refWords_any A c l f W (hr.below h) (by have := lSize_in hn f; omega))
  have RP := Lk.mk (show ∀ W, Below w.heap.size w W → Calls Tryd.prog 30 #[.slice A l.length c, .int .i64 f, .int .i64 i] W fun e w' => e = .returned (.bool (lPtr l f i)) ∧ Below W.heap.size W w' from fun W h => refPtr_any A c l f i W (hr.below h) (fun g hg' => (hI g hg').1) hi)
  have hm := hr.2.1
  by_cases hf : 0 ≤ f ∧ f < l.length
  · have HLB := Lk.mk (show lBits l f = Bm.bitsL (l.getD f.toNat dF).2 (l.getD f.toNat dF).1 from if_pos hf)
    obtain ⟨h0, h1⟩ := hf
    obtain ⟨k, rfl⟩ := Int.eq_ofNat_of_zero_le h0
    obtain ⟨ad, A1, c1, rfl, hcell0, hcell1, hc1, hr1⟩ := hr.at_ k (by omega)
    rw [Int.toNat_natCast] at HLB
    have HM := hI (l.getD k dF) (getD_mem _ (by omega))
    have HLN := FnsIn.len hg (getD_mem dF (show k < l.length by omega))
    have HBi := Lk.mk (show ∀ W, Below w.heap.size w W → Calls Tryd.prog 18 #[.slice A1 (l.getD k dF).2.length c1, .int .i64 (l.getD k dF).1] W fun e w' => ∃ B d, e = .returned (.slice B (lBits l k).length d) ∧ ReadsInt w' .i64 B (lBits l k).length (lBits l k) ∧ Below W.heap.size W w' from fun W h => (refBits_any A1 c1 (l.getD k dF).2 (l.getD k dF).1 W (hr1.below h) HM.1 (by omega)).mono (by
      rintro e w' ⟨v, rfl, ho, hb⟩
      rw [← HLB.out] at ho
      obtain ⟨B, d, rfl, h2⟩ := own_reads ho
      exact ⟨B, d, rfl, h2, hb⟩))
    have K0 := Lk.mk (show ∀ W, Below w.heap.size w W → W.cell? (ad.add (k * 2)) = some (.int .i64 (l.getD k dF).1) ∧ W.cell? ⟨(ad.add (k * 2)).block, (ad.add (k * 2)).off + 1, none⟩ = some (.slice A1 (l.getD k dF).2.length c1) from fun W h => ⟨pw_cell_below h hcell0, pw_cell_below h hcell1⟩)
    clear hr hT hg hn hI hcell0 hcell1 hr1 HM HLN HLB hc1
    generalize lBits l k = bs at *
    generalize lSize l k = s at *
    generalize lWords l k = ws at *
    generalize lPtr l k i = pt at *
    generalize l.getD k dF = x at *
    go_enter Tryd.func5, Tryd.ntmps5
    go_wp2_with (first
      | (go_at_call 12; (with_reducible refine HG.out.mono ?_); rintro e w' ⟨rfl, hw⟩; obtain rfl := hw.symm; clear hw)
      | (go_at_call 14; (with_reducible refine HN.out.mono ?_); rintro e w1 ⟨p, rfl, ht, hb⟩; have HB := Lk.mk hb; have HTB := Lk.mk ht; clear hb ht))
    have HB2 := Lk.mk (show Below w.heap.size w (w1.alloc (.cells #[] 3)).drew from below_drew (HB.out.alloc HB.out.size _))
    have HTB2 := Lk.mk (HTB.out.below (show Below w1.heap.size w1 (w1.alloc (.cells #[] 3)).drew from below_drew (below_alloc (Below.refl _ _) _)))
    have hk0 := (K0.out _ HB2.out).1
    have hk1 := (K0.out _ HB2.out).2
    go_region_held3 (fun W => W.cell? (ad.add (k * 2)) = some (.int .i64 x.1) ∧ W.cell? ⟨(ad.add (k * 2)).block, (ad.add (k * 2)).off + 1, none⟩ = some (.slice A1 x.2.length c1)) (first | exact ⟨hk0, hk1⟩ | exact K0.out _ HB3.out) (first
      | (go_at_call 18; (with_reducible refine (HBi.out _ HB2.out).mono ?_); rintro e w9 ⟨B9, d9, rfl, h9, hb⟩; have HB9 := Lk.mk (Below.refl w9.heap.size w9); have HTB9 := Lk.mk (HTB2.out.below hb); have HB3 := Lk.mk (below_then HB2.out HB2.out.size hb); have H9 := Lk.mk h9; clear hb h9))
    clear hk0 hk1
    go_wp2_with (first
      | (go_at_call 25; (with_reducible refine (HS.out _ _ (HTB9.out.below HB9.out)).mono ?_); rintro e w' ⟨rfl, rfl⟩)
      | (go_at_call 26; (with_reducible refine (HWd.out _ _ (HTB9.out.below HB9.out)).mono ?_); rintro e w' ⟨rfl, rfl⟩)
      | (go_at_call 27; (with_reducible refine (HP.out _ _ (HTB9.out.below HB9.out)).mono ?_); rintro e w' ⟨rfl, hb⟩; have HB9 := Lk.mk (below_then HB9.out HB9.out.size hb); clear hb)
      | (go_at_call 16; (with_reducible refine (HPs.out _ _ (HTB9.out.below HB9.out)).mono ?_); rintro e w' ⟨B5, d5, rfl, h5, hb⟩; have HB9 := Lk.mk (below_then HB9.out HB9.out.size hb); have H5 := Lk.mk h5; clear hb h5)
      | (go_at_call 28; (with_reducible refine (RS.out _ (below_then HB3.out HB3.out.size HB9.out)).mono ?_); rintro e w' ⟨rfl, rfl⟩)
      | (go_at_call 29; (with_reducible refine (RW.out _ (below_then HB3.out HB3.out.size HB9.out)).mono ?_); rintro e w' ⟨rfl, rfl⟩)
      | (go_at_call 30; (with_reducible refine (RP.out _ (below_then HB3.out HB3.out.size HB9.out)).mono ?_); rintro e w' ⟨rfl, hb⟩; have HB9 := Lk.mk (below_then HB9.out HB9.out.size hb); clear hb)
      | (go_at_call 17; (with_reducible refine (refInts_any _ _ bs _ _ bs _ H5.out (H9.out.below HB9.out)).mono ?_); rw [decide_eq_true rfl]; rintro e w' ⟨rfl, hb⟩; have HB9 := Lk.mk (below_then HB9.out HB9.out.size hb); clear hb)
      | (go_at_call 13; (with_reducible refine (awake_any _ (HT.out.below (below_then HB3.out HB3.out.size HB9.out))).mono ?_); rintro e w' ⟨rfl, hb⟩; have HB9 := Lk.mk (below_then HB9.out HB9.out.size hb); clear hb))
    go_ret
    exact ⟨rfl, below_then HB3.out HB3.out.size HB9.out⟩
  · have HLB := Lk.mk (show lBits l f = [] from if_neg hf)
    have H9 := Lk.mk (show ∀ W B d B' d', Calls Tryd.prog 17 #[.slice B 0 d, .slice B' 0 d'] W fun e w' => e = .returned (.bool true) ∧ Below W.heap.size W w' from fun W B d B' d' => refInts_any B d [] B' d' [] W ⟨rfl, by simp, fun h => by simp at h⟩ ⟨rfl, by simp, fun h => by simp at h⟩)
    rw [HLB.out, show ([] : List Int).length = 0 from rfl] at HPs
    clear hr hT hg hn hI HLB
    generalize lSize l f = s at *
    generalize lWords l f = ws at *
    generalize lPtr l f i = pt at *
    by_cases h0 : 0 ≤ f
    · have h1 : ¬ f < l.length := fun h => hf ⟨h0, h⟩
      clear hf
      go_enter Tryd.func5, Tryd.ntmps5
      go_wp2_with (first
        | (go_at_call 12; (with_reducible refine HG.out.mono ?_); rintro e w' ⟨rfl, hw⟩; obtain rfl := hw.symm; clear hw)
        | (go_at_call 14; (with_reducible refine HN.out.mono ?_); rintro e w1 ⟨p, rfl, ht, hb⟩; have HB3 := Lk.mk (show Below w.heap.size w (w1.alloc (.cells #[] 3)) from hb.alloc hb.size _); have HTB9 := Lk.mk (ht.below (show Below w1.heap.size w1 (w1.alloc (.cells #[] 3)) from below_alloc (Below.refl _ _) _)); have HB9 := Lk.mk (Below.refl (w1.alloc (.cells #[] 3)).heap.size (w1.alloc (.cells #[] 3))); clear hb ht)
        | (go_at_call 25; (with_reducible refine (HS.out _ _ (HTB9.out.below HB9.out)).mono ?_); rintro e w' ⟨rfl, rfl⟩)
        | (go_at_call 26; (with_reducible refine (HWd.out _ _ (HTB9.out.below HB9.out)).mono ?_); rintro e w' ⟨rfl, rfl⟩)
        | (go_at_call 27; (with_reducible refine (HP.out _ _ (HTB9.out.below HB9.out)).mono ?_); rintro e w' ⟨rfl, hb⟩; have HB9 := Lk.mk (below_then HB9.out HB9.out.size hb); clear hb)
        | (go_at_call 16; (with_reducible refine (HPs.out _ _ (HTB9.out.below HB9.out)).mono ?_); rintro e w' ⟨B5, d5, rfl, h5, hb⟩; have HB9 := Lk.mk (below_then HB9.out HB9.out.size hb); have H5 := Lk.mk h5; clear hb h5)
        | (go_at_call 28; (with_reducible refine (RS.out _ (below_then HB3.out HB3.out.size HB9.out)).mono ?_); rintro e w' ⟨rfl, rfl⟩)
        | (go_at_call 29; (with_reducible refine (RW.out _ (below_then HB3.out HB3.out.size HB9.out)).mono ?_); rintro e w' ⟨rfl, rfl⟩)
        | (go_at_call 30; (with_reducible refine (RP.out _ (below_then HB3.out HB3.out.size HB9.out)).mono ?_); rintro e w' ⟨rfl, hb⟩; have HB9 := Lk.mk (below_then HB9.out HB9.out.size hb); clear hb)
        | (go_at_call 17; (with_reducible refine (H9.out _ _ _ _ _).mono ?_); rintro e w' ⟨rfl, hb⟩; have HB9 := Lk.mk (below_then HB9.out HB9.out.size hb); clear hb)
        | (go_at_call 13; (with_reducible refine (awake_any _ (HT.out.below (below_then HB3.out HB3.out.size HB9.out))).mono ?_); rintro e w' ⟨rfl, hb⟩; have HB9 := Lk.mk (below_then HB9.out HB9.out.size hb); clear hb))
      go_ret
      exact ⟨rfl, below_then HB3.out HB3.out.size HB9.out⟩
    · clear hf
      go_enter Tryd.func5, Tryd.ntmps5
      go_wp2_with (first
        | (go_at_call 12; (with_reducible refine HG.out.mono ?_); rintro e w' ⟨rfl, hw⟩; obtain rfl := hw.symm; clear hw)
        | (go_at_call 14; (with_reducible refine HN.out.mono ?_); rintro e w1 ⟨p, rfl, ht, hb⟩; have HB3 := Lk.mk (show Below w.heap.size w (w1.alloc (.cells #[] 3)) from hb.alloc hb.size _); have HTB9 := Lk.mk (ht.below (show Below w1.heap.size w1 (w1.alloc (.cells #[] 3)) from below_alloc (Below.refl _ _) _)); have HB9 := Lk.mk (Below.refl (w1.alloc (.cells #[] 3)).heap.size (w1.alloc (.cells #[] 3))); clear hb ht)
        | (go_at_call 25; (with_reducible refine (HS.out _ _ (HTB9.out.below HB9.out)).mono ?_); rintro e w' ⟨rfl, rfl⟩)
        | (go_at_call 26; (with_reducible refine (HWd.out _ _ (HTB9.out.below HB9.out)).mono ?_); rintro e w' ⟨rfl, rfl⟩)
        | (go_at_call 27; (with_reducible refine (HP.out _ _ (HTB9.out.below HB9.out)).mono ?_); rintro e w' ⟨rfl, hb⟩; have HB9 := Lk.mk (below_then HB9.out HB9.out.size hb); clear hb)
        | (go_at_call 16; (with_reducible refine (HPs.out _ _ (HTB9.out.below HB9.out)).mono ?_); rintro e w' ⟨B5, d5, rfl, h5, hb⟩; have HB9 := Lk.mk (below_then HB9.out HB9.out.size hb); have H5 := Lk.mk h5; clear hb h5)
        | (go_at_call 28; (with_reducible refine (RS.out _ (below_then HB3.out HB3.out.size HB9.out)).mono ?_); rintro e w' ⟨rfl, rfl⟩)
        | (go_at_call 29; (with_reducible refine (RW.out _ (below_then HB3.out HB3.out.size HB9.out)).mono ?_); rintro e w' ⟨rfl, rfl⟩)
        | (go_at_call 30; (with_reducible refine (RP.out _ (below_then HB3.out HB3.out.size HB9.out)).mono ?_); rintro e w' ⟨rfl, hb⟩; have HB9 := Lk.mk (below_then HB9.out HB9.out.size hb); clear hb)
        | (go_at_call 17; (with_reducible refine (H9.out _ _ _ _ _).mono ?_); rintro e w' ⟨rfl, hb⟩; have HB9 := Lk.mk (below_then HB9.out HB9.out.size hb); clear hb)
        | (go_at_call 13; (with_reducible refine (awake_any _ (HT.out.below (below_then HB3.out HB3.out.size HB9.out))).mono ?_); rintro e w' ⟨rfl, hb⟩; have HB9 := Lk.mk (below_then HB9.out HB9.out.size hb); clear hb))
      go_ret
      exact ⟨rfl, below_then HB3.out HB3.out.size HB9.out⟩
end Go.Proofs.YtmlchbldcoenaaaDoor
