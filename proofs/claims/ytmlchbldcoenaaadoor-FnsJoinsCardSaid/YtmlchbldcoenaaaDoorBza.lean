/-
  The walk of the law FnsJoins where both rows are tables.
-/
import Derived.Test.YtmlchbldcoenaaaDoorBz
namespace Go.Proofs.YtmlchbldcoenaaaDoor
open Go.RowKit Go.Proofs.YtmlchbldcoenaaaDoorW.PrintWords

theorem newOk_may2 {l : List (Int × List Int)} (h : newOk l = true) : mayAll l = true := by
  unfold newOk at h; rw [Bool.and_eq_true] at h; exact h.2
theorem newOk_join {a b : List (Int × List Int)} (ha : newOk a = true) (hb : newOk b = true) (h1 : 1 ≤ a.length) (h2 : a.length ≤ 50) (h3 : b.length ≤ 50) : newOk (a ++ b) = true := by
  unfold newOk
  rw [may_append, newOk_may2 ha, newOk_may2 hb, List.length_append, decide_eq_true (show 1 ≤ a.length + b.length by omega), decide_eq_true (show a.length + b.length ≤ 100 by omega)]
  rfl
theorem table_fnsOk {l : List (Int × List Int)} (h : newOk l = true) : FnsOk ((l.map entryOf).map fnOf) := by
  intro f hf
  rw [List.map_map] at hf
  obtain ⟨g, hg, rfl⟩ := List.mem_map.1 hf
  have h1 := (may_iff _ _).1 (newOk_may h g hg)
  have h2 := Bm.ofL_length (Bm.bitsL g.2 g.1)
  refine ⟨Bm.ofL_words _, ?_, ?_, ?_⟩
  · show (Bm.ofL (Bm.bitsL g.2 g.1)).length ≤ _; omega
  · show _ ≤ g.1; omega
  · show g.1 ≤ _; omega
theorem entry_size {l : List (Int × List Int)} (h : newOk l = true) : ∀ e ∈ l.map entryOf, -9223372036854775808 ≤ e.1 ∧ e.1 ≤ 9223372036854775805 := by
  intro e he
  obtain ⟨g, hg, rfl⟩ := List.mem_map.1 he
  have := (may_iff _ _).1 (newOk_may h g hg)
  show _ ≤ g.1 ∧ g.1 ≤ _
  omega

set_option maxRecDepth 100000 in
set_option maxHeartbeats 4000000 in
theorem joins_good (A : Option Addr) (c : Nat) (a : List (Int × List Int)) (B : Option Addr) (d : Nat) (b : List (Int × List Int)) (f : Nat) (i : Int) (w : World) (hr : FnC w A a.length a) (hr2 : FnC w B b.length b) (ha : FnsIn a) (hb : FnsIn b) (hi : i ≤ 9223372036854775807) (hT : Tab w)
    (hga : greatL a = false) (hgb : greatL b = false) (h1 : 1 ≤ a.length) (h2 : a.length ≤ 50) (h3 : b.length ≤ 50) (h5 : f < b.length) (hna : newOk a = true) (hnb : newOk b = true) :
    Calls Tryd.prog 6 #[.slice A a.length c, .slice B b.length d, .int .i64 f, .int .i64 i] w fun e w' => e = .returned (.bool true) ∧ Below w.heap.size w w' := by
  have hz := newOk_join hna hnb h1 h2 h3
  have HGa := Lk.mk (hga ▸ great_any A c a w hr)
  have HGb := Lk.mk (hgb ▸ great_any B d b w hr2)
  have HNa := Lk.mk (show ∀ W, Below w.heap.size w W → _ from fun W h => new_good A c a W (hr.below h) (ha.ok hga) (hT.below h) hna)
  have HNb := Lk.mk (show ∀ W, Below w.heap.size w W → _ from fun W h => new_good B d b W (hr2.below h) (hb.ok hgb) (hT.below h) hnb)
  have HNz := Lk.mk (show ∀ W A3 c3, Below w.heap.size w W → FnC W A3 (a.length + b.length) (a ++ b) → Calls Tryd.prog 14 #[.slice A3 (a.length + b.length) c3] W fun e w' => ∃ p, e = .returned (.tuple #[p, .int .i64 0]) ∧ TblAt w' p ((a ++ b).map entryOf) ∧ Below W.heap.size W w' from fun W A3 c3 h h3' => by
    have q := new_good A3 c3 (a ++ b) W (by rw [List.length_append]; exact h3') ((ha.ok hga).append (hb.ok hgb)) (hT.below h) hz
    rwa [List.length_append] at q)
  have HLz := Lk.mk (show ∀ W p, TblAt W p ((a ++ b).map entryOf) → Calls Tryd.prog 24 #[p] W fun e w' => e = .returned (.int .i64 ((a.length : Int) + b.length)) ∧ w' = W from fun W p h => by
    have q := len_any p _ W h.or
    rwa [List.length_map, List.length_append, Int.natCast_add] at q)
  have HLx := Lk.mk (show ∀ W p, TblAt W p (a.map entryOf) → Calls Tryd.prog 24 #[p] W fun e w' => e = .returned (.int .i64 (a.length : Int)) ∧ w' = W from fun W p h => by
    have q := len_any p _ W h.or
    rwa [List.length_map] at q)
  have HLy := Lk.mk (show ∀ W p, TblAt W p (b.map entryOf) → Calls Tryd.prog 24 #[p] W fun e w' => e = .returned (.int .i64 (b.length : Int)) ∧ w' = W from fun W p h => by
    have q := len_any p _ W h.or
    rwa [List.length_map] at q)
  have HSz := Lk.mk (show ∀ W p, TblAt W p ((a ++ b).map entryOf) → Calls Tryd.prog 25 #[p, .int .i64 ((a.length : Int) + f)] W fun e w' => e = .returned (.int .i64 (lSize b f)) ∧ w' = W from fun W p h => size_right a b f h5 ▸ tSize_map (a ++ b) _ ▸ size_any p _ _ W h.or)
  have HSy := Lk.mk (show ∀ W p, TblAt W p (b.map entryOf) → Calls Tryd.prog 25 #[p, .int .i64 (f : Int)] W fun e w' => e = .returned (.int .i64 (lSize b f)) ∧ w' = W from fun W p h => tSize_map b _ ▸ size_any p _ _ W h.or)
  have HPz := Lk.mk (show ∀ W p, TblAt W p ((a ++ b).map entryOf) → Calls Tryd.prog 27 #[p, .int .i64 ((a.length : Int) + f), .int .i64 i] W fun e w' => e = .returned (.bool (lPtr b f i)) ∧ Below W.heap.size W w' from fun W p h => ptr_right a b f i h5 ▸ tPtr_map hz _ i ▸ ptr_any p _ _ i W h.or (fun _ => entry_words) hi)
  have HPy := Lk.mk (show ∀ W p, TblAt W p (b.map entryOf) → Calls Tryd.prog 27 #[p, .int .i64 (f : Int), .int .i64 i] W fun e w' => e = .returned (.bool (lPtr b f i)) ∧ Below W.heap.size W w' from fun W p h => tPtr_map hnb _ i ▸ ptr_any p _ _ i W h.or (fun _ => entry_words) hi)
  have HWz := Lk.mk (show ∀ W p, TblAt W p ((a ++ b).map entryOf) → Calls Tryd.prog 26 #[p, .int .i64 0] W fun e w' => e = .returned (.int .i64 (lWords a 0)) ∧ w' = W from fun W p h => words_left a b h1 ▸ tWords_map hz 0 ▸ words_any p _ 0 W h.or (entry_size hz))
  have HWx := Lk.mk (show ∀ W p, TblAt W p (a.map entryOf) → Calls Tryd.prog 26 #[p, .int .i64 0] W fun e w' => e = .returned (.int .i64 (lWords a 0)) ∧ w' = W from fun W p h => tWords_map hna 0 ▸ words_any p _ 0 W h.or (entry_size hna))
  have HFz := Lk.mk (show ∀ W p, TblAt W p ((a ++ b).map entryOf) → Calls Tryd.prog 15 #[p] W fun e w' => ∃ A5 c5, e = .returned (.slice A5 (a.length + b.length) c5) ∧ FnC w' A5 (a.length + b.length) (((a ++ b).map entryOf).map fnOf) ∧ Below W.heap.size W w' from fun W p h => (fns_any p _ W h (by
      intro e he
      obtain ⟨g, _, rfl⟩ := List.mem_map.1 he
      have := Bm.ofL_length (Bm.bitsL g.2 g.1)
      show (Bm.ofL (Bm.bitsL g.2 g.1)).length * 8 ≤ _
      omega) (by rw [List.length_map, List.length_append]; omega)).mono (by
    rintro e w' ⟨v5, rfl, hR5, hb5⟩
    obtain ⟨A5, c5, rfl, _, hC5⟩ := Kd.R_reads hR5
    rw [List.length_map, List.length_map, List.length_append] at hC5 ⊢
    exact ⟨A5, c5, rfl, kF_fnC hC5, hb5⟩))
  have HEz := Lk.mk (show ∀ W A5 c5, FnC W A5 (a.length + b.length) (((a ++ b).map entryOf).map fnOf) → Below w.heap.size w W → Calls Tryd.prog 22 #[.slice A5 (a.length + b.length) c5] W fun e w' => e = .returned (.int .i64 (max (leastL a) (leastL b))) ∧ Below W.heap.size W w' from fun W A5 c5 h5' hb5 => by
    have q := least_any A5 c5 _ W (by rw [List.length_map, List.length_map, List.length_append]; exact h5') (table_fnsOk hz) (hT.below hb5)
    rw [List.length_map, List.length_map, List.length_append, least_table (newOk_may hz), least_append] at q
    exact q)
  have HEa := Lk.mk (show ∀ W, Below w.heap.size w W → _ from fun W h => least_any A c a W (hr.below h) (ha.ok hga) (hT.below h))
  have HEb := Lk.mk (show ∀ W, Below w.heap.size w W → _ from fun W h => least_any B d b W (hr2.below h) (hb.ok hgb) (hT.below h))
  have HT := Lk.mk hT
  have HR := Lk.mk hr
  have HR2 := Lk.mk hr2
  have h1z : ¬ (a.length : Int) < 1 := by omega
  have h2z : ¬ (50 : Int) < (a.length : Int) := by omega
  have h3z : ¬ (50 : Int) < (b.length : Int) := by omega
  have h5z : (f : Int) < (b.length : Int) := by omega
  have hw1 : IntKind.i64.wrap ((a.length : Int) + f) = (a.length : Int) + f := IntWalk.i64_in _ (by omega)
  have hw2 : IntKind.i64.wrap ((a.length : Int) + b.length) = (a.length : Int) + b.length := IntWalk.i64_in _ (by omega)
  clear hr hr2 ha hb hT hga hgb hz hna hnb
  generalize lSize b f = s at *
  generalize lPtr b f i = pt at *
  generalize lWords a 0 = ws at *
  generalize leastL a = la at *
  generalize leastL b = lb at *
  obtain ⟨m, hm⟩ : ∃ m, m = max la lb := ⟨_, rfl⟩
  rw [← hm] at HEz
  have hm2 : (la ≤ lb ∧ m = lb) ∨ (¬ la ≤ lb ∧ m = la) := by omega
  clear hm
  rcases hm2 with ⟨hl, rfl⟩ | ⟨hl, rfl⟩
  all_goals go_enter Tryd.func6, Tryd.ntmps6
  all_goals go_wp2_with (first
    | (go_at_call 12; (with_reducible refine (HGa.out).mono ?_); rintro e w' ⟨rfl, hw⟩; obtain rfl := hw.symm; clear hw)
    | (go_at_call 12; (with_reducible refine (HGb.out).mono ?_); rintro e w' ⟨rfl, hw⟩; obtain rfl := hw.symm; clear hw)
    | (go_at_call 14; (with_reducible refine (HNa.out _ (Below.refl _ _)).mono ?_); rintro e wa ⟨px, rfl, htx, hb⟩; have HB := Lk.mk hb; have HTx := Lk.mk htx; clear hb htx)
    | (go_at_call 14; (with_reducible refine (HNb.out _ HB.out).mono ?_); rintro e w2 ⟨py, rfl, hty, hb⟩; have HTx := Lk.mk (HTx.out.below hb); have HTy := Lk.mk hty; have HB := Lk.mk (below_then HB.out HB.out.size hb); clear hb hty)
    | (at_builtin
       refine Kd.R_append_rows (w0 := w2) (kG w) w2.heap.size rfl _ _ 22 28 _ 32 rfl Tryd.underlying22 infoF rfl (show 0 < (2 : Nat) from by decide) (show 0 < (32 : Nat) from by decide) _ [] a A a.length c (fun _ => True) (fun _ => False) rfl rfl ?q1 ?q2 (fun _ _ h => h) (fun _ h => h.elim) (fun _ _ => trivial) ?q3 ?q4 ?q5 ?_
       case q1 => exact kG_empty w _ _ (Nat.le_refl _)
       case q2 => exact kG_rows HR.out (HB.out.alloc HB.out.size _)
       case q3 => exact below_alloc (Below.refl _ _) _
       case q4 => exact (below_alloc (Below.refl w2.heap.size w2) _).size
       case q5 => simp; omega
       intro v1 w3 hR hb _ _
       have HB3 := Lk.mk hb
       have HR1 := Lk.mk hR
       clear hb hR)
    | (at_builtin
       refine Kd.R_append_rows (w0 := w2) (kG w) w2.heap.size rfl _ _ 22 28 _ 32 rfl Tryd.underlying22 infoF rfl (show 0 < (2 : Nat) from by decide) (show 0 < (32 : Nat) from by decide) _ ([] ++ a) b B b.length d (fun _ => True) (fun _ => False) rfl rfl HR1.out (kG_rows HR2.out (below_then HB.out HB.out.size HB3.out)) (fun _ _ h => h) (fun _ h => h.elim) (fun _ _ => trivial) HB3.out HB3.out.size ?q5 ?_
       case q5 => simp; omega
       intro v1 w4 hR hb _ _
       obtain ⟨A3, c3, rfl, _, hC3⟩ := Kd.R_reads hR
       rw [List.nil_append, List.length_append] at hC3 ⊢
       have HTx := Lk.mk (HTx.out.below hb)
       have HTy := Lk.mk (HTy.out.below hb)
       have HB := Lk.mk (below_then HB.out HB.out.size hb)
       have HZ := Lk.mk (kG_fnC hC3 HB.out)
       clear hb hR hC3)
    | (go_at_call 14; (with_reducible refine (HNz.out _ _ _ HB.out HZ.out).mono ?_); rintro e w5 ⟨pz, rfl, htz, hb⟩; have HTx := Lk.mk (HTx.out.below hb); have HTy := Lk.mk (HTy.out.below hb); have HTz := Lk.mk htz; have HB := Lk.mk (below_then HB.out HB.out.size hb); clear hb htz)
    | (go_at_call 24; (with_reducible refine (HLz.out _ _ HTz.out).mono ?_); rintro e w' ⟨rfl, hw⟩; obtain rfl := hw.symm; clear hw)
    | (go_at_call 24; (with_reducible refine (HLx.out _ _ HTx.out).mono ?_); rintro e w' ⟨rfl, hw⟩; obtain rfl := hw.symm; clear hw)
    | (go_at_call 24; (with_reducible refine (HLy.out _ _ HTy.out).mono ?_); rintro e w' ⟨rfl, hw⟩; obtain rfl := hw.symm; clear hw)
    | (go_at_call 25; (with_reducible refine (HSz.out _ _ HTz.out).mono ?_); rintro e w' ⟨rfl, hw⟩; obtain rfl := hw.symm; clear hw)
    | (go_at_call 25; (with_reducible refine (HSy.out _ _ HTy.out).mono ?_); rintro e w' ⟨rfl, hw⟩; obtain rfl := hw.symm; clear hw)
    | (go_at_call 26; (with_reducible refine (HWz.out _ _ HTz.out).mono ?_); rintro e w' ⟨rfl, hw⟩; obtain rfl := hw.symm; clear hw)
    | (go_at_call 26; (with_reducible refine (HWx.out _ _ HTx.out).mono ?_); rintro e w' ⟨rfl, hw⟩; obtain rfl := hw.symm; clear hw)
    | (go_at_call 27; (with_reducible refine (HPz.out _ _ HTz.out).mono ?_); rintro e w' ⟨rfl, hb⟩; have HTx := Lk.mk (HTx.out.below hb); have HTy := Lk.mk (HTy.out.below hb); have HTz := Lk.mk (HTz.out.below hb); have HB := Lk.mk (below_then HB.out HB.out.size hb); clear hb)
    | (go_at_call 27; (with_reducible refine (HPy.out _ _ HTy.out).mono ?_); rintro e w' ⟨rfl, hb⟩; have HTx := Lk.mk (HTx.out.below hb); have HTy := Lk.mk (HTy.out.below hb); have HTz := Lk.mk (HTz.out.below hb); have HB := Lk.mk (below_then HB.out HB.out.size hb); clear hb)
    | (go_at_call 15; (with_reducible refine (HFz.out _ _ HTz.out).mono ?_); rintro e w' ⟨A5, c5, rfl, hf5, hb⟩; have HC5 := Lk.mk hf5; clear hf5; have HTx := Lk.mk (HTx.out.below hb); have HTy := Lk.mk (HTy.out.below hb); have HTz := Lk.mk (HTz.out.below hb); have HB := Lk.mk (below_then HB.out HB.out.size hb); clear hb)
    | (go_at_call 22; (with_reducible refine (HEz.out _ _ _ HC5.out HB.out).mono ?_); rintro e w' ⟨rfl, hb⟩; have HTx := Lk.mk (HTx.out.below hb); have HTy := Lk.mk (HTy.out.below hb); have HTz := Lk.mk (HTz.out.below hb); have HB := Lk.mk (below_then HB.out HB.out.size hb); clear hb)
    | (go_at_call 22; (with_reducible refine (HEa.out _ HB.out).mono ?_); rintro e w' ⟨rfl, hb⟩; have HTx := Lk.mk (HTx.out.below hb); have HTy := Lk.mk (HTy.out.below hb); have HTz := Lk.mk (HTz.out.below hb); have HB := Lk.mk (below_then HB.out HB.out.size hb); clear hb)
    | (go_at_call 22; (with_reducible refine (HEb.out _ HB.out).mono ?_); rintro e w' ⟨rfl, hb⟩; have HTx := Lk.mk (HTx.out.below hb); have HTy := Lk.mk (HTy.out.below hb); have HTz := Lk.mk (HTz.out.below hb); have HB := Lk.mk (below_then HB.out HB.out.size hb); clear hb)
    | (go_at_call 13; (with_reducible refine (awake_any _ (HT.out.below HB.out)).mono ?_); rintro e w' ⟨rfl, hb⟩; have HTx := Lk.mk (HTx.out.below hb); have HTy := Lk.mk (HTy.out.below hb); have HTz := Lk.mk (HTz.out.below hb); have HB := Lk.mk (below_then HB.out HB.out.size hb); clear hb))
  all_goals go_ret
  all_goals exact ⟨rfl, HB.out⟩

theorem lawOfFnsJoins (A : Option Addr) (c : Nat) (a : List (Int × List Int)) (B : Option Addr) (d : Nat) (b : List (Int × List Int)) (f i : Int) (w : World) (hr : FnC w A a.length a) (ha : FnsIn a) (hr2 : FnC w B b.length b) (hb : FnsIn b) (_hf : -9223372036854775808 ≤ f ∧ f ≤ 9223372036854775807) (hi : -9223372036854775808 ≤ i ∧ i ≤ 9223372036854775807) (hT : Tab w) :
    Calls Tryd.prog 6 #[.slice A a.length c, .slice B b.length d, .int .i64 f, .int .i64 i] w fun e w' => e = .returned (.bool true) ∧ Below w.heap.size w w' := by
  by_cases h : greatL a = false ∧ greatL b = false ∧ 1 ≤ a.length ∧ a.length ≤ 50 ∧ b.length ≤ 50 ∧ 0 ≤ f ∧ f < b.length
  · obtain ⟨hga, hgb, h1, h2, h3, h4, h5⟩ := h
    by_cases hn : newOk a = true ∧ newOk b = true
    · obtain ⟨n, rfl⟩ := Int.eq_ofNat_of_zero_le h4
      exact joins_good A c a B d b n i w hr hr2 ha hb hi.2 hT hga hgb h1 h2 h3 (by omega) hn.1 hn.2
    · exact joins_bad A c a B d b f i w hr hr2 ha hb hT hga hgb h1 h2 h3 h4 h5 hn
  · exact joins_out A c a B d b f i w hr hr2 hT h
end Go.Proofs.YtmlchbldcoenaaaDoor
