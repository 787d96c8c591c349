/-
  The walks of machine.May and of the reference's May at a config; conditions: the functions read as told.
-/
import Derived.Test.YtbikdngpannekaaDoorRc
import Derived.Test.YtbikdngpannekaaDoorK1
namespace Go.Proofs.YtbikdngpannekaaDoor
open Go.RowKit Go.Proofs.YtbikdngpannekaaDoorW.PrintWords

theorem cells4w {w : World} {g : Nat} {t : TypeId} {a b c d : Value} (h : w.heap[g]? = some (.cells #[a, b, c, d] t (0, 0))) : w.cell? ⟨g, 0, none⟩ = some a ∧ w.cell? ⟨g, 1, none⟩ = some b ∧ w.cell? ⟨g, 2, none⟩ = some c ∧ w.cell? ⟨g, 3, none⟩ = some d :=
  ⟨by rw [blk_cell h 0]; rfl, by rw [blk_cell h 1]; rfl, by rw [blk_cell h 2]; rfl, by rw [blk_cell h 3]; rfl⟩
def mayC (pg pr lm : Int) (l : List (Int × List Int)) : Bool := newOk l && (decide (4 ≤ pg) && decide (pg ≤ 1024)) && limB lm && decide (1 ≤ pr) && decide (pr ≤ 16)
def I64 (x : Int) : Prop := -9223372036854775808 ≤ x ∧ x ≤ 9223372036854775807
set_option maxRecDepth 100000 in
set_option maxHeartbeats 8000000 in
theorem mmayC_any (pg pr lm : Int) (A : Option Addr) (c : Nat) (l : List (Int × List Int)) (w : World) (hr : FnC w A l.length l) (hw : FnsOk l) (hT : Tab w) (hlm : I64 lm) :
    Calls Tryd.prog 98 #[.agg #[.int .i64 pg, .int .i64 pr, .int .i64 lm, .slice A l.length c]] w fun e w' => e = .returned (.bool (mayC pg pr lm l)) ∧ Below w.heap.size w w' := by
  have H0 := Lk.mk (below_alloc (Below.refl w.heap.size w) (.cells #[.int .i64 pg, .int .i64 pr, .int .i64 lm, .slice A l.length c] 83))
  have HX0 := Lk.mk (blk_new w (.cells #[.int .i64 pg, .int .i64 pr, .int .i64 lm, .slice A l.length c] 83))
  obtain ⟨c0, c1, c2, c3⟩ := cells4w HX0.out
  have HN : Lk (∃ ee : Int, ((ee = 0 ∧ newOk l = true) ∨ (¬ ee = 0 ∧ newOk l = false)) ∧ Calls Tryd.prog 18 #[.slice A l.length c] (w.alloc (.cells #[.int .i64 pg, .int .i64 pr, .int .i64 lm, .slice A l.length c] 83)) fun e w' => ∃ p, e = .returned (.tuple #[p, .int .i64 ee]) ∧ Below (w.alloc (.cells #[.int .i64 pg, .int .i64 pr, .int .i64 lm, .slice A l.length c] 83)).heap.size (w.alloc (.cells #[.int .i64 pg, .int .i64 pr, .int .i64 lm, .slice A l.length c] 83)) w') := by
    cases hn : newOk l with
    | true => exact ⟨0, .inl ⟨rfl, rfl⟩, (new_good A c l _ (hr.below H0.out) hw (hT.below H0.out) hn).mono fun e w' ⟨p, he, _, hb⟩ => ⟨p, he, hb⟩⟩
    | false => exact ⟨1, .inr ⟨by decide, rfl⟩, (new_bad A c l _ (hr.below H0.out) hw (hT.below H0.out) hn).mono fun e w' ⟨he, hb⟩ => ⟨_, he, hb⟩⟩
  obtain ⟨⟨ee, hee, hnew⟩⟩ := HN
  have HNW := Lk.mk hnew
  have HL := Lk.mk (fun W => limit1 lm W hlm)
  clear hr hw hT hlm hnew
  have H : Lk (mayC pg pr lm l = (newOk l && (decide (4 ≤ pg) && decide (pg ≤ 1024)) && limB lm && decide (1 ≤ pr) && decide (pr ≤ 16))) := ⟨rfl⟩
  generalize mayC pg pr lm l = r at *
  generalize newOk l = nk at *
  generalize limB lm = lk at *
  rcases hee with ⟨he, rfl⟩ | ⟨he, rfl⟩
  · subst he
    by_cases p1 : 4 ≤ pg
    · by_cases p2 : pg ≤ 1024
      · cases lk with
        | true =>
          by_cases p3 : 1 ≤ pr
          · by_cases p4 : pr ≤ 16
            · have HQ := Lk.mk (H.out.trans (by rw [decide_eq_true p1, decide_eq_true p2, decide_eq_true p3, decide_eq_true p4]))
              go_enter Tryd.func98, Tryd.ntmps98
              go_wp2_with (first
                | (go_at_call 18; (with_reducible refine (HNW.out).mono ?_); rintro e w1 ⟨p, rfl, hb⟩; have HB := Lk.mk (below_then H0.out H0.out.size hb); obtain ⟨d0, d1, d2, d3⟩ := cells4w (blk_below HX0.out hb); obtain ⟨f0, f1, f2, f3⟩ := cells4w (blk_alloc (blk_below HX0.out hb) (.cells #[.int .i64 lm] 3)); have HX1 := Lk.mk (blk_below HX0.out hb); clear hb)
                | (go_at_call 130; (with_reducible refine (HL.out _).mono ?_); rintro e w2 ⟨rfl, hb⟩; have HB := Lk.mk (below_then HB.out HB.out.size hb); obtain ⟨g0, g1, g2, g3⟩ := cells4w (blk_below HX1.out hb); clear hb))
              go_ret
              exact ⟨ret_bool (by rw [HQ.out]; rfl), HB.out⟩
            · have HQ := Lk.mk (H.out.trans (by rw [decide_eq_true p1, decide_eq_true p2, decide_eq_true p3, decide_eq_false p4]))
              go_enter Tryd.func98, Tryd.ntmps98
              go_wp2_with (first
                | (go_at_call 18; (with_reducible refine (HNW.out).mono ?_); rintro e w1 ⟨p, rfl, hb⟩; have HB := Lk.mk (below_then H0.out H0.out.size hb); obtain ⟨d0, d1, d2, d3⟩ := cells4w (blk_below HX0.out hb); have HX1 := Lk.mk (blk_below HX0.out hb); clear hb)
                | (go_at_call 130; (with_reducible refine (HL.out _).mono ?_); rintro e w2 ⟨rfl, hb⟩; have HB := Lk.mk (below_then HB.out HB.out.size hb); obtain ⟨g0, g1, g2, g3⟩ := cells4w (blk_below HX1.out hb); clear hb))
              go_ret
              exact ⟨ret_bool (by rw [HQ.out]; first | rfl | (rw [decide_eq_false (by omega)]; rfl)), HB.out⟩
          · have HQ := Lk.mk (H.out.trans (by rw [decide_eq_true p1, decide_eq_true p2, decide_eq_false p3]))
            go_enter Tryd.func98, Tryd.ntmps98
            go_wp2_with (first
              | (go_at_call 18; (with_reducible refine (HNW.out).mono ?_); rintro e w1 ⟨p, rfl, hb⟩; have HB := Lk.mk (below_then H0.out H0.out.size hb); obtain ⟨d0, d1, d2, d3⟩ := cells4w (blk_below HX0.out hb); have HX1 := Lk.mk (blk_below HX0.out hb); clear hb)
              | (go_at_call 130; (with_reducible refine (HL.out _).mono ?_); rintro e w2 ⟨rfl, hb⟩; have HB := Lk.mk (below_then HB.out HB.out.size hb); obtain ⟨g0, g1, g2, g3⟩ := cells4w (blk_below HX1.out hb); clear hb))
            go_ret
            exact ⟨ret_bool (by rw [HQ.out]; rfl), HB.out⟩
        | false =>
          have HQ := Lk.mk (H.out.trans (by rw [decide_eq_true p1, decide_eq_true p2]))
          go_enter Tryd.func98, Tryd.ntmps98
          go_wp2_with (first
            | (go_at_call 18; (with_reducible refine (HNW.out).mono ?_); rintro e w1 ⟨p, rfl, hb⟩; have HB := Lk.mk (below_then H0.out H0.out.size hb); obtain ⟨d0, d1, d2, d3⟩ := cells4w (blk_below HX0.out hb); have HX1 := Lk.mk (blk_below HX0.out hb); clear hb)
            | (go_at_call 130; (with_reducible refine (HL.out _).mono ?_); rintro e w2 ⟨rfl, hb⟩; have HB := Lk.mk (below_then HB.out HB.out.size hb); obtain ⟨g0, g1, g2, g3⟩ := cells4w (blk_below HX1.out hb); clear hb))
          go_ret
          exact ⟨ret_bool (by rw [HQ.out]; rfl), HB.out⟩
      · have HQ := Lk.mk (H.out.trans (by rw [decide_eq_true p1, decide_eq_false p2]))
        go_enter Tryd.func98, Tryd.ntmps98
        go_wp2_with (go_at_call 18; (with_reducible refine (HNW.out).mono ?_); rintro e w1 ⟨p, rfl, hb⟩; have HB := Lk.mk (below_then H0.out H0.out.size hb); obtain ⟨d0, d1, d2, d3⟩ := cells4w (blk_below HX0.out hb); clear hb)
        go_ret
        exact ⟨ret_bool (by rw [HQ.out]; rfl), HB.out⟩
    · have HQ := Lk.mk (H.out.trans (by rw [decide_eq_false p1]))
      go_enter Tryd.func98, Tryd.ntmps98
      go_wp2_with (go_at_call 18; (with_reducible refine (HNW.out).mono ?_); rintro e w1 ⟨p, rfl, hb⟩; have HB := Lk.mk (below_then H0.out H0.out.size hb); obtain ⟨d0, d1, d2, d3⟩ := cells4w (blk_below HX0.out hb); clear hb)
      go_ret
      exact ⟨ret_bool (by rw [HQ.out]; rfl), HB.out⟩
  · have HQ := Lk.mk (H.out.trans (show _ = false by simp))
    by_cases p1 : 4 ≤ pg
    · by_cases p2 : pg ≤ 1024
      · go_enter Tryd.func98, Tryd.ntmps98
        go_wp2_with (go_at_call 18; (with_reducible refine (HNW.out).mono ?_); rintro e w1 ⟨p, rfl, hb⟩; have HB := Lk.mk (below_then H0.out H0.out.size hb); obtain ⟨d0, d1, d2, d3⟩ := cells4w (blk_below HX0.out hb); clear hb)
        go_ret
        exact ⟨ret_bool (by rw [HQ.out]), HB.out⟩
      · go_enter Tryd.func98, Tryd.ntmps98
        go_wp2_with (go_at_call 18; (with_reducible refine (HNW.out).mono ?_); rintro e w1 ⟨p, rfl, hb⟩; have HB := Lk.mk (below_then H0.out H0.out.size hb); obtain ⟨d0, d1, d2, d3⟩ := cells4w (blk_below HX0.out hb); clear hb)
        go_ret
        exact ⟨ret_bool (by rw [HQ.out]), HB.out⟩
    · go_enter Tryd.func98, Tryd.ntmps98
      go_wp2_with (go_at_call 18; (with_reducible refine (HNW.out).mono ?_); rintro e w1 ⟨p, rfl, hb⟩; have HB := Lk.mk (below_then H0.out H0.out.size hb); obtain ⟨d0, d1, d2, d3⟩ := cells4w (blk_below HX0.out hb); clear hb)
      go_ret
      exact ⟨ret_bool (by rw [HQ.out]), HB.out⟩
set_option maxRecDepth 100000 in
set_option maxHeartbeats 8000000 in
theorem rmayC_any (pg pr lm : Int) (A : Option Addr) (c : Nat) (l : List (Int × List Int)) (w : World) (hr : FnC w A l.length l) (hI : ∀ f ∈ l, Bm.Words f.2 ∧ f.2.length ≤ 68719476736) (hlm : I64 lm) :
    Calls Tryd.prog 101 #[.agg #[.int .i64 pg, .int .i64 pr, .int .i64 lm, .slice A l.length c]] w fun e w' => e = .returned (.bool (mayC pg pr lm l)) ∧ Below w.heap.size w w' := by
  have H0 := Lk.mk (below_alloc (Below.refl w.heap.size w) (.cells #[.int .i64 pg, .int .i64 pr, .int .i64 lm, .slice A l.length c] 83))
  have HX0 := Lk.mk (blk_new w (.cells #[.int .i64 pg, .int .i64 pr, .int .i64 lm, .slice A l.length c] 83))
  obtain ⟨c0, c1, c2, c3⟩ := cells4w HX0.out
  have HL := Lk.mk (fun W => rlimit_any lm W hlm)
  have HA := Lk.mk (refAll_any A c l _ (hr.below H0.out) hI)
  clear hr hI hlm
  have H : Lk (mayC pg pr lm l = (newOk l && (decide (4 ≤ pg) && decide (pg ≤ 1024)) && limB lm && decide (1 ≤ pr) && decide (pr ≤ 16))) := ⟨rfl⟩
  generalize mayC pg pr lm l = r at *
  generalize newOk l = nk at *
  generalize limB lm = lk at *
  by_cases p1 : 4 ≤ pg
  · skip
    by_cases p2 : pg ≤ 1024
    · skip
      by_cases p3 : 1 ≤ pr
      · skip
        by_cases p4 : pr ≤ 16
        · skip
          cases lk with
          | true =>
            cases nk with
            | true =>
              have HQ := Lk.mk (H.out.trans (by rw [decide_eq_true p1, decide_eq_true p2, decide_eq_true p3, decide_eq_true p4]))
              go_enter Tryd.func101, Tryd.ntmps101
              go_wp2_with (first
                | (go_at_call 132; (with_reducible refine (HL.out _).mono ?_); rintro e w' ⟨rfl, hw⟩; obtain rfl := hw.symm; clear hw)
                | (go_at_call 27; (with_reducible refine (HA.out).mono ?_); rintro e w2 ⟨rfl, hb⟩; have HB := Lk.mk (below_then H0.out H0.out.size hb); clear hb))
              go_ret
              exact ⟨ret_bool (by rw [HQ.out]; first | rfl | (simp only [Bool.and_true, Bool.true_and, Bool.and_false, Bool.false_and])), HB.out⟩
            | false =>
              have HQ := Lk.mk (H.out.trans (by rw [decide_eq_true p1, decide_eq_true p2, decide_eq_true p3, decide_eq_true p4]))
              go_enter Tryd.func101, Tryd.ntmps101
              go_wp2_with (first
                | (go_at_call 132; (with_reducible refine (HL.out _).mono ?_); rintro e w' ⟨rfl, hw⟩; obtain rfl := hw.symm; clear hw)
                | (go_at_call 27; (with_reducible refine (HA.out).mono ?_); rintro e w2 ⟨rfl, hb⟩; have HB := Lk.mk (below_then H0.out H0.out.size hb); clear hb))
              go_ret
              exact ⟨ret_bool (by rw [HQ.out]; first | rfl | (simp only [Bool.and_true, Bool.true_and, Bool.and_false, Bool.false_and])), HB.out⟩
          | false =>
            have HQ := Lk.mk (H.out.trans (by rw [decide_eq_true p1, decide_eq_true p2, decide_eq_true p3, decide_eq_true p4]))
            go_enter Tryd.func101, Tryd.ntmps101
            go_wp2_with (first
              | (go_at_call 132; (with_reducible refine (HL.out _).mono ?_); rintro e w' ⟨rfl, hw⟩; obtain rfl := hw.symm; clear hw)
              | (go_at_call 27; (with_reducible refine (HA.out).mono ?_); rintro e w2 ⟨rfl, hb⟩; have HB := Lk.mk (below_then H0.out H0.out.size hb); clear hb))
            go_ret
            exact ⟨ret_bool (by rw [HQ.out]; first | rfl | (simp only [Bool.and_true, Bool.true_and, Bool.and_false, Bool.false_and])), H0.out⟩
        · skip
          have HQ := Lk.mk (H.out.trans (by rw [decide_eq_true p1, decide_eq_true p2, decide_eq_true p3, decide_eq_false p4]))
          go_enter Tryd.func101, Tryd.ntmps101
          go_wp2_with (first
            | (go_at_call 132; (with_reducible refine (HL.out _).mono ?_); rintro e w' ⟨rfl, hw⟩; obtain rfl := hw.symm; clear hw)
            | (go_at_call 27; (with_reducible refine (HA.out).mono ?_); rintro e w2 ⟨rfl, hb⟩; have HB := Lk.mk (below_then H0.out H0.out.size hb); clear hb))
          go_ret
          exact ⟨ret_bool (by rw [HQ.out]; first | rfl | (simp only [Bool.and_true, Bool.true_and, Bool.and_false, Bool.false_and])), H0.out⟩
      · skip
        have HQ := Lk.mk (H.out.trans (by rw [decide_eq_true p1, decide_eq_true p2, decide_eq_false p3]))
        go_enter Tryd.func101, Tryd.ntmps101
        go_wp2_with (first
          | (go_at_call 132; (with_reducible refine (HL.out _).mono ?_); rintro e w' ⟨rfl, hw⟩; obtain rfl := hw.symm; clear hw)
          | (go_at_call 27; (with_reducible refine (HA.out).mono ?_); rintro e w2 ⟨rfl, hb⟩; have HB := Lk.mk (below_then H0.out H0.out.size hb); clear hb))
        go_ret
        exact ⟨ret_bool (by rw [HQ.out]; first | rfl | (simp only [Bool.and_true, Bool.true_and, Bool.and_false, Bool.false_and])), H0.out⟩
    · skip
      have HQ := Lk.mk (H.out.trans (by rw [decide_eq_true p1, decide_eq_false p2]))
      go_enter Tryd.func101, Tryd.ntmps101
      go_wp2_with (first
        | (go_at_call 132; (with_reducible refine (HL.out _).mono ?_); rintro e w' ⟨rfl, hw⟩; obtain rfl := hw.symm; clear hw)
        | (go_at_call 27; (with_reducible refine (HA.out).mono ?_); rintro e w2 ⟨rfl, hb⟩; have HB := Lk.mk (below_then H0.out H0.out.size hb); clear hb))
      go_ret
      exact ⟨ret_bool (by rw [HQ.out]; first | rfl | (simp only [Bool.and_true, Bool.true_and, Bool.and_false, Bool.false_and])), H0.out⟩
  · skip
    have HQ := Lk.mk (H.out.trans (by rw [decide_eq_false p1]))
    go_enter Tryd.func101, Tryd.ntmps101
    go_wp2_with (first
      | (go_at_call 132; (with_reducible refine (HL.out _).mono ?_); rintro e w' ⟨rfl, hw⟩; obtain rfl := hw.symm; clear hw)
      | (go_at_call 27; (with_reducible refine (HA.out).mono ?_); rintro e w2 ⟨rfl, hb⟩; have HB := Lk.mk (below_then H0.out H0.out.size hb); clear hb))
    go_ret
    exact ⟨ret_bool (by rw [HQ.out]; first | rfl | (simp only [Bool.and_true, Bool.true_and, Bool.and_false, Bool.false_and])), H0.out⟩
end Go.Proofs.YtbikdngpannekaaDoor
