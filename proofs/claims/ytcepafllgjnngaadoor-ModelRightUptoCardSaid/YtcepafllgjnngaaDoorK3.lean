/-
  Several texts as one.
-/
import Derived.Test.YtcepafllgjnngaaDoorK2
import Derived.Test.YtcepafllgjnngaaDoorK1
/-
  Plain: a walk through frames, each of which ends where the one ahead of it stands.
-/
namespace Wk
open Sl
/-- the frames from an address on, the last one first; none: a frame is lost -/
def go (step : Nat → Option (Fr × Nat)) (hi : Nat) : Nat → Nat → Option (List Fr)
  | 0, _ => some []
  | f + 1, a => if a < hi then (match step a with | none => none | some (x, e) => (go step hi f e).map (x :: ·)) else some []
def walk (step : Nat → Option (Fr × Nat)) (hi a : Nat) : Option (List Fr) := go step hi (hi - a) a
def Up (step : Nat → Option (Fr × Nat)) : Prop := ∀ a x e, step a = some (x, e) → a < e
theorem go_more {step : Nat → Option (Fr × Nat)} {hi : Nat} (hs : Up step) : ∀ f a, hi - a ≤ f → go step hi f a = go step hi (hi - a) a := by
  intro f
  induction f using Nat.strongRecOn with
  | _ f ih =>
    intro a h
    cases f with
    | zero =>
      rw [show hi - a = 0 by omega]
    | succ f =>
      by_cases ha : a < hi
      · obtain ⟨g, hg⟩ : ∃ g, hi - a = g + 1 := ⟨hi - a - 1, by omega⟩
        rw [hg]
        unfold go
        rw [if_pos ha, if_pos ha]
        cases hst : step a with
        | none => rfl
        | some p =>
          obtain ⟨x, e⟩ := p
          have he := hs a x e hst
          dsimp only
          rw [ih f (by omega) e (by omega)]
          by_cases hge : g < f + 1
          · rw [ih g (by omega) e (by omega)]
          · omega
      · rw [show hi - a = 0 by omega]
        unfold go
        rw [if_neg ha]
theorem walk_end {step : Nat → Option (Fr × Nat)} {hi a : Nat} (h : ¬ a < hi) : walk step hi a = some [] := by
  unfold walk
  rw [show hi - a = 0 by omega]
  rfl
theorem walk_bad {step : Nat → Option (Fr × Nat)} {hi a : Nat} (h : a < hi) (hs : step a = none) : walk step hi a = none := by
  unfold walk
  obtain ⟨g, hg⟩ : ∃ g, hi - a = g + 1 := ⟨hi - a - 1, by omega⟩
  rw [hg]
  unfold go
  rw [if_pos h, hs]
theorem walk_step {step : Nat → Option (Fr × Nat)} {hi a e : Nat} {x : Fr} (hu : Up step) (h : a < hi) (hs : step a = some (x, e)) : walk step hi a = (walk step hi e).map (x :: ·) := by
  unfold walk
  obtain ⟨g, hg⟩ : ∃ g, hi - a = g + 1 := ⟨hi - a - 1, by omega⟩
  have he := hu a x e hs
  rw [hg]
  show (if a < hi then (match step a with | none => none | some (x, e) => (go step hi g e).map (x :: ·)) else some []) = _
  rw [if_pos h, hs]
  dsimp only
  rw [go_more hu g e (by omega)]
/-- what a step says of its frame: it stands there, its link is where it ends, or -1 at the end -/
structure Says (step : Nat → Option (Fr × Nat)) (hi : Nat) (wd : Int → Int) : Prop where
  up : Up step
  at_ : ∀ a x e, step a = some (x, e) → x.1 = a
  ends : ∀ a x e, step a = some (x, e) → (e : Int) = a + wd x.2.1
  le : ∀ a x e, step a = some (x, e) → e ≤ hi
  link : ∀ a x e, step a = some (x, e) → x.2.2 = if e = hi then -1 else (e : Int)
theorem walk_top {step : Nat → Option (Fr × Nat)} {hi : Nat} {wd : Int → Int} (hs : Says step hi wd) : ∀ n a l, hi - a ≤ n → a ≤ hi → walk step hi a = some l →
    (a < hi → l ≠ []) ∧ (l ≠ [] → (l.getD 0 dFr).1 = a) ∧ (∀ i, i < l.length → (l.getD i dFr).2.2 = (if i + 1 = l.length then -1 else (l.getD (i + 1) dFr).1) ∧ (l.getD i dFr).1 + wd (l.getD i dFr).2.1 = (if i + 1 = l.length then (hi : Int) else (l.getD (i + 1) dFr).1)) := by
  intro n
  induction n with
  | zero =>
    intro a l h1 h2 h
    have ha : ¬ a < hi := by omega
    rw [walk_end ha] at h
    injection h with h
    subst h
    exact ⟨fun h => absurd h ha, fun h => absurd rfl h, fun i hi => by simp at hi⟩
  | succ n ih =>
    intro a l h1 h2 h
    by_cases ha : a < hi
    · cases hst : step a with
      | none => rw [walk_bad ha hst] at h; cases h
      | some p =>
        obtain ⟨x, e⟩ := p
        rw [walk_step hs.up ha hst] at h
        obtain ⟨m, hm, hl⟩ := Option.map_eq_some_iff.1 h
        have hae := hs.up a x e hst
        have hle := hs.le a x e hst
        obtain ⟨i1, i2, i3⟩ := ih e m (by omega) hle hm
        subst hl
        have hx := hs.at_ a x e hst
        have hend := hs.ends a x e hst
        have hlk := hs.link a x e hst
        have hm0 : m = [] ↔ e = hi := by
          constructor
          · intro g
            by_cases q : e < hi
            · exact absurd g (i1 q)
            · omega
          · intro g
            rw [walk_end (by omega)] at hm
            injection hm with hm
            exact hm.symm
        refine ⟨fun _ => by simp, fun _ => by simpa using hx, fun i hi' => ?_⟩
        cases i with
        | zero =>
          cases m with
          | nil =>
            have he := hm0.1 rfl
            simp only [List.getD_cons_zero, List.length_cons, List.length_nil]
            rw [if_pos trivial, if_pos trivial, hlk, if_pos he]
            exact ⟨rfl, by rw [hx, ← hend, he]⟩
          | cons y m' =>
            have he : e ≠ hi := fun g => by have := hm0.2 g; cases this
            have hy := i2 (by simp)
            simp only [List.getD_cons_zero] at hy
            simp only [List.getD_cons_zero, List.getD_cons_succ, List.length_cons]
            rw [if_neg (by omega), if_neg (by omega), hlk, if_neg he, hy]
            exact ⟨rfl, by rw [hx, ← hend]⟩
        | succ i =>
          have := i3 i (by simpa using hi')
          simp only [List.getD_cons_succ, List.length_cons]
          by_cases q : i + 1 = m.length
          · rw [if_pos (by omega), if_pos (by omega)]
            rw [if_pos q, if_pos q] at this
            exact this
          · rw [if_neg (by omega), if_neg (by omega)]
            rw [if_neg q, if_neg q] at this
            exact this
    · rw [walk_end ha] at h
      injection h with h
      subst h
      exact ⟨fun h => absurd h ha, fun h => absurd rfl h, fun i hi => by simp at hi⟩
theorem rev_get (l : List Fr) (d : Nat) (h : d < l.length) : l.reverse.getD d dFr = l.getD (l.length - 1 - d) dFr := by
  rw [List.getD_eq_getElem?_getD, List.getD_eq_getElem?_getD, List.getElem?_reverse h]
theorem top_rev {step : Nat → Option (Fr × Nat)} {hi : Nat} {wd : Int → Int} (hs : Says step hi wd) {a : Nat} {l : List Fr} (ha : a ≤ hi) (h : walk step hi a = some l) (d : Nat) (hd : d < l.reverse.length) :
    (l.reverse.getD d dFr).2.2 = (if d = 0 then -1 else (l.reverse.getD (d - 1) dFr).1) ∧ (l.reverse.getD d dFr).1 + wd (l.reverse.getD d dFr).2.1 = (if d = 0 then (hi : Int) else (l.reverse.getD (d - 1) dFr).1) := by
  rw [List.length_reverse] at hd
  have := (walk_top hs (hi - a) a l (Nat.le_refl _) ha h).2.2 (l.length - 1 - d) (by omega)
  rw [rev_get l d hd]
  by_cases q : d = 0
  · subst q
    rw [if_pos (by omega), if_pos (by omega)] at this
    rw [if_pos rfl, if_pos rfl]
    exact this
  · rw [if_neg (by omega), if_neg (by omega)] at this
    rw [if_neg q, if_neg q, rev_get l (d - 1) (by omega), show l.length - 1 - (d - 1) = l.length - 1 - d + 1 by omega]
    exact this
theorem top_last {step : Nat → Option (Fr × Nat)} {hi : Nat} {wd : Int → Int} (hs : Says step hi wd) {a : Nat} {l : List Fr} (ha : a ≤ hi) (h : walk step hi a = some l) (hl : l.reverse ≠ []) : (l.reverse.getD (l.reverse.length - 1) dFr).1 = a := by
  have hne : l ≠ [] := fun g => hl (by rw [g]; rfl)
  have hpos : 0 < l.length := by cases l with | nil => exact absurd rfl hne | cons _ _ => simp
  rw [List.length_reverse, rev_get l _ (by omega), show l.length - 1 - (l.length - 1) = 0 by omega]
  exact (walk_top hs (hi - a) a l (Nat.le_refl _) ha h).2.1 hne
end Wk

/-
  The walks of num.Is, stacks.Sizes, walk.may; conditions: the arena reads as told.
-/
namespace Go.Proofs.YtcepafllgjnngaaDoor
open Go.RowKit Go.Proofs.YtcepafllgjnngaaDoorW.PrintWords

/-- is it a power of two -/
def isB (n : Int) : Bool := decide (0 < n) && (bits .and .i64 n (n - 1) == 0)
set_option maxRecDepth 100000 in
set_option maxHeartbeats 2000000 in
theorem is_any (n : Int) (w : World) (hn : -9223372036854775808 ≤ n ∧ n ≤ 9223372036854775807) : Calls Tryd.prog 179 #[.int .i64 n] w fun e w' => e = .returned (.bool (isB n)) ∧ w' = w := by
  have H := Lk.mk (show isB n = isB n from rfl)
  by_cases h : 0 < n
  · go_enter Tryd.func179, Tryd.ntmps179
    go_wp2
    go_ret
    exact ⟨ret_bool (by unfold isB; rw [decide_eq_true h]; rfl), rfl⟩
  · have h2 : isB n = false := by unfold isB; rw [decide_eq_false h]; rfl
    go_enter Tryd.func179, Tryd.ntmps179
    go_wp2
    go_ret
    exact ⟨rfl, rfl⟩
end Go.Proofs.YtcepafllgjnngaaDoor

/-
  The walks of num.Is, stacks.Sizes, walk.may; conditions: the arena reads as told.
-/
namespace Go.Proofs.YtcepafllgjnngaaDoor
open Go.RowKit Go.Proofs.YtcepafllgjnngaaDoorW.PrintWords

set_option maxRecDepth 100000 in
set_option maxHeartbeats 2000000 in
theorem isLit_any (n : Int) (w : World) (hn : -9223372036854775808 ≤ n ∧ n ≤ 9223372036854775807) : Calls Tryd.prog 178 #[.int .i64 n] w fun e w' => e = .returned (.bool (!isB n)) ∧ w' = w := by
  have H := Lk.mk (fun w => is_any n w hn)
  generalize isB n = r at *
  go_enter Tryd.func178, Tryd.ntmps178
  go_wp2_with (go_at_call 179; (with_reducible refine (H.out _).mono ?_); rintro e w' ⟨rfl, hw⟩; obtain rfl := hw.symm; clear hw)
  go_ret
  exact ⟨rfl, rfl⟩
def I64s (l : List Int) : Prop := ∀ x ∈ l, -9223372036854775808 ≤ x ∧ x ≤ 9223372036854775807
def isAll (l : List Int) : Bool := !(l.any fun n => !isB n)
set_option maxRecDepth 100000 in
set_option maxHeartbeats 2000000 in
theorem isAll_any (A : Option Addr) (c : Nat) (l : List Int) (w : World) (hr : ReadsInt w .i64 A l.length l) (hl : I64s l) : Calls Tryd.prog 161 #[.slice A l.length c] w fun e w' => e = .returned (.bool (isAll l)) ∧ Below w.heap.size w w' := by
  have HC := Lk.mk (contains_ints A c l (fun n => !isB n) 178 #[] w (enters_of Tryd.func178 (by kernel_rfl) rfl) hr
    (fun W x hx hb => (isLit_any x W (hl x hx)).mono fun e W' h => ⟨h.1, h.2 ▸ Below.refl _ _⟩))
  have H := Lk.mk (show isAll l = !(l.any fun n => !isB n) from rfl)
  clear hr
  generalize isAll l = r at *
  generalize (l.any fun n => !isB n) = q at *
  go_enter Tryd.func161, Tryd.ntmps161
  go_wp2_with (go_at_call 136; (with_reducible refine (HC.out).mono ?_); rintro e w' ⟨rfl, hb⟩)
  go_ret
  exact ⟨ret_bool (by rw [H.out]), hb⟩
set_option maxRecDepth 100000 in
set_option maxHeartbeats 2000000 in
theorem szLit_any (n : Int) (w : World) : Calls Tryd.prog 162 #[.int .i64 n] w fun e w' => e = .returned (.bool (decide (n < 16))) ∧ w' = w := by
  go_enter Tryd.func162, Tryd.ntmps162
  go_wp2
  go_ret
  exact ⟨rfl, rfl⟩
def szAll (l : List Int) : Bool := isAll l && !(l.any fun n => decide (n < 16))
set_option maxRecDepth 100000 in
set_option maxHeartbeats 2000000 in
theorem sizes_any (A : Option Addr) (c : Nat) (l : List Int) (w : World) (hr : ReadsInt w .i64 A l.length l) (hl : I64s l) : Calls Tryd.prog 130 #[.slice A l.length c] w fun e w' => e = .returned (.bool (szAll l)) ∧ Below w.heap.size w w' := by
  have HI := Lk.mk (isAll_any A c l w hr hl)
  have HC := Lk.mk (fun W (hb : Below w.heap.size w W) => contains_ints A c l (fun n => decide (n < 16)) 162 #[] W (enters_of Tryd.func162 (by kernel_rfl) rfl) (hr.below hb)
    (fun W x _ _ => (szLit_any x W).mono fun e W' h => ⟨h.1, h.2 ▸ Below.refl _ _⟩))
  have H := Lk.mk (show szAll l = (isAll l && !(l.any fun n => decide (n < 16))) from rfl)
  clear hr hl
  generalize szAll l = r at *
  generalize (l.any fun n => decide (n < 16)) = q at *
  cases hi : isAll l with
  | true =>
    rw [hi] at HI H
    clear hi
    go_enter Tryd.func130, Tryd.ntmps130
    go_wp2_with (first
      | (go_at_call 161; (with_reducible refine (HI.out).mono ?_); rintro e w1 ⟨rfl, hb⟩; have HB := Lk.mk hb; clear hb)
      | (go_at_call 136; (with_reducible refine (HC.out _ HB.out).mono ?_); rintro e w2 ⟨rfl, hb⟩))
    go_ret
    exact ⟨ret_bool (by rw [H.out]; rfl), below_then HB.out HB.out.size hb⟩
  | false =>
    rw [hi] at HI H
    clear hi
    go_enter Tryd.func130, Tryd.ntmps130
    go_wp2_with (go_at_call 161; (with_reducible refine (HI.out).mono ?_); rintro e w1 ⟨rfl, hb⟩; have HB := Lk.mk hb; clear hb)
    go_ret
    exact ⟨ret_bool (by rw [H.out]; rfl), HB.out⟩
theorem cells3c {w : World} {g : Nat} {t : TypeId} {a b c : Value} (h : w.heap[g]? = some (.cells #[a, b, c] t (0, 0))) : w.cell? ⟨g, 0, none⟩ = some a ∧ w.cell? ⟨g, 1, none⟩ = some b ∧ w.cell? ⟨g, 2, none⟩ = some c ∧ w.frozen? ⟨g, 0, none⟩ = false ∧ w.frozen? ⟨g, 1, none⟩ = false ∧ w.frozen? ⟨g, 2, none⟩ = false :=
  ⟨by rw [blk_cell h 0]; rfl, by rw [blk_cell h 1]; rfl, by rw [blk_cell h 2]; rfl, blk_frozen h 0, blk_frozen h 1, blk_frozen h 2⟩
/-- is it a stack within so many words -/
def mayS (len : Nat) (x : Int × (Int × Int)) : Bool := szAll [x.2.1] && inL len x.1 x.2.1 && decide (x.1 ≤ x.2.2) && decide (x.2.2 ≤ x.1 + x.2.1)
set_option maxRecDepth 100000 in
set_option maxHeartbeats 2000000 in
theorem wmay_any (g b : Nat) (ws : List Int) (x : Int × (Int × Int)) (w : World) (h : ArB w g b ws) (hx : -9223372036854775808 ≤ x.2.1 ∧ x.2.1 ≤ 9223372036854775807) :
    Calls Tryd.prog 78 #[.pointer (some ⟨g, 0, none⟩), .agg #[.int .i64 x.1, .int .i64 x.2.1, .int .i64 x.2.2]] w fun e w' => e = .returned (.bool (mayS ws.length x)) ∧ Below w.heap.size w w' := by
  obtain ⟨lo, sz, sp⟩ := x
  dsimp only at hx ⊢
  have hlen := h.len
  have H0 := Lk.mk (below_alloc (Below.refl w.heap.size w) (.cells #[.int .i64 lo, .int .i64 sz, .int .i64 sp] 41))
  have HX0 := Lk.mk (blk_new w (.cells #[.int .i64 lo, .int .i64 sz, .int .i64 sp] 41))
  have HZ := Lk.mk (fun W => sizes_any (some ⟨W.heap.size, 0, none⟩) 1 [sz] (W.alloc (.cells #[.int .i64 sz] 3)) (own_reads' (own_lit W W.heap.size 3 .i64 [sz] (Nat.le_refl _) (by simp))) (fun y hy => by obtain rfl : y = sz := (by simpa using hy); exact hx))
  have HZ := Lk.mk (HZ.out (w.alloc (.cells #[.int .i64 lo, .int .i64 sz, .int .i64 sp] 41)))
  rw [show ([sz] : List Int).length = 1 from rfl, show (w.alloc (.cells #[.int .i64 lo, .int .i64 sz, .int .i64 sp] 41)).heap.size = w.heap.size + 1 from by simp] at HZ
  have HI := Lk.mk (fun W (hb : Below w.heap.size w W) => ain_any g b ws lo sz W (h.below hb))
  have HM := Lk.mk (show mayS ws.length (lo, (sz, sp)) = (szAll [sz] && inL ws.length lo sz && decide (lo ≤ sp) && decide (sp ≤ lo + sz)) from rfl)
  generalize mayS ws.length (lo, (sz, sp)) = r at *
  clear h
  cases hs : szAll [sz] with
  | false =>
    rw [hs] at HZ HM
    have hr : r = false := by rw [HM.out]; rfl
    subst hr
    clear hs HM
    go_enter Tryd.func78, Tryd.ntmps78
    go_wp2_with (go_at_call 130; (with_reducible refine (HZ.out).mono ?_); rintro e w1 ⟨rfl, hb⟩; have HB := Lk.mk (below_then (below_alloc H0.out (.cells #[.int .i64 sz] 3)) (below_alloc H0.out (.cells #[.int .i64 sz] 3)).size hb))
    go_ret
    exact ⟨rfl, HB.out⟩
  | true =>
    rw [hs] at HZ HM
    clear hs
    cases hi : inL ws.length lo sz with
    | false =>
      rw [hi] at HI HM
      have hr : r = false := by rw [HM.out]; rfl
      subst hr
      clear hi HM
      go_enter Tryd.func78, Tryd.ntmps78
      go_wp2_with (first
        | (go_at_call 130; (with_reducible refine (HZ.out).mono ?_); rintro e w1 ⟨rfl, hb⟩; have HX1 := Lk.mk (blk_below (blk_alloc HX0.out (.cells #[.int .i64 sz] 3)) hb); obtain ⟨d0, d1, d2, _, _, _⟩ := cells3c HX1.out; have HB := Lk.mk (below_then (below_alloc H0.out (.cells #[.int .i64 sz] 3)) (below_alloc H0.out (.cells #[.int .i64 sz] 3)).size hb); clear hb)
        | (go_at_call 102; (with_reducible refine (HI.out _ HB.out).mono ?_); rintro e w' ⟨rfl, rfl⟩))
      go_ret
      exact ⟨rfl, HB.out⟩
    | true =>
      have hin := inL_true hi
      rw [hi] at HI HM
      clear hi
      go_enter Tryd.func78, Tryd.ntmps78
      go_wp2_with (first
        | (go_at_call 130; (with_reducible refine (HZ.out).mono ?_); rintro e w1 ⟨rfl, hb⟩; have HX1 := Lk.mk (blk_below (blk_alloc HX0.out (.cells #[.int .i64 sz] 3)) hb); obtain ⟨d0, d1, d2, _, _, _⟩ := cells3c HX1.out; have HB := Lk.mk (below_then (below_alloc H0.out (.cells #[.int .i64 sz] 3)) (below_alloc H0.out (.cells #[.int .i64 sz] 3)).size hb); clear hb)
        | (go_at_call 102; (with_reducible refine (HI.out _ HB.out).mono ?_); rintro e w' ⟨rfl, rfl⟩))
      all_goals go_ret
      all_goals refine ⟨ret_bool ?_, HB.out⟩
      all_goals rw [HM.out]
      all_goals (try simp_all)
      all_goals (first | omega | (intro _; omega) | done)
end Go.Proofs.YtcepafllgjnngaaDoor

/-
  The walks of walk.plain, Used, Room; conditions: none.
-/
namespace Go.Proofs.YtcepafllgjnngaaDoor
open Go.RowKit Go.Proofs.YtcepafllgjnngaaDoorW.PrintWords

def offB (n : Int) : Bool := decide (n < 0) || decide (1099511627776 < n)
set_option maxRecDepth 100000 in
set_option maxHeartbeats 2000000 in
theorem plainLit_any (n : Int) (w : World) : Calls Tryd.prog 137 #[.int .i64 n] w fun e w' => e = .returned (.bool (offB n)) ∧ w' = w := by
  have H := Lk.mk (show offB n = (decide (n < 0) || decide (1099511627776 < n)) from rfl)
  generalize offB n = r at *
  go_enter Tryd.func137, Tryd.ntmps137
  go_wp2
  all_goals go_ret
  all_goals refine ⟨ret_bool ?_, rfl⟩
  all_goals rw [H.out]
  all_goals (try simp_all)
  all_goals (first | omega | (intro _; omega) | done)
def plainB (x : Int × (Int × Int)) : Bool := !(([x.1, x.2.1, x.2.2] : List Int).any offB)
theorem plainB_true {x : Int × (Int × Int)} (h : plainB x = true) : (0 ≤ x.1 ∧ x.1 ≤ 1099511627776) ∧ (0 ≤ x.2.1 ∧ x.2.1 ≤ 1099511627776) ∧ (0 ≤ x.2.2 ∧ x.2.2 ≤ 1099511627776) := by
  unfold plainB offB at h
  simp at h
  omega
set_option maxRecDepth 100000 in
set_option maxHeartbeats 2000000 in
theorem plain_any (x : Int × (Int × Int)) (w : World) : Calls Tryd.prog 87 #[.agg #[.int .i64 x.1, .int .i64 x.2.1, .int .i64 x.2.2]] w fun e w' => e = .returned (.bool (plainB x)) ∧ Below w.heap.size w w' := by
  obtain ⟨lo, sz, sp⟩ := x
  have H0 := Lk.mk (below_alloc (below_alloc (Below.refl w.heap.size w) (.cells #[.int .i64 lo, .int .i64 sz, .int .i64 sp] 41)) (.cells #[.int .i64 lo, .int .i64 sz, .int .i64 sp] 3))
  have hc := contains_ints (some ⟨(w.alloc (.cells #[.int .i64 lo, .int .i64 sz, .int .i64 sp] 41)).heap.size, 0, none⟩) 3 [lo, sz, sp] offB 137 #[] ((w.alloc (.cells #[.int .i64 lo, .int .i64 sz, .int .i64 sp] 41)).alloc (.cells #[.int .i64 lo, .int .i64 sz, .int .i64 sp] 3)) (enters_of Tryd.func137 (by kernel_rfl) rfl)
    (own_reads' (own_lit (w.alloc (.cells #[.int .i64 lo, .int .i64 sz, .int .i64 sp] 41)) _ 3 .i64 [lo, sz, sp] (Nat.le_refl _) (by simp))) (fun W n _ _ => (plainLit_any n W).mono fun e W' h => ⟨h.1, h.2 ▸ Below.refl _ _⟩)
  rw [show ([lo, sz, sp] : List Int).length = 3 from rfl, show (w.alloc (.cells #[.int .i64 lo, .int .i64 sz, .int .i64 sp] 41)).heap.size = w.heap.size + 1 from by simp] at hc
  have HC := Lk.mk hc
  have H := Lk.mk (show plainB (lo, (sz, sp)) = !(([lo, sz, sp] : List Int).any offB) from rfl)
  clear hc
  generalize plainB (lo, (sz, sp)) = r at *
  generalize ([lo, sz, sp] : List Int).any offB = q at *
  go_enter Tryd.func87, Tryd.ntmps87
  go_wp2_with (go_at_call 136; (with_reducible refine (HC.out).mono ?_); rintro e w' ⟨rfl, hb⟩)
  go_ret
  exact ⟨ret_bool (by rw [H.out]), below_then H0.out H0.out.size hb⟩
end Go.Proofs.YtcepafllgjnngaaDoor

/-
  The deferred closure of a walker's all, as a call of a frame that returns and of one that panics.
-/
namespace Go.Proofs.YtcepafllgjnngaaDoor
open Go.RowKit Go.Proofs.YtcepafllgjnngaaDoorW.PrintWords

set_option maxRecDepth 100000 in
set_option maxHeartbeats 2000000 in
theorem all1_idle (p q : Addr) (w : World) :
    CallsD Tryd.prog 131 #[.pointer (some p), .pointer (some q)] .returning w fun e u' w' => e = .returned (.tuple #[]) ∧ u' = .returning ∧ w' = w := by
  refine callsD_of_wpS Tryd.func131 rfl fun c₀ cs hu => ?_
  apply wpS_seq
  apply wpS_region
  simp [wpOpsS, go_sem, recoverD, hu, Tryd.ntmps131, Exit.thenS]
  refine wpS_of_wp ?_
  go_wp2
  cases c₀
  simp_all [bodyPostS, results, Tryd.results131]
/-- what next throws -/
def lostChain : List PanicEntry := [{ v := .iface 190 (.agg #[]), recovered := false }]
set_option maxRecDepth 100000 in
set_option maxHeartbeats 2000000 in
theorem all1_thrown (g h : Nat) (v x : Value) (w : World) (hc : w.cell? ⟨g, 0, none⟩ = some v) (hz : w.frozen? ⟨g, 0, none⟩ = false) (hc2 : w.cell? ⟨h, 0, none⟩ = some x) (hz2 : w.frozen? ⟨h, 0, none⟩ = false) (hgh : g ≠ h) :
    CallsD Tryd.prog 131 #[.pointer (some ⟨g, 0, none⟩), .pointer (some ⟨h, 0, none⟩)] (.panicking [{ v := .iface 190 (.agg #[]), recovered := false }]) w fun e u' w' => e = .returned (.tuple #[]) ∧ u' = .panicking [{ v := .iface 190 (.agg #[]), recovered := true }] ∧ w' = ((w.setCell ⟨g, 0, none⟩ (.slice none 0 0)).setCell ⟨h, 0, none⟩ (.int .i64 9)).alloc (.cells #[] 190) := by
  have hlt := World.block_lt_of_cell? w _ hc
  have hlt2 := World.block_lt_of_cell? w _ hc2
  have hta : ∀ w : World, (Instr.typeAssert (.iface 190 (.agg #[])) 20 190 true).run Tryd.prog w = .ok (.tuple #[.agg #[], .bool true]) w := fun _ => by kernel_rfl
  refine callsD_of_wpS Tryd.func131 rfl fun c₀ cs hu => ?_
  apply wpS_seq
  apply wpS_region
  simp [wpOpsS, go_sem, recoverD, hu, Tryd.ntmps131, Exit.thenS]
  refine wpS_of_wp ?_
  go_wp2
  cases c₀
  simp_all [bodyPostS, results, Tryd.results131]
end Go.Proofs.YtcepafllgjnngaaDoor

/-
  The walk of a walker's next; conditions: the arena and the table read as told.
-/
namespace Go.Proofs.YtcepafllgjnngaaDoor
open Go.RowKit Go.Proofs.YtcepafllgjnngaaDoorW.PrintWords

theorem cells5 {w : World} {g : Nat} {t : TypeId} {a b c d e : Value} (h : w.heap[g]? = some (.cells #[a, b, c, d, e] t (0, 0))) : w.cell? ⟨g, 0, none⟩ = some a ∧ w.cell? ⟨g, 1, none⟩ = some b ∧ w.cell? ⟨g, 2, none⟩ = some c ∧ w.cell? ⟨g, 3, none⟩ = some d ∧ w.cell? ⟨g, 4, none⟩ = some e :=
  ⟨by rw [blk_cell h 0]; rfl, by rw [blk_cell h 1]; rfl, by rw [blk_cell h 2]; rfl, by rw [blk_cell h 3]; rfl, by rw [blk_cell h 4]; rfl⟩
/-- a walker's cells -/
def wkO (g : Nat) (p : Value) (lo size sp : Nat) : Obj := .cells #[.pointer (some ⟨g, 0, none⟩), p, .int .i64 lo, .int .i64 size, .int .i64 sp] 140
/-- at an address there stands a frame of the walk -/
def StpC (ws : List Int) (ent : List (Int × (List Int × List Int))) (hi a : Nat) : Prop := a + 2 ≤ ws.length ∧ RdOk ws ent a ∧ (a : Int) + tWords ent (ws.getD (a + 1) 0 - 1) ≤ hi ∧ ws.getD a 0 - 1 = (if (a : Int) + tWords ent (ws.getD (a + 1) 0 - 1) = hi then -1 else (a : Int) + tWords ent (ws.getD (a + 1) 0 - 1))
open Classical in
/-- the step of a walk: the frame at an address, and where it ends -/
noncomputable def stp (ws : List Int) (ent : List (Int × (List Int × List Int))) (hi a : Nat) : Option (Sl.Fr × Nat) :=
  if StpC ws ent hi a then some (((a : Int), (ws.getD (a + 1) 0 - 1, ws.getD a 0 - 1)), ((a : Int) + tWords ent (ws.getD (a + 1) 0 - 1)).toNat) else none
theorem stp_none {ws : List Int} {ent : List (Int × (List Int × List Int))} {hi a : Nat} (h : stp ws ent hi a = none) : ¬ StpC ws ent hi a := by
  intro hc
  unfold stp at h
  rw [if_pos hc] at h
  cases h
theorem tw_pos {ws : List Int} {ent : List (Int × (List Int × List Int))} {a : Nat} (he : EntIn ent) (ho : RdOk ws ent a) : 2 ≤ tWords ent (ws.getD (a + 1) 0 - 1) ∧ tWords ent (ws.getD (a + 1) 0 - 1) ≤ 1002 := by
  obtain ⟨_, o2, o3, _⟩ := ho
  unfold tWords
  have hh : tHas ent (ws.getD (a + 1) 0 - 1) = true := by unfold tHas; simp only [Bool.and_eq_true, decide_eq_true_eq]; omega
  rw [if_pos hh]
  have := he (ent.getD (ws.getD (a + 1) 0 - 1).toNat dE) (getD_mem _ (by omega))
  omega
theorem stp_some {ws : List Int} {ent : List (Int × (List Int × List Int))} {hi a e : Nat} {x : Sl.Fr} (he : EntIn ent) (h : stp ws ent hi a = some (x, e)) : a + 2 ≤ ws.length ∧ RdOk ws ent a ∧ x = ((a : Int), (ws.getD (a + 1) 0 - 1, ws.getD a 0 - 1)) ∧ (e : Int) = a + tWords ent (ws.getD (a + 1) 0 - 1) ∧ a + 2 ≤ e ∧ e ≤ hi ∧ x.2.2 = (if e = hi then -1 else (e : Int)) := by
  unfold stp at h
  by_cases hc : StpC ws ent hi a
  · rw [if_pos hc] at h
    obtain ⟨c1, c2, c3, c4⟩ := hc
    have ht := tw_pos he c2
    injection h with h
    injection h with h1 h2
    subst h1
    have h3 : (e : Int) = a + tWords ent (ws.getD (a + 1) 0 - 1) := by omega
    refine ⟨c1, c2, rfl, h3, by omega, by omega, ?_⟩
    dsimp only
    rw [c4, ← h3]
    by_cases q : e = hi
    · rw [if_pos q, if_pos (by omega)]
    · rw [if_neg q, if_neg (by omega)]
  · rw [if_neg hc] at h
    cases h
theorem stp_says {ws : List Int} {ent : List (Int × (List Int × List Int))} {hi : Nat} (he : EntIn ent) : Wk.Says (stp ws ent hi) hi (tWords ent) where
  up := fun a x e h => by have := stp_some he h; omega
  at_ := fun a x e h => by obtain ⟨_, _, rfl, _⟩ := stp_some he h; rfl
  ends := fun a x e h => by obtain ⟨_, _, rfl, h4, _⟩ := stp_some he h; exact h4
  le := fun a x e h => (stp_some he h).2.2.2.2.2.1
  link := fun a x e h => (stp_some he h).2.2.2.2.2.2
set_option maxRecDepth 100000 in
set_option maxHeartbeats 2000000 in
theorem next_ok (g b : Nat) (ws : List Int) (p : Value) (ent : List (Int × (List Int × List Int))) (lo size sp a e : Nat) (x : Sl.Fr) (w : World) (h : ArB w g b ws) (ht : TblOr w p ent) (he : EntIn ent) (hw : lo + size ≤ ws.length) (hs : stp ws ent (lo + size) a = some (x, e)) :
    Calls Tryd.prog 132 #[.agg #[.pointer (some ⟨g, 0, none⟩), p, .int .i64 lo, .int .i64 size, .int .i64 sp], .int .i64 a] w fun r w' => r = .returned (.tuple #[.agg #[.int .i64 x.1, .int .i64 x.2.1, .int .i64 x.2.2], .int .i64 e]) ∧ Below w.heap.size w w' := by
  obtain ⟨c1, c2, hx, c4, c5, c6, c7⟩ := stp_some he hs
  have hlen := h.len
  have ht2 := tw_pos he c2
  have H0 := Lk.mk (below_alloc (below_alloc (Below.refl w.heap.size w) (wkO g p lo size sp)) (.cells #[.int .i64 0, .int .i64 0, .int .i64 0] 79))
  have HX0 := Lk.mk (blk_alloc (blk_new w (wkO g p lo size sp)) (.cells #[.int .i64 0, .int .i64 0, .int .i64 0] 79))
  have HZ0 := Lk.mk (show ((w.alloc (wkO g p lo size sp)).alloc (.cells #[.int .i64 0, .int .i64 0, .int .i64 0] 79)).heap[w.heap.size + 1]? = some (.cells #[.int .i64 0, .int .i64 0, .int .i64 0] 79) from by have h := blk_new (w.alloc (wkO g p lo size sp)) (.cells #[.int .i64 0, .int .i64 0, .int .i64 0] 79); rwa [show (w.alloc (wkO g p lo size sp)).heap.size = w.heap.size + 1 from by simp] at h)
  have HR := Lk.mk (read_ok g b ws p ent a _ (h.below H0.out) (ht.below H0.out) he c1 c2)
  have HE := Lk.mk (fun W (hb : Below w.heap.size w W) => end_any p ent ((a : Int), (ws.getD (a + 1) 0 - 1, ws.getD a 0 - 1)) W (ht.below hb) (by dsimp only; omega) he)
  dsimp only at HE
  rw [if_neg (by omega), ← c4] at HE
  have h1 : ¬ ((lo : Int) + size < e) := by omega
  rw [hx] at c7 ⊢
  dsimp only at c7 ⊢
  have hwr : IntKind.i64.wrap ((lo : Int) + size) = lo + size := IntWalk.i64_in _ (by omega)
  clear h ht he hs hx c2 c4 ht2
  generalize ws.getD (a + 1) 0 - 1 = f at *
  generalize ws.getD a 0 - 1 = k at *
  unfold wkO at *
  by_cases q : e = lo + size
  · rw [if_pos q] at c7
    subst c7
    subst q
    rw [Int.natCast_add]
    go_enter Tryd.func132, Tryd.ntmps132
    go_wp2_with (first
      | (go_at_call 163; (with_reducible refine (HR.out).mono ?_); rintro r w1 ⟨rfl, hb⟩; have HX1 := Lk.mk (blk_alloc (blk_below HX0.out hb) (.cells #[.int .i64 a, .int .i64 f, .int .i64 (-1)] 79)); have HZ1 := Lk.mk (blk_alloc (blk_below HZ0.out hb) (.cells #[.int .i64 a, .int .i64 f, .int .i64 (-1)] 79)); have HB := Lk.mk (below_then H0.out H0.out.size hb); have HBa := Lk.mk (below_alloc HB.out (.cells #[.int .i64 a, .int .i64 f, .int .i64 (-1)] 79)); have HN1 := Lk.mk (blk_new w1 (.cells #[.int .i64 a, .int .i64 f, .int .i64 (-1)] 79)); obtain ⟨d0, d1, d2, d3, d4⟩ := cells5 HX1.out; clear hb)
      | (go_at_call 164; (with_reducible refine (HE.out _ HBa.out).mono ?_); rintro r w2 ⟨rfl, hb⟩; have HX2 := Lk.mk (blk_below HX1.out hb); have HZ2 := Lk.mk (blk_below HZ1.out hb); obtain ⟨x0, x1, x2, _, _, _⟩ := cells3 (blk_below HN1.out hb); obtain ⟨e0, e1, e2, e3, e4⟩ := cells5 HX2.out; obtain ⟨c0, c1, c2, z0, z1, z2⟩ := cells3 HZ2.out; have HB2 := Lk.mk (below_then HBa.out HBa.out.size hb); clear hb))
    exact bodyPost_ret (results_ct Tryd.results132 _ _ (w.heap.size + 1) 79 #[.int .i64 a, .int .i64 f, .int .i64 (-1)] (0, 0) _ rfl (set3 HZ2.out _ _ _) Tryd.underlying79 rfl (by kernel_rfl)) rfl ⟨rfl, ((HB2.out.setCell (p := ⟨w.heap.size + 1, 0, none⟩) (Nat.le_succ _) _).setCell (p := ⟨w.heap.size + 1, 1, none⟩) (Nat.le_succ _) _).setCell (p := ⟨w.heap.size + 1, 2, none⟩) (Nat.le_succ _) _⟩
  · rw [if_neg q] at c7
    subst c7
    have hq1 : ¬ (e : Int) = lo + size := by omega
    go_enter Tryd.func132, Tryd.ntmps132
    go_wp2_with (first
      | (go_at_call 163; (with_reducible refine (HR.out).mono ?_); rintro r w1 ⟨rfl, hb⟩; have HX1 := Lk.mk (blk_alloc (blk_below HX0.out hb) (.cells #[.int .i64 a, .int .i64 f, .int .i64 e] 79)); have HZ1 := Lk.mk (blk_alloc (blk_below HZ0.out hb) (.cells #[.int .i64 a, .int .i64 f, .int .i64 e] 79)); have HB := Lk.mk (below_then H0.out H0.out.size hb); have HBa := Lk.mk (below_alloc HB.out (.cells #[.int .i64 a, .int .i64 f, .int .i64 e] 79)); have HN1 := Lk.mk (blk_new w1 (.cells #[.int .i64 a, .int .i64 f, .int .i64 e] 79)); obtain ⟨d0, d1, d2, d3, d4⟩ := cells5 HX1.out; clear hb)
      | (go_at_call 164; (with_reducible refine (HE.out _ HBa.out).mono ?_); rintro r w2 ⟨rfl, hb⟩; have HX2 := Lk.mk (blk_below HX1.out hb); have HZ2 := Lk.mk (blk_below HZ1.out hb); obtain ⟨x0, x1, x2, _, _, _⟩ := cells3 (blk_below HN1.out hb); obtain ⟨e0, e1, e2, e3, e4⟩ := cells5 HX2.out; obtain ⟨c0, c1, c2, z0, z1, z2⟩ := cells3 HZ2.out; have HB2 := Lk.mk (below_then HBa.out HBa.out.size hb); clear hb))
    exact bodyPost_ret (results_ct Tryd.results132 _ _ (w.heap.size + 1) 79 #[.int .i64 a, .int .i64 f, .int .i64 e] (0, 0) _ rfl (set3 HZ2.out _ _ _) Tryd.underlying79 rfl (by kernel_rfl)) rfl ⟨rfl, ((HB2.out.setCell (p := ⟨w.heap.size + 1, 0, none⟩) (Nat.le_succ _) _).setCell (p := ⟨w.heap.size + 1, 1, none⟩) (Nat.le_succ _) _).setCell (p := ⟨w.heap.size + 1, 2, none⟩) (Nat.le_succ _) _⟩
set_option maxRecDepth 100000 in
set_option maxHeartbeats 2000000 in
theorem next_thrown (g b : Nat) (p : Value) (ent : List (Int × (List Int × List Int))) (lo size sp a : Nat) (x : Sl.Fr) (er : Int) (w : World) (ht : TblOr w p ent) (he : EntIn ent) (hw : lo + size ≤ 65536) (hx : -1099511627776 ≤ x.1 ∧ x.1 ≤ 1099511627776)
    (hr : ∀ W, Below w.heap.size w W → Calls Tryd.prog 163 #[.pointer (some ⟨g, 0, none⟩), p, .int .i64 a] W fun r w' => r = .returned (.tuple #[.agg #[.int .i64 x.1, .int .i64 x.2.1, .int .i64 x.2.2], .int .i64 er]) ∧ Below W.heap.size W w')
    (hbad : er ≠ 0 ∨ (lo : Int) + size < (if tWords ent x.2.1 < 0 then -1 else x.1 + tWords ent x.2.1) ∨ x.2.2 ≠ (if (if tWords ent x.2.1 < 0 then -1 else x.1 + tWords ent x.2.1) = (lo : Int) + size then -1 else (if tWords ent x.2.1 < 0 then -1 else x.1 + tWords ent x.2.1))) :
    Calls Tryd.prog 132 #[.agg #[.pointer (some ⟨g, 0, none⟩), p, .int .i64 lo, .int .i64 size, .int .i64 sp], .int .i64 a] w fun r w' => r = .panicked lostChain ∧ Below w.heap.size w w' := by
  have H0 := Lk.mk (below_alloc (below_alloc (Below.refl w.heap.size w) (wkO g p lo size sp)) (.cells #[.int .i64 0, .int .i64 0, .int .i64 0] 79))
  have HX0 := Lk.mk (blk_alloc (blk_new w (wkO g p lo size sp)) (.cells #[.int .i64 0, .int .i64 0, .int .i64 0] 79))
  have HZ0 := Lk.mk (show ((w.alloc (wkO g p lo size sp)).alloc (.cells #[.int .i64 0, .int .i64 0, .int .i64 0] 79)).heap[w.heap.size + 1]? = some (.cells #[.int .i64 0, .int .i64 0, .int .i64 0] 79) from by have h := blk_new (w.alloc (wkO g p lo size sp)) (.cells #[.int .i64 0, .int .i64 0, .int .i64 0] 79); rwa [show (w.alloc (wkO g p lo size sp)).heap.size = w.heap.size + 1 from by simp] at h)
  have HR := Lk.mk (hr _ H0.out)
  have HE := Lk.mk (fun W (hb : Below w.heap.size w W) => end_any p ent x W (ht.below hb) hx he)
  have hwr : IntKind.i64.wrap ((lo : Int) + size) = lo + size := IntWalk.i64_in _ (by omega)
  obtain ⟨x0, f, k⟩ := x
  dsimp only at *
  clear ht he hr
  generalize (if tWords ent f < 0 then -1 else x0 + tWords ent f) = en at *
  unfold wkO at *
  by_cases q : en = (lo : Int) + size
  · rw [if_pos q] at hbad
    go_enter Tryd.func132, Tryd.ntmps132
    go_wp2_with (first
        | (go_at_call 163; (with_reducible refine (HR.out).mono ?_); rintro r w1 ⟨rfl, hb⟩; have HX1 := Lk.mk (blk_alloc (blk_below HX0.out hb) (.cells #[.int .i64 x0, .int .i64 f, .int .i64 k] 79)); have HZ1 := Lk.mk (blk_alloc (blk_below HZ0.out hb) (.cells #[.int .i64 x0, .int .i64 f, .int .i64 k] 79)); have HB := Lk.mk (below_then H0.out H0.out.size hb); have HBa := Lk.mk (below_alloc HB.out (.cells #[.int .i64 x0, .int .i64 f, .int .i64 k] 79)); have HN1 := Lk.mk (blk_new w1 (.cells #[.int .i64 x0, .int .i64 f, .int .i64 k] 79)); obtain ⟨d0, d1, d2, d3, d4⟩ := cells5 HX1.out; clear hb)
        | (go_at_call 164; (with_reducible refine (HE.out _ HBa.out).mono ?_); rintro r w2 ⟨rfl, hb⟩; have HX2 := Lk.mk (blk_below HX1.out hb); have HZ2 := Lk.mk (blk_below HZ1.out hb); obtain ⟨x0, x1, x2, _, _, _⟩ := cells3 (blk_below HN1.out hb); obtain ⟨e0, e1, e2, e3, e4⟩ := cells5 HX2.out; obtain ⟨c0, c1, c2, z0, z1, z2⟩ := cells3 HZ2.out; have HB2 := Lk.mk (below_then HBa.out HBa.out.size hb); clear hb))
    all_goals (first | exact ⟨rfl, rfl, HB2.out⟩ | (exfalso; omega))
  · rw [if_neg q] at hbad
    go_enter Tryd.func132, Tryd.ntmps132
    go_wp2_with (first
        | (go_at_call 163; (with_reducible refine (HR.out).mono ?_); rintro r w1 ⟨rfl, hb⟩; have HX1 := Lk.mk (blk_alloc (blk_below HX0.out hb) (.cells #[.int .i64 x0, .int .i64 f, .int .i64 k] 79)); have HZ1 := Lk.mk (blk_alloc (blk_below HZ0.out hb) (.cells #[.int .i64 x0, .int .i64 f, .int .i64 k] 79)); have HB := Lk.mk (below_then H0.out H0.out.size hb); have HBa := Lk.mk (below_alloc HB.out (.cells #[.int .i64 x0, .int .i64 f, .int .i64 k] 79)); have HN1 := Lk.mk (blk_new w1 (.cells #[.int .i64 x0, .int .i64 f, .int .i64 k] 79)); obtain ⟨d0, d1, d2, d3, d4⟩ := cells5 HX1.out; clear hb)
        | (go_at_call 164; (with_reducible refine (HE.out _ HBa.out).mono ?_); rintro r w2 ⟨rfl, hb⟩; have HX2 := Lk.mk (blk_below HX1.out hb); have HZ2 := Lk.mk (blk_below HZ1.out hb); obtain ⟨x0, x1, x2, _, _, _⟩ := cells3 (blk_below HN1.out hb); obtain ⟨e0, e1, e2, e3, e4⟩ := cells5 HX2.out; obtain ⟨c0, c1, c2, z0, z1, z2⟩ := cells3 HZ2.out; have HB2 := Lk.mk (below_then HBa.out HBa.out.size hb); clear hb))
    all_goals (first | exact ⟨rfl, rfl, HB2.out⟩ | (exfalso; omega))
end Go.Proofs.YtcepafllgjnngaaDoor

/-
  The walk of a walker's all; conditions: the arena and the table read as told.
-/
namespace Go.Proofs.YtcepafllgjnngaaDoor
open Go.RowKit Go.Proofs.YtcepafllgjnngaaDoorW.PrintWords

theorem next_none (g b : Nat) (ws : List Int) (p : Value) (ent : List (Int × (List Int × List Int))) (lo size sp a : Nat) (w : World) (h : ArB w g b ws) (ht : TblOr w p ent) (he : EntIn ent) (hw : lo + size ≤ ws.length) (ha : a ≤ 65536) (hs : stp ws ent (lo + size) a = none) :
    Calls Tryd.prog 132 #[.agg #[.pointer (some ⟨g, 0, none⟩), p, .int .i64 lo, .int .i64 size, .int .i64 sp], .int .i64 a] w fun r w' => r = .panicked lostChain ∧ Below w.heap.size w w' := by
  have hlen := h.len
  have hn := stp_none hs
  by_cases h2 : a + 2 ≤ ws.length
  · by_cases ho : RdOk ws ent a
    · have ht2 := tw_pos he ho
      refine next_thrown g b p ent lo size sp a ((a : Int), (ws.getD (a + 1) 0 - 1, ws.getD a 0 - 1)) 0 w ht he (by omega) (by dsimp only; omega) (fun W hb => read_ok g b ws p ent a W (h.below hb) (ht.below hb) he h2 ho) (.inr ?_)
      dsimp only
      rw [if_neg (by omega)]
      rcases Int.lt_or_le ((lo : Int) + size) (a + tWords ent (ws.getD (a + 1) 0 - 1)) with q | q
      · exact .inl q
      · refine .inr fun hk => hn ⟨h2, ho, by omega, ?_⟩
        rw [hk, Int.natCast_add]
    · exact next_thrown g b p ent lo size sp a (0, (0, 0)) 9 w ht he (by omega) (by decide) (fun W hb => read_bad g b ws p ent a W (h.below hb) (ht.below hb) he h2 ho) (.inl (by decide))
  · exact next_thrown g b p ent lo size sp a (0, (0, 0)) 2 w ht he (by omega) (by decide) (fun W hb => read_out g b ws p a W (h.below hb) (by omega)) (.inl (by decide))
theorem infoFr : (Tryd.prog.info? 79).map (fun i => (i.zero, i.size, i.bytes)) = some (some (.agg #[.int .i64 0, .int .i64 0, .int .i64 0]), 3, 24) := by kernel_rfl
def outO (v : Value) : Obj := .cells #[v] 65
def errO (n : Int) : Obj := .cells #[.int .i64 n] 30
set_option maxRecDepth 100000 in
set_option maxHeartbeats 2000000 in
theorem all_any (g b : Nat) (ws : List Int) (p : Value) (ent : List (Int × (List Int × List Int))) (lo size sp : Nat) (w : World) (h : ArB w g b ws) (ht : TblOr w p ent) (he : EntIn ent) (hw : lo + size ≤ ws.length) (hsp : sp ≤ lo + size) :
    Calls Tryd.prog 79 #[.agg #[.pointer (some ⟨g, 0, none⟩), p, .int .i64 lo, .int .i64 size, .int .i64 sp]] w fun e w' => Below w.heap.size w w' ∧ ((∃ l v, Wk.walk (stp ws ent (lo + size)) (lo + size) sp = some l ∧ e = .returned (.tuple #[v, .int .i64 0]) ∧ kFr.R 79 w' w.heap.size (fun _ => True) v l) ∨ (Wk.walk (stp ws ent (lo + size)) (lo + size) sp = none ∧ e = .returned (.tuple #[.slice none 0 0, .int .i64 9]))) := by
  have hlen := h.len
  have HO := Lk.mk (fun W (hb : Below w.heap.size w W) a e x hs => next_ok g b ws p ent lo size sp a e x W (h.below hb) (ht.below hb) he hw hs)
  have HN := Lk.mk (fun W (hb : Below w.heap.size w W) a ha hs => next_none g b ws p ent lo size sp a W (h.below hb) (ht.below hb) he hw ha hs)
  have HU := Lk.mk (stp_says (ws := ws) (hi := lo + size) he).up
  have HLE := Lk.mk (stp_says (ws := ws) (hi := lo + size) he).le
  have HX0 := Lk.mk (blk_alloc (blk_alloc (blk_new w (wkO g p lo size sp)) (outO (.slice none 0 0))) (errO 0))
  have hs1 : (w.alloc (wkO g p lo size sp)).heap.size = w.heap.size + 1 := by simp
  have hs2 : ((w.alloc (wkO g p lo size sp)).alloc (outO (.slice none 0 0))).heap.size = w.heap.size + 1 + 1 := by simp
  have HO0 := Lk.mk (show (((w.alloc (wkO g p lo size sp)).alloc (outO (.slice none 0 0))).alloc (errO 0)).heap[w.heap.size + 1]? = some (outO (.slice none 0 0)) from by have h := blk_alloc (blk_new (w.alloc (wkO g p lo size sp)) (outO (.slice none 0 0))) (errO 0); rwa [hs1] at h)
  have HE0 := Lk.mk (show (((w.alloc (wkO g p lo size sp)).alloc (outO (.slice none 0 0))).alloc (errO 0)).heap[w.heap.size + 1 + 1]? = some (errO 0) from by have h := blk_new ((w.alloc (wkO g p lo size sp)).alloc (outO (.slice none 0 0))) (errO 0); rwa [hs2] at h)
  clear hs1 hs2
  have HB0 := Lk.mk (below_alloc (below_alloc (below_alloc (Below.refl w.heap.size w) (wkO g p lo size sp)) (outO (.slice none 0 0))) (errO 0))
  have hwr : IntKind.i64.wrap ((lo : Int) + size) = lo + size := IntWalk.i64_in _ (by omega)
  clear h ht he
  generalize stp ws ent (lo + size) = st at *
  unfold wkO outO errO at *
  obtain ⟨d0, d1, d2, d3, d4⟩ := cells5 HX0.out
  go_enter_defers Tryd.func79, Tryd.ntmps79
  go_wp2
  go_loopg [4] (lo + size) (fun gg v4 wr => ∃ (a : Nat) (acc : List Sl.Fr) (v : Value), a ≤ lo + size ∧ acc.length ≤ a ∧ lo + size - a ≤ gg ∧ v4 = .int .i64 a ∧ Lk (Wk.walk st (lo + size) sp = (Wk.walk st (lo + size) a).map (acc ++ ·)) ∧ Lk (wr.heap[w.heap.size]? = some (.cells #[.pointer (some ⟨g, 0, none⟩), p, .int .i64 lo, .int .i64 size, .int .i64 sp] 140 (0, 0))) ∧ Lk (wr.heap[w.heap.size + 1]? = some (.cells #[v] 65 (0, 0))) ∧ Lk (wr.heap[w.heap.size + 1 + 1]? = some (.cells #[.int .i64 0] 30 (0, 0))) ∧ Lk (kFr.R 79 wr w.heap.size (fun _ => True) v acc) ∧ Lk (Below w.heap.size w wr))
  case atStart => exact ⟨sp, [], _, hsp, Nat.zero_le _, by omega, rfl, ⟨by simp⟩, HX0, ⟨HO0.out⟩, ⟨HE0.out⟩, ⟨Kd.R_nil kFr _ _ _ _⟩, HB0⟩
  case round =>
    obtain ⟨a, acc, v, ha, hac, hg, rfl, HW, HX, HV, HE, HR, HB⟩ := hrel
    obtain ⟨d0, d1, d2, d3, d4⟩ := cells5 HX.out
    by_cases hlt : a < lo + size
    · have hltz : (a : Int) < (lo : Int) + size := by omega
      cases hst : st a with
      | none =>
        have HC := Lk.mk (HN.out wr HB.out a (by omega) hst)
        have HZ := Lk.mk (show Wk.walk st (lo + size) sp = none by rw [HW.out, Wk.walk_bad hlt hst]; rfl)
        go_wp2_with (go_at_call 132; (with_reducible refine (HC.out).mono ?_); rintro r w1 ⟨rfl, hb⟩; have HB1 := Lk.mk (below_then HB.out HB.out.size hb); have HV1 := Lk.mk (blk_below HV.out hb); have HE1 := Lk.mk (blk_below HE.out hb); clear hb)
        have hc1 := blk_cell HV1.out 0
        have hz1 := blk_frozen HV1.out 0
        have hc2 := blk_cell HE1.out 0
        have hz2 := blk_frozen HE1.out 0
        simp only [List.getElem?_toArray, List.getElem?_cons_zero] at hc1 hc2
        refine leaves_cons (f := 131) (args := #[.pointer (some ⟨w.heap.size + 1, 0, none⟩), .pointer (some ⟨w.heap.size + 1 + 1, 0, none⟩)]) (by simp) (by simp [go_sem]) ?_
        refine (all1_thrown (w.heap.size + 1) (w.heap.size + 1 + 1) v (.int .i64 0) _ hc1 hz1 hc2 hz2 (by omega)).mono ?_
        rintro e u' w'' ⟨rfl, rfl, rfl⟩
        have hr1 := blk_cell (blk_alloc ((Below.heap_setCell (w1.setCell ⟨w.heap.size + 1, 0, none⟩ (.slice none 0 0)) ⟨w.heap.size + 1 + 1, 0, none⟩ (.int .i64 9) _ (by show w.heap.size + 1 ≠ w.heap.size + 1 + 1; omega)).trans (blk_put (cs' := #[.slice none 0 0]) HV1.out 0 (.slice none 0 0) rfl)) (.cells #[] 190)) 0
        have hr2 := blk_cell (blk_alloc (blk_put (cs' := #[.int .i64 9]) ((Below.heap_setCell w1 ⟨w.heap.size + 1, 0, none⟩ (.slice none 0 0) _ (by show w.heap.size + 1 + 1 ≠ w.heap.size + 1; omega)).trans HE1.out) 0 (.int .i64 9) rfl) (.cells #[] 190)) 0
        simp only [List.getElem?_toArray, List.getElem?_cons_zero] at hr1 hr2
        have HBZ := Lk.mk (below_alloc ((HB1.out.setCell (p := ⟨w.heap.size + 1, 0, none⟩) (Nat.le_succ _) (.slice none 0 0)).setCell (p := ⟨w.heap.size + 1 + 1, 0, none⟩) (by show w.heap.size ≤ w.heap.size + 1 + 1; omega) (.int .i64 9)) (.cells #[] 190))
        simp [Leaves, settle, results, Tryd.results79, go_sem]
        refine ⟨.tuple #[.slice none 0 0, .int .i64 9], ?_, HBZ.out, .inr ⟨HZ.out, rfl⟩⟩
        rw [hr1]
        dsimp only [Result.andThen]
        rw [hr2]
      | some q =>
        obtain ⟨x, e⟩ := q
        have he := HU.out a x e hst
        have hle := HLE.out a x e hst
        have HC := Lk.mk (HO.out wr HB.out a e x hst)
        have HW2 := Lk.mk (show Wk.walk st (lo + size) sp = (Wk.walk st (lo + size) e).map ((acc ++ [x]) ++ ·) by
          rw [HW.out, Wk.walk_step HU.out hlt hst, Option.map_map]
          congr 1
          funext m
          simp)
        have hv0 := blk_cell HV.out 0
        obtain ⟨x0, f, k⟩ := x
        dsimp only at HC
        go_wp2_with (first
          | (go_at_call 132; (with_reducible refine (HC.out).mono ?_); rintro r w1 ⟨rfl, hb⟩; have HB1 := Lk.mk (below_then HB.out HB.out.size hb); have HV1 := Lk.mk (blk_alloc (blk_below HV.out hb) (.cells #[.int .i64 x0, .int .i64 f, .int .i64 k] 79)); have HE1 := Lk.mk (blk_alloc (blk_below HE.out hb) (.cells #[.int .i64 x0, .int .i64 f, .int .i64 k] 79)); have HX1 := Lk.mk (blk_alloc (blk_below HX.out hb) (.cells #[.int .i64 x0, .int .i64 f, .int .i64 k] 79)); have HR1 := Lk.mk (Kd.R_alloc (Kd.R_below HR.out hb) (.cells #[.int .i64 x0, .int .i64 f, .int .i64 k] 79)); have hv1 := blk_cell HV1.out 0; have hz1 := blk_frozen HV1.out 0; simp only [List.getElem?_toArray, List.getElem?_cons_zero] at hv1; obtain ⟨f0, f1, f2, _, _, _⟩ := cells3 (blk_new w1 (.cells #[.int .i64 x0, .int .i64 f, .int .i64 k] 79)); have HBa := Lk.mk (below_alloc HB1.out (.cells #[.int .i64 x0, .int .i64 f, .int .i64 k] 79)); clear hb)
          | (at_builtin
             refine Kd.R_append (w0 := w) kFr w.heap.size rfl _ _ 65 79 _ 24 rfl Tryd.underlying65 infoFr rfl (show 0 < (3 : Nat) from by decide) (show 0 < (24 : Nat) from by decide) v acc (x0, (f, k)) [.int .i64 x0, .int .i64 f, .int .i64 k] (fun _ => True) (fun _ => False) rfl ?q3 ?q1 (fun _ h => h.elim) (fun _ _ => trivial) HR1.out HBa.out HBa.out.size ?q2 ?_
             case q1 => exact ⟨[_], [_, _], rfl, rfl, [_], [_], rfl, rfl, rfl⟩
             case q2 => omega
             case q3 => simp [go_sem]
             intro v4 w4 hR4 hb4 hg4 _
             have HV4 := Lk.mk ((hg4.block _ (blk_lt HV1.out) (Kd.R_ne HR1.out HV1.out (by decide))).trans HV1.out)
             have HE4 := Lk.mk ((hg4.block _ (blk_lt HE1.out) (Kd.R_ne HR1.out HE1.out (by decide))).trans HE1.out)
             have HX4 := Lk.mk ((hg4.block _ (blk_lt HX1.out) (Kd.R_ne HR1.out HX1.out (by decide))).trans HX1.out)
             have hv4 := blk_cell HV4.out 0
             have hz4 := blk_frozen HV4.out 0
             simp only [List.getElem?_toArray, List.getElem?_cons_zero] at hv4
             have HR4 := Lk.mk hR4
             have HB4 := Lk.mk hb4
             obtain ⟨A4, c4, rfl, _, _⟩ := Kd.R_reads hR4
             clear hR4 hb4 hg4))
        go_roundg (lo + size - e)
        case measure => omega
        case rel =>
          refine ⟨e, acc ++ [(x0, (f, k))], _, hle, by simp; omega, Nat.le_refl _, rfl, HW2, ⟨?_⟩, ⟨blk_put HV4.out 0 _ rfl⟩, ⟨?_⟩, ⟨by have h5 := HR4.out; rw [show (acc ++ [(x0, (f, k))]).length = acc.length + 1 from by simp] at h5; exact Kd.R_set h5 HV4.out (by decide) 0 _⟩, ⟨HB4.out.setCell (p := ⟨w.heap.size + 1, 0, none⟩) (Nat.le_succ _) _⟩⟩
          · exact (Below.heap_setCell _ _ _ _ (by show w.heap.size ≠ w.heap.size + 1; omega)).trans HX4.out
          · exact (Below.heap_setCell _ _ _ _ (by show w.heap.size + 1 + 1 ≠ w.heap.size + 1; omega)).trans HE4.out
    · have hltz : ¬ (a : Int) < (lo : Int) + size := by omega
      obtain ⟨A0, c0, rfl, _, _⟩ := Kd.R_reads HR.out
      have hv0 := blk_cell HV.out 0
      have hv1 := blk_frozen HV.out 0
      have hw0 := blk_cell HE.out 0
      have hw1 := blk_frozen HE.out 0
      simp only [List.getElem?_toArray, List.getElem?_cons_zero] at hv0 hw0
      have HWE := Lk.mk (show Wk.walk st (lo + size) sp = some acc by rw [HW.out, Wk.walk_end hlt]; simp)
      go_wp2
      have hV2 := blk_put (cs' := #[.slice A0 acc.length c0]) HV.out 0 (.slice A0 acc.length c0) rfl
      have hE1 := (Below.heap_setCell wr ⟨w.heap.size + 1, 0, none⟩ (.slice A0 acc.length c0) _ (by show w.heap.size + 1 + 1 ≠ w.heap.size + 1; omega)).trans HE.out
      have hE2 := blk_put (cs' := #[.int .i64 0]) hE1 0 (.int .i64 0) rfl
      have HRz := Lk.mk (Kd.R_set (Kd.R_set HR.out HV.out (by decide) 0 (.slice A0 acc.length c0)) hE1 (by decide) 0 (.int .i64 0))
      have HBZ := Lk.mk ((HB.out.setCell (p := ⟨w.heap.size + 1, 0, none⟩) (Nat.le_succ _) (.slice A0 acc.length c0)).setCell (p := ⟨w.heap.size + 1 + 1, 0, none⟩) (by show w.heap.size ≤ w.heap.size + 1 + 1; omega) (.int .i64 0))
      have hr1 := blk_cell hV2 0
      have hr2 := blk_cell hE2 0
      simp only [List.getElem?_toArray, List.getElem?_cons_zero] at hr1 hr2
      refine leaves_cons (f := 131) (args := #[.pointer (some ⟨w.heap.size + 1, 0, none⟩), .pointer (some ⟨w.heap.size + 1 + 1, 0, none⟩)]) (by simp) (by simp [go_sem]) ?_
      refine (all1_idle _ _ _).mono ?_
      rintro e u' w'' ⟨rfl, rfl, rfl⟩
      simp [Leaves, settle, results, Tryd.results79, go_sem]
      refine ⟨.tuple #[.slice A0 acc.length c0, .int .i64 0], ?_, HBZ.out, .inl ⟨acc, HWE.out, _, rfl, HRz.out⟩⟩
      rw [hr1]
      dsimp only [Result.andThen]
      rw [hr2]
end Go.Proofs.YtcepafllgjnngaaDoor

/-
  The walks of Room and Used at the example's stack, of Reverse at none, of Frames; conditions: the arena and the table read as told.
-/
namespace Go.Proofs.YtcepafllgjnngaaDoor
open Go.RowKit Go.Proofs.YtcepafllgjnngaaDoorW.PrintWords

def sO (x : Int × (Int × Int)) : Obj := .cells #[.int .i64 x.1, .int .i64 x.2.1, .int .i64 x.2.2] 41
set_option maxRecDepth 100000 in
set_option maxHeartbeats 2000000 in
theorem used16 (w : World) : Calls Tryd.prog 37 #[.agg #[.int .i64 0, .int .i64 16, .int .i64 16]] w fun e w' => e = .returned (.int .i64 0) ∧ Below w.heap.size w w' := by
  have hp := plain_any (0, (16, 16)) (w.alloc (.cells #[.int .i64 0, .int .i64 16, .int .i64 16] 41))
  rw [show plainB (0, (16, 16)) = true by decide +kernel] at hp
  have HP := Lk.mk hp
  have H0 := Lk.mk (below_alloc (Below.refl w.heap.size w) (.cells #[.int .i64 0, .int .i64 16, .int .i64 16] 41))
  have HX := Lk.mk (blk_new w (.cells #[.int .i64 0, .int .i64 16, .int .i64 16] 41))
  clear hp
  go_enter Tryd.func37, Tryd.ntmps37
  go_wp2_with (go_at_call 87; (with_reducible refine (HP.out).mono ?_); rintro e w1 ⟨rfl, hb⟩; obtain ⟨c0, c1, c2, _, _, _⟩ := cells3c (blk_below HX.out hb); have HB := Lk.mk (below_then H0.out H0.out.size hb); clear hb)
  go_ret
  exact ⟨rfl, HB.out⟩
set_option maxRecDepth 100000 in
set_option maxHeartbeats 2000000 in
theorem frames_bad (g b : Nat) (ws : List Int) (p : Value) (x : Int × (Int × Int)) (w : World) (h : ArB w g b ws) (hx : -9223372036854775808 ≤ x.2.1 ∧ x.2.1 ≤ 9223372036854775807) (hm : mayS ws.length x = false) :
    Calls Tryd.prog 31 #[.pointer (some ⟨g, 0, none⟩), p, .agg #[.int .i64 x.1, .int .i64 x.2.1, .int .i64 x.2.2]] w fun e w' => e = .returned (.tuple #[.slice none 0 0, .int .i64 1]) ∧ Below w.heap.size w w' := by
  have H0 := Lk.mk (below_alloc (Below.refl w.heap.size w) (sO x))
  have HM := Lk.mk (hm ▸ wmay_any g b ws x _ (h.below H0.out) hx)
  clear h hm
  obtain ⟨lo, sz, sp⟩ := x
  dsimp only at *
  unfold sO at *
  go_enter Tryd.func31, Tryd.ntmps31
  go_wp2_with (go_at_call 78; (with_reducible refine (HM.out).mono ?_); rintro e w1 ⟨rfl, hb⟩; have HB := Lk.mk (below_then H0.out H0.out.size hb); clear hb)
  go_ret2
  exact ⟨rfl, HB.out⟩
end Go.Proofs.YtcepafllgjnngaaDoor

/-
  The walk of slices.Reverse at frames; conditions: the row's block is known whole.
-/
namespace Go.Proofs.YtcepafllgjnngaaDoor
open Go.RowKit Go.Proofs.YtcepafllgjnngaaDoorW.PrintWords

/-- which frame lies at k after i rounds -/
def rvF (l : List Sl.Fr) (i k : Nat) : Sl.Fr := l.getD (if k < i ∨ l.length ≤ k + i then l.length - 1 - k else k) Sl.dFr
def RvA (arr : Array Value) (l : List Sl.Fr) (i : Nat) : Prop := ∀ k, k < l.length → arr[k * 3]? = some (.int .i64 (rvF l i k).1) ∧ arr[k * 3 + 1]? = some (.int .i64 (rvF l i k).2.1) ∧ arr[k * 3 + 2]? = some (.int .i64 (rvF l i k).2.2)
theorem rv_next {arr : Array Value} {l : List Sl.Fr} {i j : Nat} (h : RvA arr l i) (hj : i + j + 1 = l.length) (hij : i < j) (x y : Sl.Fr) (hx : x = rvF l i i) (hy : y = rvF l i j) :
    RvA ((((((arr.setIfInBounds (i * 3) (.int .i64 y.1)).setIfInBounds (i * 3 + 1) (.int .i64 y.2.1)).setIfInBounds (i * 3 + 2) (.int .i64 y.2.2)).setIfInBounds (j * 3) (.int .i64 x.1)).setIfInBounds (j * 3 + 1) (.int .i64 x.2.1)).setIfInBounds (j * 3 + 2) (.int .i64 x.2.2)) l (i + 1) := by
  have hxl : x = l.getD i Sl.dFr := by rw [hx]; unfold rvF; rw [if_neg (by omega)]
  have hyl : y = l.getD j Sl.dFr := by rw [hy]; unfold rvF; rw [if_neg (by omega)]
  have hsz : l.length * 3 ≤ arr.size := by
    have h1 := (h (l.length - 1) (by omega)).2.2
    have := Array.getElem?_eq_some_iff.1 h1
    obtain ⟨h2, _⟩ := this
    omega
  intro k hk
  have hk3 := h k hk
  by_cases e1 : k = i
  · subst e1
    have e : rvF l (k + 1) k = y := by unfold rvF; rw [if_pos (by omega), hyl]; congr 1; omega
    rw [e]
    simp only [Array.getElem?_setIfInBounds, Array.size_setIfInBounds]
    refine ⟨?_, ?_, ?_⟩
    · rw [if_neg (by omega), if_neg (by omega), if_neg (by omega), if_neg (by omega), if_neg (by omega), if_pos trivial, if_pos (by omega)]
    · rw [if_neg (by omega), if_neg (by omega), if_neg (by omega), if_neg (by omega), if_pos trivial, if_pos (by omega)]
    · rw [if_neg (by omega), if_neg (by omega), if_neg (by omega), if_pos trivial, if_pos (by omega)]
  · by_cases e2 : k = j
    · subst e2
      have e : rvF l (i + 1) k = x := by unfold rvF; rw [if_pos (by omega), hxl]; congr 1; omega
      rw [e]
      simp only [Array.getElem?_setIfInBounds, Array.size_setIfInBounds]
      refine ⟨?_, ?_, ?_⟩
      · rw [if_neg (by omega), if_neg (by omega), if_pos trivial, if_pos (by omega)]
      · rw [if_neg (by omega), if_pos trivial, if_pos (by omega)]
      · rw [if_pos trivial, if_pos (by omega)]
    · have e : rvF l (i + 1) k = rvF l i k := by
        unfold rvF
        by_cases q : k < i ∨ l.length ≤ k + i
        · rw [if_pos q, if_pos (by omega)]
        · rw [if_neg q, if_neg (by omega)]
      rw [e]
      simp only [Array.getElem?_setIfInBounds, Array.size_setIfInBounds]
      refine ⟨?_, ?_, ?_⟩
      · rw [if_neg (by omega), if_neg (by omega), if_neg (by omega), if_neg (by omega), if_neg (by omega), if_neg (by omega)]; exact hk3.1
      · rw [if_neg (by omega), if_neg (by omega), if_neg (by omega), if_neg (by omega), if_neg (by omega), if_neg (by omega)]; exact hk3.2.1
      · rw [if_neg (by omega), if_neg (by omega), if_neg (by omega), if_neg (by omega), if_neg (by omega), if_neg (by omega)]; exact hk3.2.2
theorem rv_end {arr : Array Value} {l : List Sl.Fr} {i : Nat} (h : RvA arr l i) (hi : l.length ≤ i + i + 1) : ∀ k, k < l.length → arr[k * 3]? = some (.int .i64 (l.reverse.getD k Sl.dFr).1) ∧ arr[k * 3 + 1]? = some (.int .i64 (l.reverse.getD k Sl.dFr).2.1) ∧ arr[k * 3 + 2]? = some (.int .i64 (l.reverse.getD k Sl.dFr).2.2) := by
  intro k hk
  have e : rvF l i k = l.reverse.getD k Sl.dFr := by
    rw [Wk.rev_get l k hk]
    unfold rvF
    by_cases q : k < i ∨ l.length ≤ k + i
    · rw [if_pos q]
    · rw [if_neg q]; congr 1; omega
  rw [← e]
  exact h k hk
set_option maxRecDepth 100000 in
set_option maxHeartbeats 2000000 in
theorem reverse_any (g c : Nat) (arr : Array Value) (l : List Sl.Fr) (w : World) (hl : l.length ≤ 1000000) (hA : w.heap[g]? = some (.cells arr 79 (0, 0))) (h0 : RvA arr l 0) :
    Calls Tryd.prog 80 #[.slice (some ⟨g, 0, none⟩) l.length c] w fun e w' => e = .returned (.tuple #[]) ∧ KeepW g w w' ∧ ∃ arr' i, w'.heap[g]? = some (.cells arr' 79 (0, 0)) ∧ RvA arr' l i ∧ l.length ≤ i + i + 1 := by
  have HA := Lk.mk hA
  have H0 := Lk.mk h0
  clear hA h0
  go_enter Tryd.func80, Tryd.ntmps80
  go_wp2
  go_loopg [2, 3] l.length (fun gg v2 v3 wr => ∃ (i : Nat) (jz : Int) (ar : Array Value), v2 = .int .i64 i ∧ v3 = .int .i64 jz ∧ jz = (l.length : Int) - 1 - i ∧ i ≤ l.length ∧ l.length - i ≤ gg ∧ Lk (wr.heap[g]? = some (.cells ar 79 (0, 0))) ∧ Lk (RvA ar l i) ∧ Lk (KeepW g w wr))
  case atStart => exact ⟨0, (l.length : Int) - 1, arr, rfl, rfl, by omega, by omega, by omega, HA, H0, ⟨KeepW.refl g w⟩⟩
  case round =>
    obtain ⟨i, jz, ar, rfl, rfl, hjz, hil, hg, HR, HV, HK⟩ := hrel
    by_cases hlt : (i : Int) < jz
    · obtain ⟨j, rfl⟩ : ∃ j : Nat, jz = (j : Int) := ⟨jz.toNat, by omega⟩
      have hij : i < j := by omega
      have hj : i + j + 1 = l.length := by omega
      have hjl : (j : Int) < (l.length : Int) := by omega
      have hil2 : (i : Int) < (l.length : Int) := by omega
      obtain ⟨x, hx⟩ : ∃ x, x = rvF l i i := ⟨_, rfl⟩
      obtain ⟨y, hy⟩ : ∃ y, y = rvF l i j := ⟨_, rfl⟩
      have hN := Lk.mk (rv_next HV.out hj hij x y hx hy)
      obtain ⟨a0, a1, a2⟩ := HV.out i (by omega)
      obtain ⟨b0, b1, b2⟩ := HV.out j (by omega)
      rw [← hx] at a0 a1 a2
      rw [← hy] at b0 b1 b2
      have hd := blk_drew HR.out
      have p0 := (blk_cell hd (i * 3)).trans a0
      have p1 := (blk_cell hd (i * 3 + 1)).trans a1
      have p2 := (blk_cell hd (i * 3 + 2)).trans a2
      have q0 := (blk_cell hd (j * 3)).trans b0
      have q1 := (blk_cell hd (j * 3 + 1)).trans b1
      have q2 := (blk_cell hd (j * 3 + 2)).trans b2
      have r0 := (blk_cell HR.out (i * 3)).trans a0
      have r1 := (blk_cell HR.out (i * 3 + 1)).trans a1
      have r2 := (blk_cell HR.out (i * 3 + 2)).trans a2
      have s0 := (blk_cell HR.out (j * 3)).trans b0
      have s1 := (blk_cell HR.out (j * 3 + 1)).trans b1
      have s2 := (blk_cell HR.out (j * 3 + 2)).trans b2
      have f0 := blk_frozen HR.out (i * 3)
      have f1 := blk_frozen HR.out (i * 3 + 1)
      have f2 := blk_frozen HR.out (i * 3 + 2)
      have f3 := blk_frozen HR.out (j * 3)
      have f4 := blk_frozen HR.out (j * 3 + 1)
      have f5 := blk_frozen HR.out (j * 3 + 2)
      have z0 := blk_frozen hd (i * 3)
      have z1 := blk_frozen hd (i * 3 + 1)
      have z2 := blk_frozen hd (i * 3 + 2)
      have z3 := blk_frozen hd (j * 3)
      have z4 := blk_frozen hd (j * 3 + 1)
      have z5 := blk_frozen hd (j * 3 + 2)
      have HJ := Lk.mk hj
      have HIJ := Lk.mk hij
      clear hx hy a0 a1 a2 b0 b1 b2 hjz hj hij hil
      go_wp2
      go_region
      go_wp2
      go_roundg (l.length - (i + 1))
      case measure => have := HJ.out; have := HIJ.out; omega
      case rel =>
        have hj := HJ.out
        have hij := HIJ.out
        exact ⟨i + 1, (j : Int) - 1, _, by go_num, rfl, by omega, by omega, Nat.le_refl _, ⟨blk_drew (blk_put (blk_put (blk_put (blk_put (blk_put (blk_put HR.out (i * 3) _ rfl) (i * 3 + 1) _ rfl) (i * 3 + 2) _ rfl) (j * 3) _ rfl) (j * 3 + 1) _ rfl) (j * 3 + 2) _ rfl)⟩, hN, ⟨KeepW.then_ ((((((HK.out.setCell (i * 3) _).setCell (i * 3 + 1) _).setCell (i * 3 + 2) _).setCell (j * 3) _).setCell (j * 3 + 1) _).setCell (j * 3 + 2) _) (below_drew (Below.refl _ _))⟩⟩
    · have HL := Lk.mk (show l.length ≤ i + i + 1 by omega)
      clear hjz
      go_wp2
      refine ⟨rfl, .tuple #[], ?_, rfl, HK.out, ar, HR.out, i, HV.out, HL.out⟩
      simp [results, Tryd.results80, go_sem]
end Go.Proofs.YtcepafllgjnngaaDoor

/-
  The walk of walk.Frames where the stack may be; conditions: the arena and the table read as told.
-/
namespace Go.Proofs.YtcepafllgjnngaaDoor
open Go.RowKit Go.Proofs.YtcepafllgjnngaaDoorW.PrintWords

theorem mayS_nat {len : Nat} {x : Int × (Int × Int)} (h : mayS len x = true) : ∃ lo size sp : Nat, x = ((lo : Int), ((size : Int), (sp : Int))) ∧ lo + size ≤ len ∧ lo ≤ sp ∧ sp ≤ lo + size := by
  obtain ⟨a, b, c⟩ := x
  unfold mayS at h
  simp only [Bool.and_eq_true, decide_eq_true_eq] at h
  have h1 := inL_true h.1.1.2
  refine ⟨a.toNat, b.toNat, c.toNat, ?_, by omega, by omega, by omega⟩
  rw [Int.toNat_of_nonneg (by omega), Int.toNat_of_nonneg (by omega), Int.toNat_of_nonneg (by omega)]
/-- a row of frames: its block's cells -/
theorem rv_start {w : World} {base g cap : Nat} {ok : Nat → Prop} {l : List Sl.Fr} (h : kFr.R 79 w base ok (.slice (some ⟨g, 0, none⟩) l.length cap) l) (hp : 0 < l.length) : ∃ arr, w.heap[g]? = some (.cells arr 79 (0, 0)) ∧ RvA arr l 0 := by
  obtain ⟨g', cap', e, _, _, arr, hA⟩ := Kd.R_form h hp
  injection e with e1 _ _
  injection e1 with e1
  injection e1 with e1 _ _
  subst e1
  obtain ⟨A, c, e2, _, hC⟩ := Kd.R_reads h
  injection e2 with e2 _ _
  subst e2
  refine ⟨arr, hA, fun k hk => ?_⟩
  obtain ⟨ad, had, c0, c1, c2⟩ := kFr_at hC k hk
  injection had with had
  subst had
  have hr : rvF l 0 k = l.getD k Sl.dFr := by unfold rvF; rw [if_neg (by omega)]
  have ha : (⟨g, 0, none⟩ : Addr).add (k * 3) = ⟨g, k * 3, none⟩ := by unfold Addr.add; split <;> simp_all
  rw [hr]
  rw [ha] at c0 c1 c2
  exact ⟨(blk_cell hA (k * 3)).symm.trans c0, (blk_cell hA (k * 3 + 1)).symm.trans c1, (blk_cell hA (k * 3 + 2)).symm.trans c2⟩
end Go.Proofs.YtcepafllgjnngaaDoor

/-
  The walk of walk.Frames where the stack may be; conditions: the arena and the table read as told.
-/
namespace Go.Proofs.YtcepafllgjnngaaDoor
open Go.RowKit Go.Proofs.YtcepafllgjnngaaDoorW.PrintWords

theorem kFr_arr {w : World} {g n : Nat} {arr : Array Value} {l : List Sl.Fr} (hA : w.heap[g]? = some (.cells arr 79 (0, 0))) (hn : l.length = n) (hm : n ≤ 1000000) (h : ∀ k, k < n → arr[k * 3]? = some (.int .i64 (l.getD k Sl.dFr).1) ∧ arr[k * 3 + 1]? = some (.int .i64 (l.getD k Sl.dFr).2.1) ∧ arr[k * 3 + 2]? = some (.int .i64 (l.getD k Sl.dFr).2.2)) : kFr.C w (some ⟨g, 0, none⟩) n l := by
  refine ⟨hn, by omega, fun _ => ⟨⟨g, 0, none⟩, rfl, fun j p hj => ?_⟩⟩
  have hjl : j < l.length := (List.getElem?_eq_some_iff.1 hj).1
  have hp : l.getD j Sl.dFr = p := by rw [List.getD_eq_getElem?_getD, hj]; rfl
  obtain ⟨a0, a1, a2⟩ := h j (by omega)
  rw [hp] at a0 a1 a2
  obtain ⟨x, f, k⟩ := p
  refine ⟨[.int .i64 x, .int .i64 f, .int .i64 k], rfl, ⟨[_], [_, _], rfl, rfl, [_], [_], rfl, rfl, rfl⟩, fun i u hu => ?_⟩
  have ha : ∀ q, (⟨g, 0, none⟩ : Addr).add q = ⟨g, q, none⟩ := by intro q; unfold Addr.add; split <;> simp_all
  rw [ha, blk_cell hA]
  cases i with
  | zero => obtain rfl : u = _ := by simpa using hu.symm
            exact a0
  | succ i => cases i with
    | zero => obtain rfl : u = _ := by simpa using hu.symm
              exact a1
    | succ i => cases i with
      | zero => obtain rfl : u = _ := by simpa using hu.symm
                exact a2
      | succ i => simp at hu
theorem reverse_row (v : Value) (l : List Sl.Fr) (base : Nat) (w : World) (hl : l.length ≤ 1000000) (h : kFr.R 79 w base (fun _ => True) v l) (hb : base ≤ w.heap.size) :
    Calls Tryd.prog 80 #[v] w fun e w' => e = .returned (.tuple #[]) ∧ (∃ A c, v = .slice A l.length c ∧ kFr.C w' A l.length l.reverse) ∧ ∀ w0, Below base w0 w → Below base w0 w' := by
  by_cases hp : 0 < l.length
  · obtain ⟨g, cap, rfl, hg, _, _⟩ := Kd.R_form h hp
    obtain ⟨arr, hA, h0⟩ := rv_start h hp
    refine (reverse_any g cap arr l w hl hA h0).mono ?_
    rintro e w' ⟨he, hk, arr', i, hA', hv, hi⟩
    exact ⟨he, ⟨_, _, rfl, kFr_arr hA' (by rw [List.length_reverse]) hl (rv_end hv hi)⟩, fun w0 hb0 => hk.below hb0 hg hb⟩
  · have hl0 : l = [] := by cases l with | nil => rfl | cons _ _ => simp at hp
    subst hl0
    obtain ⟨A, c, rfl, _, hC⟩ := Kd.R_reads h
    have HC := Lk.mk hC
    clear h hC
    rw [show ([] : List Sl.Fr).length = 0 from rfl] at *
    go_enter Tryd.func80, Tryd.ntmps80
    go_wp2
    go_loopg [2, 3] 0 (fun gg v2 v3 wr => v2 = .int .i64 0 ∧ v3 = .int .i64 (-1) ∧ wr = w)
    case atStart => exact ⟨rfl, rfl, rfl⟩
    case round =>
      obtain ⟨rfl, rfl, rfl⟩ := hrel
      go_wp2
      refine ⟨rfl, .tuple #[], ?_, rfl, ⟨A, c, rfl, HC.out⟩, fun w0 hb0 => hb0⟩
      simp [results, Tryd.results80, go_sem]
end Go.Proofs.YtcepafllgjnngaaDoor

/-
  The walk of walk.Frames where the stack may be; conditions: the arena and the table read as told.
-/
namespace Go.Proofs.YtcepafllgjnngaaDoor
open Go.RowKit Go.Proofs.YtcepafllgjnngaaDoorW.PrintWords

theorem walk_len {st : Nat → Option (Sl.Fr × Nat)} {hi : Nat} (hu : Wk.Up st) : ∀ n a l, hi - a ≤ n → Wk.walk st hi a = some l → l.length ≤ hi - a := by
  intro n
  induction n with
  | zero =>
    intro a l h1 h
    rw [Wk.walk_end (by omega)] at h
    injection h with h
    subst h
    simp
  | succ n ih =>
    intro a l h1 h
    by_cases ha : a < hi
    · cases hst : st a with
      | none => rw [Wk.walk_bad ha hst] at h; cases h
      | some q =>
        obtain ⟨x, e⟩ := q
        have he := hu a x e hst
        rw [Wk.walk_step hu ha hst] at h
        obtain ⟨m, hm, hl⟩ := Option.map_eq_some_iff.1 h
        have := ih e m (by omega) hm
        subst hl
        rw [List.length_cons]
        by_cases q : e ≤ hi
        · omega
        · rw [Wk.walk_end (by omega)] at hm
          injection hm with hm
          subst hm
          simp; omega
    · rw [Wk.walk_end ha] at h
      injection h with h
      subst h
      simp
set_option maxRecDepth 100000 in
set_option maxHeartbeats 2000000 in
theorem frames_any (g b : Nat) (ws : List Int) (p : Value) (ent : List (Int × (List Int × List Int))) (lo size sp : Nat) (w : World) (h : ArB w g b ws) (ht : TblOr w p ent) (he : EntIn ent) (hw : lo + size ≤ ws.length) (hsp : sp ≤ lo + size) (hm : mayS ws.length ((lo : Int), ((size : Int), (sp : Int))) = true) :
    Calls Tryd.prog 31 #[.pointer (some ⟨g, 0, none⟩), p, .agg #[.int .i64 lo, .int .i64 size, .int .i64 sp]] w fun e w' => Below w.heap.size w w' ∧ ((∃ l A c, Wk.walk (stp ws ent (lo + size)) (lo + size) sp = some l ∧ e = .returned (.tuple #[.slice A l.length c, .int .i64 0]) ∧ kFr.C w' A l.length l.reverse) ∨ (Wk.walk (stp ws ent (lo + size)) (lo + size) sp = none ∧ e = .returned (.tuple #[.slice none 0 0, .int .i64 9]))) := by
  have hlen := h.len
  obtain ⟨q, rfl⟩ : ∃ q, p = .pointer q := by rcases ht with ⟨e, _⟩ | ⟨g2, _, _, e, _⟩ <;> exact ⟨_, e⟩
  have H0 := Lk.mk (below_alloc (Below.refl w.heap.size w) (.cells #[.int .i64 lo, .int .i64 size, .int .i64 sp] 41))
  have HX0 := Lk.mk (blk_new w (.cells #[.int .i64 lo, .int .i64 size, .int .i64 sp] 41))
  have hmm := wmay_any g b ws ((lo : Int), ((size : Int), (sp : Int))) _ (h.below H0.out) (by dsimp only; omega)
  rw [hm] at hmm
  have HM := Lk.mk hmm
  have HA := Lk.mk (fun W (hb : Below w.heap.size w W) => all_any g b ws (.pointer q) ent lo size sp W (h.below hb) (ht.below hb) he hw hsp)
  have HLN := Lk.mk (fun l (hl : Wk.walk (stp ws ent (lo + size)) (lo + size) sp = some l) => walk_len (stp_says (ws := ws) (hi := lo + size) he).up (lo + size - sp) sp l (Nat.le_refl _) hl)
  dsimp only at HM
  clear h ht he hmm hm
  generalize Wk.walk (stp ws ent (lo + size)) (lo + size) sp = res at *
  go_enter Tryd.func31, Tryd.ntmps31
  go_wp2_with (first
    | (go_at_call 78; (with_reducible refine (HM.out).mono ?_); rintro e w1 ⟨rfl, hb⟩; obtain ⟨c0, c1, c2, _, _, _⟩ := cells3c (blk_below HX0.out hb); have HB := Lk.mk (below_then H0.out H0.out.size hb); clear hb)
    | (go_at_call 79; (with_reducible refine (HA.out _ HB.out).mono ?_); rintro e w2 ⟨hb, hor⟩; have HB2 := Lk.mk (below_then HB.out HB.out.size hb); have HBb := Lk.mk hb; clear hb; rcases hor with ⟨l, v, hl, rfl, hR⟩ | ⟨hl, rfl⟩)
    | (go_at_call 80; (with_reducible refine (reverse_row v l _ _ (by have := HLN.out l hl; omega) hR HBb.out.size).mono ?_); rintro e w3 ⟨rfl, ⟨A, c, rfl, hC⟩, hbb⟩; have HC := Lk.mk hC; have HB3 := Lk.mk (below_then HB.out HB.out.size (hbb _ HBb.out)); clear hC hbb)
    | (go_at_call 80; (with_reducible refine (reverse_row (.slice none 0 0) [] w2.heap.size _ (by simp) (Kd.R_nil kFr _ _ _ _) (Nat.le_refl _)).mono ?_); rintro e w3 ⟨rfl, _, hbb⟩; have HB3 := Lk.mk (below_then HB2.out HB2.out.size (hbb _ (Below.refl _ _))); clear hbb))
  · go_ret2
    exact ⟨HB3.out, .inl ⟨l, A, c, hl, rfl, HC.out⟩⟩
  · go_ret2
    exact ⟨HB3.out, .inr ⟨hl, rfl⟩⟩
end Go.Proofs.YtcepafllgjnngaaDoor
