/-
  The walk of the law FnsJoins where both rows are let in.
-/
import Derived.Test.YtmlchbldcoenaaaDoorBy
namespace Go.Proofs.YtmlchbldcoenaaaDoor
open Go.RowKit Go.Proofs.YtmlchbldcoenaaaDoorW.PrintWords

theorem kG_empty (w0 W : World) (b : Nat) (hb : b ≤ W.heap.size) : (kG w0).R 28 (W.alloc (.cells #[] 28)) b (fun _ => True) (.slice (some ⟨W.heap.size, 0, none⟩) 0 0) [] :=
  have h : (W.alloc (.cells #[] 28)).ownsRow b 28 2 (.slice (some ⟨W.heap.size, 0, none⟩) 0 0) 0 [] := by
    simpa using World.ownsRow_lit (base := b) (e := 28) (size := 2) W #[] 0 hb (by simp) (by simp)
  ⟨fun _ _ => trivial, [], h, Reps.none _ _⟩
theorem kG_rows {w0 w : World} {A : Option Addr} {n : Nat} {l : List (Int × List Int)} (h : FnC w0 A n l) (hb : Below w0.heap.size w0 w) : ReadsRow (FnR w0) (kG w0).sz w A n l := ReadsRow.imp_ h hb (fun _ _ hp => hp)
theorem new_any (A : Option Addr) (c : Nat) (l : List (Int × List Int)) (w : World) (hr : FnC w A l.length l) (hw : FnsOk l) (hT : Tab w) :
    Calls Tryd.prog 14 #[.slice A l.length c] w fun e w' => ∃ p, e = .returned (.tuple #[p, .int .i64 (if newOk l = true then 0 else 1)]) ∧ (newOk l = true → TblAt w' p (l.map entryOf)) ∧ Below w.heap.size w w' := by
  cases h : newOk l with
  | true => exact (new_good A c l w hr hw hT h).mono (by rintro e w' ⟨p, rfl, ht, hb⟩; exact ⟨p, rfl, fun _ => ht, hb⟩)
  | false => exact (new_bad A c l w hr hw hT h).mono (by rintro e w' ⟨rfl, hb⟩; exact ⟨.pointer none, rfl, (fun h => by cases h), hb⟩)

set_option maxRecDepth 100000 in
set_option maxHeartbeats 4000000 in
theorem joins_bad (A : Option Addr) (c : Nat) (a : List (Int × List Int)) (B : Option Addr) (d : Nat) (b : List (Int × List Int)) (f i : Int) (w : World) (hr : FnC w A a.length a) (hr2 : FnC w B b.length b) (ha : FnsIn a) (hb : FnsIn b) (hT : Tab w)
    (hga : greatL a = false) (hgb : greatL b = false) (h1 : 1 ≤ a.length) (h2 : a.length ≤ 50) (h3 : b.length ≤ 50) (h4 : 0 ≤ f) (h5 : f < b.length) (hn : ¬ (newOk a = true ∧ newOk b = true)) :
    Calls Tryd.prog 6 #[.slice A a.length c, .slice B b.length d, .int .i64 f, .int .i64 i] w fun e w' => e = .returned (.bool true) ∧ Below w.heap.size w w' := by
  have hz : newOk (a ++ b) = false := by
    cases e : newOk (a ++ b) with
    | false => rfl
    | true =>
      exfalso
      apply hn
      unfold newOk at e ⊢
      rw [Bool.and_eq_true, may_append] at e
      have e2 := e.2
      rw [Bool.and_eq_true] at e2
      rw [e2.1, e2.2, decide_eq_true h1, decide_eq_true (show a.length ≤ 100 by omega), decide_eq_true (show 1 ≤ b.length by omega), decide_eq_true (show b.length ≤ 100 by omega)]
      exact ⟨rfl, rfl⟩
  have HGa := Lk.mk (hga ▸ great_any A c a w hr)
  have HGb := Lk.mk (hgb ▸ great_any B d b w hr2)
  have HNa := Lk.mk (show ∀ W, Below w.heap.size w W → _ from fun W h => new_any A c a W (hr.below h) (ha.ok hga) (hT.below h))
  have HNb := Lk.mk (show ∀ W, Below w.heap.size w W → _ from fun W h => new_any B d b W (hr2.below h) (hb.ok hgb) (hT.below h))
  have HNz := Lk.mk (show ∀ W A3 c3, Below w.heap.size w W → FnC W A3 (a.length + b.length) (a ++ b) → Calls Tryd.prog 14 #[.slice A3 (a.length + b.length) c3] W fun e w' => e = .returned (.tuple #[.pointer none, .int .i64 1]) ∧ Below W.heap.size W w' from fun W A3 c3 h h3' => by
    have q := new_bad A3 c3 (a ++ b) W (by rw [List.length_append]; exact h3') ((ha.ok hga).append (hb.ok hgb)) (hT.below h) hz
    rwa [List.length_append] at q)
  have HT := Lk.mk hT
  have HR := Lk.mk hr
  have HR2 := Lk.mk hr2
  have HN := Lk.mk hn
  have h1z : ¬ (a.length : Int) < 1 := by omega
  have h2z : ¬ (50 : Int) < (a.length : Int) := by omega
  have h3z : ¬ (50 : Int) < (b.length : Int) := by omega
  clear hr hr2 ha hb hT hga hgb hz hn
  have hc : (newOk a = false ∧ newOk b = false) ∨ (newOk a = false ∧ newOk b = true) ∨ (newOk a = true ∧ newOk b = false) := by
    cases hna : newOk a with
    | false =>
      cases hnb : newOk b with
      | false => exact Or.inl ⟨rfl, rfl⟩
      | true => exact Or.inr (Or.inl ⟨rfl, rfl⟩)
    | true =>
      cases hnb : newOk b with
      | false => exact Or.inr (Or.inr ⟨rfl, rfl⟩)
      | true => exact absurd ⟨hna, hnb⟩ HN.out
  rcases hc with ⟨hna, hnb⟩ | ⟨hna, hnb⟩ | ⟨hna, hnb⟩
  all_goals simp only [hna, if_true, Bool.false_eq_true, if_false] at HNa
  all_goals simp only [hnb, if_true, Bool.false_eq_true, if_false] at HNb
  all_goals clear hna hnb HN
  all_goals go_enter Tryd.func6, Tryd.ntmps6
  all_goals go_wp2_with (first
    | (go_at_call 12; (with_reducible refine HGa.out.mono ?_); rintro e w' ⟨rfl, hw⟩; obtain rfl := hw.symm; clear hw)
    | (go_at_call 12; (with_reducible refine HGb.out.mono ?_); rintro e w' ⟨rfl, hw⟩; obtain rfl := hw.symm; clear hw)
    | (go_at_call 14; (with_reducible refine (HNa.out _ (Below.refl _ _)).mono ?_); rintro e w1 ⟨p1, rfl, _, hb⟩; have HB := Lk.mk hb; clear hb)
    | (go_at_call 14; (with_reducible refine (HNb.out _ HB.out).mono ?_); rintro e w1 ⟨p2, rfl, _, hb⟩; have HB := Lk.mk (below_then HB.out HB.out.size hb); clear hb)
    | (go_at_call 14; (with_reducible refine (HNz.out _ _ _ HB.out HZ.out).mono ?_); rintro e w1 ⟨rfl, hb⟩; have HB := Lk.mk (below_then HB.out HB.out.size hb); clear hb)
    | (at_builtin
       refine Kd.R_append_rows (w0 := w) (kG w) w.heap.size rfl _ _ 22 28 _ 32 rfl Tryd.underlying22 infoF rfl (show 0 < (2 : Nat) from by decide) (show 0 < (32 : Nat) from by decide) _ [] a A a.length c (fun _ => True) (fun _ => False) rfl rfl ?q1 ?q2 (fun _ _ h => h) (fun _ h => h.elim) (fun _ _ => trivial) ?q3 ?q4 ?q5 ?_
       case q1 => exact kG_empty w _ _ HB.out.size
       case q2 => exact kG_rows HR.out (HB.out.alloc HB.out.size _)
       case q3 => exact HB.out.alloc HB.out.size _
       case q4 => exact (HB.out.alloc HB.out.size _).size
       case q5 => simp; omega
       intro v1 w1 hR hb _ _
       have HB := Lk.mk hb
       have HR1 := Lk.mk hR
       clear hb hR)
    | (at_builtin
       refine Kd.R_append_rows (w0 := w) (kG w) w.heap.size rfl _ _ 22 28 _ 32 rfl Tryd.underlying22 infoF rfl (show 0 < (2 : Nat) from by decide) (show 0 < (32 : Nat) from by decide) _ ([] ++ a) b B b.length d (fun _ => True) (fun _ => False) rfl rfl HR1.out (kG_rows HR2.out HB.out) (fun _ _ h => h) (fun _ h => h.elim) (fun _ _ => trivial) HB.out HB.out.size ?q5 ?_
       case q5 => simp; omega
       intro v1 w1 hR hb _ _
       have HB := Lk.mk hb
       obtain ⟨A3, c3, rfl, _, hC3⟩ := Kd.R_reads hR
       rw [List.nil_append, List.length_append] at hC3 ⊢
       have HZ := Lk.mk (kG_fnC hC3 hb)
       clear hb hR hC3)
    | (go_at_call 13; (with_reducible refine (awake_any _ (HT.out.below HB.out)).mono ?_); rintro e w' ⟨rfl, hb⟩; have HB := Lk.mk (below_then HB.out HB.out.size hb); clear hb))
  all_goals go_ret
  all_goals exact ⟨rfl, HB.out⟩
end Go.Proofs.YtmlchbldcoenaaaDoor
