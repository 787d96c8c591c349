/-
  Rows of frames without addresses that are read; plain facts of rows that are the same.
-/
import Derived.Test.YtcepafllgjnngaaDoorK2
namespace Go.Proofs.YtcepafllgjnngaaDoor
open Go.RowKit Go.Proofs.YtcepafllgjnngaaDoorW.PrintWords

abbrev Af := Int × List Sl.Vl
def dAf : Af := (0, [])
def kAf : Kd Af := Kd.pair (Kd.int .i64) (Kd.slice 56 kVl)
theorem kAf_at {w : World} {A : Option Addr} {n : Nat} {l : List Af} (h : kAf.C w A n l) (k : Nat) (hk : k < n) : ∃ ad A1 c1, A = some ad ∧ w.cell? (ad.add (k * 2)) = some (.int .i64 (l.getD k dAf).1) ∧ w.cell? ⟨(ad.add (k * 2)).block, (ad.add (k * 2)).off + 1, none⟩ = some (.slice A1 (l.getD k dAf).2.length c1) ∧ (l.getD k dAf).2.length ≤ c1 ∧ kVl.C w A1 (l.getD k dAf).2.length (l.getD k dAf).2 := by
  obtain ⟨ad, c, e, _, ⟨c0, c', rfl, rfl, ⟨A1, n1, rfl, hl1, h1⟩⟩, hc⟩ := ReadsRow.get_ h dAf (k : Int) (by omega) (by omega)
  rw [Int.toNat_natCast] at h1 hl1 hc
  have hc0 := hc 0 _ rfl
  have hc1 := hc 1 _ rfl
  rw [Nat.add_zero] at hc0
  refine ⟨ad, A1, n1, e, hc0, ?_, hl1, h1⟩
  rw [← add_field _ _ 1 (by omega)]; exact hc1
theorem sm_ne {α : Type} [DecidableEq α] (d : α) (l m : List α) (k : Nat) (h : ¬ l.getD k d = m.getD k d) : decide (l = m) = false := decide_eq_false (fun e => h (by rw [e]))
theorem sm_len {α : Type} [DecidableEq α] (l m : List α) (h : ¬ l.length = m.length) : decide (l = m) = false := decide_eq_false (fun e => h (by rw [e]))
theorem sm_all {α : Type} [DecidableEq α] (d : α) {l m : List α} (h0 : l.length = m.length) (h : ∀ j, j < l.length → l.getD j d = m.getD j d) : decide (l = m) = true := by
  apply decide_eq_true
  apply List.ext_getElem h0
  intro j h1 h2
  have := h j h1
  rwa [List.getD_eq_getElem?_getD, List.getElem?_eq_getElem h1, List.getD_eq_getElem?_getD, List.getElem?_eq_getElem h2] at this
/-- up to k the two are the same -/
def SmTo {α : Type} (d : α) (l m : List α) (k : Nat) : Prop := ∀ j, j < k → l.getD j d = m.getD j d
theorem SmTo.zero {α : Type} (d : α) (l m : List α) : SmTo d l m 0 := fun j hj => absurd hj (by omega)
theorem SmTo.next {α : Type} {d : α} {l m : List α} {k : Nat} (h : SmTo d l m k) (h2 : l.getD k d = m.getD k d) : SmTo d l m (k + 1) := fun j hj => by
  by_cases e : j = k
  · subst e; exact h2
  · exact h j (by omega)
end Go.Proofs.YtcepafllgjnngaaDoor
