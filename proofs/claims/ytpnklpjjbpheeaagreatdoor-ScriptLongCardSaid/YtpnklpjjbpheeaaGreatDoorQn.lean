/-
  The walks of float.Sum, float.Below, the reference's Sum and the law FloatSums; conditions: the words read as told.
-/
import Derived.Test.YtpnklpjjbpheeaaGreatDoorQi
import Derived.Test.YtpnklpjjbpheeaaGreatDoorWWords
import Derived.WalkKit
namespace Go.Proofs.YtpnklpjjbpheeaaGreatDoor
open Go.RowKit Go.Proofs.YtpnklpjjbpheeaaGreatDoorW.PrintWords
open Go.Proofs.Fl Go.Proofs.YtpnklpjjbpheeaaGreatDoor.Flt

theorem retb {a b : Bool} (h : a = b) : Ending.returned (.bool a) = .returned (.bool b) := by rw [h]
def RdU (w : World) (A : Option Addr) (l : List Nat) : Prop := l.length ≤ 9223372036854775807 ∧ ∀ k, k < l.length → ∃ ad, A = some ad ∧ w.cell? (ad.add k) = some (.int .u64 ((l.getD k 0 : Nat) : Int))
def InU (l : List Nat) : Prop := ∀ x ∈ l, x < 18446744073709551616
theorem RdU.below {w w1 : World} {A : Option Addr} {l : List Nat} (h : RdU w A l) (hb : Below w.heap.size w w1) : RdU w1 A l := ⟨h.1, fun k hk => by obtain ⟨ad, e, hc⟩ := h.2 k hk; exact ⟨ad, e, pw_cell_below hb hc⟩⟩
theorem RdU.drewN {w : World} {A : Option Addr} {l : List Nat} (h : RdU w A l) (n : Nat) : RdU (w.drewN n) A l := h.below (pw_below_drewN (Below.refl _ _) n)
theorem memU {l : List Nat} {k : Nat} (h : k < l.length) : l.getD k 0 ∈ l := by rw [List.getD_eq_getElem?_getD, List.getElem?_eq_getElem h]; exact List.getElem_mem h
def sumL (l : List Nat) : Nat := l.foldl (fun a b => FlPlain.ref 1 a b) 0
theorem sumL_next {l : List Nat} {k : Nat} (h : k < l.length) : sumL (l.take (k + 1)) = FlPlain.ref 1 (sumL (l.take k)) (l.getD k 0) := by
  unfold sumL
  rw [List.take_add_one, List.getD_eq_getElem?_getD, List.getElem?_eq_getElem h, Option.toList, List.foldl_append]
  rfl
theorem fin_lt {r : Nat} (h : r < 18446744073709551616) : FlPlain.fin r < 18446744073709551616 := by unfold FlPlain.fin; split <;> omega
theorem own1 (a b : Nat) : FlPlain.own 1 a b = Ieee.double.add a b := rfl
theorem ref1_add {a b : Nat} (ha : a < 18446744073709551616) (hb : b < 18446744073709551616) : FlPlain.ref 1 a b = FlPlain.orNan (Ieee.double.add a b) := by rw [← own1]; exact (FlPlain.own_ref ha hb).symm
theorem ref1_lt {a b : Nat} (ha : a < 18446744073709551616) (hb : b < 18446744073709551616) : FlPlain.ref 1 a b < 18446744073709551616 := by
  rw [ref1_add ha hb]
  cases h : Ieee.double.add a b with
  | none => show 9221120237041090561 < _; omega
  | some r => exact fin_lt (by rw [← width64]; exact Ieee.Format.add_lt _ h)
theorem ref1_nan {a b : Nat} (h : FlPlain.cls a = 1) : FlPlain.ref 1 a b = 9221120237041090561 := by
  unfold FlPlain.ref FlPlain.edgeAdd
  rw [if_pos rfl, if_pos (.inl h)]
  rfl
theorem ref1_fin (a b : Nat) : FlPlain.ref 1 (FlPlain.fin a) b = FlPlain.ref 1 a b := by
  by_cases h : FlPlain.cls a = 1
  · rw [ref1_nan h, show FlPlain.fin a = 9221120237041090561 by unfold FlPlain.fin; rw [if_pos h], ref1_nan (by decide +kernel)]
  · rw [FlPlain.fin_id h]
theorem sumL_lt (l : List Nat) (hl : InU l) : ∀ k, k ≤ l.length → sumL (l.take k) < 18446744073709551616
  | 0, _ => by rw [List.take_zero]; decide
  | k + 1, h => by
    rw [sumL_next (by omega)]
    exact ref1_lt (sumL_lt l hl k (by omega)) (hl _ (memU (by omega)))
/-- what one addition leaves -/
theorem step_some {f b r : Nat} {s : Nat} (hf : f < 18446744073709551616) (hb : b < 18446744073709551616) (hs : FlPlain.fin f = s) (h : Ieee.double.add f b = some r) : r < 18446744073709551616 ∧ FlPlain.fin r = FlPlain.ref 1 s b :=
  ⟨by rw [← width64]; exact Ieee.Format.add_lt _ h, by rw [← hs, ref1_fin, ref1_add hf hb, h]; rfl⟩
theorem step_none {f b : Nat} {s : Nat} {w : World} {x y : Nat} (hf : f < 18446744073709551616) (hb : b < 18446744073709551616) (hs : FlPlain.fin f = s) (h : Ieee.double.add f b = none) : nanOf w (.nanBits .f64 x y) < 18446744073709551616 ∧ FlPlain.fin (nanOf w (.nanBits .f64 x y)) = FlPlain.ref 1 s b :=
  ⟨(nan_cls w x y).2, by rw [← hs, ref1_fin, ref1_add hf hb, h]; unfold FlPlain.fin; rw [if_pos (nan_cls w x y).1]; rfl⟩
end Go.Proofs.YtpnklpjjbpheeaaGreatDoor
