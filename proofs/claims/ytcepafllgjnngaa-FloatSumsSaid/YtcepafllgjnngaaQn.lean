/-
  The walks of float.Sum, float.Below, the reference's Sum and the law FloatSums; conditions: the words read as told.
-/
import Derived.Test.YtcepafllgjnngaaQi
import Derived.Test.YtcepafllgjnngaaWWords
import Derived.WalkKit
namespace Go.Proofs.Ytcepafllgjnngaa
open Go.RowKit Go.Proofs.YtcepafllgjnngaaW.PrintWords
open Go.Proofs.Fl

theorem retb {a b : Bool} (h : a = b) : Ending.returned (.bool a) = .returned (.bool b) := by rw [h]
def RdU (w : World) (A : Option Addr) (l : List Nat) : Prop := l.length ≤ 9223372036854775807 ∧ ∀ k, k < l.length → ∃ ad, A = some ad ∧ w.cell? (ad.add k) = some (.int .u64 ((l.getD k 0 : Nat) : Int))
def InU (l : List Nat) : Prop := ∀ x ∈ l, x < 18446744073709551616
theorem RdU.below {w w1 : World} {A : Option Addr} {l : List Nat} (h : RdU w A l) (hb : Below w.heap.size w w1) : RdU w1 A l := ⟨h.1, fun k hk => by obtain ⟨ad, e, hc⟩ := h.2 k hk; exact ⟨ad, e, pw_cell_below hb hc⟩⟩
theorem RdU.drewN {w : World} {A : Option Addr} {l : List Nat} (h : RdU w A l) (n : Nat) : RdU (w.drewN n) A l := h.below (pw_below_drewN (Below.refl _ _) n)
theorem memU {l : List Nat} {k : Nat} (h : k < l.length) : l.getD k 0 ∈ l := by rw [List.getD_eq_getElem?_getD, List.getElem?_eq_getElem h]; exact List.getElem_mem h
def sumL (l : List Nat) : Nat := l.foldl (fun a b => FlPlain.ref 1 a b) 0
theorem sumL_next {l : List Nat} {k : Nat} (h : k < l.length) : sumL (l.take (k + 1)) = FlPlain.ref 1 (sumL (l.take k)) (l.getD k 0) := by
  unfold sumL
  rw [List.take_add_one, List.getD_eq_getElem?_getD, List.getElem?_eq_getElem h, Option.toList, List.foldl_append]
  rfl
theorem fin_lt {r : Nat} (h : r < 18446744073709551616) : FlPlain.fin r < 18446744073709551616 := by unfold FlPlain.fin; split <;> omega
theorem own1 (a b : Nat) : FlPlain.own 1 a b = Ieee.double.add a b := rfl
theorem ref1_add {a b : Nat} (ha : a < 18446744073709551616) (hb : b < 18446744073709551616) : FlPlain.ref 1 a b = FlPlain.orNan (Ieee.double.add a b) := by rw [← own1]; exact (FlPlain.own_ref ha hb).symm
theorem ref1_lt {a b : Nat} (ha : a < 18446744073709551616) (hb : b < 18446744073709551616) : FlPlain.ref 1 a b < 18446744073709551616 := by
  rw [ref1_add ha hb]
  cases h : Ieee.double.add a b with
  | none => show 9221120237041090561 < _; omega
  | some r => exact fin_lt (by rw [← width64]; exact Ieee.Format.add_lt _ h)
theorem ref1_nan {a b : Nat} (h : FlPlain.cls a = 1) : FlPlain.ref 1 a b = 9221120237041090561 := by
  unfold FlPlain.ref FlPlain.edgeAdd
  rw [if_pos rfl, if_pos (.inl h)]
  rfl
theorem ref1_fin (a b : Nat) : FlPlain.ref 1 (FlPlain.fin a) b = FlPlain.ref 1 a b := by
  by_cases h : FlPlain.cls a = 1
  · rw [ref1_nan h, show FlPlain.fin a = 9221120237041090561 by unfold FlPlain.fin; rw [if_pos h], ref1_nan (by decide +kernel)]
  · rw [FlPlain.fin_id h]
theorem sumL_lt (l : List Nat) (hl : InU l) : ∀ k, k ≤ l.length → sumL (l.take k) < 18446744073709551616
  | 0, _ => by rw [List.take_zero]; decide
  | k + 1, h => by
    rw [sumL_next (by omega)]
    exact ref1_lt (sumL_lt l hl k (by omega)) (hl _ (memU (by omega)))
/-- what one addition leaves -/
theorem step_some {f b r : Nat} {s : Nat} (hf : f < 18446744073709551616) (hb : b < 18446744073709551616) (hs : FlPlain.fin f = s) (h : Ieee.double.add f b = some r) : r < 18446744073709551616 ∧ FlPlain.fin r = FlPlain.ref 1 s b :=
  ⟨by rw [← width64]; exact Ieee.Format.add_lt _ h, by rw [← hs, ref1_fin, ref1_add hf hb, h]; rfl⟩
theorem step_none {f b : Nat} {s : Nat} {w : World} {x y : Nat} (hf : f < 18446744073709551616) (hb : b < 18446744073709551616) (hs : FlPlain.fin f = s) (h : Ieee.double.add f b = none) : nanOf w (.nanBits .f64 x y) < 18446744073709551616 ∧ FlPlain.fin (nanOf w (.nanBits .f64 x y)) = FlPlain.ref 1 s b :=
  ⟨(nan_cls w x y).2, by rw [← hs, ref1_fin, ref1_add hf hb, h]; unfold FlPlain.fin; rw [if_pos (nan_cls w x y).1]; rfl⟩
set_option maxRecDepth 100000 in
set_option maxHeartbeats 2000000 in
theorem fsum_any (A : Option Addr) (c : Nat) (l : List Nat) (w : World) (hr : RdU w A l) (hl : InU l) :
    Calls Try.prog 8 #[.slice A l.length c] w fun e w' => e = .returned (.int .u64 (sumL l : Nat)) ∧ ∃ n, w' = w.drewN n := by
  have hm := hr.1
  have HR := Lk.mk hr
  have HL := Lk.mk hl
  clear hr hl
  go_enter Try.func8, Try.ntmps8
  go_wp2
  go_loopg [3, 8] l.length (fun gg v3 v8 wr => ∃ k f n : Nat, k ≤ l.length ∧ l.length - k ≤ gg ∧ v3 = .float .f64 f ∧ v8 = .int .i64 k ∧ Lk (f < 18446744073709551616) ∧ Lk (FlPlain.fin f = sumL (l.take k)) ∧ wr = w.drewN n)
  case atStart => exact ⟨0, 0, 0, by omega, by omega, rfl, rfl, ⟨by omega⟩, ⟨by rw [List.take_zero]; decide +kernel⟩, rfl⟩
  case round =>
    obtain ⟨k, f, n, hk, hg, rfl, rfl, HF, HE, rfl⟩ := hrel
    by_cases hlt : k < l.length
    · have hltz : (k : Int) < (l.length : Int) := by omega
      obtain ⟨ad, rfl, hc⟩ := (HR.out.drewN n).2 k hlt
      have HN := Lk.mk (sumL_next hlt)
      have HB := Lk.mk (HL.out _ (memU hlt))
      generalize l.getD k 0 = b at *
      have ra := frombits_run b
      cases h : Ieee.double.add f b with
      | none =>
        have hr := fun w => run_float_invalid (P := Try.prog) w .add 43 f b h (.inl rfl)
        have HS := Lk.mk (fun w x y => step_none (w := w) (x := x) (y := y) HF.out HB.out HE.out h)
        clear h
        go_wp2
        go_roundg (l.length - (k + 1))
        case measure => omega
        case rel => exact ⟨k + 1, _, n + 1, by omega, by omega, rfl, by go_num, ⟨(HS.out _ _ _).1⟩, ⟨by rw [HN.out]; exact (HS.out _ _ _).2⟩, by first | rfl | exact World.drew_drewN w n | simp⟩
      | some r =>
        have hr := fun w => run_float_arith (P := Try.prog) w .add 43 .f64 f b r h
        have HS := Lk.mk (step_some HF.out HB.out HE.out h)
        clear h
        go_wp2
        go_roundg (l.length - (k + 1))
        case measure => omega
        case rel => exact ⟨k + 1, r, n, by omega, by omega, rfl, by go_num, ⟨HS.out.1⟩, ⟨by rw [HN.out]; exact HS.out.2⟩, rfl⟩
    · have hltz : ¬ (k : Int) < (l.length : Int) := by omega
      obtain rfl : k = l.length := by omega
      have HE2 := Lk.mk (HE.out.trans (by rw [List.take_length]))
      have HBT := Lk.mk (fun w => bits_any f w HF.out)
      rw [HE2.out] at HBT
      go_wp2_with (go_at_call 16; (with_reducible refine (HBT.out _).mono ?_); rintro e w' ⟨rfl, hw⟩; obtain rfl := hw.symm; clear hw)
      go_ret
      exact ⟨rfl, n, rfl⟩
set_option maxRecDepth 100000 in
set_option maxHeartbeats 2000000 in
theorem rsum_any (A : Option Addr) (c : Nat) (l : List Nat) (w : World) (hr : RdU w A l) (hl : InU l) :
    Calls Try.prog 9 #[.slice A l.length c] w fun e w' => e = .returned (.int .u64 (sumL l : Nat)) ∧ ∃ n, w' = w.drewN n := by
  have hm := hr.1
  have HR := Lk.mk hr
  have HL := Lk.mk hl
  clear hr hl
  go_enter Try.func9, Try.ntmps9
  go_wp2
  go_loopg [3, 7] l.length (fun gg v3 v7 wr => ∃ k f n : Nat, k ≤ l.length ∧ l.length - k ≤ gg ∧ v3 = .int .u64 f ∧ v7 = .int .i64 k ∧ Lk (f = sumL (l.take k)) ∧ wr = w.drewN n)
  case atStart => exact ⟨0, 0, 0, by omega, by omega, rfl, rfl, ⟨by rw [List.take_zero]; rfl⟩, rfl⟩
  case round =>
    obtain ⟨k, f, n, hk, hg, rfl, rfl, HE, rfl⟩ := hrel
    by_cases hlt : k < l.length
    · have hltz : (k : Int) < (l.length : Int) := by omega
      obtain ⟨ad, rfl, hc⟩ := (HR.out.drewN n).2 k hlt
      have HN := Lk.mk (sumL_next hlt)
      have HB := Lk.mk (HL.out _ (memU hlt))
      have HFl := Lk.mk (show f < 18446744073709551616 from HE.out ▸ sumL_lt l HL.out k hk)
      generalize l.getD k 0 = b at *
      have HC := Lk.mk (fun w => rcalc_good' 1 f b w (by omega) (by omega) HFl.out HB.out)
      go_wp2_with (go_at_call 17; (with_reducible refine (HC.out _).mono ?_); rintro e w' ⟨rfl, n2, rfl⟩)
      go_roundg (l.length - (k + 1))
      case measure => omega
      case rel => exact ⟨k + 1, _, n + n2, by omega, by omega, rfl, by go_num, ⟨by rw [HN.out, ← HE.out]; first | done | rfl⟩, by first | rfl | simp⟩
    · have hltz : ¬ (k : Int) < (l.length : Int) := by omega
      obtain rfl : k = l.length := by omega
      have HE2 := Lk.mk (HE.out.trans (by rw [List.take_length]))
      go_wp2
      go_ret
      exact ⟨by rw [HE2.out]; first | done | rfl, n, rfl⟩
end Go.Proofs.Ytcepafllgjnngaa
