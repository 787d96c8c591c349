/-
  The walk of the law ScriptSteps; conditions: the steps read as told, the tables stand.
-/
import Derived.Test.YtpnklpjjbpheeaaDoorZn
import Derived.Lib.ConvBytes
import Derived.Laws.BytesArg
import Derived.Laws.Rows
import Derived.Deep.RegionHeld3
namespace Go.Proofs.YtpnklpjjbpheeaaDoor
open Go.RowKit Go.Proofs.YtpnklpjjbpheeaaDoorW.PrintWords
open Go.Proofs.Fl Go.Proofs.YtpnklpjjbpheeaaDoor.Flt

def stepsTo (l : List Tp) (k : Nat) : Bool := (l.take k).all stepT
theorem stepsTo_next {l : List Tp} {k : Nat} (h : k < l.length) : stepsTo l (k + 1) = (stepsTo l k && stepT (l.getD k dTp)) := by
  unfold stepsTo
  rw [List.take_add_one, List.all_append, List.getD_eq_getElem?_getD, List.getElem?_eq_getElem h]
  simp
theorem stepsTo_all (l : List Tp) : stepsTo l l.length = l.all stepT := by
  unfold stepsTo
  rw [List.take_length]
set_option maxRecDepth 100000 in
set_option maxHeartbeats 8000000 in
theorem lawOfScriptSteps (A : Option Addr) (c : Nat) (l : List Tp) (w : World) (hr : kSt.C w A l.length l) (hv : ∀ t ∈ l, TpIn t) (hT : Tab w) (hP : P10 w) :
    Calls Tryd.prog 5 #[.slice A l.length c] w fun e w' => e = .returned (.bool true) ∧ Below w.heap.size w w' := by
  have hm := hr.2.1
  have HT := Lk.mk hT
  have HP := Lk.mk hP
  have HA := Lk.mk (fun W (hb : Below w.heap.size w W) => awake24_any W (hT.below hb) (hP.below hb))
  have HB := Lk.mk (Below.refl w.heap.size w)
  by_cases h50 : 50 < l.length
  · have h50z : (50 : Int) < (l.length : Int) := by omega
    clear hr hv hT hP
    go_enter Tryd.func5, Tryd.ntmps5
    go_wp2_with (go_at_call 16; (with_reducible refine (HA.out _ HB.out).mono ?_); rintro e w' ⟨rfl, hb⟩; have HB := Lk.mk (below_then HB.out HB.out.size hb); clear hb)
    go_ret
    exact ⟨rfl, HB.out⟩
  · have h50z : ¬ (50 : Int) < (l.length : Int) := by omega
    have HG := Lk.mk (rGreat_any A c l w hr (by omega))
    cases hg : greatS l with
    | true =>
      rw [hg] at HG
      clear hr hv hT hP hg
      go_enter Tryd.func5, Tryd.ntmps5
      go_wp2_with (first
        | (go_at_call 15; (with_reducible refine (HG.out).mono ?_); rintro e w1 ⟨rfl, hb⟩; replace HB := Lk.mk hb; clear hb)
        | (go_at_call 16; (with_reducible refine (HA.out _ HB.out).mono ?_); rintro e w' ⟨rfl, hb⟩; have HB := Lk.mk (below_then HB.out HB.out.size hb); clear hb))
      go_ret
      exact ⟨rfl, HB.out⟩
    | false =>
      rw [hg] at HG
      have HR := Lk.mk hr
      have HV := Lk.mk hv
      have HS := Lk.mk (fun W (hb : Below w.heap.size w W) => sStep_any A c l W (Kd.C_below hr hb) hv)
      have HL := Lk.mk (show ∀ t ∈ l, (tSl t).length ≤ 10 from fun t ht => by
        unfold greatS at hg
        rw [List.any_eq_false] at hg
        have := hg t ht
        simp at this
        omega)
      clear hr hv hT hP hg
      go_enter Tryd.func5, Tryd.ntmps5
      go_wp2_with (go_at_call 15; (with_reducible refine (HG.out).mono ?_); rintro e w1 ⟨rfl, hb⟩; replace HB := Lk.mk hb; clear hb)
      go_loopg [3, 4] l.length (fun gg v3 v4 wr => ∃ (kk : Nat) (r : Bool), kk ≤ l.length ∧ l.length - kk ≤ gg ∧ v4 = .int .i64 kk ∧ v3 = .bool r ∧ Lk (r = stepsTo l kk) ∧ Lk (Below w.heap.size w wr))
      case atStart => exact ⟨0, true, by omega, by omega, rfl, rfl, ⟨rfl⟩, HB⟩
      case round =>
        clear HB
        obtain ⟨kk, r, hk, hg, rfl, rfl, HE, HB⟩ := hrel
        by_cases hlt : kk < l.length
        · obtain ⟨ad, A1, c1, rfl, ⟨⟨q0, q1, q2, q3, q4, q5⟩, q6, q7, q8, q9, q10, q11⟩, hc1, hr1⟩ := kSt_at (Kd.C_below HR.out HB.out) kk hlt
          have hltz : (kk : Int) < (l.length : Int) := by omega
          have HX := Lk.mk (stepsTo_next hlt)
          have hti := HV.out _ (getD_mem dTp hlt)
          have htl := HL.out _ (getD_mem dTp hlt)
          have HRS := Lk.mk (rstep_any _ A1 c1 _ wr hti.i hr1)
          have HRL := Lk.mk (fun W (hb : Below wr.heap.size wr W) => sLine_any _ A1 c1 _ W hti.i hti.o (Nat.le_trans htl (by decide)) (hr1.below hb) (HT.out.below (below_then HB.out HB.out.size hb)) (HP.out.below (below_then HB.out HB.out.size hb)))
          have HRR := Lk.mk (fun (h : stepT (l.getD kk dTp) = true) W (hb : Below wr.heap.size wr W) => rline_ok _ A1 c1 _ W hti.i hti.o (Nat.le_trans htl (by decide)) (hr1.below hb) h)
          rw [stepB_M] at HRL
          rw [show stepM (tSt (l.getD kk dTp)) (tSl (l.getD kk dTp)) = stepT (l.getD kk dTp) from rfl] at HRS HRL
          have HBr := Lk.mk (Below.refl wr.heap.size wr)
          generalize stepT (l.getD kk dTp) = q at *
          generalize lineS (tSt (l.getD kk dTp)) (tSl (l.getD kk dTp)) = Z at *
          clear hti htl hr1 hc1
          generalize tSt (l.getD kk dTp) = x at *
          generalize (tSl (l.getD kk dTp)) = sl at *
          have HSt := Lk.mk (show StAt wr ad kk x A1 sl.length c1 from ⟨⟨q0, q1, q2, q3, q4, q5⟩, q6, q7, q8, q9, q10, q11⟩)
          unfold stCells at HRS HRL HRR
          obtain ⟨k0, p0, g0, f0, d0, s0, v0, v1, v2, v3, o0⟩ := x
          dsimp only at q0 q1 q2 q3 q4 q5 q6 q7 q8 q9 q10 q11 HRS HRL HRR
          cases q with
          | true =>
            replace HRR := Lk.mk (HRR.out rfl)
            cases r with
            | true =>
              go_wp2_with (first
                | (go_at_call 17; (with_reducible refine (HRS.out).mono ?_); rintro e w1 ⟨rfl, hb⟩; have HB := Lk.mk (below_then HB.out HB.out.size hb); have HBr := Lk.mk (below_then HBr.out HBr.out.size hb); have HSt := Lk.mk (HSt.out.below hb); obtain ⟨⟨q0, q1, q2, q3, q4, q5⟩, q6, q7, q8, q9, q10, q11⟩ := HSt.out; clear hb)
                | (go_at_call 18; (with_reducible refine (HRL.out _ HBr.out).mono ?_); rintro e w1 ⟨rfl, hb⟩; have HB := Lk.mk (below_then HB.out HB.out.size hb); have HBr := Lk.mk (below_then HBr.out HBr.out.size hb); have HSt := Lk.mk (HSt.out.below hb); obtain ⟨⟨q0, q1, q2, q3, q4, q5⟩, q6, q7, q8, q9, q10, q11⟩ := HSt.out; clear hb)
                | (go_at_call 19; (with_reducible refine (HRR.out _ HBr.out).mono ?_); rintro e w1 ⟨rfl, hb⟩; have HB := Lk.mk (below_then HB.out HB.out.size hb); have HBr := Lk.mk (below_then HBr.out HBr.out.size hb); have HSt := Lk.mk (HSt.out.below hb); obtain ⟨⟨q0, q1, q2, q3, q4, q5⟩, q6, q7, q8, q9, q10, q11⟩ := HSt.out; clear hb))
              go_roundg (l.length - (kk + 1))
              case measure => omega
              case rel => exact ⟨kk + 1, true, by omega, by omega, by go_num, rfl, ⟨by rw [HX.out, ← HE.out]; rfl⟩, HB⟩
            | false =>
              go_wp2_with (first
                | (go_at_call 17; (with_reducible refine (HRS.out).mono ?_); rintro e w1 ⟨rfl, hb⟩; have HB := Lk.mk (below_then HB.out HB.out.size hb); have HBr := Lk.mk (below_then HBr.out HBr.out.size hb); have HSt := Lk.mk (HSt.out.below hb); obtain ⟨⟨q0, q1, q2, q3, q4, q5⟩, q6, q7, q8, q9, q10, q11⟩ := HSt.out; clear hb)
                | (go_at_call 18; (with_reducible refine (HRL.out _ HBr.out).mono ?_); rintro e w1 ⟨rfl, hb⟩; have HB := Lk.mk (below_then HB.out HB.out.size hb); have HBr := Lk.mk (below_then HBr.out HBr.out.size hb); have HSt := Lk.mk (HSt.out.below hb); obtain ⟨⟨q0, q1, q2, q3, q4, q5⟩, q6, q7, q8, q9, q10, q11⟩ := HSt.out; clear hb)
                | (go_at_call 19; (with_reducible refine (HRR.out _ HBr.out).mono ?_); rintro e w1 ⟨rfl, hb⟩; have HB := Lk.mk (below_then HB.out HB.out.size hb); have HBr := Lk.mk (below_then HBr.out HBr.out.size hb); have HSt := Lk.mk (HSt.out.below hb); obtain ⟨⟨q0, q1, q2, q3, q4, q5⟩, q6, q7, q8, q9, q10, q11⟩ := HSt.out; clear hb))
              go_roundg (l.length - (kk + 1))
              case measure => omega
              case rel => exact ⟨kk + 1, false, by omega, by omega, by go_num, rfl, ⟨by rw [HX.out, ← HE.out]; rfl⟩, HB⟩
          | false =>
            clear HRR
            cases r with
            | true =>
              go_wp2_with (first
                | (go_at_call 17; (with_reducible refine (HRS.out).mono ?_); rintro e w1 ⟨rfl, hb⟩; have HB := Lk.mk (below_then HB.out HB.out.size hb); have HBr := Lk.mk (below_then HBr.out HBr.out.size hb); have HSt := Lk.mk (HSt.out.below hb); obtain ⟨⟨q0, q1, q2, q3, q4, q5⟩, q6, q7, q8, q9, q10, q11⟩ := HSt.out; clear hb)
                | (go_at_call 18; (with_reducible refine (HRL.out _ HBr.out).mono ?_); rintro e w1 ⟨rfl, hb⟩; have HB := Lk.mk (below_then HB.out HB.out.size hb); have HBr := Lk.mk (below_then HBr.out HBr.out.size hb); have HSt := Lk.mk (HSt.out.below hb); obtain ⟨⟨q0, q1, q2, q3, q4, q5⟩, q6, q7, q8, q9, q10, q11⟩ := HSt.out; clear hb))
              go_roundg (l.length - (kk + 1))
              case measure => omega
              case rel => exact ⟨kk + 1, false, by omega, by omega, by go_num, rfl, ⟨by rw [HX.out, ← HE.out]; rfl⟩, HB⟩
            | false =>
              go_wp2_with (first
                | (go_at_call 17; (with_reducible refine (HRS.out).mono ?_); rintro e w1 ⟨rfl, hb⟩; have HB := Lk.mk (below_then HB.out HB.out.size hb); have HBr := Lk.mk (below_then HBr.out HBr.out.size hb); have HSt := Lk.mk (HSt.out.below hb); obtain ⟨⟨q0, q1, q2, q3, q4, q5⟩, q6, q7, q8, q9, q10, q11⟩ := HSt.out; clear hb)
                | (go_at_call 18; (with_reducible refine (HRL.out _ HBr.out).mono ?_); rintro e w1 ⟨rfl, hb⟩; have HB := Lk.mk (below_then HB.out HB.out.size hb); have HBr := Lk.mk (below_then HBr.out HBr.out.size hb); have HSt := Lk.mk (HSt.out.below hb); obtain ⟨⟨q0, q1, q2, q3, q4, q5⟩, q6, q7, q8, q9, q10, q11⟩ := HSt.out; clear hb))
              go_roundg (l.length - (kk + 1))
              case measure => omega
              case rel => exact ⟨kk + 1, false, by omega, by omega, by go_num, rfl, ⟨by rw [HX.out, ← HE.out]; rfl⟩, HB⟩
        · have hltz : ¬ (kk : Int) < (l.length : Int) := by omega
          obtain rfl : kk = l.length := by omega
          have HQ := Lk.mk (show ∀ W, Below w.heap.size w W → Calls Tryd.prog 20 #[.slice A l.length c] W fun e w' => e = .returned (.bool r) ∧ Below W.heap.size W w' from by
            intro W hb
            rw [HE.out, stepsTo_all]; exact HS.out W hb)
          have hrr : (r == r) = true := by simp
          go_wp2_with (first
            | (go_at_call 20; (with_reducible refine (HQ.out _ HB.out).mono ?_); rintro e w' ⟨rfl, hb⟩; have HB := Lk.mk (below_then HB.out HB.out.size hb); clear hb)
            | (go_at_call 16; (with_reducible refine (HA.out _ HB.out).mono ?_); rintro e w' ⟨rfl, hb⟩; have HB := Lk.mk (below_then HB.out HB.out.size hb); clear hb))
          go_ret
          exact ⟨rfl, HB.out⟩
end Go.Proofs.YtpnklpjjbpheeaaDoor
