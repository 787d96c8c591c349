/-
  The walk of the law SlotsMays; conditions: the values read as told, the table of deBruijn stands.
-/
import Derived.Test.YtbikdngpannekaaDoorCe
namespace Go.Proofs.YtbikdngpannekaaDoor
open Go.RowKit Go.Proofs.YtbikdngpannekaaDoorW.PrintWords

def mayTo (l : List Sl.Vl) (k : Nat) : Bool := (l.take k).all Sl.mayV
theorem mayTo_next {l : List Sl.Vl} {k : Nat} (h : k < l.length) : mayTo l (k + 1) = (mayTo l k && Sl.mayV (l.getD k Sl.dVl)) := by
  unfold mayTo
  rw [List.take_add_one, List.all_append, List.getD_eq_getElem?_getD, List.getElem?_eq_getElem h]
  simp
theorem mayTo_all (l : List Sl.Vl) : mayTo l l.length = Sl.mayVs l := by
  unfold mayTo Sl.mayVs
  rw [List.take_length, List.all_eq_not_any_not]

set_option maxRecDepth 100000 in
set_option maxHeartbeats 2000000 in
theorem lawOfSlotsMays (A : Option Addr) (c : Nat) (l : List Sl.Vl) (w : World) (hr : kVl.C w A l.length l) (hv : VlsIn l) (hT : Tab w) :
    Calls Tryd.prog 3 #[.slice A l.length c] w fun e w' => e = .returned (.bool true) ∧ Below w.heap.size w w' := by
  have hm := hr.2.1
  have HT := Lk.mk hT
  by_cases h50 : 50 < l.length
  · have h50z : (50 : Int) < (l.length : Int) := by omega
    clear hr hv hT
    go_enter Tryd.func3, Tryd.ntmps3
    go_wp2_with (go_at_call 15; (with_reducible refine (awake16_any _ HT.out).mono ?_); rintro e w1 ⟨rfl, hb⟩)
    go_ret
    exact ⟨rfl, hb⟩
  · have h50z : ¬ (50 : Int) < (l.length : Int) := by omega
    have HR := Lk.mk hr
    have HV := Lk.mk hv
    have HM := Lk.mk (fun W (hb : Below w.heap.size w W) => smayAll_any A c l W (Kd.C_below hr hb) hv)
    clear hr hv hT
    go_enter Tryd.func3, Tryd.ntmps3
    go_wp2
    go_loopg [3, 4] l.length (fun gg v3 v4 wr => ∃ (kk : Nat) (r : Bool), kk ≤ l.length ∧ l.length - kk ≤ gg ∧ v4 = .int .i64 kk ∧ v3 = .bool r ∧ Lk (r = mayTo l kk) ∧ Lk (Below w.heap.size w wr))
    case atStart => exact ⟨0, true, by omega, by omega, rfl, rfl, ⟨rfl⟩, ⟨Below.refl _ _⟩⟩
    case round =>
      obtain ⟨kk, r, hk, hg, rfl, rfl, HE, HB⟩ := hrel
      by_cases hlt : kk < l.length
      · obtain ⟨ad, rfl, c0, c1, c2, c3⟩ := kVl_at (Kd.C_below HR.out HB.out) kk hlt
        have hltz : (kk : Int) < (l.length : Int) := by omega
        have HX := Lk.mk (mayTo_next hlt)
        have HQ := Lk.mk (refVMay_any (l.getD kk Sl.dVl) wr (HV.out _ (getD_mem _ hlt)))
        generalize Sl.mayV (l.getD kk Sl.dVl) = q at *
        generalize l.getD kk Sl.dVl = v at *
        cases r with
        | false =>
          go_wp2
          go_roundg (l.length - (kk + 1))
          case measure => omega
          case rel => exact ⟨kk + 1, false, by omega, by omega, by go_num, rfl, ⟨by rw [HX.out, ← HE.out]; rfl⟩, HB⟩
        | true =>
          go_wp2_with (go_at_call 16; (with_reducible refine (HQ.out).mono ?_); rintro e w1 ⟨rfl, hb⟩; have HB2 := Lk.mk (below_then HB.out HB.out.size hb); clear hb)
          go_roundg (l.length - (kk + 1))
          case measure => omega
          case rel => exact ⟨kk + 1, q, by omega, by omega, by go_num, rfl, ⟨by rw [HX.out, ← HE.out]; rfl⟩, HB2⟩
      · have hltz : ¬ (kk : Int) < (l.length : Int) := by omega
        obtain rfl : kk = l.length := by omega
        have HQ := Lk.mk (show ∀ W, Below w.heap.size w W → Calls Tryd.prog 17 #[.slice A l.length c] W fun e w' => e = .returned (.bool r) ∧ Below W.heap.size W w' from by
          intro W hb
          rw [HE.out, mayTo_all]; exact HM.out W hb)
        have hrr : (r == r) = true := by simp
        go_wp2_with (first
          | (go_at_call 17; (with_reducible refine (HQ.out _ HB.out).mono ?_); rintro e w' ⟨rfl, hb⟩; have HB := Lk.mk (below_then HB.out HB.out.size hb); clear hb)
          | (go_at_call 15; (with_reducible refine (awake16_any _ (HT.out.below HB.out)).mono ?_); rintro e w' ⟨rfl, hb⟩; have HB := Lk.mk (below_then HB.out HB.out.size hb); clear hb))
        go_ret
        exact ⟨rfl, HB.out⟩
end Go.Proofs.YtbikdngpannekaaDoor
