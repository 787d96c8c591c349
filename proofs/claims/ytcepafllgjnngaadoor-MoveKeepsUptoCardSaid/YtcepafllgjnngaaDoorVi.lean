/-
  The walk of reference 04's Same. Conditions: what is handed in reads as told.
-/
import Derived.Test.YtcepafllgjnngaaDoorMr
import Derived.Test.YtcepafllgjnngaaDoorK2
namespace Go.Proofs.YtcepafllgjnngaaDoor
open Go.RowKit Go.Proofs.YtcepafllgjnngaaDoorW.PrintWords

set_option maxRecDepth 100000 in
set_option maxHeartbeats 2000000 in
theorem rsame04_any (A : Option Addr) (c : Nat) (l : List Int) (B : Option Addr) (d : Nat) (m : List Int) (w : World) (hr : ReadsInt w .u64 A l.length l) (hr2 : ReadsInt w .u64 B m.length m) :
    Calls Tryd.prog 36 #[.slice A l.length c, .slice B m.length d] w fun e w' => e = .returned (.bool (decide (l = m))) ∧ Below w.heap.size w w' := by
  have hm1 := hr.2.1
  have hm2 := hr2.2.1
  have HR := Lk.mk hr
  have HR2 := Lk.mk hr2
  clear hr hr2
  by_cases hlen : l.length = m.length
  · rw [← hlen] at HR2 hm2 ⊢
    have HLEN := Lk.mk hlen
    clear hlen
    go_enter Tryd.func36, Tryd.ntmps36
    go_wp2
    go_loopg [13] l.length (fun gg v13 wr => ∃ k : Nat, k ≤ l.length ∧ l.length - k ≤ gg ∧ v13 = .int .i64 k ∧ Lk (SmTo 0 l m k) ∧ Lk (Below w.heap.size w wr))
    case atStart => exact ⟨0, by omega, by omega, rfl, ⟨SmTo.zero _ _ _⟩, ⟨Below.refl _ _⟩⟩
    case round =>
      obtain ⟨k, hk, hg, rfl, HE, HB⟩ := hrel
      by_cases hlt : k < l.length
      · have hltz : (k : Int) < (l.length : Int) := by omega
        obtain ⟨ad1, rfl, a0⟩ := (HR.out.below HB.out).at_ (k : Int) (by omega) (by omega)
        obtain ⟨ad2, rfl, b0⟩ := (HR2.out.below HB.out).at_ (k : Int) (by omega) (by omega)
        rw [Int.toNat_natCast, rdk] at a0 b0
        have HX := Lk.mk (fun h : l.getD k 0 = m.getD k 0 => HE.out.next h)
        have H := Lk.mk (sm_ne 0 l m k)
        generalize l.getD k 0 = x at *
        generalize m.getD k 0 = y at *
        by_cases hxy : x = y
        · subst hxy
          go_wp2
          go_region
          go_wp2
          go_roundg (l.length - (k + 1))
          case measure => omega
          case rel => exact ⟨k + 1, by omega, by omega, by go_num, ⟨HX.out (by first | rfl | trivial)⟩, ⟨below_drew HB.out⟩⟩
        · have H2 := Lk.mk (H.out hxy)
          clear HX H
          go_wp2
          go_region
          go_wp2
          go_ret
          exact ⟨ret_bool (by rw [H2.out]), below_drew HB.out⟩
      · obtain rfl : k = l.length := by omega
        have hltz : ¬ (l.length : Int) < (l.length : Int) := by omega
        go_wp2
        go_ret
        exact ⟨ret_bool (sm_all 0 HLEN.out HE.out).symm, HB.out⟩
  · have hlz : ¬ (l.length : Int) = (m.length : Int) := by omega
    have H := Lk.mk (sm_len l m hlen)
    generalize decide (l = m) = r at *
    go_enter Tryd.func36, Tryd.ntmps36
    go_wp2
    go_ret
    exact ⟨ret_bool (by rw [H.out]), Below.refl _ _⟩
end Go.Proofs.YtcepafllgjnngaaDoor
