/-
  The law FloatSums; conditions: the words read as told.
-/
import Derived.Test.YtcepafllgjnngaaQr
namespace Go.Proofs.Ytcepafllgjnngaa
open Go.RowKit Go.Proofs.YtcepafllgjnngaaW.PrintWords
open Go.Proofs.Fl

theorem all_next {l : List Nat} {k : Nat} (h : k < l.length) : (l.take (k + 1)).all FlPlain.below = ((l.take k).all FlPlain.below && FlPlain.below (l.getD k 0)) := by
  rw [List.take_add_one, List.all_append, List.getD_eq_getElem?_getD, List.getElem?_eq_getElem h]
  simp
set_option maxRecDepth 100000 in
set_option maxHeartbeats 2000000 in
theorem lawOfFloatSums (A : Option Addr) (c : Nat) (l : List Nat) (w : World) (hr : RdU w A l) (hl : InU l) :
    Calls Try.prog 3 #[.slice A l.length c] w fun e w' => e = .returned (.bool true) ∧ ∃ n, w' = w.drewN n := by
  have hm := hr.1
  by_cases h100 : 100 < l.length
  · have hz : (100 : Int) < (l.length : Int) := by omega
    clear hr hl h100
    go_enter Try.func3, Try.ntmps3
    go_wp2_with (go_at_call 6; (with_reducible refine (awake_any _).mono ?_); rintro e w' ⟨rfl, n, rfl⟩)
    go_ret
    exact ⟨rfl, n, rfl⟩
  · have hz : ¬ (100 : Int) < (l.length : Int) := by omega
    have HR := Lk.mk hr
    have HB := Lk.mk (fun b w => below_any b w)
    have HS := Lk.mk (fun W (h : RdU W A l) => fsum_any A c l W h hl)
    have HS2 := Lk.mk (fun W (h : RdU W A l) => rsum_any A c l W h hl)
    have HF := Lk.mk (fun W (h : RdU W A l) => fbelow_any A c l W h hl)
    clear hr hl h100
    go_enter Try.func3, Try.ntmps3
    go_wp2
    go_loopg [3, 4] l.length (fun gg v3 v4 wr => ∃ k : Nat, ∃ q : Bool, k ≤ l.length ∧ l.length - k ≤ gg ∧ v3 = .bool q ∧ v4 = .int .i64 k ∧ Lk (q = (l.take k).all FlPlain.below) ∧ wr = w)
    case atStart => exact ⟨0, true, by omega, by omega, rfl, rfl, ⟨by rw [List.take_zero]; rfl⟩, rfl⟩
    case round =>
      obtain ⟨k, q, hk, hg, rfl, rfl, HE, rfl⟩ := hrel
      by_cases hlt : k < l.length
      · have hltz : (k : Int) < (l.length : Int) := by omega
        obtain ⟨ad, rfl, hc⟩ := HR.out.2 k hlt
        have HN := Lk.mk (all_next hlt)
        generalize l.getD k 0 = b at *
        have HC := Lk.mk (HB.out b)
        cases q with
        | true =>
          generalize FlPlain.below b = r at *
          go_wp2_with (go_at_call 7; (with_reducible refine (HC.out _).mono ?_); rintro e w' ⟨rfl, hw⟩; obtain rfl := hw.symm; clear hw)
          go_roundg (l.length - (k + 1))
          case measure => omega
          case rel => exact ⟨k + 1, r, by omega, by omega, rfl, by go_num, ⟨by rw [HN.out, ← HE.out]; rfl⟩, rfl⟩
        | false =>
          go_wp2
          go_roundg (l.length - (k + 1))
          case measure => omega
          case rel => exact ⟨k + 1, false, by omega, by omega, rfl, by go_num, ⟨by rw [HN.out, ← HE.out]; rfl⟩, rfl⟩
      · have hltz : ¬ (k : Int) < (l.length : Int) := by omega
        obtain rfl : k = l.length := by omega
        have HE2 := Lk.mk (HE.out.trans (by rw [List.take_length]))
        obtain rfl := HE2.out
        generalize l.all FlPlain.below = r at *
        generalize sumL l = s at *
        go_wp2_with (first
          | (go_at_call 8; (with_reducible refine (HS.out _ HR.out).mono ?_); rintro e w' ⟨rfl, n1, rfl⟩)
          | (go_at_call 9; (with_reducible refine (HS2.out _ (HR.out.drewN _)).mono ?_); rintro e w' ⟨rfl, n2, rfl⟩)
          | (go_at_call 10; (with_reducible refine (HF.out _ ((HR.out.drewN n1).drewN n2)).mono ?_); rintro e w' ⟨rfl, hw⟩; obtain rfl := hw.symm; clear hw)
          | (go_at_call 10; (with_reducible refine (HF.out _ (HR.out.drewN (n1 + n2))).mono ?_); rintro e w' ⟨rfl, hw⟩; obtain rfl := hw.symm; clear hw)
          | (go_at_call 6; (with_reducible refine (awake_any _).mono ?_); rintro e w' ⟨rfl, n3, rfl⟩))
        go_ret
        exact ⟨rfl, n1 + n2 + n3, by first | rfl | simp | (simp; omega)⟩
end Go.Proofs.Ytcepafllgjnngaa
