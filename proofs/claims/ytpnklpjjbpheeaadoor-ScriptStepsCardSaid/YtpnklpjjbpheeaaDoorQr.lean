/-
  The walks of float.Below; conditions: the words read as told.
-/
import Derived.Test.YtpnklpjjbpheeaaDoorQp
namespace Go.Proofs.YtpnklpjjbpheeaaDoor
open Go.RowKit Go.Proofs.YtpnklpjjbpheeaaDoorW.PrintWords
open Go.Proofs.Fl Go.Proofs.YtpnklpjjbpheeaaDoor.Flt

set_option maxRecDepth 100000 in
set_option maxHeartbeats 2000000 in
theorem blit_any (b : Nat) (w : World) (hb : b < 18446744073709551616) : Calls Tryd.prog 22 #[.int .u64 b] w fun e w' => e = .returned (.bool (!FlPlain.below b)) ∧ w' = w := by
  have ha := and_top b hb
  clear hb
  cases h : FlPlain.below b with
  | true =>
    rw [h, if_pos rfl] at ha
    clear h
    go_enter Tryd.func22, Tryd.ntmps22
    go_wp2
    go_ret
    exact ⟨rfl, rfl⟩
  | false =>
    rw [h, if_neg (by decide)] at ha
    clear h
    go_enter Tryd.func22, Tryd.ntmps22
    go_wp2
    go_ret
    exact ⟨rfl, rfl⟩
set_option maxRecDepth 100000 in
set_option maxHeartbeats 2000000 in
theorem fbelow_any (A : Option Addr) (c : Nat) (l : List Nat) (w : World) (hr : RdU w A l) (hl : InU l) :
    Calls Tryd.prog 8 #[.slice A l.length c] w fun e w' => e = .returned (.bool (l.all FlPlain.below)) ∧ w' = w := by
  have eg := enters_of Tryd.func22 (by kernel_rfl) rfl
  have HI := Lk.mk (idx_any A c l (fun b => !FlPlain.below b) 22 #[] w eg hr (fun W b hb => blit_any b W (hl b hb)))
  have hnot : (!(l.any fun b => !FlPlain.below b)) = l.all FlPlain.below := by
    rw [List.any_eq_not_all_not, Bool.not_not]; simp
  have HN := Lk.mk hnot
  clear hr hl hnot
  have HC : Calls Tryd.prog 21 #[.slice A l.length c, .func (.func 22) #[] #[]] w fun e w' => e = .returned (.bool (l.any fun b => !FlPlain.below b)) ∧ w' = w := by
    clear HN
    generalize (l.any fun b => !FlPlain.below b) = r at *
    go_enter Tryd.func21, Tryd.ntmps21
    go_wp2_with (go_at_call 39; (with_reducible refine (HI.out).mono ?_); rintro e w' ⟨⟨j, rfl, hj⟩, hw⟩; obtain rfl := hw.symm; clear hw; have HJ := Lk.mk hj; clear hj)
    all_goals go_ret
    all_goals exact ⟨retb (by rw [← HJ.out]), rfl⟩
  have HC := Lk.mk HC
  generalize (l.any fun b => !FlPlain.below b) = r at *
  generalize l.all FlPlain.below = s at *
  go_enter Tryd.func8, Tryd.ntmps8
  go_wp2_with (go_at_call 21; (with_reducible refine (HC.out).mono ?_); rintro e w' ⟨rfl, hw⟩; obtain rfl := hw.symm; clear hw)
  go_ret
  exact ⟨retb (by rw [← HN.out]), rfl⟩
end Go.Proofs.YtpnklpjjbpheeaaDoor
