/-
  The walks of float.Below; conditions: the words read as told.
-/
import Derived.Test.YtpnklpjjbpheeaaDoorQo
import Derived.Shelf.Abstract
namespace Go.Proofs.YtpnklpjjbpheeaaDoor
open Go.RowKit Go.Proofs.YtpnklpjjbpheeaaDoorW.PrintWords
open Go.Proofs.Fl Go.Proofs.YtpnklpjjbpheeaaDoor.Flt

set_option maxRecDepth 100000 in
set_option maxHeartbeats 2000000 in
theorem idx_any (A : Option Addr) (c : Nat) (l : List Nat) (p : Nat → Bool) (g : Nat) (lb : Array Value) (w : World) (eg : ∀ args w, (callFunc g args).run Tryd.prog w = .ok (.enter g args) w) (hr : RdU w A l)
    (hp : ∀ W b, b ∈ l → Calls Tryd.prog g (#[.int .u64 (b : Nat)] ++ lb) W fun e W' => e = .returned (.bool (p b)) ∧ W' = W) :
    Calls Tryd.prog 39 #[.slice A l.length c, .func (.func g) #[] lb] w fun e w' => (∃ j : Int, e = .returned (.int .i64 j) ∧ decide (0 ≤ j) = l.any p) ∧ w' = w := by
  have HR := Lk.mk hr
  have HP := Lk.mk hp
  have hm := hr.1
  clear hr hp
  go_enter Tryd.func39, Tryd.ntmps39
  go_wp2
  go_loopg [5, 8] l.length (fun gg _ v8 wr => ∃ kk : Nat, kk ≤ l.length ∧ l.length - kk ≤ gg ∧ v8 = .int .i64 kk ∧ Lk (∀ j, j < kk → p (l.getD j 0) = false) ∧ wr = w)
  case atStart => exact ⟨0, by omega, by omega, rfl, ⟨fun j hj => absurd hj (by omega)⟩, rfl⟩
  case round =>
    obtain ⟨kk, hk, hg, rfl, HN, rfl⟩ := hrel
    by_cases hlt : kk < l.length
    · obtain ⟨ad, rfl, hcell0⟩ := HR.out.2 kk hlt
      have hltz : (kk : Int) < (l.length : Int) := by omega
      obtain ⟨f, hf⟩ : ∃ f, f = l.getD kk 0 := ⟨_, rfl⟩
      rw [← hf] at hcell0
      have HM := Lk.mk (show f ∈ l by rw [hf]; exact memU hlt)
      have HF := Lk.mk hf
      have hq := Lk.mk (HP.out wr f HM.out)
      clear hf
      cases hpx : p f with
      | true =>
        rw [hpx] at hq
        have HPX := Lk.mk hpx
        clear hpx
        go_wp2_with (go_at_fn g; (with_reducible refine hq.out.mono ?_); rintro e w' ⟨rfl, hw⟩; obtain rfl := hw.symm; clear hw)
        go_ret
        refine ⟨⟨_, rfl, ?_⟩, rfl⟩
        have : l.any p = true := List.any_eq_true.2 ⟨f, HM.out, HPX.out⟩
        rw [this]; simp
      | false =>
        rw [hpx] at hq
        have HPX := Lk.mk hpx
        clear hpx
        go_wp2_with (go_at_fn g; (with_reducible refine hq.out.mono ?_); rintro e w' ⟨rfl, hw⟩; obtain rfl := hw.symm; clear hw)
        go_roundg (l.length - (kk + 1))
        case measure => omega
        case rel =>
          refine ⟨kk + 1, by omega, by omega, by go_num, ⟨fun j hj => ?_⟩, rfl⟩
          by_cases e : j = kk
          · subst e; rw [← HF.out]; exact HPX.out
          · exact HN.out j (by omega)
    · have hltz : ¬ (kk : Int) < (l.length : Int) := by omega
      obtain rfl : kk = l.length := by omega
      go_wp2
      go_ret
      refine ⟨⟨_, rfl, ?_⟩, rfl⟩
      have : l.any p = false := by
        rw [List.any_eq_false]
        intro x hx
        obtain ⟨j, hj, rfl⟩ := List.getElem_of_mem hx
        have := HN.out j hj
        rw [List.getD_eq_getElem?_getD, List.getElem?_eq_getElem hj] at this
        simpa using this
      rw [this]; simp
end Go.Proofs.YtpnklpjjbpheeaaDoor
