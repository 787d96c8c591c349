/-
  The walks of the library's Equal at values and EqualFunc at frames, of model.Same, of the reference's Same and Great; conditions: what is handed in reads as told.
-/
import Derived.Test.YtcepafllgjnngaaDoorPa
import Derived.Test.YtcepafllgjnngaaDoorK1
import Derived.Deep.RegionHeld3
namespace Go.Proofs.YtcepafllgjnngaaDoor
open Go.RowKit Go.Proofs.YtcepafllgjnngaaDoorW.PrintWords

theorem af_eq (x y : Af) : decide (x = y) = (decide (x.1 = y.1) && decide (x.2 = y.2)) := by
  obtain ⟨a, b⟩ := x
  obtain ⟨c, d⟩ := y
  rw [Bool.eq_iff_iff]
  simp
def great19L (l : List Af) : Bool := decide (30 < l.length) || l.any fun f => decide (100 < f.2.length)
theorem great19_in {l : List Af} (h : great19L l = false) : l.length ≤ 30 ∧ ∀ f ∈ l, f.2.length ≤ 100 := by
  unfold great19L at h
  simp only [Bool.or_eq_false_iff, List.any_eq_false, decide_eq_false_iff_not, decide_eq_true_eq] at h
  exact ⟨by omega, fun f hf => by have := h.2 f hf; omega⟩
set_option maxRecDepth 100000 in
set_option maxHeartbeats 2000000 in
theorem great19_any (A : Option Addr) (c : Nat) (l : List Af) (w : World) (hr : kAf.C w A l.length l) :
    Calls Tryd.prog 19 #[.slice A l.length c] w fun e w' => e = .returned (.bool (great19L l)) ∧ w' = w := by
  have HR := Lk.mk hr
  have hm := hr.2.1
  clear hr
  by_cases h30 : 30 < l.length
  · have hz : (30 : Int) < (l.length : Int) := by omega
    have H := Lk.mk (show great19L l = true by unfold great19L; rw [decide_eq_true h30]; rfl)
    generalize great19L l = r at *
    go_enter Tryd.func19, Tryd.ntmps19
    go_wp2
    go_ret
    exact ⟨ret_bool (by rw [H.out]), rfl⟩
  · have hz : ¬ (30 : Int) < (l.length : Int) := by omega
    have HH := Lk.mk h30
    go_enter Tryd.func19, Tryd.ntmps19
    go_wp2
    go_loopg [9] l.length (fun gg v9 wr => ∃ k : Nat, k ≤ l.length ∧ l.length - k ≤ gg ∧ v9 = .int .i64 k ∧ Lk (∀ j, j < k → ¬ 100 < (l.getD j dAf).2.length) ∧ wr = w)
    case atStart => exact ⟨0, by omega, by omega, rfl, ⟨fun j hj => absurd hj (by omega)⟩, rfl⟩
    case round =>
      obtain ⟨k, hk, hg, rfl, HE, rfl⟩ := hrel
      by_cases hlt : k < l.length
      · have hltz : (k : Int) < (l.length : Int) := by omega
        obtain ⟨ad, A1, c1, rfl, hcell0, hcell1, hc1, _⟩ := kAf_at HR.out k hlt
        obtain ⟨f, hf⟩ : ∃ f, f = l.getD k dAf := ⟨_, rfl⟩
        rw [← hf] at hcell0 hcell1 hc1
        have HM := Lk.mk (show f ∈ l by rw [hf]; exact getD_mem _ hlt)
        have HF := Lk.mk hf
        clear hf
        by_cases h40 : 100 < f.2.length
        · have hz40 : (100 : Int) < (f.2.length : Int) := by omega
          have H := Lk.mk (show great19L l = true by unfold great19L; rw [List.any_eq_true.2 ⟨f, HM.out, decide_eq_true h40⟩, Bool.or_true])
          go_wp2
          go_ret
          exact ⟨ret_bool H.out.symm, rfl⟩
        · have hz40 : ¬ (100 : Int) < (f.2.length : Int) := by omega
          have H4 := Lk.mk h40
          go_wp2
          go_roundg (l.length - (k + 1))
          case measure => omega
          case rel =>
            refine ⟨k + 1, by omega, by omega, by go_num, ⟨fun j hj => ?_⟩, rfl⟩
            by_cases e : j = k
            · subst e; rw [← HF.out]; exact H4.out
            · exact HE.out j (by omega)
      · have hltz : ¬ (k : Int) < (l.length : Int) := by omega
        obtain rfl : k = l.length := by omega
        have H := Lk.mk (show great19L l = false by
          unfold great19L
          rw [decide_eq_false HH.out, Bool.false_or, List.any_eq_false]
          intro x hx
          obtain ⟨j, hj, rfl⟩ := List.getElem_of_mem hx
          have := HE.out j hj
          rw [List.getD_eq_getElem?_getD, List.getElem?_eq_getElem hj] at this
          simpa using this)
        go_wp2
        go_ret
        exact ⟨ret_bool H.out.symm, rfl⟩
end Go.Proofs.YtcepafllgjnngaaDoor
