/-
  The walk of the arena's Load, and of slots.Get; conditions: what is handed in reads as told.
-/
import Derived.Test.YtcepafllgjnngaaDoorK2
import Derived.Deep.RegionHeld3
namespace Go.Proofs.YtcepafllgjnngaaDoor
open Go.RowKit Go.Proofs.YtcepafllgjnngaaDoorW.PrintWords

set_option maxRecDepth 100000 in
set_option maxHeartbeats 2000000 in
theorem load_bad (g b : Nat) (ws : List Int) (at_ : Int) (w : World) (h : ArB w g b ws) (hi : inL ws.length at_ 1 = false) :
    Calls Tryd.prog 39 #[.pointer (some ⟨g, 0, none⟩), .int .i64 at_] w fun e w' => e = .returned (.tuple #[.int .u64 0, .int .i64 2]) ∧ Below w.heap.size w w' := by
  have h0 : Below w.heap.size w (w.alloc (.cells #[.int .i64 0] 30)) := below_alloc (Below.refl _ _) _
  have HP := Lk.mk (part_bad g b ws at_ 1 _ (h.below h0) hi)
  have HB := Lk.mk (below_alloc (h0.setCell (p := ⟨w.heap.size, 0, none⟩) (Nat.le_refl _) (.int .i64 2)) (.cells #[] 165))
  have HE := Lk.mk (blk_new w (.cells #[.int .i64 0] 30))
  clear h hi h0
  go_enter_defers Tryd.func39, Tryd.ntmps39
  go_wp2_with (go_at_call 60; (with_reducible refine (HP.out).mono ?_); rintro e w' ⟨rfl, rfl⟩)
  refine leaves_cons (f := 59) (args := #[.pointer (some ⟨w.heap.size, 0, none⟩)]) (by simp) (by simp [go_sem]) ?_
  refine (caught_thrown w.heap.size 0 _ ?_ ?_).mono ?_
  · rw [blk_cell HE.out 0]; rfl
  · exact blk_frozen HE.out 0
  rintro e u' w'' ⟨rfl, rfl, rfl⟩
  have hcE2 := blk_cell (blk_alloc (blk_put (cs' := #[.int .i64 2]) HE.out 0 (.int .i64 2) rfl) (.cells #[] 165)) 0
  simp only [List.getElem?_toArray, List.getElem?_cons_zero] at hcE2
  simp [Leaves, settle, results, Tryd.results39, go_sem]
  exact below_alloc (below_alloc (Below.refl _ _) _) _
set_option maxRecDepth 100000 in
set_option maxHeartbeats 2000000 in
theorem load_ok (g b : Nat) (ws : List Int) (at_ : Nat) (w : World) (h : ArB w g b ws) (hi : at_ < ws.length) :
    Calls Tryd.prog 39 #[.pointer (some ⟨g, 0, none⟩), .int .i64 at_] w fun e w' => e = .returned (.tuple #[.int .u64 (ws.getD at_ 0), .int .i64 0]) ∧ Below w.heap.size w w' := by
  have h0 : Below w.heap.size w (w.alloc (.cells #[.int .i64 0] 30)) := below_alloc (Below.refl _ _) _
  have HA := h.below h0
  have hc := HA.at_ at_ hi
  have hp := part_some g b ws at_ 1 _ HA (by omega) (by omega)
  rw [show ((1 : Nat) : Int) = 1 from rfl] at hp
  have HP := Lk.mk hp
  have HE := Lk.mk (blk_new w (.cells #[.int .i64 0] 30))
  have H0 := Lk.mk h0
  have hlt : (0 : Int) < (1 : Int) := by decide
  generalize ws.getD at_ 0 = x at *
  clear h HA h0 hp
  go_enter_defers Tryd.func39, Tryd.ntmps39
  go_wp2_with (go_at_call 60; (with_reducible refine (HP.out).mono ?_); rintro e w' ⟨rfl, rfl⟩)
  have hcE := blk_cell HE.out 0
  simp only [List.getElem?_toArray, List.getElem?_cons_zero] at hcE
  refine leaves_cons (f := 59) (args := #[.pointer (some ⟨w.heap.size, 0, none⟩)]) (by simp) (by simp [go_sem]) ?_
  refine (caught_idle _ _).mono ?_
  rintro e u' w'' ⟨rfl, rfl, rfl⟩
  simp [Leaves, settle, results, Tryd.results39, go_sem]
  first | exact H0.out | (rw [hcE]; exact ⟨_, rfl, rfl, H0.out⟩)
end Go.Proofs.YtcepafllgjnngaaDoor
