/-
  The walks of drain's must, Roomy's deferred closure, and the two ways of Roomy that end early; conditions: the functions read as told.
-/
import Derived.Test.YtbikdngpannekaaDoorRd
import Derived.Defers
import Derived.Deep.RegionHeld3
namespace Go.Proofs.YtbikdngpannekaaDoor
open Go.RowKit Go.Proofs.YtbikdngpannekaaDoorW.PrintWords

/-- what drain throws -/
def tightC : List PanicEntry := [{ v := .iface 139 (.agg #[]), recovered := false }]
set_option maxRecDepth 100000 in
set_option maxHeartbeats 2000000 in
theorem dmust_ok (w : World) : Calls Tryd.prog 97 #[.bool true] w fun r w' => r = .returned (.tuple #[]) ∧ w' = w := by
  go_enter Tryd.func97, Tryd.ntmps97
  go_wp2
  simp [bodyPost, results, Tryd.results97]
set_option maxRecDepth 100000 in
set_option maxHeartbeats 2000000 in
theorem dmust_no (w : World) : Calls Tryd.prog 97 #[.bool false] w fun r w' => r = .panicked tightC ∧ w' = w := by
  go_enter Tryd.func97, Tryd.ntmps97
  go_wp2
  exact ⟨rfl, rfl, rfl⟩
set_option maxRecDepth 100000 in
set_option maxHeartbeats 2000000 in
theorem dlit_idle (p : Addr) (w : World) :
    CallsD Tryd.prog 96 #[.pointer (some p)] .returning w fun e u' w' => e = .returned (.tuple #[]) ∧ u' = .returning ∧ w' = w := by
  refine callsD_of_wpS Tryd.func96 rfl fun c₀ cs hu => ?_
  apply wpS_seq
  apply wpS_region
  simp [wpOpsS, go_sem, recoverD, hu, Tryd.ntmps96, Exit.thenS]
  refine wpS_of_wp ?_
  go_wp2
  cases c₀
  simp_all [bodyPostS, results, Tryd.results96]
set_option maxRecDepth 100000 in
set_option maxHeartbeats 2000000 in
theorem dlit_thrown (g : Nat) (x : Value) (w : World) (hc : w.cell? ⟨g, 0, none⟩ = some x) (hz : w.frozen? ⟨g, 0, none⟩ = false) :
    CallsD Tryd.prog 96 #[.pointer (some ⟨g, 0, none⟩)] (.panicking [{ v := .iface 139 (.agg #[]), recovered := false }]) w fun e u' w' => e = .returned (.tuple #[]) ∧ u' = .panicking [{ v := .iface 139 (.agg #[]), recovered := true }] ∧ w' = (w.setCell ⟨g, 0, none⟩ (.bool false)).alloc (.cells #[] 139) := by
  have hlt := World.block_lt_of_cell? w _ hc
  have hta : ∀ w : World, (Instr.typeAssert (.iface 139 (.agg #[])) 20 139 true).run Tryd.prog w = .ok (.tuple #[.agg #[], .bool true]) w := fun _ => by kernel_rfl
  refine callsD_of_wpS Tryd.func96 rfl fun c₀ cs hu => ?_
  apply wpS_seq
  apply wpS_region
  simp [wpOpsS, go_sem, recoverD, hu, Tryd.ntmps96, Exit.thenS]
  refine wpS_of_wp ?_
  go_wp2
  cases c₀
  simp_all [bodyPostS, results, Tryd.results96]
end Go.Proofs.YtbikdngpannekaaDoor
