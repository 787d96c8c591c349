/-
  The walks of awake and of the law FloatCalcs.
-/
import Derived.Test.YtpnklpjjbpheeaaGreatDoorQh
namespace Go.Proofs.YtpnklpjjbpheeaaGreatDoor.Flt
open Go.RowKit Go.Proofs.Fl

theorem drawn_of {w w' : World} (h : w' = w ∨ w' = w.drew) : ∃ n, w' = w.drewN n := by
  rcases h with rfl | rfl
  · exact ⟨0, rfl⟩
  · exact ⟨1, rfl⟩
end Go.Proofs.YtpnklpjjbpheeaaGreatDoor.Flt
