/-
  The walks of the reference's Great of scripts and of law 24's awake; conditions: the steps read as told, the tables stand.
-/
import Derived.Test.YtpnklpjjbpheeaaGreatDoorZr
import Derived.Test.YtpnklpjjbpheeaaGreatDoorZp
import Derived.Lib.ConvBytes
import Derived.Laws.BytesArg
import Derived.Laws.Rows
import Derived.Deep.RegionHeld3
namespace Go.Proofs.YtpnklpjjbpheeaaGreatDoor
open Go.RowKit Go.Proofs.YtpnklpjjbpheeaaGreatDoorW.PrintWords
open Go.Proofs.Fl Go.Proofs.YtpnklpjjbpheeaaGreatDoor.Flt

def greatS (l : List Tp) : Bool := l.any fun t => decide (10 < (tSl t).length)
def aSt : St := ⟨5, 0, 1, 0, 0, 2, 2, 0, 0, 1, 0⟩
theorem aSt_B : stepB aSt none [] 0 = true := by decide +kernel
theorem dec_lit (n : Nat) (h : n < 10) : dec n = ⟨#[UInt8.ofNat (48 + n)]⟩ := by unfold dec; rw [dec_small n h]
theorem aSt_L : lineS aSt [] = ⟨#[115, 101, 116, 32, 48, 32, 49, 32, 48, 32, 50, 32, 114, 101, 102, 32, 48, 32, 49]⟩ := by
  show joinW [⟨#[115, 101, 116]⟩, dec 0, dec 1, dec 0, dec 2, ⟨#[114, 101, 102]⟩, dec 0, dec 1] = _
  rw [joinW_cons, dec_lit 0 (by decide), dec_lit 1 (by decide), dec_lit 2 (by decide)]
  decide +kernel
set_option maxRecDepth 100000 in
set_option maxHeartbeats 8000000 in
theorem awake24_any (w : World) (hT : Tab w) (hP : P10 w) : Calls Tryz.prog 5 #[] w fun e w' => e = .returned (.bool true) ∧ Below w.heap.size w w' := by
  have HS := Lk.mk (fun W (hb : Below w.heap.size w W) => sLine_any aSt none 0 [] W ⟨by decide, by unfold aSt St.v VlIn; decide⟩ (by decide) (by decide) ⟨rfl, by simp, fun h => by simp at h⟩ (hT.below hb) (hP.below hb))
  rw [aSt_B, aSt_L] at HS
  unfold aSt stCells at HS
  dsimp only at HS
  simp only [if_true, List.length_nil] at HS
  have HB := Lk.mk (Below.refl w.heap.size w)
  clear hT hP
  go_enter Tryz.func5, Tryz.ntmps5
  go_wp2_with (go_at_call 9; go_loud ((with_reducible refine (HS.out _ HB.out).mono ?_); rintro e w' ⟨rfl, hb⟩; have HB := Lk.mk (below_then HB.out HB.out.size hb); clear hb))
  go_ret
  exact ⟨rfl, HB.out⟩
end Go.Proofs.YtpnklpjjbpheeaaGreatDoor
