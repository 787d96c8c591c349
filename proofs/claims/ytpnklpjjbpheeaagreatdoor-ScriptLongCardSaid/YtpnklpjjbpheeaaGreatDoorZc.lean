/-
  The walk of script.step; conditions: the row of slots reads as told.
-/
import Derived.Test.YtpnklpjjbpheeaaGreatDoorZb
import Derived.Lib.ConvBytes
import Derived.Laws.BytesArg
import Derived.Laws.Rows
namespace Go.Proofs.YtpnklpjjbpheeaaGreatDoor
open Go.RowKit Go.Proofs.YtpnklpjjbpheeaaGreatDoorW.PrintWords
open Go.Proofs.Fl Go.Proofs.YtpnklpjjbpheeaaGreatDoor.Flt

def St.v (x : St) : Sl.Vl := (x.v0, (x.v1, (x.v2, x.v3)))
def plain7 (x : St) : Bool := !(([x.p, x.g, x.f, x.d, x.s, x.v2, x.v3] : List Int).any plN)
/-- nothing but the form's fields is set -/
def bareB (y : Sx) : Bool := !(decide (0 < y.n)) && decide (y.x.g + y.x.f + y.x.d + y.x.s = 0) && decide (y.x.o = 0) && (decide (y.x.v0 = 0) && decide (y.x.v1 = 0) && decide (y.x.v2 = 0) && decide (y.x.v3 = 0))
def lastB (x : St) (n : Nat) : Bool := if x.k = 8 then decide (x.v0 = 1) else if x.k = 9 then decide (n = 3) && decide (1 ≤ x.o) && decide (x.o ≤ 10) else true
def stepB (x : St) (A : Option Addr) (l : List Int) (c : Nat) : Bool := okK x.k && plain7 x && !(l.any plN) && Sl.mayVs [x.v] && bareB (bareOf (fK x.k) ⟨x, A, l.length, c⟩) && lastB x l.length
structure StIn (x : St) : Prop where
  k : 0 ≤ x.k ∧ x.k ≤ 255
  v : VlIn x.v
theorem fK_ascii (k : Int) : ∀ i (h : i < (fK k).size), ((fK k)[i]'h).toNat < 128 := by
  have key : ∀ j, j < 13 → ∀ b ∈ (fF j).data.toList, b.toNat < 128 := by decide +kernel
  intro i h
  rw [By.get_eq _ i h]
  have hm := List.getElem_mem (l := (fK k).data.toList) (n := i) (by simpa using h)
  generalize (fK k).data.toList[i]'(by simpa using h) = b at *
  unfold fK at hm
  split at hm
  · rename_i ho
    unfold okK at ho
    simp only [Bool.and_eq_true, decide_eq_true_eq] at ho
    exact key (k.toNat - 1) (by omega) b hm
  · cases hm
set_option maxRecDepth 100000 in
set_option maxHeartbeats 8000000 in
theorem step_no1 (x : St) (A : Option Addr) (n c : Nat) (w : World) (hx : StIn x) (ho : okK x.k = false) :
    Calls Tryz.prog 17 #[.agg (stCells x A n c)] w fun e w' => e = .returned (.bool false) ∧ Below w.heap.size w w' := by
  have HB0 := Lk.mk (below_alloc (Below.refl w.heap.size w) (.cells (stCells x A n c) 49))
  have HO := Lk.mk (fun W => sof_any x A n c W hx.k)
  rw [ho] at HO
  have HBX := Lk.mk (show BoxS (w.alloc (.cells (stCells x A n c) 49)) w.heap.size ⟨x, A, n, c⟩ from blk_new w _)
  clear ho hx
  generalize wK x.k = F0 at *
  generalize fK x.k = F1 at *
  obtain ⟨k0, p, g, f, d, s, v0, v1, v2, v3, o⟩ := x
  unfold stCells at *
  dsimp only at *
  go_enter Tryz.func17, Tryz.ntmps17
  go_wp2_with (go_at_call 31; (with_reducible refine (HO.out _).mono ?_); rintro e w1 ⟨rfl, hb⟩; have HB := Lk.mk (below_then HB0.out HB0.out.size hb); clear hb)
  go_ret
  exact ⟨rfl, below_alloc HB.out _⟩
end Go.Proofs.YtpnklpjjbpheeaaGreatDoor
