/-
  The walks of ContainsFunc at steps and of script.Step; conditions: the steps read as told.
-/
import Derived.Test.YtpnklpjjbpheeaaGreatDoorZi
import Derived.Lib.ConvBytes
import Derived.Laws.BytesArg
import Derived.Laws.Rows
import Derived.Deep.RegionHeld3
namespace Go.Proofs.YtpnklpjjbpheeaaGreatDoor
open Go.RowKit Go.Proofs.YtpnklpjjbpheeaaGreatDoorW.PrintWords
open Go.Proofs.Fl Go.Proofs.YtpnklpjjbpheeaaGreatDoor.Flt

/-- a step may be (its row's place plays no part) -/
theorem zero_ABc (c : UInt8) (y z : Sx) (hx : y.x = z.x) (hn : y.n = z.n) : (zero y c).x = (zero z c).x ∧ (zero y c).n = (zero z c).n := by
  obtain ⟨x, A, n, q⟩ := y
  obtain ⟨x', A', n', q'⟩ := z
  dsimp only at hx hn
  subst hx
  subst hn
  unfold zero
  repeat' split
  all_goals exact ⟨rfl, rfl⟩
theorem fold_ABc : ∀ (l : List UInt8) (y z : Sx), y.x = z.x → y.n = z.n → (l.foldl zero y).x = (l.foldl zero z).x ∧ (l.foldl zero y).n = (l.foldl zero z).n
  | [], _, _, hx, hn => ⟨hx, hn⟩
  | c :: l, y, z, hx, hn => fold_ABc l (zero y c) (zero z c) (zero_ABc c y z hx hn).1 (zero_ABc c y z hx hn).2
def stepM (x : St) (l : List Int) : Bool := stepB x none l 0
theorem stepB_M (x : St) (A : Option Addr) (c : Nat) (l : List Int) : stepB x A l c = stepM x l := by
  unfold stepM stepB bareB bareOf
  obtain ⟨h1, h2⟩ := fold_ABc (fK x.k).data.toList { x := { x with k := 0, p := 0 }, A := A, n := l.length, c := c } { x := { x with k := 0, p := 0 }, A := none, n := l.length, c := 0 } rfl rfl
  dsimp only
  rw [h1, h2]
structure TpIn (t : Tp) : Prop where
  i : StIn (tSt t)
  o : 0 ≤ (tSt t).o ∧ (tSt t).o ≤ 255
def stepT (t : Tp) : Bool := stepM (tSt t) (tSl t)
end Go.Proofs.YtpnklpjjbpheeaaGreatDoor
