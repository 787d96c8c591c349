/-
  The walk of the sort's symMerge at parts; conditions: the row's block is its own, both halves are sorted.
-/
import Derived.Test.YtcepafllgjnngaaJe
import Derived.Test.YtcepafllgjnngaaJc
import Derived.Deep.RegionHeld3
namespace Go.Proofs.Ytcepafllgjnngaa
open Go.RowKit Go.Proofs.YtcepafllgjnngaaW.PrintWords
open So

/-- what a merge leaves -/
def Mrg (g N a b : Nat) (q : Nat → Q) (w : World) (e : Ending) (w' : World) : Prop := e = .returned (.tuple #[]) ∧ KeepW g w w' ∧ ∃ r, Par w' g N r ∧ Sw a b q r ∧ Srt r a b
theorem mid2_of (a b m s h n : Nat) (hb : a + b + m ≤ 4000000) (hs : s = a + b) (hh : h = s / 2) (hn : n = h + m) (h1 : 0 < n) : IntKind.i64.wrap ((a : Int) + (b : Int)) = (s : Int) ∧ IntKind.u64.wrap (s : Int) = (s : Int) ∧ IntKind.i64.wrap ((s : Int) / 2) = (h : Int) ∧ RowKit.wrap64 ((s : Int) / 2) = (h : Int) ∧ IntKind.i64.wrap ((h : Int) + (m : Int)) = (n : Int) ∧ IntKind.i64.wrap ((n : Int) - 1) = ((n - 1 : Nat) : Int) :=
  ⟨(IntWalk.i64_in _ (by omega)).trans (by omega), IntWalk.u64_in _ (by omega), (IntWalk.i64_in _ (by omega)).trans (by omega), (IntWalk.wrap64_in _ (by omega)).trans (by omega), (IntWalk.i64_in _ (by omega)).trans (by omega), (IntWalk.i64_in _ (by omega)).trans (by omega)⟩
theorem sub_of (x y d : Nat) (h : x = y + d) (hx : x ≤ 4000000) : IntKind.i64.wrap ((x : Int) - (y : Int)) = (d : Int) := (IntWalk.i64_in _ (by omega)).trans (by omega)
/-- behind the search: the turn and both halves' merges -/
structure SymR (g N c a b : Nat) : Prop where
  rot : ∀ (q : Nat → Q) (a m b : Nat) (W : World), Par W g N q → a < m → m < b → b ≤ N → Calls Try.prog 50 #[.slice (some ⟨g, 0, none⟩) N c, .int .i64 a, .int .i64 m, .int .i64 b, .func (.func 27) #[] #[]] W fun e w' => e = .returned (.tuple #[]) ∧ KeepW g W w' ∧ Par w' g N (Rot q a m b)
  rec_ : ∀ (q : Nat → Q) (a' m' b' : Nat) (W : World), Par W g N q → a' < m' → m' < b' → b' ≤ N → b' - a' < b - a → Srt q a' m' → Srt q m' b' → Calls Try.prog 49 #[.slice (some ⟨g, 0, none⟩) N c, .int .i64 a', .int .i64 m', .int .i64 b', .func (.func 27) #[] #[]] W (Mrg g N a' b' q W)
end Go.Proofs.Ytcepafllgjnngaa
