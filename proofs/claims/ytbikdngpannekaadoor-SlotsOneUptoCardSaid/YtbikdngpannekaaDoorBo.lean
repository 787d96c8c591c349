/-
  The walk of the layer's awake; Fns of nil; what a table tells is what the reference tells.
-/
import Derived.Test.YtbikdngpannekaaDoorBl
import Derived.Test.YtbikdngpannekaaDoorBn
namespace Go.Proofs.YtbikdngpannekaaDoor
open Go.RowKit Go.Proofs.YtbikdngpannekaaDoorW.PrintWords

theorem TblAt.or {w : World} {p : Value} {ent : List (Int × (List Int × List Int))} (h : TblAt w p ent) : TblOr w p ent := Or.inr h
def lA : List (Int × List Int) := [(3, [2])]
theorem lA_ok : newOk lA = true := by decide +kernel
theorem lA_words : FnsOk lA := by
  intro f hf
  obtain rfl : f = (3, [2]) := by simpa [lA] using hf
  refine ⟨fun x hx => ?_, by decide, by decide, by decide⟩
  obtain rfl : x = 2 := by simpa using hx
  decide
theorem tA : tPtr (lA.map entryOf) 0 1 = true ∧ tPtr (lA.map entryOf) 0 0 = false ∧ tWords (lA.map entryOf) 0 = 5 := by decide +kernel
theorem entry_words {l : List (Int × List Int)} {e : Int × (List Int × List Int)} (h : e ∈ l.map entryOf) : Bm.Words e.2.1 := by
  obtain ⟨f, _, rfl⟩ := List.mem_map.1 h
  exact Bm.ofL_words _
theorem fnC_one {w : World} {ad : Addr} {s : Int} {A1 : Option Addr} {c1 : Nat} {m : List Int} (h0 : w.cell? (ad.add 0) = some (.int .i64 s)) (h1 : w.cell? (ad.add 1) = some (.slice A1 m.length c1)) (hc : m.length ≤ c1) (hr : ReadsInt w .u64 A1 m.length m) : FnC w (some ad) 1 [(s, m)] := by
  refine ⟨rfl, by decide, fun _ => ⟨ad, rfl, fun j p hj => ?_⟩⟩
  cases j with
  | zero =>
    obtain rfl : p = (s, m) := by simpa using hj.symm
    refine ⟨[.int .i64 s, .slice A1 m.length c1], rfl, ⟨A1, c1, rfl, hc, hr⟩, fun i u hu => ?_⟩
    cases i with
    | zero => obtain rfl : u = _ := by simpa using hu.symm
              simpa using h0
    | succ i => cases i with
      | zero => obtain rfl : u = _ := by simpa using hu.symm
                simpa using h1
      | succ i => simp at hu
  | succ j => simp at hj

end Go.Proofs.YtbikdngpannekaaDoor
