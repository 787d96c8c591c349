/-
  Plain: frames' slots: sizes, addresses, and which slot has an address.
-/
namespace Sl

/-- a frame: its address, its function, its link -/
abbrev Fr := Int × (Int × Int)
def dFr : Fr := (0, (0, 0))
/-- how many slots a frame has; sz: how many its function has -/
def sizeS (sz : Int → Int) (x : Fr) : Int := if x.1 < 0 ∨ 1099511627776 < x.1 then 0 else max 0 (sz x.2.1)
def addrOk (sz : Int → Int) (l : List Fr) (d s : Int) : Bool := decide (0 ≤ d) && decide (d < l.length) && decide (0 ≤ s) && decide (s < sizeS sz (l.getD d.toNat dFr))
def addr (sz : Int → Int) (l : List Fr) (d s : Int) : Int := if addrOk sz l d s = true then (l.getD d.toNat dFr).1 + 2 + s else -1
def hit (sz : Int → Int) (a : Int) (x : Fr) : Bool := decide (0 ≤ x.1) && decide (x.1 ≤ 1099511627776) && decide (x.1 + 2 ≤ a) && decide (a - x.1 - 2 < sz x.2.1)
def findAt (sz : Int → Int) (l : List Fr) (a : Int) : Option Nat := l.findIdx? (hit sz a)
def findD (sz : Int → Int) (l : List Fr) (a : Int) : Int := match findAt sz l a with | some d => (d : Int) | none => 0
def findI (sz : Int → Int) (l : List Fr) (a : Int) : Int := match findAt sz l a with | some d => a - (l.getD d dFr).1 - 2 | none => 0
def findB (sz : Int → Int) (l : List Fr) (a : Int) : Bool := match findAt sz l a with | some _ => true | none => false

theorem findAt_some {sz : Int → Int} {l : List Fr} {a : Int} {k : Nat} (h : k < l.length) (hn : ∀ j, j < k → hit sz a (l.getD j dFr) = false) (hk : hit sz a (l.getD k dFr) = true) : findAt sz l a = some k := by
  unfold findAt
  rw [List.findIdx?_eq_some_iff_getElem]
  refine ⟨h, ?_, fun j hj => ?_⟩
  · rwa [List.getD_eq_getElem?_getD, List.getElem?_eq_getElem h] at hk
  · have := hn j hj
    rw [List.getD_eq_getElem?_getD, List.getElem?_eq_getElem (Nat.lt_trans hj h)] at this
    simpa using this
theorem findAt_none {sz : Int → Int} {l : List Fr} {a : Int} (hn : ∀ j, j < l.length → hit sz a (l.getD j dFr) = false) : findAt sz l a = none := by
  unfold findAt
  rw [List.findIdx?_eq_none_iff]
  intro x hx
  obtain ⟨j, hj, rfl⟩ := List.getElem_of_mem hx
  have := hn j hj
  rwa [List.getD_eq_getElem?_getD, List.getElem?_eq_getElem hj] at this
theorem find_yes {sz : Int → Int} {l : List Fr} {a : Int} {k : Nat} (h : findAt sz l a = some k) : findD sz l a = k ∧ findI sz l a = a - (l.getD k dFr).1 - 2 ∧ findB sz l a = true := by
  unfold findD findI findB; rw [h]; exact ⟨rfl, rfl, rfl⟩
theorem find_no {sz : Int → Int} {l : List Fr} {a : Int} (h : findAt sz l a = none) : findD sz l a = 0 ∧ findI sz l a = 0 ∧ findB sz l a = false := by
  unfold findD findI findB; rw [h]; exact ⟨rfl, rfl, rfl⟩

/-- a value: its kind, bits, depth, slot -/
abbrev Vl := Int × (Int × (Int × Int))
def dVl : Vl := (0, (0, (0, 0)))
/-- may a value be -/
def mayV (v : Vl) : Bool :=
  if v.1 = 0 then decide (v.2.1 = 0) && decide (v.2.2.1 = 0) && decide (v.2.2.2 = 0)
  else if v.1 = 1 then decide (v.2.2.1 = 0) && decide (v.2.2.2 = 0)
  else if v.1 = 2 then decide (v.2.1 = 0) && decide (0 ≤ v.2.2.1) && decide (0 ≤ v.2.2.2)
  else false
theorem mayV_iff (v : Vl) : mayV v = true ↔ (v.1 = 0 ∧ v.2.1 = 0 ∧ v.2.2.1 = 0 ∧ v.2.2.2 = 0) ∨ (v.1 = 1 ∧ v.2.2.1 = 0 ∧ v.2.2.2 = 0) ∨ (v.1 = 2 ∧ v.2.1 = 0 ∧ 0 ≤ v.2.2.1 ∧ 0 ≤ v.2.2.2) := by
  unfold mayV
  by_cases h0 : v.1 = 0
  · rw [if_pos h0]; simp only [Bool.and_eq_true, decide_eq_true_eq]; omega
  · rw [if_neg h0]
    by_cases h1 : v.1 = 1
    · rw [if_pos h1]; simp only [Bool.and_eq_true, decide_eq_true_eq]; omega
    · rw [if_neg h1]
      by_cases h2 : v.1 = 2
      · rw [if_pos h2]; simp only [Bool.and_eq_true, decide_eq_true_eq]; omega
      · rw [if_neg h2]; simp only [Bool.false_eq_true, false_iff]; omega
def mayVs (l : List Vl) : Bool := !(l.any fun v => !(mayV v))
end Sl
