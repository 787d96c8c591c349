/-
  What an argument of functions reads as; the table of deBruijn, out of the row's list.
-/
import Derived.Test.YtpnklpjjbpheeaaGreatDoorBq
import Derived.Test.YtpnklpjjbpheeaaGreatDoorCards
import Derived.Test.YtpnklpjjbpheeaaGreatDoorTie
import Derived.WalkKit
import Derived.ProofKit
import Derived.OpenShut
import Derived.Carry
import Derived.Deep.Slices
import Derived.Deep.DeepHandedRow
import Derived.Lib.LaidTab
namespace Go.Proofs.YtpnklpjjbpheeaaGreatDoor
open Go.RowKit Go.ChangeShapes Go.WideShapes Go.ChangeAt Go.Proofs.YtpnklpjjbpheeaaGreatDoorW.PrintWords

theorem wf_words {l : List Int} (h : ∀ n ∈ l, (Lit.int .u64 n).wf = true) : Bm.Words l := by
  intro x hx
  have := h x hx
  simp [Lit.wf, IntKind.min, IntKind.max, IntKind.signed, IntKind.bits] at this
  omega
theorem wf_range {n : Int} (h : (Lit.int .i64 n).wf = true) : -9223372036854775808 ≤ n ∧ n ≤ 9223372036854775807 := by
  simp [Lit.wf, IntKind.min, IntKind.max, IntKind.signed, IntKind.bits] at h
  omega
theorem open_u64s {H : Type} {enc : TypeId × Value → H} {W : World} {base fuel : Nat} {spare : Nat → Bool} {held : Bool} {v : Value} {y : DataW H × List MemPlace} (h : DataW.trod enc Tryz.prog W base spare held fuel 54 [v] = some y) : ∃ A c l, v = .slice A l.length c ∧ l.length ≤ c ∧ ReadsInt W .u64 A l.length l ∧ Bm.Words l := by
  rcases open_ints Tryz.underlying54 Tryz.underlying44 (by kernel_rfl) h with ⟨hcs, _⟩ | ⟨x, len, c, zs, hcs, _, hl, hm, hz, _, hcell, hwz⟩
  · simp at hcs
    exact ⟨none, 0, [], hcs, by simp, ⟨rfl, by simp, fun h => by simp at h⟩, fun x hx => by simp at hx⟩
  · simp at hcs
    have hlen : (zs.take len).length = len := by rw [List.length_take, hz]; split <;> omega
    have hle : len ≤ zs.length := by rw [hz]; split <;> omega
    refine ⟨some x, c, zs.take len, by rw [hlen]; exact hcs, by omega, ⟨rfl, by rw [hlen]; simp [maxLen] at hm; omega, fun _ => ⟨x, rfl, fun j hj => ?_⟩⟩, wf_words (fun n hn => hwz n (List.mem_of_mem_take hn))⟩
    rw [hlen] at hj
    rw [hcell j (by omega)]
    congr 2
    rw [List.getD_eq_getElem?_getD, List.getD_eq_getElem?_getD, List.getElem?_take, if_pos hj]
instance : Inhabited (Int × List Int) := ⟨dF⟩
set_option maxRecDepth 100000 in
theorem open_fns {H : Type} {enc : TypeId × Value → H} {W : World} {base : Nat} {v : Value} {d : DataW H} {ps : List MemPlace} (hval : Value.okWide Tryz.prog W .any base 23 v) (h : DataW.Trod enc Tryz.prog W 0 (fun _ => true) true 23 v d ps) : ∃ A c l, v = .slice A l.length c ∧ FnC W A l.length l ∧ FnsIn l := by
  obtain ⟨A, n, c, rfl⟩ := okWide_slice Tryz.underlying23 hval
  obtain ⟨fuel, hf⟩ := h
  rcases Go.Deep.open_slice Tryz.underlying23 hf with ⟨hcs, _⟩ | ⟨a, len, cap, m, nn, D, Pl, hcs, hb, hl, hmax, hm, hx, hel⟩
  · simp [Value.cells] at hcs
    obtain ⟨rfl, rfl, rfl⟩ := hcs
    exact ⟨none, 0, [], rfl, ⟨rfl, by simp, fun h => by simp at h⟩, fun f hf => by simp at hf⟩
  · simp [Value.cells] at hcs
    obtain ⟨rfl, rfl, rfl⟩ := hcs
    have hC : Tryz.prog.cellsOf 56 = 2 := by kernel_rfl
    have each : ∀ i, i < n → ∃ p : Int × List Int, ∃ cs : List Value, cs.length = 2 ∧ FnR W p cs ∧ (∀ j u, cs[j]? = some u → W.cell? (a.add (i * 2 + j)) = some u) ∧ Bm.Words p.2 ∧ -9223372036854775808 ≤ p.1 ∧ p.1 ≤ 9223372036854775807 := by
      intro i hi
      obtain ⟨cs, hcs, htr⟩ := hel i (by rw [hm]; simp; omega)
      rw [hC] at hcs
      obtain ⟨y0, y1, q, _, hlen, h0, h1⟩ := trod_struct2 Tryz.underlying56 htr
      rw [hC] at hlen
      obtain ⟨u0, u1, rfl⟩ : ∃ u0 u1, cs = [u0, u1] := by
        match cs, hlen with
        | [u0, u1], _ => exact ⟨u0, u1, rfl⟩
      rw [show Tryz.prog.cellsOf 3 = 1 by kernel_rfl] at h0
      rw [show Tryz.prog.cellsOf 54 = 1 by kernel_rfl] at h1
      obtain ⟨s, hs, _, hwf⟩ := DataW.trod_int Tryz.underlying3 h0
      obtain ⟨A1, c1, l1, hv1, hc1, hr1, hw1⟩ := open_u64s h1
      have e0 : u0 = .int .i64 s := by simpa using hs
      have e1 : u1 = .slice A1 l1.length c1 := hv1
      subst e0
      subst e1
      refine ⟨(s, l1), _, rfl, ⟨A1, c1, rfl, hc1, hr1⟩, ?_, hw1, wf_range hwf⟩
      intro j u hj
      unfold World.cells? at hcs
      rw [if_pos (Nat.zero_le _)] at hcs
      have hj2 : j < 2 := by
        rcases Nat.lt_or_ge j 2 with h | h
        · exact h
        · rw [List.getElem?_eq_none (by simpa using h)] at hj; cases hj
      have := mapM_some_get hcs j j (by rw [List.getElem?_range hj2])
      rw [hj] at this
      rwa [Go.Deep.add_add] at this
    obtain ⟨F, hF⟩ := Go.Deep.choose_lt each
    have hlen : ((List.range n).map F).length = n := by simp
    refine ⟨some a, c, (List.range n).map F, by rw [hlen], ⟨rfl, by rw [hlen]; simp [maxLen] at hmax; omega, fun _ => ⟨a, rfl, fun j p hj => ?_⟩⟩, ?_⟩
    · rw [List.getElem?_map] at hj
      rcases Nat.lt_or_ge j n with h | h
      · rw [List.getElem?_range h] at hj
        obtain rfl : F j = p := by simpa using hj
        obtain ⟨cs, h1, h2, h3, _⟩ := hF j h
        exact ⟨cs, h1, h2, h3⟩
      · rw [List.getElem?_eq_none (by simpa using h)] at hj; cases hj
    · intro f hf
      obtain ⟨i, hi, rfl⟩ := List.mem_map.1 hf
      obtain ⟨_, _, _, _, h4⟩ := hF i (List.mem_range.1 hi)
      exact h4
end Go.Proofs.YtpnklpjjbpheeaaGreatDoor
