/-
  The walk of move.To where a stack can't be moved; conditions: what is handed in reads as told.
-/
import Derived.Test.YtcepafllgjnngaaDoorVa
import Derived.Test.YtcepafllgjnngaaDoorV8
import Derived.Test.YtcepafllgjnngaaDoorV6
import Derived.Test.YtcepafllgjnngaaDoorK4
import Derived.Test.YtcepafllgjnngaaDoorMr
import Derived.Test.YtcepafllgjnngaaDoorSe
namespace Go.Proofs.YtcepafllgjnngaaDoor
open Go.RowKit Go.Proofs.YtcepafllgjnngaaDoorW.PrintWords

theorem kFr_any9 {w : World} {g n : Nat} {e : TypeId} {arr : Array Value} {l : List Sl.Fr} (hA : w.heap[g]? = some (.cells arr e (0, 0))) (hn : l.length = n) (hm : n ≤ 1000000) (h : ∀ k, k < n → arr[k * 3]? = some (.int .i64 (l.getD k Sl.dFr).1) ∧ arr[k * 3 + 1]? = some (.int .i64 (l.getD k Sl.dFr).2.1) ∧ arr[k * 3 + 2]? = some (.int .i64 (l.getD k Sl.dFr).2.2)) : kFr.C w (some ⟨g, 0, none⟩) n l := by
  refine ⟨hn, by omega, fun _ => ⟨⟨g, 0, none⟩, rfl, fun j p hj => ?_⟩⟩
  have hjl : j < l.length := (List.getElem?_eq_some_iff.1 hj).1
  have hp : l.getD j Sl.dFr = p := by rw [List.getD_eq_getElem?_getD, hj]; rfl
  obtain ⟨a0, a1, a2⟩ := h j (by omega)
  rw [hp] at a0 a1 a2
  obtain ⟨x, f, k⟩ := p
  refine ⟨[.int .i64 x, .int .i64 f, .int .i64 k], rfl, ⟨[_], [_, _], rfl, rfl, [_], [_], rfl, rfl, rfl⟩, fun i u hu => ?_⟩
  have ha : ∀ q, (⟨g, 0, none⟩ : Addr).add q = ⟨g, q, none⟩ := by intro q; unfold Addr.add; split <;> simp_all
  rw [ha, blk_cell hA]
  cases i with
  | zero => obtain rfl : u = _ := by simpa using hu.symm
            exact a0
  | succ i => cases i with
    | zero => obtain rfl : u = _ := by simpa using hu.symm
              exact a1
    | succ i => cases i with
      | zero => obtain rfl : u = _ := by simpa using hu.symm
                exact a2
      | succ i => simp at hu
theorem below_dn {B : Nat} {W W' : World} (h : Below W.heap.size W W') (hB : B ≤ W.heap.size) : Below B W W' := ⟨h.os, h.tape, h.output, by have := h.size; omega, fun k hk => h.block k (by omega)⟩
def tO (a b c : Int) : Obj := .cells #[.int .i64 a, .int .i64 b, .int .i64 c] 41
theorem small_of {N : Nat} {x : Int × (Int × Int)} (hN : N ≤ 65536) (h : mayS N x = true) : Small x ∧ x.2.2 ≤ x.1 + x.2.1 := by
  obtain ⟨lo, size, sp, rfl, m1, m2, m3⟩ := mayS_nat h
  unfold mayS at h
  simp only [Bool.and_eq_true] at h
  have hz := h.1.1.1
  rw [szB_all] at hz
  unfold szB at hz
  simp only [Bool.and_eq_true, decide_eq_true_eq] at hz
  refine ⟨⟨?_, ?_, ?_, ?_, ?_, ?_⟩, ?_⟩ <;> dsimp only <;> omega
set_option maxRecDepth 100000 in
set_option maxHeartbeats 2000000 in
theorem to1_thrown (g h : Nat) (n : Int) (w : World) (hg : w.heap[g]? = some (.cells #[.int .i64 0, .int .i64 0, .int .i64 0] 41 (0, 0))) (e0 : Int) (hh : w.heap[h]? = some (.cells #[.int .i64 e0] 30 (0, 0))) (hne : g ≠ h) :
    CallsD Tryd.prog 82 #[.pointer (some ⟨g, 0, none⟩), .pointer (some ⟨h, 0, none⟩)] (.panicking [{ v := .iface 145 (.agg #[.int .i64 n]), recovered := false }]) w fun e u' w' => e = .returned (.tuple #[]) ∧ u' = .panicking [{ v := .iface 145 (.agg #[.int .i64 n]), recovered := true }] ∧ w'.heap[g]? = some (.cells #[.int .i64 0, .int .i64 0, .int .i64 0] 41 (0, 0)) ∧ w'.heap[h]? = some (.cells #[.int .i64 n] 30 (0, 0)) ∧ ∀ B, B ≤ g → B ≤ h → B ≤ w.heap.size → Below B w w' := by
  have hta : ∀ w : World, (Instr.typeAssert (.iface 145 (.agg #[.int .i64 n])) 20 145 true).run Tryd.prog w = .ok (.tuple #[.agg #[.int .i64 n], .bool true]) w := fun _ => by kernel_rfl
  have HG := Lk.mk (blk_drew (blk_alloc hg (.cells #[.int .i64 n] 145)))
  have HH := Lk.mk (blk_drew (blk_alloc hh (.cells #[.int .i64 n] 145)))
  have HB := Lk.mk (fun B (hB : B ≤ w.heap.size) => below_dn (below_drew (below_alloc (Below.refl w.heap.size w) (.cells #[.int .i64 n] 145))) hB)
  obtain ⟨c0, c1, c2, z0, z1, z2⟩ := cells3 HG.out
  have d0 := blk_cell HH.out 0
  have dz := blk_frozen HH.out 0
  simp only [List.getElem?_toArray, List.getElem?_cons_zero] at d0
  obtain ⟨a0, a1, a2, b0, b1, b2⟩ := cells3 (blk_alloc hg (.cells #[.int .i64 n] 145))
  have q0 := blk_cell (blk_alloc hh (.cells #[.int .i64 n] 145)) 0
  have qz := blk_frozen (blk_alloc hh (.cells #[.int .i64 n] 145)) 0
  simp only [List.getElem?_toArray, List.getElem?_cons_zero] at q0
  have n0 := blk_cell (blk_new w (.cells #[.int .i64 n] 145)) 0
  have n1 := blk_cell (blk_drew (blk_new w (.cells #[.int .i64 n] 145))) 0
  simp only [List.getElem?_toArray, List.getElem?_cons_zero] at n0 n1
  have hX1 := set3 (blk_alloc hg (.cells #[.int .i64 n] 145)) (.int .i64 0) (.int .i64 0) (.int .i64 0)
  have hH1 : ((((w.alloc (.cells #[.int .i64 n] 145)).setCell ⟨g, 0, none⟩ (.int .i64 0)).setCell ⟨g, 1, none⟩ (.int .i64 0)).setCell ⟨g, 2, none⟩ (.int .i64 0)).heap[h]? = some (.cells #[.int .i64 e0] 30 (0, 0)) := by
    rw [Below.heap_setCell _ _ _ _ (show h ≠ g from fun e => hne e.symm), Below.heap_setCell _ _ _ _ (show h ≠ g from fun e => hne e.symm), Below.heap_setCell _ _ _ _ (show h ≠ g from fun e => hne e.symm)]
    exact blk_alloc hh _
  have HF := Lk.mk (And.intro (blk_drew ((Below.heap_setCell _ ⟨h, 0, none⟩ (.int .i64 n) g hne).trans hX1)) (And.intro (blk_drew (blk_put (cs' := #[.int .i64 n]) hH1 0 (.int .i64 n) rfl)) (fun B (h1 : B ≤ g) (h2 : B ≤ h) (h3 : B ≤ w.heap.size) => below_drew (((((below_dn (below_alloc (Below.refl w.heap.size w) (.cells #[.int .i64 n] 145)) h3).setCell (p := ⟨g, 0, none⟩) h1 (.int .i64 0)).setCell (p := ⟨g, 1, none⟩) h1 (.int .i64 0)).setCell (p := ⟨g, 2, none⟩) h1 (.int .i64 0)).setCell (p := ⟨h, 0, none⟩) h2 (.int .i64 n)))))
  have hlt := blk_lt hg
  have hgs : ¬ g = w.heap.size := by omega
  have hgs2 : ¬ w.heap.size = g := by omega
  have hne2 : ¬ h = g := fun e => hne e.symm
  have HNE := Lk.mk hne
  clear hg hh hlt hX1 hH1
  refine callsD_of_wpS Tryd.func82 rfl fun c₀ cs hu => ?_
  apply wpS_seq
  apply wpS_region
  simp [wpOpsS, go_sem, recoverD, hu, Tryd.ntmps82, Exit.thenS]
  refine wpS_of_wp ?_
  go_wp2
  go_region
  all_goals
    go_wp2
    cases c₀
    simp_all [bodyPostS, results, Tryd.results82]
    exact HF.out
end Go.Proofs.YtcepafllgjnngaaDoor
