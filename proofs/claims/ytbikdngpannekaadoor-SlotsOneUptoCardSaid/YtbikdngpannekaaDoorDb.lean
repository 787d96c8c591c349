/-
  The arena's caught, as a deferred call of a frame that returns and of one that panics; part; conditions: the arena reads as told.
-/
import Derived.Test.YtbikdngpannekaaDoorDa
import Derived.Defers
namespace Go.Proofs.YtbikdngpannekaaDoor
open Go.RowKit Go.Proofs.YtbikdngpannekaaDoorW.PrintWords

set_option maxRecDepth 100000 in
set_option maxHeartbeats 2000000 in
theorem caught_idle (p : Addr) (w : World) :
    CallsD Tryd.prog 79 #[.pointer (some p)] .returning w fun e u' w' => e = .returned (.tuple #[]) ∧ u' = .returning ∧ w' = w := by
  refine callsD_of_wpS Tryd.func79 rfl fun c₀ cs hu => ?_
  apply wpS_seq
  apply wpS_region
  simp [wpOpsS, go_sem, recoverD, hu, Tryd.ntmps79, Exit.thenS]
  refine wpS_of_wp ?_
  go_wp2
  cases c₀
  simp_all [bodyPostS, results, Tryd.results79]
set_option maxRecDepth 100000 in
set_option maxHeartbeats 2000000 in
theorem caught_thrown (g : Nat) (x : Int) (w : World) (hc : w.cell? ⟨g, 0, none⟩ = some (.int .i64 x)) (hz : w.frozen? ⟨g, 0, none⟩ = false) :
    CallsD Tryd.prog 79 #[.pointer (some ⟨g, 0, none⟩)] (.panicking [{ v := .iface 164 (.agg #[]), recovered := false }]) w fun e u' w' => e = .returned (.tuple #[]) ∧ u' = .panicking [{ v := .iface 164 (.agg #[]), recovered := true }] ∧ w' = (w.setCell ⟨g, 0, none⟩ (.int .i64 2)).alloc (.cells #[] 164) := by
  have hlt := World.block_lt_of_cell? w _ hc
  have hta : ∀ w : World, (Instr.typeAssert (.iface 164 (.agg #[])) 20 164 true).run Tryd.prog w = .ok (.tuple #[.agg #[], .bool true]) w := fun _ => by kernel_rfl
  refine callsD_of_wpS Tryd.func79 rfl fun c₀ cs hu => ?_
  apply wpS_seq
  apply wpS_region
  simp [wpOpsS, go_sem, recoverD, hu, Tryd.ntmps79, Exit.thenS]
  refine wpS_of_wp ?_
  go_wp2
  cases c₀
  simp_all [bodyPostS, results, Tryd.results79]
/-- what part throws -/
def outChain : List PanicEntry := [{ v := .iface 164 (.agg #[]), recovered := false }]
set_option maxRecDepth 100000 in
set_option maxHeartbeats 2000000 in
theorem part_bad (g b : Nat) (ws : List Int) (at_ n : Int) (w : World) (h : ArB w g b ws) (hi : inL ws.length at_ n = false) :
    Calls Tryd.prog 81 #[.pointer (some ⟨g, 0, none⟩), .int .i64 at_, .int .i64 n] w fun e w' => e = .panicked outChain ∧ w = w' := by
  have HI := Lk.mk (hi ▸ ain_any g b ws at_ n w h)
  clear h hi
  go_enter Tryd.func81, Tryd.ntmps81
  go_wp2_with (go_at_call 75; (with_reducible refine (HI.out).mono ?_); rintro e w' ⟨rfl, rfl⟩)
  exact ⟨rfl, rfl, rfl⟩
set_option maxRecDepth 100000 in
set_option maxHeartbeats 2000000 in
theorem part_none (g b : Nat) (ws : List Int) (at_ : Int) (w : World) (h : ArB w g b ws) (hi : inL ws.length at_ 0 = true) :
    Calls Tryd.prog 81 #[.pointer (some ⟨g, 0, none⟩), .int .i64 at_, .int .i64 0] w fun e w' => e = .returned (.slice none 0 0) ∧ w = w' := by
  have HI := Lk.mk (hi ▸ ain_any g b ws at_ 0 w h)
  clear h hi
  go_enter Tryd.func81, Tryd.ntmps81
  go_wp2_with (go_at_call 75; (with_reducible refine (HI.out).mono ?_); rintro e w' ⟨rfl, rfl⟩)
  go_ret
  exact ⟨rfl, rfl⟩
set_option maxRecDepth 100000 in
set_option maxHeartbeats 2000000 in
theorem part_some (g b : Nat) (ws : List Int) (at_ n : Nat) (w : World) (h : ArB w g b ws) (hi : at_ + n ≤ ws.length) (hn : 0 < n) :
    Calls Tryd.prog 81 #[.pointer (some ⟨g, 0, none⟩), .int .i64 at_, .int .i64 n] w fun e w' => e = .returned (.slice (some ⟨b, at_, none⟩) n (ws.length - at_)) ∧ w = w' := by
  have hin : inL ws.length at_ n = true := by unfold inL; simp only [Bool.and_eq_true, decide_eq_true_eq]; omega
  have HI := Lk.mk (hin ▸ ain_any g b ws at_ n w h)
  have hc := h.head_
  have hl := h.len
  have hnz : ((n : Int) == 0) = false := by simp; omega
  clear h hin
  go_enter Tryd.func81, Tryd.ntmps81
  go_wp2_with (go_at_call 75; (with_reducible refine (HI.out).mono ?_); rintro e w' ⟨rfl, rfl⟩)
  go_ret
  exact ⟨by rw [← show at_ + n - at_ = n by omega]; simp, rfl⟩
theorem ArB.part {w : World} {g b : Nat} {ws : List Int} (h : ArB w g b ws) (at_ n : Nat) (hi : at_ + n ≤ ws.length) : ReadsInt w .u64 (some ⟨b, at_, none⟩) ((ws.drop at_).take n).length ((ws.drop at_).take n) := by
  have hl := h.len
  have e : ((ws.drop at_).take n).length = n := by rw [List.length_take, List.length_drop]; omega
  refine ⟨rfl, by omega, fun _ => ⟨_, rfl, fun j hj => ?_⟩⟩
  have ha : (⟨b, at_, none⟩ : Addr).add j = ⟨b, at_ + j, none⟩ := by unfold Addr.add; split <;> simp_all
  rw [ha, h.at_ (at_ + j) (by omega)]
  congr 2
  rw [List.getD_eq_getElem?_getD, List.getD_eq_getElem?_getD, List.getElem?_take, if_pos (by omega), List.getElem?_drop]
set_option maxRecDepth 100000 in
set_option maxHeartbeats 2000000 in
theorem row_ok (g b : Nat) (ws : List Int) (at_ n : Nat) (w : World) (h : ArB w g b ws) (hi : at_ + n ≤ ws.length) :
    Calls Tryd.prog 32 #[.pointer (some ⟨g, 0, none⟩), .int .i64 at_, .int .i64 n] w fun e w' => ∃ v, e = .returned (.tuple #[v, .int .i64 0]) ∧ w'.ownsRow w.heap.size 25 1 v ((ws.drop at_).take n).length (nums .u64 ((ws.drop at_).take n)) ∧ Below w.heap.size w w' := by
  have h0 : Below w.heap.size w (w.alloc (.cells #[.int .i64 0] 33)) := below_alloc (Below.refl _ _) _
  have hl := h.len
  have H0 := Lk.mk h0
  have HA := Lk.mk (h.below h0)
  by_cases hn : n = 0
  · subst hn
    have HP := Lk.mk (part_none g b ws at_ _ HA.out (by unfold inL; simp only [Bool.and_eq_true, decide_eq_true_eq]; omega))
    have HC := Lk.mk (clone64 none 0 [] (w.alloc (.cells #[.int .i64 0] 33)) ⟨rfl, by simp, fun h => by simp at h⟩ (by simp))
    rw [show ([] : List Int).length = 0 from rfl] at HC
    rw [List.take_zero, show ([] : List Int).length = 0 from rfl]
    clear h h0
    go_enter_defers Tryd.func32, Tryd.ntmps32
    go_wp2_with (first | (go_at_call 81; (with_reducible refine (HP.out).mono ?_); rintro e w' ⟨rfl, rfl⟩) | (go_at_call 80; (with_reducible refine (HC.out).mono ?_); rintro e w1 ⟨v, rfl, ho, hb⟩; have HO := Lk.mk ho; have HB := Lk.mk hb; have hE := blk_below (blk_new w (.cells #[.int .i64 0] 33)) hb; have hcE := blk_cell hE 0; have hzE := blk_frozen hE 0; have HE := Lk.mk hE; simp only [List.getElem?_toArray, List.getElem?_cons_zero] at hcE; clear ho hb hE))
    have hv := own_setCell (own_weaken HO.out (show w.heap.size ≤ _ from H0.out.size)) (p := ⟨w.heap.size, 0, none⟩) (fun e => by have := own_base HO.out w.heap.size e.symm; simp at this; omega) (.int .i64 0)
    have HV := Lk.mk hv
    clear hv
    refine leaves_cons (f := 79) (args := #[.pointer (some ⟨w.heap.size, 0, none⟩)]) (by simp) (by simp [go_sem]) ?_
    refine (caught_idle _ _).mono ?_
    rintro e u' w'' ⟨rfl, rfl, rfl⟩
    have hcE2 := blk_cell (blk_put (cs' := #[.int .i64 0]) HE.out 0 (.int .i64 0) rfl) 0
    simp only [List.getElem?_toArray, List.getElem?_cons_zero] at hcE2
    simp [Leaves, settle, results, Tryd.results32, go_sem]
    rw [hcE2]
    exact ⟨_, rfl, _, rfl, HV.out, (below_then H0.out H0.out.size HB.out).setCell (p := ⟨w.heap.size, 0, none⟩) (Nat.le_refl _) _⟩
  · have HP := Lk.mk (part_some g b ws at_ n _ HA.out hi (by omega))
    have hlen : ((ws.drop at_).take n).length = n := by rw [List.length_take, List.length_drop]; omega
    have hq := clone64 (some ⟨b, at_, none⟩) (ws.length - at_) ((ws.drop at_).take n) (w.alloc (.cells #[.int .i64 0] 33)) (HA.out.part at_ n hi) (by omega)
    rw [hlen] at hq
    have HC := Lk.mk hq
    rw [hlen]
    clear h h0 hq
    go_enter_defers Tryd.func32, Tryd.ntmps32
    go_wp2_with (first | (go_at_call 81; (with_reducible refine (HP.out).mono ?_); rintro e w' ⟨rfl, rfl⟩) | (go_at_call 80; (with_reducible refine (HC.out).mono ?_); rintro e w1 ⟨v, rfl, ho, hb⟩; have HO := Lk.mk ho; have HB := Lk.mk hb; have hE := blk_below (blk_new w (.cells #[.int .i64 0] 33)) hb; have hcE := blk_cell hE 0; have hzE := blk_frozen hE 0; have HE := Lk.mk hE; simp only [List.getElem?_toArray, List.getElem?_cons_zero] at hcE; clear ho hb hE))
    have hv := own_setCell (own_weaken HO.out (show w.heap.size ≤ _ from H0.out.size)) (p := ⟨w.heap.size, 0, none⟩) (fun e => by have := own_base HO.out w.heap.size e.symm; simp at this; omega) (.int .i64 0)
    have HV := Lk.mk hv
    clear hv
    refine leaves_cons (f := 79) (args := #[.pointer (some ⟨w.heap.size, 0, none⟩)]) (by simp) (by simp [go_sem]) ?_
    refine (caught_idle _ _).mono ?_
    rintro e u' w'' ⟨rfl, rfl, rfl⟩
    have hcE2 := blk_cell (blk_put (cs' := #[.int .i64 0]) HE.out 0 (.int .i64 0) rfl) 0
    simp only [List.getElem?_toArray, List.getElem?_cons_zero] at hcE2
    simp [Leaves, settle, results, Tryd.results32, go_sem]
    rw [hcE2]
    exact ⟨_, rfl, _, rfl, HV.out, (below_then H0.out H0.out.size HB.out).setCell (p := ⟨w.heap.size, 0, none⟩) (Nat.le_refl _) _⟩
set_option maxRecDepth 100000 in
set_option maxHeartbeats 2000000 in
theorem row_bad (g b : Nat) (ws : List Int) (at_ n : Int) (w : World) (h : ArB w g b ws) (hi : inL ws.length at_ n = false) :
    Calls Tryd.prog 32 #[.pointer (some ⟨g, 0, none⟩), .int .i64 at_, .int .i64 n] w fun e w' => e = .returned (.tuple #[.slice none 0 0, .int .i64 2]) ∧ Below w.heap.size w w' := by
  have h0 : Below w.heap.size w (w.alloc (.cells #[.int .i64 0] 33)) := below_alloc (Below.refl _ _) _
  have HP := Lk.mk (part_bad g b ws at_ n _ (h.below h0) hi)
  have HB := Lk.mk (below_alloc (h0.setCell (p := ⟨w.heap.size, 0, none⟩) (Nat.le_refl _) (.int .i64 2)) (.cells #[] 164))
  have HE := Lk.mk (blk_new w (.cells #[.int .i64 0] 33))
  clear h hi h0
  go_enter_defers Tryd.func32, Tryd.ntmps32
  go_wp2_with (go_at_call 81; (with_reducible refine (HP.out).mono ?_); rintro e w' ⟨rfl, rfl⟩)
  refine leaves_cons (f := 79) (args := #[.pointer (some ⟨w.heap.size, 0, none⟩)]) (by simp) (by simp [go_sem]) ?_
  refine (caught_thrown w.heap.size 0 _ ?_ ?_).mono ?_
  · rw [blk_cell HE.out 0]; rfl
  · exact blk_frozen HE.out 0
  rintro e u' w'' ⟨rfl, rfl, rfl⟩
  have hcE2 := blk_cell (blk_alloc (blk_put (cs' := #[.int .i64 2]) HE.out 0 (.int .i64 2) rfl) (.cells #[] 164)) 0
  simp only [List.getElem?_toArray, List.getElem?_cons_zero] at hcE2
  simp [Leaves, settle, results, Tryd.results32, go_sem]
  exact below_alloc (below_alloc (Below.refl _ _) _) _
end Go.Proofs.YtbikdngpannekaaDoor
