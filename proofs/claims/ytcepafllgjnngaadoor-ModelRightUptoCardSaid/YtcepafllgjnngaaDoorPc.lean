/-
  The walks of the model's must, caught, has, ptr, fits; conditions: the row and the table read as told.
-/
import Derived.Test.YtcepafllgjnngaaDoorPa
import Derived.Test.YtcepafllgjnngaaDoorK1
import Derived.Test.YtcepafllgjnngaaDoorK2
import Derived.Defers
import Derived.Deep.RegionHeld3
namespace Go.Proofs.YtcepafllgjnngaaDoor
open Go.RowKit Go.Proofs.YtcepafllgjnngaaDoorW.PrintWords

/-- what the model throws -/
def wrongC (e : Int) : List PanicEntry := [{ v := .iface 205 (.agg #[.int .i64 e]), recovered := false }]
set_option maxRecDepth 100000 in
set_option maxHeartbeats 2000000 in
theorem mmust_ok (e : Int) (w : World) : Calls Tryd.prog 112 #[.bool true, .int .i64 e] w fun r w' => r = .returned (.tuple #[]) ∧ w' = w := by
  go_enter Tryd.func112, Tryd.ntmps112
  go_wp2
  simp [bodyPost, results, Tryd.results112]
set_option maxRecDepth 100000 in
set_option maxHeartbeats 2000000 in
theorem mmust_no (e : Int) (w : World) : Calls Tryd.prog 112 #[.bool false, .int .i64 e] w fun r w' => r = .panicked (wrongC e) ∧ w' = w := by
  go_enter Tryd.func112, Tryd.ntmps112
  go_wp2
  exact ⟨rfl, rfl, rfl⟩
set_option maxRecDepth 100000 in
set_option maxHeartbeats 2000000 in
theorem mcaught_idle (p : Addr) (w : World) :
    CallsD Tryd.prog 153 #[.pointer (some p)] .returning w fun e u' w' => e = .returned (.tuple #[]) ∧ u' = .returning ∧ w' = w := by
  refine callsD_of_wpS Tryd.func153 rfl fun c₀ cs hu => ?_
  apply wpS_seq
  apply wpS_region
  simp [wpOpsS, go_sem, recoverD, hu, Tryd.ntmps153, Exit.thenS]
  refine wpS_of_wp ?_
  go_wp2
  cases c₀
  simp_all [bodyPostS, results, Tryd.results153]
set_option maxRecDepth 100000 in
set_option maxHeartbeats 2000000 in
theorem mcaught_thrown (g : Nat) (x : Value) (n : Int) (w : World) (hc : w.cell? ⟨g, 0, none⟩ = some x) (hz : w.frozen? ⟨g, 0, none⟩ = false) :
    CallsD Tryd.prog 153 #[.pointer (some ⟨g, 0, none⟩)] (.panicking [{ v := .iface 205 (.agg #[.int .i64 n]), recovered := false }]) w fun e u' w' => e = .returned (.tuple #[]) ∧ u' = .panicking [{ v := .iface 205 (.agg #[.int .i64 n]), recovered := true }] ∧ w' = (w.alloc (.cells #[.int .i64 n] 205)).setCell ⟨g, 0, none⟩ (.int .i64 n) := by
  have hlt := World.block_lt_of_cell? w _ hc
  have hta : ∀ w : World, (Instr.typeAssert (.iface 205 (.agg #[.int .i64 n])) 20 205 true).run Tryd.prog w = .ok (.tuple #[.agg #[.int .i64 n], .bool true]) w := fun _ => by kernel_rfl
  have hcd := pw_cell_below (below_alloc (Below.refl _ _) (.cells #[.int .i64 n] 205)) hc
  have hzd : (w.alloc (.cells #[.int .i64 n] 205)).frozen? ⟨g, 0, none⟩ = false := by
    rw [← hz]
    have hb := (below_alloc (Below.refl w.heap.size w) (.cells #[.int .i64 n] 205)).block g hlt
    simp only [World.frozen?, hb]
  refine callsD_of_wpS Tryd.func153 rfl fun c₀ cs hu => ?_
  apply wpS_seq
  apply wpS_region
  simp [wpOpsS, go_sem, recoverD, hu, Tryd.ntmps153, Exit.thenS]
  refine wpS_of_wp ?_
  go_wp2
  cases c₀
  simp_all [bodyPostS, results, Tryd.results153]
def hasA (l : List Af) (d s : Int) : Bool := decide (0 ≤ d) && decide (d < l.length) && decide (0 ≤ s) && decide (s < (l.getD d.toNat dAf).2.length)
/-- the error's number of a value in a slot that is there -/
def fitsN (ptr : Int → Int → Bool) (l : List Af) (d s : Int) (v : Sl.Vl) : Int :=
  if Sl.mayV v = true then (if ptr (l.getD d.toNat dAf).1 s = !(decide (v.1 = 1)) then (if v.1 = 2 then (if hasA l v.2.2.1 v.2.2.2 = true then (if v.2.2.1 ≤ d then 0 else 7) else 2) else 0) else 5) else 1
set_option maxRecDepth 100000 in
set_option maxHeartbeats 2000000 in
theorem mhas_any (p : Value) (A : Option Addr) (c : Nat) (l : List Af) (d s : Int) (w : World) (hr : kAf.C w A l.length l) :
    Calls Tryd.prog 117 #[.agg #[p, .slice A l.length c], .int .i64 d, .int .i64 s] w fun e w' => e = .returned (.bool (hasA l d s)) ∧ Below w.heap.size w w' := by
  have hm := hr.2.1
  have H0 := Lk.mk (below_alloc (Below.refl w.heap.size w) (.cells #[p, .slice A l.length c] 179))
  have HX := Lk.mk (blk_new w (.cells #[p, .slice A l.length c] 179))
  have k1 := (blk_cell HX.out 1)
  simp only [List.getElem?_toArray, List.getElem?_cons_zero, List.getElem?_cons_succ] at k1
  have H := Lk.mk (show hasA l d s = (decide (0 ≤ d) && decide (d < l.length) && decide (0 ≤ s) && decide (s < (l.getD d.toNat dAf).2.length)) from rfl)
  generalize hasA l d s = r at *
  by_cases h0 : 0 ≤ d
  · obtain ⟨k, rfl⟩ := Int.eq_ofNat_of_zero_le h0
    rw [Int.toNat_natCast] at H
    by_cases h1 : (k : Int) < (l.length : Int)
    · by_cases h2 : 0 ≤ s
      · obtain ⟨ad, A1, c1, rfl, a0, a1, _, _⟩ := kAf_at hr k (by omega)
        have a1d := pw_cell_below H0.out a1
        clear hr a0 a1
        generalize l.getD k dAf = f at *
        go_enter Tryd.func117, Tryd.ntmps117
        go_wp2
        go_ret
        exact ⟨ret_bool (by rw [H.out, decide_eq_true h0, decide_eq_true h1, decide_eq_true h2]; rfl), H0.out⟩
      · clear hr
        go_enter Tryd.func117, Tryd.ntmps117
        go_wp2
        go_ret
        exact ⟨ret_bool (by rw [H.out, decide_eq_false (show ¬ 0 ≤ s by omega)]; simp), H0.out⟩
    · clear hr
      go_enter Tryd.func117, Tryd.ntmps117
      go_wp2
      go_ret
      exact ⟨ret_bool (by rw [H.out, decide_eq_false (show ¬ (k : Int) < (l.length : Int) by omega)]; simp), H0.out⟩
  · clear hr
    go_enter Tryd.func117, Tryd.ntmps117
    go_wp2
    go_ret
    exact ⟨ret_bool (by rw [H.out, decide_eq_false (show ¬ 0 ≤ d by omega)]; rfl), H0.out⟩
set_option maxRecDepth 100000 in
set_option maxHeartbeats 2000000 in
theorem mptr_any (p : Value) (ent : List (Int × (List Int × List Int))) (A : Option Addr) (c : Nat) (l : List Af) (k : Nat) (s : Int) (w : World) (ht : TblOr w p ent) (hw : ∀ e ∈ ent, Bm.Words e.2.1) (hr : kAf.C w A l.length l) (hk : k < l.length) (hs : s ≤ 9223372036854775807) :
    Calls Tryd.prog 124 #[.agg #[p, .slice A l.length c], .int .i64 k, .int .i64 s] w fun e w' => e = .returned (.bool (tPtr ent (l.getD k dAf).1 s)) ∧ Below w.heap.size w w' := by
  have hm := hr.2.1
  have H0 := Lk.mk (below_drew (below_alloc (Below.refl w.heap.size w) (.cells #[p, .slice A l.length c] 179)))
  have HX := Lk.mk (blk_drew (blk_new w (.cells #[p, .slice A l.length c] 179)))
  have k0 := (blk_cell HX.out 0)
  have k1 := (blk_cell HX.out 1)
  simp only [List.getElem?_toArray, List.getElem?_cons_zero, List.getElem?_cons_succ] at k0 k1
  obtain ⟨ad, A1, c1, rfl, a0, a1, _, _⟩ := kAf_at hr k hk
  have a0d := pw_cell_below H0.out a0
  have HP := Lk.mk (ptr_any p ent (l.getD k dAf).1 s _ (ht.below H0.out) hw hs)
  have hkz : (k : Int) < (l.length : Int) := by omega
  clear hr a0 a1 ht hw
  generalize l.getD k dAf = f at *
  go_enter Tryd.func124, Tryd.ntmps124
  go_wp2
  go_region_held3 (fun W => W.cell? ⟨w.heap.size, 0, none⟩ = some p ∧ W.cell? ⟨w.heap.size, 1, none⟩ = some (.slice (some ad) l.length c) ∧ W.cell? (ad.add (k * 2)) = some (.int .i64 f.1)) (first | exact ⟨k0, k1, a0d⟩ | exact ⟨pw_cell_below hb k0, pw_cell_below hb k1, pw_cell_below hb a0d⟩) (first
    | (go_at_call 47; (with_reducible refine (HP.out).mono ?_); rintro e w' ⟨rfl, hb⟩))
  go_wp2
  go_ret
  exact ⟨rfl, below_then H0.out H0.out.size hb⟩
end Go.Proofs.YtcepafllgjnngaaDoor
