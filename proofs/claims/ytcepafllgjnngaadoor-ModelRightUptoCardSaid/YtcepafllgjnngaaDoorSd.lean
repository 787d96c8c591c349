/-
  What an injection's check finds; the walks of must and of the deferred closure; conditions: none.
-/
import Derived.Test.YtcepafllgjnngaaDoorSb
import Derived.Test.YtcepafllgjnngaaDoorMs
import Derived.Test.YtcepafllgjnngaaDoorTa
import Derived.Defers
import Derived.Laws.Rows
namespace Go.Proofs.YtcepafllgjnngaaDoor
open Go.RowKit Go.Proofs.YtcepafllgjnngaaDoorW.PrintWords

def okFn (F : List Sl.Fr) (sz : Int → Int) (l : List Af) (d : Nat) : Prop := (F.getD d Sl.dFr).2.1 = (l.getD d dAf).1 ∧ sz (l.getD d dAf).1 = (l.getD d dAf).2.length
def okSl (gv : Int → Int → Sl.Vl × Int) (l : List Af) (d i : Nat) : Prop := gv d i = ((l.getD d dAf).2.getD i Sl.dVl, 0)
/-- what is found of frames F (with the error's number er), of a row l -/
def ChkP (F : List Sl.Fr) (er : Int) (sz : Int → Int) (gv : Int → Int → Sl.Vl × Int) (l : List Af) (r : Int × (Int × Int)) : Prop :=
  (¬ (er = 0 ∧ F.length = l.length) ∧ r = (3, (0, 0))) ∨
  ((er = 0 ∧ F.length = l.length) ∧ ∃ d : Nat, d < l.length ∧ (∀ j, j < d → okFn F sz l j) ∧ ¬ okFn F sz l d ∧ r = (4, ((d : Int), 0))) ∨
  ((er = 0 ∧ F.length = l.length) ∧ (∀ j, j < l.length → okFn F sz l j) ∧ ∃ d i : Nat, d < l.length ∧ i < (l.getD d dAf).2.length ∧ (∀ j k, k < (l.getD j dAf).2.length → j < d ∨ j = d ∧ k < i → okSl gv l j k) ∧ ¬ okSl gv l d i ∧ r = (5, ((d : Int), (i : Int)))) ∨
  ((er = 0 ∧ F.length = l.length) ∧ (∀ j, j < l.length → okFn F sz l j) ∧ (∀ j k, j < l.length → k < (l.getD j dAf).2.length → okSl gv l j k) ∧ r = (0, (0, 0)))
theorem ChkP.uniq {F : List Sl.Fr} {er : Int} {sz : Int → Int} {gv : Int → Int → Sl.Vl × Int} {l : List Af} {r q : Int × (Int × Int)} (h : ChkP F er sz gv l r) (k : ChkP F er sz gv l q) : r = q := by
  rcases h with ⟨h0, rfl⟩ | ⟨h0, d, hd, h1, h2, rfl⟩ | ⟨h0, h1, d, i, hd, hi, h2, h3, rfl⟩ | ⟨h0, h1, h2, rfl⟩ <;>
    rcases k with ⟨k0, rfl⟩ | ⟨k0, d', kd, k1, k2, rfl⟩ | ⟨k0, k1, d', i', kd, ki, k2, k3, rfl⟩ | ⟨k0, k1, k2, rfl⟩
  · rfl
  · exact absurd k0 h0
  · exact absurd k0 h0
  · exact absurd k0 h0
  · exact absurd h0 k0
  · rcases Nat.lt_trichotomy d d' with e | e | e
    · exact absurd (k1 d e) h2
    · subst e; rfl
    · exact absurd (h1 d' e) k2
  · exact absurd (k1 d hd) h2
  · exact absurd (k1 d hd) h2
  · exact absurd h0 k0
  · exact absurd (h1 d' kd) k2
  · rcases Nat.lt_trichotomy d d' with e | e | e
    · exact absurd (k2 d i hi (.inl e)) h3
    · subst e
      rcases Nat.lt_trichotomy i i' with e | e | e
      · exact absurd (k2 d i hi (.inr ⟨rfl, e⟩)) h3
      · subst e; rfl
      · exact absurd (h2 d i' ki (.inr ⟨rfl, e⟩)) k3
    · exact absurd (h2 d' i' ki (.inl e)) k3
  · exact absurd (k2 d i hd hi) h3
  · exact absurd h0 k0
  · exact absurd (h1 d' kd) k2
  · exact absurd (h2 d' i' kd ki) k3
  · rfl
theorem ChkP.err {F : List Sl.Fr} {er : Int} {sz : Int → Int} {gv : Int → Int → Sl.Vl × Int} {l : List Af} (h : ¬ er = 0) : ChkP F er sz gv l (3, (0, 0)) := .inl ⟨fun k => h k.1, rfl⟩
theorem ChkP.len {F : List Sl.Fr} {er : Int} {sz : Int → Int} {gv : Int → Int → Sl.Vl × Int} {l : List Af} (h : ¬ F.length = l.length) : ChkP F er sz gv l (3, (0, 0)) := .inl ⟨fun k => h k.2, rfl⟩
theorem ChkP.fn {F : List Sl.Fr} {sz : Int → Int} {gv : Int → Int → Sl.Vl × Int} {l : List Af} (h : F.length = l.length) {d : Nat} (hd : d < l.length) (h1 : ∀ j, j < d → okFn F sz l j) (h2 : ¬ okFn F sz l d) : ChkP F 0 sz gv l (4, ((d : Int), 0)) := .inr (.inl ⟨⟨rfl, h⟩, d, hd, h1, h2, rfl⟩)
theorem ChkP.sl {F : List Sl.Fr} {sz : Int → Int} {gv : Int → Int → Sl.Vl × Int} {l : List Af} (h : F.length = l.length) (h0 : ∀ j, j < l.length → okFn F sz l j) {d i : Nat} (hd : d < l.length) (hi : i < (l.getD d dAf).2.length) (h1 : ∀ j k, k < (l.getD j dAf).2.length → j < d ∨ j = d ∧ k < i → okSl gv l j k) (h2 : ¬ okSl gv l d i) : ChkP F 0 sz gv l (5, ((d : Int), (i : Int))) := .inr (.inr (.inl ⟨⟨rfl, h⟩, h0, d, i, hd, hi, h1, h2, rfl⟩))
theorem ChkP.all_ {F : List Sl.Fr} {sz : Int → Int} {gv : Int → Int → Sl.Vl × Int} {l : List Af} (h : F.length = l.length) (h0 : ∀ j, j < l.length → okFn F sz l j) (h1 : ∀ j k, j < l.length → k < (l.getD j dAf).2.length → okSl gv l j k) : ChkP F 0 sz gv l (0, (0, 0)) := .inr (.inr (.inr ⟨⟨rfl, h⟩, h0, h1, rfl⟩))
def foundC (k d s : Int) : List PanicEntry := [{ v := .iface 119 (.agg #[.int .u8 k, .int .i64 0, .int .i64 d, .int .i64 s]), recovered := false }]
set_option maxRecDepth 100000 in
set_option maxHeartbeats 2000000 in
theorem imust_ok (k d s : Int) (w : World) : Calls Tryd.prog 62 #[.bool true, .int .u8 k, .int .i64 d, .int .i64 s] w fun r w' => r = .returned (.tuple #[]) ∧ w' = w := by
  go_enter Tryd.func62, Tryd.ntmps62
  go_wp2
  simp [bodyPost, results, Tryd.results62]
set_option maxRecDepth 100000 in
set_option maxHeartbeats 2000000 in
theorem imust_no (k d s : Int) (w : World) : Calls Tryd.prog 62 #[.bool false, .int .u8 k, .int .i64 d, .int .i64 s] w fun r w' => r = .panicked (foundC k d s) ∧ w' = w := by
  go_enter Tryd.func62, Tryd.ntmps62
  go_wp2
  exact ⟨rfl, rfl, rfl⟩
set_option maxRecDepth 100000 in
set_option maxHeartbeats 2000000 in
theorem chk1_idle (p : Addr) (w : World) :
    CallsD Tryd.prog 61 #[.pointer (some p)] .returning w fun e u' w' => e = .returned (.tuple #[]) ∧ u' = .returning ∧ w' = w := by
  refine callsD_of_wpS Tryd.func61 rfl fun c₀ cs hu => ?_
  apply wpS_seq
  apply wpS_region
  simp [wpOpsS, go_sem, recoverD, hu, Tryd.ntmps61, Exit.thenS]
  refine wpS_of_wp ?_
  go_wp2
  cases c₀
  simp_all [bodyPostS, results, Tryd.results61]
/-- a finding's box -/
def fO (k d s : Int) : Obj := .cells #[.int .u8 k, .int .i64 0, .int .i64 d, .int .i64 s] 51
def fO2 (k d s : Int) : Obj := .cells #[.int .u8 k, .int .i64 0, .int .i64 d, .int .i64 s] 119
set_option maxRecDepth 100000 in
set_option maxHeartbeats 2000000 in
theorem chk1_thrown (g : Nat) (k d s : Int) (w : World) (h : w.heap[g]? = some (.cells #[.int .u8 0, .int .i64 0, .int .i64 0, .int .i64 0] 51 (0, 0))) :
    CallsD Tryd.prog 61 #[.pointer (some ⟨g, 0, none⟩)] (.panicking [{ v := .iface 119 (.agg #[.int .u8 k, .int .i64 0, .int .i64 d, .int .i64 s]), recovered := false }]) w fun e u' w' => e = .returned (.tuple #[]) ∧ u' = .panicking [{ v := .iface 119 (.agg #[.int .u8 k, .int .i64 0, .int .i64 d, .int .i64 s]), recovered := true }] ∧ w' = ((((w.alloc (.cells #[.int .u8 k, .int .i64 0, .int .i64 d, .int .i64 s] 119)).setCell ⟨g, 0, none⟩ (.int .u8 k)).setCell ⟨g, 1, none⟩ (.int .i64 0)).setCell ⟨g, 2, none⟩ (.int .i64 d)).setCell ⟨g, 3, none⟩ (.int .i64 s) := by
  have hta : ∀ w : World, (Instr.typeAssert (.iface 119 (.agg #[.int .u8 k, .int .i64 0, .int .i64 d, .int .i64 s])) 20 119 true).run Tryd.prog w = .ok (.tuple #[.agg #[.int .u8 k, .int .i64 0, .int .i64 d, .int .i64 s], .bool true]) w := fun _ => by kernel_rfl
  obtain ⟨c0, c1, c2, c3, z0, z1, z2, z3⟩ := cells4z (blk_alloc h (.cells #[.int .u8 k, .int .i64 0, .int .i64 d, .int .i64 s] 119))
  obtain ⟨n0, n1, n2, n3, _, _, _, _⟩ := cells4z (blk_new w (.cells #[.int .u8 k, .int .i64 0, .int .i64 d, .int .i64 s] 119))
  clear h
  refine callsD_of_wpS Tryd.func61 rfl fun c₀ cs hu => ?_
  apply wpS_seq
  apply wpS_region
  simp [wpOpsS, go_sem, recoverD, hu, Tryd.ntmps61, Exit.thenS]
  refine wpS_of_wp ?_
  go_wp2
  cases c₀
  simp_all [bodyPostS, results, Tryd.results61]
/-- Check's way out: what its named result holds -/
theorem chk_out {W : World} {g : Nat} {k d s : Int} {tmps : Array Value} {R : Ending → World → Prop} {u : FrameMode} (hu : u = .returning) (hE : W.heap[g]? = some (.cells #[.int .u8 k, .int .i64 0, .int .i64 d, .int .i64 s] 51 (0, 0))) (ht : tmps.getD 8 undef = .pointer (some ⟨g, 0, none⟩)) (hR : R (.returned (.agg #[.int .u8 k, .int .i64 0, .int .i64 d, .int .i64 s])) W) :
    Leaves Tryd.prog Tryd.f23 tmps R [] u W := by
  subst hu
  exact ⟨_, results_cell_row Tryd.results23 tmps W g 51 #[.int .u8 k, .int .i64 0, .int .i64 d, .int .i64 s] (0, 0) _ ht hE Tryd.underlying51 rfl (by kernel_rfl), hR⟩
end Go.Proofs.YtcepafllgjnngaaDoor
