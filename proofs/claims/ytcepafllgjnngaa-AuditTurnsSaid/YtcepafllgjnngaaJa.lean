/-
  Rows of parts in a block of their own, what a swap leaves, and what compares two parts; conditions: none.
-/
import Derived.Test.YtcepafllgjnngaaK2
import Derived.Test.YtcepafllgjnngaaJ1
import Derived.Deep.RegionHeld3
namespace Go.Proofs.Ytcepafllgjnngaa
open Go.RowKit Go.Proofs.YtcepafllgjnngaaW.PrintWords
open So

def PaA (arr : Array Value) (N : Nat) (q : Nat → Q) : Prop := ∀ k, k < N → arr[k * 4]? = some (.int .u8 (q k).1) ∧ arr[k * 4 + 1]? = some (.int .i64 (q k).2.1) ∧ arr[k * 4 + 2]? = some (.int .i64 (q k).2.2.1) ∧ arr[k * 4 + 3]? = some (.int .i64 (q k).2.2.2)
theorem PaA.put {arr : Array Value} {N : Nat} {q : Nat → Q} (h : PaA arr N q) (i : Nat) (hi : i < N) (x : Q) :
    PaA ((((arr.setIfInBounds (i * 4) (.int .u8 x.1)).setIfInBounds (i * 4 + 1) (.int .i64 x.2.1)).setIfInBounds (i * 4 + 2) (.int .i64 x.2.2.1)).setIfInBounds (i * 4 + 3) (.int .i64 x.2.2.2)) N (fun p => if p = i then x else q p) := by
  have hsz : i * 4 + 3 < arr.size := by
    obtain ⟨h2, _⟩ := Array.getElem?_eq_some_iff.1 (h i hi).2.2.2
    exact h2
  intro k hk
  have hk3 := h k hk
  by_cases e1 : k = i
  · subst e1
    simp only [Array.getElem?_setIfInBounds, Array.size_setIfInBounds, if_true]
    refine ⟨?_, ?_, ?_, ?_⟩
    · rw [if_neg (by omega), if_neg (by omega), if_neg (by omega), if_pos (by omega)]
    · rw [if_neg (by omega), if_neg (by omega), if_pos (by omega)]
    · rw [if_neg (by omega), if_pos (by omega)]
    · rw [if_pos (by omega)]
  · simp only [Array.getElem?_setIfInBounds, Array.size_setIfInBounds, if_neg e1]
    refine ⟨?_, ?_, ?_, ?_⟩
    · rw [if_neg (by omega), if_neg (by omega), if_neg (by omega), if_neg (by omega)]; exact hk3.1
    · rw [if_neg (by omega), if_neg (by omega), if_neg (by omega), if_neg (by omega)]; exact hk3.2.1
    · rw [if_neg (by omega), if_neg (by omega), if_neg (by omega), if_neg (by omega)]; exact hk3.2.2.1
    · rw [if_neg (by omega), if_neg (by omega), if_neg (by omega), if_neg (by omega)]; exact hk3.2.2.2
theorem sw_eq (q : Nat → Q) (i j : Nat) : (fun p => if p = j then q i else if p = i then q j else q p) = sw q i j := by
  funext p
  unfold sw
  by_cases h1 : p = j
  · by_cases h2 : p = i
    · subst h1; subst h2; simp
    · rw [if_pos h1, if_neg h2, if_pos h1]
  · rw [if_neg h1]
    by_cases h2 : p = i
    · rw [if_pos h2, if_pos h2]
    · rw [if_neg h2, if_neg h2, if_neg h1]
theorem PaA.swap {arr : Array Value} {N : Nat} {q : Nat → Q} (h : PaA arr N q) (i j : Nat) (hi : i < N) (hj : j < N) :
    PaA ((((((((arr.setIfInBounds (i * 4) (.int .u8 (q j).1)).setIfInBounds (i * 4 + 1) (.int .i64 (q j).2.1)).setIfInBounds (i * 4 + 2) (.int .i64 (q j).2.2.1)).setIfInBounds (i * 4 + 3) (.int .i64 (q j).2.2.2)).setIfInBounds (j * 4) (.int .u8 (q i).1)).setIfInBounds (j * 4 + 1) (.int .i64 (q i).2.1)).setIfInBounds (j * 4 + 2) (.int .i64 (q i).2.2.1)).setIfInBounds (j * 4 + 3) (.int .i64 (q i).2.2.2)) N (sw q i j) := by
  rw [← sw_eq]
  exact (h.put i hi (q j)).put j hj (q i)
/-- a block that holds N parts -/
def Par (W : World) (g N : Nat) (q : Nat → Q) : Prop := ∃ arr, W.heap[g]? = some (.cells arr 34 (0, 0)) ∧ PaA arr N q
theorem Par.below {W W' : World} {g N : Nat} {q : Nat → Q} (h : Par W g N q) (hb : Below W.heap.size W W') : Par W' g N q := by
  obtain ⟨arr, h1, h2⟩ := h
  exact ⟨arr, blk_below h1 hb, h2⟩
theorem Par.at_ {W : World} {g N : Nat} {q : Nat → Q} (h : Par W g N q) (k : Nat) (hk : k < N) :
    W.cell? ⟨g, k * 4, none⟩ = some (.int .u8 (q k).1) ∧ W.cell? ⟨g, k * 4 + 1, none⟩ = some (.int .i64 (q k).2.1) ∧ W.cell? ⟨g, k * 4 + 2, none⟩ = some (.int .i64 (q k).2.2.1) ∧ W.cell? ⟨g, k * 4 + 3, none⟩ = some (.int .i64 (q k).2.2.2) := by
  obtain ⟨arr, h1, h2⟩ := h
  obtain ⟨a, b, c, d⟩ := h2 k hk
  exact ⟨(blk_cell h1 _).trans a, (blk_cell h1 _).trans b, (blk_cell h1 _).trans c, (blk_cell h1 _).trans d⟩
theorem Par.free {W : World} {g N : Nat} {q : Nat → Q} (h : Par W g N q) (k : Nat) :
    W.frozen? ⟨g, k * 4, none⟩ = false ∧ W.frozen? ⟨g, k * 4 + 1, none⟩ = false ∧ W.frozen? ⟨g, k * 4 + 2, none⟩ = false ∧ W.frozen? ⟨g, k * 4 + 3, none⟩ = false := by
  obtain ⟨arr, h1, _⟩ := h
  exact ⟨blk_frozen h1 _, blk_frozen h1 _, blk_frozen h1 _, blk_frozen h1 _⟩
theorem Par.lt {W : World} {g N : Nat} {q : Nat → Q} (h : Par W g N q) : g < W.heap.size := by
  obtain ⟨arr, h1, _⟩ := h
  exact blk_lt h1
/-- two elements, the other way round -/
def swW (w : World) (g i j : Nat) (x y : Q) : World := ((((((((w.setCell ⟨g, i * 4, none⟩ (.int .u8 y.1)).setCell ⟨g, i * 4 + 1, none⟩ (.int .i64 y.2.1)).setCell ⟨g, i * 4 + 2, none⟩ (.int .i64 y.2.2.1)).setCell ⟨g, i * 4 + 3, none⟩ (.int .i64 y.2.2.2)).setCell ⟨g, j * 4, none⟩ (.int .u8 x.1)).setCell ⟨g, j * 4 + 1, none⟩ (.int .i64 x.2.1)).setCell ⟨g, j * 4 + 2, none⟩ (.int .i64 x.2.2.1)).setCell ⟨g, j * 4 + 3, none⟩ (.int .i64 x.2.2.2))
theorem Par.swap {W : World} {g N : Nat} {q : Nat → Q} (h : Par W g N q) (i j : Nat) (hi : i < N) (hj : j < N) : Par (swW W g i j (q i) (q j)) g N (sw q i j) := by
  obtain ⟨arr, h1, h2⟩ := h
  exact ⟨_, blk_put (blk_put (blk_put (blk_put (blk_put (blk_put (blk_put (blk_put h1 (i * 4) _ rfl) (i * 4 + 1) _ rfl) (i * 4 + 2) _ rfl) (i * 4 + 3) _ rfl) (j * 4) _ rfl) (j * 4 + 1) _ rfl) (j * 4 + 2) _ rfl) (j * 4 + 3) _ rfl, h2.swap i j hi hj⟩
theorem keep_swap {W0 W : World} {g : Nat} (h : KeepW g W0 W) (i j : Nat) (x y : Q) : KeepW g W0 (swW W g i j x y) :=
  ((((((((h.setCell (i * 4) _).setCell (i * 4 + 1) _).setCell (i * 4 + 2) _).setCell (i * 4 + 3) _).setCell (j * 4) _).setCell (j * 4 + 1) _).setCell (j * 4 + 2) _).setCell (j * 4 + 3) _)
/-- a part as Go has it -/
def pAgg (x : Q) : Value := .agg #[.int .u8 x.1, .int .i64 x.2.1, .int .i64 x.2.2.1, .int .i64 x.2.2.2]
/-- what comparing two answers -/
def cmpQ (x y : Q) : Int := if key x < key y then -1 else if key y < key x then 1 else 0
theorem cmpQ_lt (x y : Q) : decide (cmpQ x y < 0) = decide (key x < key y) := by
  unfold cmpQ
  by_cases h : key x < key y
  · rw [if_pos h, decide_eq_true h]; rfl
  · rw [if_neg h, decide_eq_false h]
    split <;> rfl
theorem isnan_any (x : Int) (w : World) : Calls Try.prog 39 #[.int .i64 x] w fun e w' => e = .returned (.bool false) ∧ w' = w := by
  go_enter Try.func39, Try.ntmps39
  go_wp2
  go_ret
  exact ⟨by first | rfl | simp, rfl⟩
set_option maxRecDepth 100000 in
set_option maxHeartbeats 2000000 in
theorem compare_any (x y : Int) (w : World) : Calls Try.prog 28 #[.int .i64 x, .int .i64 y] w fun e w' => e = .returned (.int .i64 (if x < y then -1 else if y < x then 1 else 0)) ∧ w' = w := by
  go_enter Try.func28, Try.ntmps28
  go_wp2_with (go_at_call 39; (with_reducible refine (isnan_any _ _).mono ?_); rintro e w' ⟨rfl, rfl⟩)
  all_goals go_ret
  all_goals refine ⟨?_, rfl⟩
  all_goals simp_all
set_option maxRecDepth 100000 in
set_option maxHeartbeats 2000000 in
theorem cmp_any (x y : Q) (w : World) : Calls Try.prog 27 #[pAgg x, pAgg y] w fun e w' => e = .returned (.int .i64 (cmpQ x y)) ∧ Below w.heap.size w w' := by
  obtain ⟨x0, x1, x2, x3⟩ := x
  obtain ⟨y0, y1, y2, y3⟩ := y
  unfold cmpQ key pAgg
  dsimp only
  have hb : Below w.heap.size w ((w.alloc (.cells #[.int .u8 x0, .int .i64 x1, .int .i64 x2, .int .i64 x3] 34)).alloc (.cells #[.int .u8 y0, .int .i64 y1, .int .i64 y2, .int .i64 y3] 34)) := below_alloc (below_alloc (Below.refl _ _) _) _
  have HB := Lk.mk hb
  have HC := Lk.mk (fun W => compare_any x2 y2 W)
  generalize (if x2 < y2 then (-1 : Int) else if y2 < x2 then 1 else 0) = r at *
  clear hb
  go_enter Try.func27, Try.ntmps27
  go_wp2_with (go_at_call 28; (with_reducible refine (HC.out _).mono ?_); rintro e w' ⟨rfl, rfl⟩)
  go_ret
  exact ⟨rfl, HB.out⟩
theorem cmp4_any (x0 x1 x2 x3 y0 y1 y2 y3 : Int) (w : World) : Calls Try.prog 27 #[.agg #[.int .u8 x0, .int .i64 x1, .int .i64 x2, .int .i64 x3], .agg #[.int .u8 y0, .int .i64 y1, .int .i64 y2, .int .i64 y3]] w fun e w' => e = .returned (.int .i64 (cmpQ (x0, x1, x2, x3) (y0, y1, y2, y3))) ∧ Below w.heap.size w w' :=
  cmp_any (x0, x1, x2, x3) (y0, y1, y2, y3) w
end Go.Proofs.Ytcepafllgjnngaa
