/-
  The arena: words that are written while all else stays; the walks of arena.New, Words, In; conditions: what is handed in reads as told.
-/
import Derived.Test.YtbikdngpannekaaDoorBp
import Derived.Test.YtbikdngpannekaaDoorG2
import Derived.Laws.CopyOwn
import Derived.Recover
import Derived.Laws.Pointers
import Derived.WalkLawsBesides
import Derived.Lib.SliceRun
import Derived.Deep.RegionHeld3
import Derived.Deep.RegionLaw
namespace Go.Proofs.YtbikdngpannekaaDoor
open Go.RowKit Go.Proofs.YtbikdngpannekaaDoorW.PrintWords

/-- of what was there only block b may have changed -/
structure KeepW (b : Nat) (w w' : World) : Prop where
  os : w'.os = w.os
  tape : w'.tape = w.tape
  output : w'.output = w.output
  size : w.heap.size ≤ w'.heap.size
  block : ∀ k, k < w.heap.size → k ≠ b → w'.heap[k]? = w.heap[k]?
theorem KeepW.refl (b : Nat) (w : World) : KeepW b w w := ⟨rfl, rfl, rfl, Nat.le_refl _, fun _ _ _ => rfl⟩
theorem KeepW.trans {b : Nat} {w w1 w2 : World} (h : KeepW b w w1) (k : KeepW b w1 w2) : KeepW b w w2 :=
  ⟨k.os.trans h.os, k.tape.trans h.tape, k.output.trans h.output, Nat.le_trans h.size k.size, fun i hi hb => (k.block i (Nat.lt_of_lt_of_le hi h.size) hb).trans (h.block i hi hb)⟩
theorem KeepW.of_below {w w' : World} (h : Below w.heap.size w w') (b : Nat) : KeepW b w w' := ⟨h.os, h.tape, h.output, h.size, fun k hk _ => h.block k hk⟩
theorem KeepW.then_ {b : Nat} {w w1 w2 : World} (h : KeepW b w w1) (k : Below w1.heap.size w1 w2) : KeepW b w w2 := h.trans (KeepW.of_below k b)
theorem KeepW.setCell {b : Nat} {w w1 : World} (h : KeepW b w w1) (j : Nat) (u : Value) : KeepW b w (w1.setCell ⟨b, j, none⟩ u) :=
  h.trans ⟨rfl, rfl, rfl, by simp [World.setCell], fun k _ hb => Below.heap_setCell w1 ⟨b, j, none⟩ u k hb⟩
theorem KeepW.below {b B : Nat} {w0 w w' : World} (h : KeepW b w w') (hb : Below B w0 w) (h1 : B ≤ b) (h2 : B ≤ w.heap.size) : Below B w0 w' :=
  hb.trans ⟨h.os, h.tape, h.output, h.size, fun k hk => h.block k (by omega) (by omega)⟩
/-- P holds, and goes on to hold whatever is written into block b -/
def Stab (b : Nat) (P : World → Prop) (w : World) : Prop := ∀ w', KeepW b w w' → P w'
theorem Stab.now {b : Nat} {P : World → Prop} {w : World} (h : Stab b P w) : P w := h w (KeepW.refl b w)
theorem Stab.keep {b : Nat} {P : World → Prop} {w w' : World} (h : Stab b P w) (k : KeepW b w w') : Stab b P w' := fun w2 h2 => h w2 (k.trans h2)
theorem Stab.of_old {b : Nat} {P : World → Prop} {w0 w : World} (h : ∀ w', Below w0.heap.size w0 w' → P w') (hb : Below w0.heap.size w0 w) (h1 : w0.heap.size ≤ b) : Stab b P w := fun _ k => h _ (k.below hb h1 hb.size)
theorem Stab.mono {b : Nat} {P Q : World → Prop} {w : World} (h : Stab b P w) (hq : ∀ w, P w → Q w) : Stab b Q w := fun w' k => hq _ (h w' k)

/-- the arena: g its struct's block, b its words' -/
structure ArB (w : World) (g b : Nat) (ws : List Int) : Prop where
  head : w.heap[g]? = some (.cells #[.slice (some ⟨b, 0, none⟩) ws.length ws.length] 162 (0, 0))
  row : w.heap[b]? = some (.cells (nums .u64 ws).toArray 25 (0, 0))
  words : Bm.Words ws
  pos : 0 < ws.length
  len : ws.length ≤ 65536
theorem ArB.below {w w1 : World} {g b : Nat} {ws : List Int} (h : ArB w g b ws) (hb : Below w.heap.size w w1) : ArB w1 g b ws := ⟨blk_below h.head hb, blk_below h.row hb, h.words, h.pos, h.len⟩
theorem ArB.ne {w : World} {g b : Nat} {ws : List Int} (h : ArB w g b ws) : g ≠ b := blk_ne h.head h.row (by decide)
theorem ArB.lt {w : World} {g b : Nat} {ws : List Int} (h : ArB w g b ws) : b < w.heap.size := blk_lt h.row
theorem ArB.head_ {w : World} {g b : Nat} {ws : List Int} (h : ArB w g b ws) : w.cell? ⟨g, 0, none⟩ = some (.slice (some ⟨b, 0, none⟩) ws.length ws.length) := by
  rw [blk_cell h.head 0]; rfl
theorem nums_get (k : IntKind) (l : List Int) (j : Nat) (h : j < l.length) : (nums k l)[j]? = some (.int k (l.getD j 0)) := by
  unfold nums; rw [List.getElem?_map, List.getD_eq_getElem?_getD, List.getElem?_eq_getElem h]; rfl
theorem ArB.at_ {w : World} {g b : Nat} {ws : List Int} (h : ArB w g b ws) (j : Nat) (hj : j < ws.length) : w.cell? ⟨b, j, none⟩ = some (.int .u64 (ws.getD j 0)) := by
  rw [blk_cell h.row j, List.getElem?_toArray]; exact nums_get _ _ _ hj
theorem ArB.reads {w : World} {g b : Nat} {ws : List Int} (h : ArB w g b ws) : ReadsInt w .u64 (some ⟨b, 0, none⟩) ws.length ws :=
  ⟨rfl, by have := h.len; omega, fun _ => ⟨_, rfl, fun j hj => by rw [add_plain]; exact h.at_ j hj⟩⟩

/-- are n words there from an address on -/
def inL (len : Nat) (at_ n : Int) : Bool := decide (0 ≤ n) && decide (0 ≤ at_) && decide (at_ ≤ len) && decide (n ≤ len - at_)
theorem inL_true {len : Nat} {a n : Int} (h : inL len a n = true) : 0 ≤ n ∧ 0 ≤ a ∧ a + n ≤ len := by
  unfold inL at h; simp only [Bool.and_eq_true, decide_eq_true_eq] at h; omega
theorem inL_false {len : Nat} {a n : Int} (h : inL len a n = false) : n < 0 ∨ a < 0 ∨ len < a ∨ len < a + n := by
  by_cases h1 : n < 0 ∨ a < 0 ∨ (len : Int) < a ∨ (len : Int) < a + n
  · exact h1
  · have : inL len a n = true := by unfold inL; simp only [Bool.and_eq_true, decide_eq_true_eq]; omega
    rw [this] at h; cases h

theorem awords_any (g b : Nat) (ws : List Int) (w : World) (h : ArB w g b ws) : Calls Tryd.prog 74 #[.pointer (some ⟨g, 0, none⟩)] w fun e w' => e = .returned (.int .i64 ws.length) ∧ w = w' := by
  have hc := h.head_
  clear h
  go_enter Tryd.func74, Tryd.ntmps74
  go_wp2
  go_ret
  exact ⟨rfl, rfl⟩
set_option maxRecDepth 100000 in
set_option maxHeartbeats 2000000 in
theorem ain_any (g b : Nat) (ws : List Int) (at_ n : Int) (w : World) (h : ArB w g b ws) : Calls Tryd.prog 75 #[.pointer (some ⟨g, 0, none⟩), .int .i64 at_, .int .i64 n] w fun e w' => e = .returned (.bool (inL ws.length at_ n)) ∧ w = w' := by
  have HW := Lk.mk (awords_any g b ws w h)
  have hl := h.len
  have H := Lk.mk (show inL ws.length at_ n = (decide (0 ≤ n) && decide (0 ≤ at_) && decide (at_ ≤ ws.length) && decide (n ≤ ws.length - at_)) from rfl)
  generalize inL ws.length at_ n = r at *
  clear h
  go_enter Tryd.func75, Tryd.ntmps75
  go_wp2_with (go_at_call 74; (with_reducible refine (HW.out).mono ?_); rintro e w' ⟨rfl, rfl⟩)
  all_goals go_ret
  all_goals refine ⟨ret_bool ?_, rfl⟩
  all_goals rw [H.out]
  all_goals clear H HW
  all_goals simp_all
  all_goals (first | omega | (intro _; omega) | done)

theorem made_nums (m : Nat) : madeCells #[Value.int .u64 0] m = (nums .u64 (List.replicate m 0)).toArray := by
  apply Array.ext
  · simp [nums, madeCells]
  · intro i h1 h2
    simp [nums, madeCells, Nat.mod_one]
theorem words_zero (m : Nat) : Bm.Words (List.replicate m 0) := by
  intro x hx
  obtain rfl := (List.mem_replicate.1 hx).2
  decide
set_option maxRecDepth 100000 in
set_option maxHeartbeats 2000000 in
theorem anew_any (n : Nat) (w : World) (h4 : 4 ≤ n) (hn : n ≤ 1024) : Calls Tryd.prog 70 #[.int .i64 n] w fun e w' => e = .returned (.tuple #[.pointer (some ⟨w.heap.size + 1, 0, none⟩), .int .i64 0]) ∧ ArB w' (w.heap.size + 1) w.heap.size (List.replicate (64 * n) 0) ∧ Below w.heap.size w w' := by
  obtain ⟨ws, hws⟩ : ∃ ws : List Int, ws = List.replicate (64 * n) 0 := ⟨_, rfl⟩
  have HL := Lk.mk (show ws.length = 64 * n by rw [hws, List.length_replicate])
  have HW := Lk.mk (show Bm.Words ws by rw [hws]; exact words_zero _)
  have hmk : ∀ W : World, (Instr.makeSlice 37 (.int .i64 ((n : Int) * 64)) (.int .i64 ((n : Int) * 64))).run Tryd.prog W = .ok (.slice (some ⟨W.heap.size, 0, none⟩) ws.length ws.length) (W.alloc (.cells (nums .u64 ws).toArray 25)) := by
    intro W
    have := print_make 37 25 .u64 8 Tryd.underlying37 info25 (by decide) (64 * n) (by omega) W
    rw [made_nums, ← hws, show (((64 * n : Nat)) : Int) = (n : Int) * 64 by omega] at this
    rw [HL.out]; exact this
  rw [← hws]
  have hm : ws.length ≤ 65536 := by rw [HL.out]; omega
  clear hws
  go_enter Tryd.func70, Tryd.ntmps70
  go_wp2
  go_ret2
  refine ⟨rfl, ⟨?_, ?_, HW.out, by rw [HL.out]; omega, hm⟩, below_alloc (below_alloc (Below.refl _ _) _) _⟩
  · have := blk_new (w.alloc (.cells (nums .u64 ws).toArray 25)) (.cells #[.slice (some ⟨w.heap.size, 0, none⟩) ws.length ws.length] 162)
    simpa using this
  · exact blk_alloc (blk_new w _) _
end Go.Proofs.YtbikdngpannekaaDoor
