/-
  Words on memory, and the walks of math/bits.TrailingZeros64, of slices.Clone, of bitmap.cut, bitmap.fits and bitmap.has; conditions: what is handed in reads as told.
-/
import Derived.Test.YtbikdngpannekaaDoorProg
import Derived.Test.YtbikdngpannekaaDoorB2
import Derived.Test.YtbikdngpannekaaDoorWWords
import Derived.WalkKit
import Derived.WalkSpells
import Derived.WalkLawsBesides
import Derived.Lib.SliceRun
import Derived.Shelf.Spec.TrailingZeros
namespace Go.Proofs.YtbikdngpannekaaDoor
open Go.RowKit Go.Proofs.YtbikdngpannekaaDoorW.PrintWords

structure Lk (p : Prop) : Prop where mk :: (out : p)
theorem ret_int {k : IntKind} {a b : Int} (h : a = b) : Ending.returned (.int k a) = .returned (.int k b) := by rw [h]
theorem ret_bool {a b : Bool} (h : a = b) : Ending.returned (.bool a) = .returned (.bool b) := by rw [h]
theorem info25 : (Tryd.prog.info? 25).map (fun i => (i.zero, i.size, i.bytes)) = some (some (.int .u64 0), 1, 8) := by kernel_rfl
theorem info3 : (Tryd.prog.info? 3).map (fun i => (i.zero, i.size, i.bytes)) = some (some (.int .i64 0), 1, 8) := by kernel_rfl
/-- the library's table lies in its variable -/
def Tab (w : World) : Prop := TabAt 0 Lib.deBruijn64tab w
theorem Tab.below {w w1 : World} (h : Tab w) (hb : Below w.heap.size w w1) : Tab w1 := fun j hj => pw_cell_below hb (h j hj)
theorem Tab.lt {w : World} (h : Tab w) : 0 < w.heap.size := by
  have := World.block_lt_of_cell? w _ (h 0 (by decide))
  omega

set_option maxHeartbeats 1000000 in
theorem tz_core (x k idx : Nat) (w : World) (hx0 : ((x : Int) == 0) = false)
    (key : IntKind.u64.wrap (bits BinOp.and IntKind.u64 (x : Int) (IntKind.u64.wrap (-(x : Int))) * 285870213051353865) / 288230376151711744 = (idx : Int))
    (hi : idx < 64) (hk : k < 64) (hcell : w.cell? ⟨0, idx, none⟩ = some (.int .u8 k)) :
    Calls Tryd.prog 117 #[.int .u64 x] w fun e w' => e = .returned (.int .i64 k) ∧ w' = w := by
  go_enter Tryd.func117, Tryd.ntmps117
  go_wp2_with (simp only [key])
  go_ret
  exact ⟨rfl, rfl⟩
theorem tz_any (x : Nat) (hx : x < 18446744073709551616) (hx0 : x ≠ 0) (w : World) (hT : Tab w) :
    Calls Tryd.prog 117 #[.int .u64 x] w fun e w' => e = .returned (.int .i64 (Lib.ctz 64 x)) ∧ w' = w := by
  obtain ⟨hlow, hk⟩ := Lib.lowest_bit 64 x hx0 hx
  obtain ⟨hi, htab⟩ := Lib.deBruijn64_at _ hk
  have hcell := hT _ hi
  rw [htab] at hcell
  exact tz_core x _ _ w (by simp; omega) (tz64_key x _ hx hx0 hlow) hi hk hcell

-- a copy of a row of words: memory of the call's own
set_option maxHeartbeats 1000000 in
theorem clone64 (A : Option Addr) (c : Nat) (l : List Int) (w : World) (hr : ReadsInt w .u64 A l.length l) (hl : l.length * 8 ≤ 140737488355328) :
    Calls Tryd.prog 80 #[.slice A l.length c] w fun e w' => ∃ v, e = .returned v ∧ w'.ownsRow w.heap.size 25 1 v l.length (nums .u64 l) ∧ Below w.heap.size w w' := by
  have q : ∀ (w : World) (a : Option Addr) (n c n' c' : Nat), (binOp .eql 37 (.slice a n c) (.slice none n' c')).run Tryd.prog w = .ok (.bool a.isNone) w := fun w a n c n' c' => Lib.run_eql_slice_nil w _ _ a n c n' c' Tryd.underlying37
  have HR := Lk.mk hr
  have HL := Lk.mk hl
  clear hr hl
  cases A with
  | none =>
    have e : l = [] := by
      rcases Nat.eq_zero_or_pos l.length with h | h
      · exact List.eq_nil_of_length_eq_zero h
      · obtain ⟨ad, h, _⟩ := HR.out.2.2 h; cases h
    subst e
    go_enter Tryd.func80, Tryd.ntmps80
    go_wp2
    go_ret
    exact ⟨_, rfl, own_nil _ _ _ _, Below.refl _ _⟩
  | some ad =>
    go_enter Tryd.func80, Tryd.ntmps80
    go_wp2_with (at_builtin; refine print_append_row (w0 := w) w.heap.size rfl _ _ 37 25 .u64 8 rfl Tryd.underlying37 info25 (by decide) (.slice (some ⟨w.heap.size, 0, none⟩) 0 0) [] l (some ad) l.length c rfl rfl ?q1 ?q2 ?q3 ?q4 ?q5 ?_)
    case q1 => exact own_lit w w.heap.size 25 .u64 [] (Nat.le_refl _) (by simp)
    case q2 => exact HR.out.below (below_alloc (Below.refl _ _) _)
    case q3 => exact below_alloc (Below.refl _ _) _
    case q4 => simp
    case q5 => simpa using HL.out
    intro v1 w1 hown hb _ _
    go_wp2
    go_ret
    exact ⟨_, rfl, by simpa using hown, hb⟩

theorem fits_any (i : Int) (w : World) : Calls Tryd.prog 118 #[.int .i64 i] w fun e w' => e = .returned (.bool (Bm.fits i)) ∧ w' = w := by
  have H := Lk.mk (show Bm.fits i = (decide (0 ≤ i) && decide (i < 4096)) from rfl)
  generalize Bm.fits i = r at *
  go_enter Tryd.func118, Tryd.ntmps118
  go_wp2
  all_goals go_ret
  all_goals refine ⟨ret_bool ?_, rfl⟩
  all_goals rw [H.out]
  all_goals clear H
  all_goals simp_all
  all_goals omega
end Go.Proofs.YtbikdngpannekaaDoor
