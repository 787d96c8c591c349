/-
  The walk of fns.may; conditions: the function reads as told, at most 2^37 words.
-/
import Derived.Test.YtbikdngpannekaaDoorBb
import Derived.Deep.RegionHeld3
namespace Go.Proofs.YtbikdngpannekaaDoor
open Go.RowKit Go.Proofs.YtbikdngpannekaaDoorW.PrintWords

/-- may a function be, of so many slots and these words -/
def mayB (s : Int) (l : List Int) : Bool := decide (0 ≤ s) && decide (s ≤ 1000) && decide ((Bm.bitsL l (64 * (l.length : Int))).length = (Bm.bitsL l s).length)

set_option maxHeartbeats 1000000 in
theorem may_any (s : Int) (A : Option Addr) (c : Nat) (l : List Int) (w : World) (hr : ReadsInt w .u64 A l.length l) (hw : Bm.Words l) (hl : l.length ≤ 137438953472) (hT : Tab w) :
    Calls Tryd.prog 116 #[.agg #[.int .i64 s, .slice A l.length c]] w fun e w' => e = .returned (.bool (mayB s l)) ∧ Below w.heap.size w w' := by
  have h0 : Below w.heap.size w (w.alloc (.cells #[.int .i64 s, .slice A l.length c] 66)) := below_alloc (Below.refl _ _) _
  have H0 := Lk.mk h0
  have HA := Lk.mk (fun n w' (hb : Below w.heap.size w w') => count_any A c l n w' (hr.below hb) hw hl (hT.below hb))
  have H := Lk.mk (show mayB s l = (decide (0 ≤ s) && decide (s ≤ 1000) && decide ((Bm.bitsL l (64 * (l.length : Int))).length = (Bm.bitsL l s).length)) from rfl)
  have hm := hr.2.1
  clear hr hw hT h0
  generalize mayB s l = r at *
  by_cases h1 : s < 0
  · obtain rfl : r = false := by rw [H.out]; simp; omega
    clear H
    go_enter Tryd.func116, Tryd.ntmps116
    go_wp2
    go_ret
    exact ⟨rfl, H0.out⟩
  · by_cases h2 : 1000 < s
    · obtain rfl : r = false := by rw [H.out]; simp; omega
      clear H
      go_enter Tryd.func116, Tryd.ntmps116
      go_wp2
      go_ret
      exact ⟨rfl, H0.out⟩
    · have hrr := Lk.mk (show r = decide ((Bm.bitsL l (64 * (l.length : Int))).length = (Bm.bitsL l s).length) by rw [H.out]; simp; omega)
      clear H
      have hwr : IntKind.i64.wrap (64 * (l.length : Int)) = 64 * (l.length : Int) := IntWalk.i64_in _ (by omega)
      have K0 := Lk.mk (fun (w' : World) (hb : Below ((w.alloc (.cells #[.int .i64 s, .slice A l.length c] 66)).drew).heap.size ((w.alloc (.cells #[.int .i64 s, .slice A l.length c] 66)).drew) w') => show w'.cell? ⟨w.heap.size, 0, none⟩ = some (.int .i64 s) ∧ w'.cell? ⟨w.heap.size, 1, none⟩ = some (.slice A l.length c) from ⟨pw_cell_below hb (by simp), pw_cell_below hb (by simp)⟩)
      clear hm hl
      go_enter Tryd.func116, Tryd.ntmps116
      go_wp2
      go_region_held3 (fun w' => w'.cell? ⟨w.heap.size, 0, none⟩ = some (.int .i64 s) ∧ w'.cell? ⟨w.heap.size, 1, none⟩ = some (.slice A l.length c)) (first | go_keep | exact K0.out _ (below_then hb hb.size hb2) | exact K0.out _ hb) ((go_at_call 144; first | ((with_reducible refine (HA.out _ _ (below_drew H0.out)).mono ?_); rintro e w1 ⟨rfl, hb⟩; have HB1 := Lk.mk (below_then (below_drew H0.out) (below_drew H0.out).size hb)) | ((with_reducible refine (HA.out _ _ HB1.out).mono ?_); rintro e w2 ⟨rfl, hb2⟩; have HB2 := Lk.mk (below_then HB1.out HB1.out.size hb2))))
      go_wp2
      go_ret
      exact ⟨ret_bool (by rw [hrr.out, Bool.eq_iff_iff]; simp; omega), HB2.out⟩
end Go.Proofs.YtbikdngpannekaaDoor
