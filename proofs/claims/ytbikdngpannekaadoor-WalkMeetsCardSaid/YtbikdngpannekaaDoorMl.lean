/-
  The walk of the walks' awake; conditions: the table of deBruijn stands.
-/
import Derived.Test.YtbikdngpannekaaDoorK3
import Derived.Test.YtbikdngpannekaaDoorK2
namespace Go.Proofs.YtbikdngpannekaaDoor
open Go.RowKit Go.Proofs.YtbikdngpannekaaDoorW.PrintWords

def lZ : List (Int × List Int) := [(0, [])]
theorem lZ_ok : newOk lZ = true := by decide +kernel
theorem lZ_words : FnsOk lZ := by
  intro f hf
  obtain rfl : f = (0, []) := by simpa [lZ] using hf
  exact ⟨(fun x hx => by cases hx), by decide, by decide, by decide⟩
theorem eZ_in : EntIn (lZ.map entryOf) := by
  intro e he
  obtain rfl : e = entryOf (0, []) := by simpa [lZ] using he
  decide +kernel
theorem f15 (g b : Nat) (p : Value) (w : World) (h : ArB w g b (List.replicate (64 * 4) 0)) (ht : TblAt w p (lZ.map entryOf)) : Calls Tryd.prog 53 #[.pointer (some ⟨g, 0, none⟩), p, .agg #[.int .i64 0, .int .i64 16, .int .i64 16]] w fun e w' => ∃ A c, e = .returned (.tuple #[.slice A 0 c, .int .i64 0]) ∧ Below w.heap.size w w' := by
  have := frames_any g b _ p (lZ.map entryOf) 0 16 16 w h ht.or eZ_in (by decide +kernel) (by decide) (by decide +kernel)
  refine this.mono ?_
  rintro e w' ⟨hb, ⟨l, A, c, hl, rfl, _⟩ | ⟨hl, _⟩⟩
  · rw [Wk.walk_end (by decide)] at hl
    injection hl with hl
    subst hl
    exact ⟨A, c, rfl, hb⟩
  · rw [Wk.walk_end (by decide)] at hl
    cases hl
set_option maxRecDepth 100000 in
set_option maxHeartbeats 2000000 in
theorem awake15_any (w : World) (hT : Tab w) : Calls Tryd.prog 52 #[] w fun e w' => e = .returned (.bool true) ∧ Below w.heap.size w w' := by
  have HA := Lk.mk (anew_any 4 w (by decide) (by decide))
  rw [show (((4 : Nat)) : Int) = 4 from rfl] at HA
  have HN := Lk.mk (fun W (hb : Below w.heap.size w W) => new_good (some ⟨W.heap.size, 0, none⟩) 1 lZ _ (fnC_new 0) lZ_words (hT.below (below_then hb hb.size (below_alloc (Below.refl _ _) _))) lZ_ok)
  rw [show lZ.length = 1 from rfl] at HN
  have HAL := Lk.mk (fun W => below_alloc (Below.refl W.heap.size W) (.cells #[.int .i64 0, .slice none 0 0] 66))
  clear hT
  go_enter Tryd.func52, Tryd.ntmps52
  go_wp2_with (first
    | (go_at_call 70; (with_reducible refine (HA.out).mono ?_); rintro e w1 ⟨rfl, ha, hb⟩; have HA1 := Lk.mk ha; have HB1 := Lk.mk hb; clear ha hb)
    | (go_at_call 18; (with_reducible refine (HN.out _ HB1.out).mono ?_); rintro e w2 ⟨p, rfl, htb, hb⟩; have HA2 := Lk.mk (((HA1.out.below (HAL.out _)).below hb).below (below_alloc (Below.refl w2.heap.size w2) (.cells #[.int .i64 0, .int .i64 16, .int .i64 16] 88))); have HT2 := Lk.mk (htb.below (below_alloc (Below.refl w2.heap.size w2) (.cells #[.int .i64 0, .int .i64 16, .int .i64 16] 88))); have HX2 := Lk.mk (blk_new w2 (.cells #[.int .i64 0, .int .i64 16, .int .i64 16] 88)); have HB := Lk.mk (below_alloc (below_then (below_then HB1.out HB1.out.size (HAL.out _)) (Nat.le_trans HB1.out.size (HAL.out _).size) hb) (.cells #[.int .i64 0, .int .i64 16, .int .i64 16] 88)); clear hb htb)
    | (go_at_call 53; (with_reducible refine (f15 _ _ _ _ HA2.out HT2.out).mono ?_); rintro e w3 ⟨A, c, rfl, hb⟩; have HX3 := Lk.mk (blk_below HX2.out hb); obtain ⟨c0, c1, c2, _, _, _⟩ := cells3c HX3.out; have HB := Lk.mk (below_then HB.out HB.out.size hb); clear hb)
    | (go_at_call 60; (with_reducible refine (room16 _).mono ?_); rintro e w4 ⟨rfl, hb⟩; have HX4 := Lk.mk (blk_below HX3.out hb); obtain ⟨d0, d1, d2, _, _, _⟩ := cells3c HX4.out; have HB := Lk.mk (below_then HB.out HB.out.size hb); clear hb)
    | (go_at_call 59; (with_reducible refine (used16 _).mono ?_); rintro e w5 ⟨rfl, hb⟩; have HB := Lk.mk (below_then HB.out HB.out.size hb); clear hb))
  go_ret
  exact ⟨rfl, HB.out⟩
end Go.Proofs.YtbikdngpannekaaDoor
