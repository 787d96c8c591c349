/-
  The walk of the frames' awake; conditions: the table of deBruijn stands.
-/
import Derived.Test.YtbikdngpannekaaDoorDe
import Derived.Test.YtbikdngpannekaaDoorCe
namespace Go.Proofs.YtbikdngpannekaaDoor
open Go.RowKit Go.Proofs.YtbikdngpannekaaDoorW.PrintWords

theorem tbl_stab {b : Nat} {w w' : World} {p : Value} {ents : List (Int × (List Int × List Int))} (h : ∀ W : World, (∀ k, w.heap.size ≤ k → k < w'.heap.size → W.heap[k]? = w'.heap[k]?) → TblAt W p ents) (hb : b < w.heap.size) : Stab b (TblAt · p ents) w' :=
  fun W k => h W (fun j h1 h2 => k.block j h2 (by omega))
def awW : List Int := pushW (List.replicate (64 * 4) 0) 59 5 (-1) 0
def entS : List (Int × (List Int × List Int)) := lS.map entryOf
theorem awW_rd : RdOk awW entS 59 := by
  refine ⟨?_, ?_, ?_, ?_⟩ <;> decide +kernel
theorem aP14 (g b : Nat) (p : Value) (w : World) (h : ArB w g b (List.replicate (64 * 4) 0)) (ht : TblOr w p entS) : Calls Tryd.prog 31 #[.pointer (some ⟨g, 0, none⟩), p, .int .i64 0, .int .i64 64, .int .i64 0, .int .i64 (-1)] w fun e w' => e = .returned (.tuple #[.int .i64 59, .int .i64 0]) ∧ ArB w' g b awW ∧ KeepW b w w' :=
  push_ok g b _ p entS 0 64 5 59 0 (-1) w h ht tS.2 (by decide +kernel) (by decide) (by decide) (by decide +kernel) (by decide +kernel) (by decide) (by decide)
theorem aR14 (g b : Nat) (p : Value) (w : World) (h : ArB w g b awW) (ht : TblOr w p entS) : Calls Tryd.prog 29 #[.pointer (some ⟨g, 0, none⟩), p, .int .i64 59] w fun e w' => e = .returned (.tuple #[.agg #[.int .i64 59, .int .i64 0, .int .i64 (-1)], .int .i64 0]) ∧ Below w.heap.size w w' :=
  read_ok g b awW p entS 59 w h ht tS.2 (by decide +kernel) awW_rd
set_option maxRecDepth 100000 in
set_option maxHeartbeats 2000000 in
theorem awake14_any (w : World) (hT : Tab w) : Calls Tryd.prog 25 #[] w fun e w' => e = .returned (.bool true) ∧ Below w.heap.size w w' := by
  have HA := Lk.mk (anew_any 4 w (by decide) (by decide))
  rw [show (((4 : Nat)) : Int) = 4 from rfl] at HA
  have HN := Lk.mk (fun W (hb : Below w.heap.size w W) => new_goodS (some ⟨W.heap.size, 0, none⟩) 1 lS _ (fnC_new 3) lS_words (hT.below (below_then hb hb.size (below_alloc (Below.refl _ _) _))) lS_ok)
  rw [show lS.length = 1 from rfl] at HN
  rw [show lS.map entryOf = entS from rfl] at HN
  have HAL := Lk.mk (fun W => below_alloc (Below.refl W.heap.size W) (.cells #[.int .i64 3, .slice none 0 0] 66))
  clear hT
  go_enter Tryd.func25, Tryd.ntmps25
  go_wp2_with (first
    | (go_at_call 70; (with_reducible refine (HA.out).mono ?_); rintro e w1 ⟨rfl, ha, hb⟩; have HA1 := Lk.mk ha; have HB1 := Lk.mk hb; clear ha hb)
    | (go_at_call 18; (with_reducible refine (HN.out _ HB1.out).mono ?_); rintro e w2 ⟨p, rfl, htb, hb⟩; have HS := Lk.mk (tbl_stab htb (Nat.lt_of_lt_of_le HA1.out.lt (HAL.out _).size)); have HA2 := Lk.mk ((HA1.out.below (HAL.out _)).below hb); have HB2 := Lk.mk (below_then (below_then HB1.out HB1.out.size (HAL.out _)) (Nat.le_trans HB1.out.size (HAL.out _).size) hb); clear hb htb)
    | (go_at_call 31; (with_reducible refine (aP14 _ _ _ _ HA2.out HS.out.now.or).mono ?_); rintro e w3 ⟨rfl, ha, hk⟩; have HA3 := Lk.mk ha; have HS3 := Lk.mk (HS.out.keep hk); have HB3 := Lk.mk (hk.below HB2.out (Nat.le_refl _) HB2.out.size); clear ha hk)
    | (go_at_call 29; (with_reducible refine (aR14 _ _ _ _ HA3.out HS3.out.now.or).mono ?_); rintro e w4 ⟨rfl, hb⟩; have HB4 := Lk.mk (below_then HB3.out HB3.out.size hb); clear hb))
  go_ret
  exact ⟨rfl, below_alloc HB4.out _⟩
end Go.Proofs.YtbikdngpannekaaDoor
