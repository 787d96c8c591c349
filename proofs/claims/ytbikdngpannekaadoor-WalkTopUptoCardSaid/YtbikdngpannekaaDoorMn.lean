/-
  The walk of the law WalkTop; conditions: what is handed in reads as told, the table of deBruijn stands.
-/
import Derived.Test.YtbikdngpannekaaDoorMm
namespace Go.Proofs.YtbikdngpannekaaDoor
open Go.RowKit Go.Proofs.YtbikdngpannekaaDoorW.PrintWords

set_option maxRecDepth 100000 in
set_option maxHeartbeats 2000000 in
theorem top_early (V : Option Addr) (c : Nat) (ws : List Int) (B : Option Addr) (c' : Nat) (t : List (Int × List Int)) (x : Int × (Int × Int)) (w : World) (hr : ReadsInt w .u64 V ws.length ws) (hq : FnC w B t.length t) (hI : FnsOk t) (hT : Tab w) (hn : newOk t = false) :
    Calls Tryd.prog 12 #[.slice V ws.length c, .slice B t.length c', .agg #[.int .i64 x.1, .int .i64 x.2.1, .int .i64 x.2.2]] w fun e w' => e = .returned (.bool true) ∧ Below w.heap.size w w' := by
  obtain ⟨lo, sz, sp⟩ := x
  have hm := hr.2.1
  have hba := below_alloc (Below.refl w.heap.size w) (.cells #[.int .i64 lo, .int .i64 sz, .int .i64 sp] 88)
  have HN := Lk.mk (new_bad B c' t _ (hq.below hba) hI (hT.below hba) hn)
  have HG := Lk.mk (fun W (hb : Below w.heap.size w W) => great_any B c' t W (hq.below hb))
  have HT := Lk.mk hT
  have H0 := Lk.mk hba
  dsimp only
  clear hr hq hI hT hba hn
  generalize greatL t = g at *
  go_enter Tryd.func12, Tryd.ntmps12
  cases g with
  | true =>
    go_wp2_with (first
      | (go_at_call 18; (with_reducible refine (HN.out).mono ?_); rintro e w1 ⟨rfl, hb⟩; have HB := Lk.mk (below_then H0.out H0.out.size hb); clear hb)
      | (go_at_call 24; (with_reducible refine (HG.out _ HB.out).mono ?_); rintro e w' ⟨rfl, hw⟩; obtain rfl := hw.symm; clear hw)
      | (go_at_call 52; (with_reducible refine (awake15_any _ (HT.out.below HB.out)).mono ?_); rintro e w9 ⟨rfl, hb⟩; have HB9 := Lk.mk (below_then HB.out HB.out.size hb); clear hb))
    all_goals go_ret
    all_goals exact ⟨rfl, HB9.out⟩
  | false =>
    go_wp2_with (first
      | (go_at_call 18; (with_reducible refine (HN.out).mono ?_); rintro e w1 ⟨rfl, hb⟩; have HB := Lk.mk (below_then H0.out H0.out.size hb); clear hb)
      | (go_at_call 24; (with_reducible refine (HG.out _ HB.out).mono ?_); rintro e w' ⟨rfl, hw⟩; obtain rfl := hw.symm; clear hw)
      | (go_at_call 52; (with_reducible refine (awake15_any _ (HT.out.below HB.out)).mono ?_); rintro e w9 ⟨rfl, hb⟩; have HB9 := Lk.mk (below_then HB.out HB.out.size hb); clear hb))
    all_goals go_ret
    all_goals exact ⟨rfl, HB9.out⟩
end Go.Proofs.YtbikdngpannekaaDoor
