/-
  The walk of the law WalkTop; conditions: what is handed in reads as told, the table of deBruijn stands.
-/
import Derived.Test.YtbikdngpannekaaDoorMl
import Derived.Test.YtbikdngpannekaaDoorDi
import Derived.Test.YtbikdngpannekaaDoorCg
namespace Go.Proofs.YtbikdngpannekaaDoor
open Go.RowKit Go.Proofs.YtbikdngpannekaaDoorW.PrintWords

set_option maxRecDepth 100000 in
set_option maxHeartbeats 2000000 in
theorem laid15_any (V : Option Addr) (c : Nat) (ws : List Int) (w : World) (hr : ReadsInt w .u64 V ws.length ws) (hw : Bm.Words ws) (hl : ws.length ≤ 256) :
    Calls Tryd.prog 54 #[.slice V ws.length c] w fun e w' => e = .returned (.pointer (some ⟨w.heap.size + 1, 0, none⟩)) ∧ ArB w' (w.heap.size + 1) w.heap.size (putW zw 0 ws) ∧ Below w.heap.size w w' := by
  have HA := Lk.mk (anew_any 4 w (by decide) (by decide))
  rw [show (((4 : Nat)) : Int) = 4 from rfl, show List.replicate (64 * 4) 0 = zw from rfl] at HA
  have HS := Lk.mk (fun W (hb : Below w.heap.size w W) (hA : ArB W (w.heap.size + 1) w.heap.size zw) => (store_ok (w.heap.size + 1) w.heap.size zw 0 V c ws W hA (hr.below hb) hw (by rw [zw_len]; omega) : Calls Tryd.prog 61 #[.pointer (some ⟨w.heap.size + 1, 0, none⟩), .int .i64 0, .slice V ws.length c] W _))
  rw [show (((0 : Nat)) : Int) = 0 from rfl] at HS
  clear hr hw
  go_enter Tryd.func54, Tryd.ntmps54
  go_wp2_with (first
    | (go_at_call 70; (with_reducible refine (HA.out).mono ?_); rintro e w1 ⟨rfl, ha, hb⟩; have HA1 := Lk.mk ha; have HB1 := Lk.mk hb; clear ha hb)
    | (go_at_call 61; (with_reducible refine (HS.out _ HB1.out HA1.out).mono ?_); rintro e w3 ⟨rfl, ha, hk⟩; have HA3 := Lk.mk ha; have HB3 := Lk.mk (hk.below HB1.out (Nat.le_refl _) HB1.out.size); clear ha hk))
  go_ret
  exact ⟨rfl, HA3.out, HB3.out⟩
end Go.Proofs.YtbikdngpannekaaDoor
