/-
  The walk of the frames' made; conditions: what is handed in reads as told.
-/
import Derived.Test.YtbikdngpannekaaDoorK2
import Derived.Test.YtbikdngpannekaaDoorK1
namespace Go.Proofs.YtbikdngpannekaaDoor
open Go.RowKit Go.Proofs.YtbikdngpannekaaDoorW.PrintWords

/-- an arena's words where all are noughts -/
def zw : List Int := List.replicate (64 * 4) 0
theorem zw_len : zw.length = 256 := by decide +kernel
set_option maxRecDepth 100000 in
set_option maxHeartbeats 2000000 in
theorem made_bad (V : Option Addr) (c : Nat) (ws : List Int) (B : Option Addr) (c' : Nat) (t : List (Int × List Int)) (w : World) (hq : FnC w B t.length t) (hI : FnsOk t) (hT : Tab w) (hn : newOk t = false) :
    Calls Tryd.prog 26 #[.slice V ws.length c, .slice B t.length c'] w fun e w' => ∃ g, e = .returned (.tuple #[.pointer (some ⟨g, 0, none⟩), .pointer none, .bool false]) ∧ Below w.heap.size w w' := by
  have HA := Lk.mk (anew_any 4 w (by decide) (by decide))
  rw [show (((4 : Nat)) : Int) = 4 from rfl] at HA
  have HN := Lk.mk (fun W (hb : Below w.heap.size w W) => new_bad B c' t W (hq.below hb) hI (hT.below hb) hn)
  clear hq hI hT hn
  go_enter Tryd.func26, Tryd.ntmps26
  go_wp2_with (first
    | (go_at_call 70; (with_reducible refine (HA.out).mono ?_); rintro e w1 ⟨rfl, ha, hb⟩; have HB1 := Lk.mk hb; clear ha hb)
    | (go_at_call 18; (with_reducible refine (HN.out _ HB1.out).mono ?_); rintro e w2 ⟨rfl, hb⟩; have HB2 := Lk.mk (below_then HB1.out HB1.out.size hb); clear hb))
  go_ret3
  exact ⟨_, rfl, HB2.out⟩
set_option maxRecDepth 100000 in
set_option maxHeartbeats 2000000 in
theorem made_good (V : Option Addr) (c : Nat) (ws : List Int) (B : Option Addr) (c' : Nat) (t : List (Int × List Int)) (w : World) (hr : ReadsInt w .u64 V ws.length ws) (hw : Bm.Words ws) (hl : ws.length ≤ 256) (hq : FnC w B t.length t) (hI : FnsOk t) (hT : Tab w) (hn : newOk t = true) :
    Calls Tryd.prog 26 #[.slice V ws.length c, .slice B t.length c'] w fun e w' => ∃ p, e = .returned (.tuple #[.pointer (some ⟨w.heap.size + 1, 0, none⟩), p, .bool true]) ∧ ArB w' (w.heap.size + 1) w.heap.size (putW zw 0 ws) ∧ Stab w.heap.size (TblAt · p (t.map entryOf)) w' ∧ Below w.heap.size w w' := by
  have HA := Lk.mk (anew_any 4 w (by decide) (by decide))
  rw [show (((4 : Nat)) : Int) = 4 from rfl, show List.replicate (64 * 4) 0 = zw from rfl] at HA
  have HN := Lk.mk (fun W (hb : Below w.heap.size w W) => new_goodS B c' t W (hq.below hb) hI (hT.below hb) hn)
  have HS := Lk.mk (fun W (hb : Below w.heap.size w W) (hA : ArB W (w.heap.size + 1) w.heap.size zw) => (store_ok (w.heap.size + 1) w.heap.size zw 0 V c ws W hA (hr.below hb) hw (by rw [zw_len]; omega) : Calls Tryd.prog 61 #[.pointer (some ⟨w.heap.size + 1, 0, none⟩), .int .i64 0, .slice V ws.length c] W _))
  rw [show (((0 : Nat)) : Int) = 0 from rfl] at HS
  clear hq hI hT hn hr hw
  go_enter Tryd.func26, Tryd.ntmps26
  go_wp2_with (first
    | (go_at_call 70; (with_reducible refine (HA.out).mono ?_); rintro e w1 ⟨rfl, ha, hb⟩; have HA1 := Lk.mk ha; have HB1 := Lk.mk hb; clear ha hb)
    | (go_at_call 18; (with_reducible refine (HN.out _ HB1.out).mono ?_); rintro e w2 ⟨p, rfl, htb, hb⟩; have HS1 := Lk.mk (tbl_stab htb HA1.out.lt); have HA2 := Lk.mk (HA1.out.below hb); have HB2 := Lk.mk (below_then HB1.out HB1.out.size hb); clear hb htb)
    | (go_at_call 61; go_loud ((with_reducible refine (HS.out _ HB2.out HA2.out).mono ?_); rintro e w3 ⟨rfl, ha, hk⟩; have HA3 := Lk.mk ha; have HS3 := Lk.mk (HS1.out.keep hk); have HB3 := Lk.mk (hk.below HB2.out (Nat.le_refl _) HB2.out.size); clear ha hk)))
  go_ret3
  exact ⟨_, rfl, HA3.out, HS3.out, HB3.out⟩
end Go.Proofs.YtbikdngpannekaaDoor
