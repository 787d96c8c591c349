/-
  The walk of the law SlotsOne; conditions: what is handed in reads as told, the table of deBruijn stands.
-/
import Derived.Test.YtbikdngpannekaaDoorLb
import Derived.Test.YtbikdngpannekaaDoorCd
import Derived.Test.YtbikdngpannekaaDoorDg
import Derived.Test.YtbikdngpannekaaDoorCg
namespace Go.Proofs.YtbikdngpannekaaDoor
open Go.RowKit Go.Proofs.YtbikdngpannekaaDoorW.PrintWords

/-- an arena's words where all are noughts -/
def zw : List Int := List.replicate (64 * 4) 0
theorem zw_len : zw.length = 256 := by decide +kernel
set_option maxRecDepth 100000 in
set_option maxHeartbeats 2000000 in
theorem laid16_any (V : Option Addr) (c : Nat) (ws : List Int) (w : World) (hr : ReadsInt w .u64 V ws.length ws) (hw : Bm.Words ws) (hl : ws.length ≤ 256) :
    Calls Tryd.prog 44 #[.slice V ws.length c] w fun e w' => e = .returned (.pointer (some ⟨w.heap.size + 1, 0, none⟩)) ∧ ArB w' (w.heap.size + 1) w.heap.size (putW zw 0 ws) ∧ Below w.heap.size w w' := by
  have HA := Lk.mk (anew_any 4 w (by decide) (by decide))
  rw [show (((4 : Nat)) : Int) = 4 from rfl, show List.replicate (64 * 4) 0 = zw from rfl] at HA
  have HS := Lk.mk (fun W (hb : Below w.heap.size w W) (hA : ArB W (w.heap.size + 1) w.heap.size zw) => (store_ok (w.heap.size + 1) w.heap.size zw 0 V c ws W hA (hr.below hb) hw (by rw [zw_len]; omega) : Calls Tryd.prog 61 #[.pointer (some ⟨w.heap.size + 1, 0, none⟩), .int .i64 0, .slice V ws.length c] W _))
  rw [show (((0 : Nat)) : Int) = 0 from rfl] at HS
  clear hr hw
  go_enter Tryd.func44, Tryd.ntmps44
  go_wp2_with (first
    | (go_at_call 70; (with_reducible refine (HA.out).mono ?_); rintro e w1 ⟨rfl, ha, hb⟩; have HA1 := Lk.mk ha; have HB1 := Lk.mk hb; clear ha hb)
    | (go_at_call 61; (with_reducible refine (HS.out _ HB1.out HA1.out).mono ?_); rintro e w3 ⟨rfl, ha, hk⟩; have HA3 := Lk.mk ha; have HB3 := Lk.mk (hk.below HB1.out (Nat.le_refl _) HB1.out.size); clear ha hk))
  go_ret
  exact ⟨rfl, HA3.out, HB3.out⟩
def actV (y : Int × (Int × Sl.Vl)) : Value := .agg #[.int .i64 y.1, .int .i64 y.2.1, .int .u8 y.2.2.1, .int .u64 y.2.2.2.1, .int .i64 y.2.2.2.2.1, .int .i64 y.2.2.2.2.2]
theorem row256 (g b : Nat) (ws : List Int) (w : World) (h : ArB w g b ws) (hi : ws.length = 256) :
    Calls Tryd.prog 32 #[.pointer (some ⟨g, 0, none⟩), .int .i64 0, .int .i64 256] w fun e w' => ∃ v, e = .returned (.tuple #[v, .int .i64 0]) ∧ w'.ownsRow w.heap.size 25 1 v ws.length (nums .u64 ws) ∧ Below w.heap.size w w' := by
  have := row_ok g b ws 0 256 w h (by omega)
  rw [List.drop_zero, List.take_of_length_le (by omega)] at this
  exact this
set_option maxRecDepth 100000 in
set_option maxHeartbeats 2000000 in
theorem one_bad (V : Option Addr) (c0 : Nat) (ws : List Int) (A : Option Addr) (c : Nat) (t : List (Int × List Int)) (B : Option Addr) (c' : Nat) (l : List Sl.Fr) (y : Int × (Int × Sl.Vl)) (w : World) (hz : ReadsInt w .u64 V ws.length ws) (hr : FnC w A t.length t) (hl : kFr.C w B l.length l) (hI : FnsOk t) (hT : Tab w) (hn : newOk t = false) :
    Calls Tryd.prog 9 #[.slice V ws.length c0, .slice A t.length c, .slice B l.length c', .agg #[.int .i64 y.1, .int .i64 y.2.1, .int .u8 y.2.2.1, .int .u64 y.2.2.2.1, .int .i64 y.2.2.2.2.1, .int .i64 y.2.2.2.2.2]] w fun e w' => e = .returned (.bool true) ∧ Below w.heap.size w w' := by
  obtain ⟨d, s, k, x, vd, vs⟩ := y
  have hba := below_alloc (Below.refl w.heap.size w) (.cells #[.int .i64 d, .int .i64 s, .int .u8 k, .int .u64 x, .int .i64 vd, .int .i64 vs] 78)
  have HN := Lk.mk (new_bad A c t _ (hr.below hba) hI (hT.below hba) hn)
  have hm := hl.2.1
  have hm2 := hz.2.1
  have HG := Lk.mk (fun W (hb : Below w.heap.size w W) => great16_any V ws.length c0 A c t B l.length c' W (hr.below hb) hm2 hm)
  have HT := Lk.mk hT
  have H0 := Lk.mk hba
  dsimp only
  clear hr hl hI hT hn hz hba
  generalize (decide (256 < ws.length) || greatL t || decide (40 < l.length)) = g at *
  go_enter Tryd.func9, Tryd.ntmps9
  cases g with
  | true =>
    go_wp2_with (first
      | (go_at_call 18; (with_reducible refine (HN.out).mono ?_); rintro e w1 ⟨rfl, hb⟩; have HB := Lk.mk (below_then H0.out H0.out.size hb); clear hb)
      | (go_at_call 19; (with_reducible refine (HG.out _ HB.out).mono ?_); rintro e w' ⟨rfl, hw⟩; obtain rfl := hw.symm; clear hw)
      | (go_at_call 15; (with_reducible refine (awake16_any _ (HT.out.below HB.out)).mono ?_); rintro e w1 ⟨rfl, hb⟩))
    go_ret
    exact ⟨rfl, below_then HB.out HB.out.size hb⟩
  | false =>
    go_wp2_with (first
      | (go_at_call 18; (with_reducible refine (HN.out).mono ?_); rintro e w1 ⟨rfl, hb⟩; have HB := Lk.mk (below_then H0.out H0.out.size hb); clear hb)
      | (go_at_call 19; (with_reducible refine (HG.out _ HB.out).mono ?_); rintro e w' ⟨rfl, hw⟩; obtain rfl := hw.symm; clear hw)
      | (go_at_call 15; (with_reducible refine (awake16_any _ (HT.out.below HB.out)).mono ?_); rintro e w1 ⟨rfl, hb⟩))
    go_ret
    exact ⟨rfl, below_then HB.out HB.out.size hb⟩
end Go.Proofs.YtbikdngpannekaaDoor
