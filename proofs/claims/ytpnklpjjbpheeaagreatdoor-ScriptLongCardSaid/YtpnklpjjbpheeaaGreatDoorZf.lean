/-
  The walk of script.value; conditions: the tables stand, the value may be and its numbers may be written.
-/
import Derived.Test.YtpnklpjjbpheeaaGreatDoorZe
import Derived.Test.YtpnklpjjbpheeaaGreatDoorYj
import Derived.Lib.ConvBytes
import Derived.Laws.BytesArg
import Derived.Laws.Rows
import Derived.Deep.RegionHeld3
namespace Go.Proofs.YtpnklpjjbpheeaaGreatDoor
open Go.RowKit Go.Proofs.YtpnklpjjbpheeaaGreatDoorW.PrintWords
open Go.Proofs.Fl Go.Proofs.YtpnklpjjbpheeaaGreatDoor.Flt

/-- a value's words -/
def vW (k : Int) (b d s : Nat) : List ByteArray := if k = 1 then [⟨#[98, 105, 116, 115]⟩, tx b] else if k = 2 then [⟨#[114, 101, 102]⟩, dec d, dec s] else [⟨#[110, 105, 108]⟩]
def WordsAt (w : World) (g : Nat) (l : List ByteArray) : Prop := w.heap[g]? = some (.cells (l.map Value.string).toArray 9 (0, 0))
set_option maxRecDepth 100000 in
set_option maxHeartbeats 8000000 in
theorem svalue_any (k : Int) (b d s : Nat) (w : World) (hb : b < 18446744073709551616) (hd : d ≤ 1000000) (hs : s ≤ 1000000) (hT : Tab w) (hP : P10 w) :
    Calls Tryz.prog 36 #[.agg #[.int .u8 k, .int .u64 (b : Int), .int .i64 (d : Int), .int .i64 (s : Int)]] w fun e w' => ∃ g, e = .returned (.slice (some ⟨g, 0, none⟩) (vW k b d s).length (vW k b d s).length) ∧ WordsAt w' g (vW k b d s) ∧ w.heap.size ≤ g ∧ Below w.heap.size w w' := by
  have hb0 := below_alloc (Below.refl w.heap.size w) (.cells #[.int .u8 k, .int .u64 (b : Int), .int .i64 (d : Int), .int .i64 (s : Int)] 46)
  have HB0 := Lk.mk hb0
  have HE := Lk.mk (blk_new w (.cells #[.int .u8 k, .int .u64 (b : Int), .int .i64 (d : Int), .int .i64 (s : Int)] 46))
  have HTX := Lk.mk (fun W (hw : Below w.heap.size w W) => ftext_any b W hb (hT.below hw))
  have HND := Lk.mk (fun W (hw : Below w.heap.size w W) => snum_any d W hd (hP.below hw))
  have HNS := Lk.mk (fun W (hw : Below w.heap.size w W) => snum_any s W hs (hP.below hw))
  rw [show strOfNums (Hx.low 16 b) = tx b from rfl] at HTX
  clear hT hP hb0 hb hd hs
  by_cases h1 : k = 1
  · subst h1
    have e : vW 1 b d s = [⟨#[98, 105, 116, 115]⟩, tx b] := rfl
    rw [e]
    clear e HND HNS
    generalize tx b = T at *
    go_enter Tryz.func36, Tryz.ntmps36
    go_wp2_with (go_at_call 37; (with_reducible refine (HTX.out _ HB0.out).mono ?_); rintro e w1 ⟨rfl, hb⟩; have HB := Lk.mk (below_then HB0.out HB0.out.size hb); clear hb)
    go_ret
    exact ⟨_, rfl, blk_new w1 _, HB.out.size, below_alloc HB.out _⟩
  · have h1b : (k == 1) = false := beq_false_of_ne (by omega)
    by_cases h2 : k = 2
    · subst h2
      have e : vW 2 b d s = [⟨#[114, 101, 102]⟩, dec d, dec s] := rfl
      rw [e]
      clear e HTX h1
      have HRd := Lk.mk (blk_drew HE.out)
      have HSS := Lk.mk (show ∀ W : World, W.heap[w.heap.size]? = some (.cells #[.int .u8 2, .int .u64 (b : Int), .int .i64 (d : Int), .int .i64 (s : Int)] 46 (0, 0)) → W.cell? ⟨w.heap.size, 2, none⟩ = some (.int .i64 (d : Int)) ∧ W.cell? ⟨w.heap.size, 3, none⟩ = some (.int .i64 (s : Int)) from fun W h => ⟨(blk_cell h 2).trans rfl, (blk_cell h 3).trans rfl⟩)
      have HB1 := Lk.mk (below_then HB0.out HB0.out.size (below_drew (Below.refl _ _)))
      go_enter Tryz.func36, Tryz.ntmps36
      go_wp2
      go_region_held3 (fun W' => W'.cell? ⟨w.heap.size, 2, none⟩ = some (.int .i64 (d : Int)) ∧ W'.cell? ⟨w.heap.size, 3, none⟩ = some (.int .i64 (s : Int))) (first | with_reducible exact HSS.out _ HRd.out | with_reducible exact HSS.out _ HR1.out | with_reducible exact HSS.out _ HR2.out | with_reducible exact HSS.out _ (blk_alloc HR2.out _)) (first
        | (go_at_call 35; (with_reducible refine (HND.out _ HB1.out).mono ?_); rintro e w1 ⟨rfl, hb⟩; have HBB := Lk.mk (below_then HB1.out HB1.out.size hb); have HR1 := Lk.mk (blk_below HRd.out hb); clear hb)
        | (go_at_call 35; (with_reducible refine (HNS.out _ HBB.out).mono ?_); rintro e w2 ⟨rfl, hb⟩; have HBC := Lk.mk (below_then HBB.out HBB.out.size hb); have HR2 := Lk.mk (blk_below HR1.out hb); clear hb)
        | (go_at_call 35; (with_reducible refine (HNS.out _ HB1.out).mono ?_); rintro e w1 ⟨rfl, hb⟩; have HBB := Lk.mk (below_then HB1.out HB1.out.size hb); have HR1 := Lk.mk (blk_below HRd.out hb); clear hb)
        | (go_at_call 35; (with_reducible refine (HND.out _ HBB.out).mono ?_); rintro e w2 ⟨rfl, hb⟩; have HBC := Lk.mk (below_then HBB.out HBB.out.size hb); have HR2 := Lk.mk (blk_below HR1.out hb); clear hb))
      go_wp2
      go_ret
      exact ⟨_, rfl, blk_new _ _, HBC.out.size, below_alloc HBC.out _⟩
    · have e : vW k b d s = [⟨#[110, 105, 108]⟩] := by unfold vW; rw [if_neg h1, if_neg h2]
      have h2b : (k == 2) = false := beq_false_of_ne (by omega)
      rw [e]
      clear e HTX HND HNS h1 h2
      go_enter Tryz.func36, Tryz.ntmps36
      go_wp2
      go_ret
      refine ⟨_, rfl, ?_, Nat.le_succ _, below_alloc HB0.out _⟩
      have h := blk_new (w.alloc (.cells #[.int .u8 k, .int .u64 (b : Int), .int .i64 (d : Int), .int .i64 (s : Int)] 46)) (.cells #[.string ⟨#[110, 105, 108]⟩] 9)
      rw [show (w.alloc (.cells #[.int .u8 k, .int .u64 (b : Int), .int .i64 (d : Int), .int .i64 (s : Int)] 46)).heap.size = w.heap.size + 1 from by simp] at h
      exact h
end Go.Proofs.YtpnklpjjbpheeaaGreatDoor
