/-
  What arguments of the program's own kinds read as: what is put in a slot.
-/
import Derived.Test.YtbikdngpannekaaDoorEb
namespace Go.Proofs.YtbikdngpannekaaDoor
open Go.RowKit Go.Proofs.YtbikdngpannekaaDoorW.PrintWords
open Go.ChangeShapes Go.WideShapes Go.ChangeAt

def kAct : Kd (Int × (Int × Sl.Vl)) := Kd.pair (Kd.int .i64) (Kd.pair (Kd.int .i64) kVl)
set_option maxRecDepth 100000 in
set_option maxHeartbeats 2000000 in
theorem op_act (W : World) : Op W 78 kAct (fun _ x => Wf .i64 x.1 ∧ Wf .i64 x.2.1 ∧ Wf .u8 x.2.2.1 ∧ Wf .u64 x.2.2.2.1 ∧ Wf .i64 x.2.2.2.2.1 ∧ Wf .i64 x.2.2.2.2.2) := by
  refine Op.struct (k := kAct) Tryd.underlying78 (by kernel_rfl) ?_
  refine FOp.cons (k := Kd.int .i64) (kr := Kd.pair (Kd.int .i64) kVl) (I := fun _ => Wf .i64) (J := fun _ (y : Int × Sl.Vl) => Wf .i64 y.1 ∧ Wf .u8 y.2.1 ∧ Wf .u64 y.2.2.1 ∧ Wf .i64 y.2.2.2.1 ∧ Wf .i64 y.2.2.2.2) rfl (by kernel_rfl) (op_int W) ?_
  refine FOp.cons (k := Kd.int .i64) (kr := kVl) (I := fun _ => Wf .i64) (J := fun _ (y : Sl.Vl) => Wf .u8 y.1 ∧ Wf .u64 y.2.1 ∧ Wf .i64 y.2.2.1 ∧ Wf .i64 y.2.2.2) rfl (by kernel_rfl) (op_int W) ?_
  exact FOp.one (k := kVl) rfl (by kernel_rfl) (op_vl W)
def ActIn (y : Int × (Int × Sl.Vl)) : Prop := (-9223372036854775808 ≤ y.1 ∧ y.1 ≤ 9223372036854775807) ∧ (-9223372036854775808 ≤ y.2.1 ∧ y.2.1 ≤ 9223372036854775807) ∧ VlIn y.2.2
set_option maxRecDepth 100000 in
set_option maxHeartbeats 2000000 in
theorem open_act16 {H : Type} {enc : TypeId × Value → H} {W : World} {base : Nat} {v : Value} {d : DataW H} {ps : List MemPlace} (hval : Value.okWide Tryd.prog W .any base 78 v) (h : DataW.Trod enc Tryd.prog W 0 (fun _ => true) true 78 v d ps) : ∃ y : Int × (Int × Sl.Vl), v = .agg #[.int .i64 y.1, .int .i64 y.2.1, .int .u8 y.2.2.1, .int .u64 y.2.2.2.1, .int .i64 y.2.2.2.2.1, .int .i64 y.2.2.2.2.2] ∧ ActIn y := by
  obtain ⟨x, cs, rfl, ⟨a0, a1, rfl, rfl, b0, b1, rfl, rfl, c0, c', rfl, rfl, c1, c2, rfl, rfl, c3, c4, rfl, rfl, rfl⟩, hI⟩ := open_st Tryd.underlying78 (op_act W) hval h
  exact ⟨x, rfl, wf_i64 hI.1, wf_i64 hI.2.1, wf_u8 hI.2.2.1, wf_u64 hI.2.2.2.1, wf_i64 hI.2.2.2.2.1, wf_i64 hI.2.2.2.2.2⟩
end Go.Proofs.YtbikdngpannekaaDoor
