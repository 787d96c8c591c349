/-
  What arguments of the program's own kinds read as: stacks.
-/
import Derived.Test.YtcepafllgjnngaaDoorEb
namespace Go.Proofs.YtcepafllgjnngaaDoor
open Go.RowKit Go.Proofs.YtcepafllgjnngaaDoorW.PrintWords
open Go.ChangeShapes Go.WideShapes Go.ChangeAt

def kStk : Kd (Int × (Int × Int)) := Kd.pair (Kd.int .i64) (Kd.pair (Kd.int .i64) (Kd.int .i64))
set_option maxRecDepth 100000 in
set_option maxHeartbeats 2000000 in
theorem op_stk (W : World) : Op W 41 kStk (fun _ x => Wf .i64 x.1 ∧ Wf .i64 x.2.1 ∧ Wf .i64 x.2.2) := by
  refine Op.struct (k := kStk) Tryd.underlying41 (by kernel_rfl) ?_
  refine FOp.cons (k := Kd.int .i64) (kr := Kd.pair (Kd.int .i64) (Kd.int .i64)) (I := fun _ => Wf .i64) (J := fun _ (y : Int × Int) => Wf .i64 y.1 ∧ Wf .i64 y.2) rfl (by kernel_rfl) (op_int W) ?_
  refine FOp.cons (k := Kd.int .i64) (kr := Kd.int .i64) (I := fun _ => Wf .i64) (J := fun _ => Wf .i64) rfl (by kernel_rfl) (op_int W) ?_
  exact FOp.one (k := Kd.int .i64) rfl (by kernel_rfl) (op_int W)
def StkIn (x : Int × (Int × Int)) : Prop := (-9223372036854775808 ≤ x.1 ∧ x.1 ≤ 9223372036854775807) ∧ (-9223372036854775808 ≤ x.2.1 ∧ x.2.1 ≤ 9223372036854775807) ∧ (-9223372036854775808 ≤ x.2.2 ∧ x.2.2 ≤ 9223372036854775807)
set_option maxRecDepth 100000 in
set_option maxHeartbeats 2000000 in
theorem open_stk {H : Type} {enc : TypeId × Value → H} {W : World} {base : Nat} {v : Value} {d : DataW H} {ps : List MemPlace} (hval : Value.okWide Tryd.prog W .any base 41 v) (h : DataW.Trod enc Tryd.prog W 0 (fun _ => true) true 41 v d ps) : ∃ x : Int × (Int × Int), v = .agg #[.int .i64 x.1, .int .i64 x.2.1, .int .i64 x.2.2] ∧ StkIn x := by
  obtain ⟨x, cs, rfl, ⟨c0, c', rfl, rfl, c1, c2, rfl, rfl, rfl⟩, hI⟩ := open_st Tryd.underlying41 (op_stk W) hval h
  exact ⟨x, rfl, wf_i64 hI.1, wf_i64 hI.2.1, wf_i64 hI.2.2⟩
end Go.Proofs.YtcepafllgjnngaaDoor
