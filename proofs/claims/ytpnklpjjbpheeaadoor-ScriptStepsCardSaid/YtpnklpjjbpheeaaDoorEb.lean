/-
  What arguments of the program's own kinds read as: frames, values.
-/
import Derived.Test.YtpnklpjjbpheeaaDoorEc
import Derived.Test.YtpnklpjjbpheeaaDoorK2
namespace Go.Proofs.YtpnklpjjbpheeaaDoor
open Go.RowKit Go.Proofs.YtpnklpjjbpheeaaDoorW.PrintWords
open Go.ChangeShapes Go.WideShapes Go.ChangeAt

instance : Inhabited Sl.Fr := ⟨Sl.dFr⟩
instance : Inhabited Sl.Vl := ⟨Sl.dVl⟩
set_option maxRecDepth 100000 in
set_option maxHeartbeats 2000000 in
theorem op_vl (W : World) : Op W 43 kVl (fun _ x => Wf .u8 x.1 ∧ Wf .u64 x.2.1 ∧ Wf .i64 x.2.2.1 ∧ Wf .i64 x.2.2.2) := by
  refine Op.struct (k := kVl) Tryd.underlying43 (by kernel_rfl) ?_
  refine FOp.cons (k := Kd.int .u8) (kr := Kd.pair (Kd.int .u64) (Kd.pair (Kd.int .i64) (Kd.int .i64))) (I := fun _ => Wf .u8) (J := fun _ (y : Int × (Int × Int)) => Wf .u64 y.1 ∧ Wf .i64 y.2.1 ∧ Wf .i64 y.2.2) rfl (by kernel_rfl) (Op.int Tryd.underlying5) ?_
  refine FOp.cons (k := Kd.int .u64) (kr := Kd.pair (Kd.int .i64) (Kd.int .i64)) (I := fun _ => Wf .u64) (J := fun _ (y : Int × Int) => Wf .i64 y.1 ∧ Wf .i64 y.2) rfl (by kernel_rfl) (Op.int Tryd.underlying22) ?_
  refine FOp.cons (k := Kd.int .i64) (kr := Kd.int .i64) (I := fun _ => Wf .i64) (J := fun _ => Wf .i64) rfl (by kernel_rfl) (op_int W) ?_
  exact FOp.one (k := Kd.int .i64) rfl (by kernel_rfl) (op_int W)
set_option maxRecDepth 100000 in
set_option maxHeartbeats 2000000 in
theorem open_vls {H : Type} {enc : TypeId × Value → H} {W : World} {base : Nat} {v : Value} {d : DataW H} {ps : List MemPlace} (hval : Value.okWide Tryd.prog W .any base 135 v) (h : DataW.Trod enc Tryd.prog W 0 (fun _ => true) true 135 v d ps) : ∃ A c l, v = .slice A l.length c ∧ kVl.C W A l.length l ∧ VlsIn l ∧ l.length ≤ Rows.uptoBulk d := by
  obtain ⟨A, c, l, e, hC, hI, hlc⟩ := open_sl Tryd.underlying135 (Op.slice Tryd.underlying135 (by kernel_rfl) (op_vl W)) hval h
  exact ⟨A, c, l, e, hC, (fun x hx => ⟨wf_u8 (hI.2 x hx).1, wf_u64 (hI.2 x hx).2.1, wf_i64 (hI.2 x hx).2.2.1, wf_i64 (hI.2 x hx).2.2.2⟩), hI.1⟩
set_option maxRecDepth 100000 in
set_option maxHeartbeats 2000000 in
theorem open_vl {H : Type} {enc : TypeId × Value → H} {W : World} {base : Nat} {v : Value} {d : DataW H} {ps : List MemPlace} (hval : Value.okWide Tryd.prog W .any base 43 v) (h : DataW.Trod enc Tryd.prog W 0 (fun _ => true) true 43 v d ps) : ∃ x : Sl.Vl, v = .agg #[.int .u8 x.1, .int .u64 x.2.1, .int .i64 x.2.2.1, .int .i64 x.2.2.2] ∧ VlIn x := by
  obtain ⟨x, cs, rfl, ⟨c0, c', rfl, rfl, c1, c2, rfl, rfl, c3, c4, rfl, rfl, rfl⟩, hI⟩ := open_st Tryd.underlying43 (op_vl W) hval h
  exact ⟨x, rfl, wf_u8 hI.1, wf_u64 hI.2.1, wf_i64 hI.2.2.1, wf_i64 hI.2.2.2⟩
end Go.Proofs.YtpnklpjjbpheeaaDoor
