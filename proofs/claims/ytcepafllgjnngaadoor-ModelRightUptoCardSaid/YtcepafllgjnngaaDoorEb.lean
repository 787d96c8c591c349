/-
  What arguments of the program's own kinds read as: frames, values.
-/
import Derived.Test.YtcepafllgjnngaaDoorEc
import Derived.Test.YtcepafllgjnngaaDoorK2
namespace Go.Proofs.YtcepafllgjnngaaDoor
open Go.RowKit Go.Proofs.YtcepafllgjnngaaDoorW.PrintWords
open Go.ChangeShapes Go.WideShapes Go.ChangeAt

instance : Inhabited Sl.Fr := ⟨Sl.dFr⟩
instance : Inhabited Sl.Vl := ⟨Sl.dVl⟩
set_option maxRecDepth 100000 in
set_option maxHeartbeats 2000000 in
theorem op_fr (W : World) : Op W 79 kFr (fun _ x => Wf .i64 x.1 ∧ Wf .i64 x.2.1 ∧ Wf .i64 x.2.2) := by
  refine Op.struct (k := kFr) Tryd.underlying79 (by kernel_rfl) ?_
  refine FOp.cons (k := Kd.int .i64) (kr := Kd.pair (Kd.int .i64) (Kd.int .i64)) (I := fun _ => Wf .i64) (J := fun _ (y : Int × Int) => Wf .i64 y.1 ∧ Wf .i64 y.2) rfl (by kernel_rfl) (op_int W) ?_
  refine FOp.cons (k := Kd.int .i64) (kr := Kd.int .i64) (I := fun _ => Wf .i64) (J := fun _ => Wf .i64) rfl (by kernel_rfl) (op_int W) ?_
  exact FOp.one (k := Kd.int .i64) rfl (by kernel_rfl) (op_int W)
set_option maxRecDepth 100000 in
set_option maxHeartbeats 2000000 in
theorem op_vl (W : World) : Op W 56 kVl (fun _ x => Wf .u8 x.1 ∧ Wf .u64 x.2.1 ∧ Wf .i64 x.2.2.1 ∧ Wf .i64 x.2.2.2) := by
  refine Op.struct (k := kVl) Tryd.underlying56 (by kernel_rfl) ?_
  refine FOp.cons (k := Kd.int .u8) (kr := Kd.pair (Kd.int .u64) (Kd.pair (Kd.int .i64) (Kd.int .i64))) (I := fun _ => Wf .u8) (J := fun _ (y : Int × (Int × Int)) => Wf .u64 y.1 ∧ Wf .i64 y.2.1 ∧ Wf .i64 y.2.2) rfl (by kernel_rfl) (Op.int Tryd.underlying5) ?_
  refine FOp.cons (k := Kd.int .u64) (kr := Kd.pair (Kd.int .i64) (Kd.int .i64)) (I := fun _ => Wf .u64) (J := fun _ (y : Int × Int) => Wf .i64 y.1 ∧ Wf .i64 y.2) rfl (by kernel_rfl) (Op.int Tryd.underlying23) ?_
  refine FOp.cons (k := Kd.int .i64) (kr := Kd.int .i64) (I := fun _ => Wf .i64) (J := fun _ => Wf .i64) rfl (by kernel_rfl) (op_int W) ?_
  exact FOp.one (k := Kd.int .i64) rfl (by kernel_rfl) (op_int W)
set_option maxRecDepth 100000 in
set_option maxHeartbeats 2000000 in
theorem open_frs {H : Type} {enc : TypeId × Value → H} {W : World} {base : Nat} {v : Value} {d : DataW H} {ps : List MemPlace} (hval : Value.okWide Tryd.prog W .any base 65 v) (h : DataW.Trod enc Tryd.prog W 0 (fun _ => true) true 65 v d ps) : ∃ A c l, v = .slice A l.length c ∧ kFr.C W A l.length l ∧ FrIn l ∧ l.length ≤ Rows.uptoBulk d := by
  obtain ⟨A, c, l, e, hC, hI, hlc⟩ := open_sl Tryd.underlying65 (Op.slice Tryd.underlying65 (by kernel_rfl) (op_fr W)) hval h
  exact ⟨A, c, l, e, hC, (fun x hx => ⟨wf_i64 (hI.2 x hx).1, wf_i64 (hI.2 x hx).2.1, wf_i64 (hI.2 x hx).2.2⟩), hI.1⟩
set_option maxRecDepth 100000 in
set_option maxHeartbeats 2000000 in
theorem open_vls {H : Type} {enc : TypeId × Value → H} {W : World} {base : Nat} {v : Value} {d : DataW H} {ps : List MemPlace} (hval : Value.okWide Tryd.prog W .any base 111 v) (h : DataW.Trod enc Tryd.prog W 0 (fun _ => true) true 111 v d ps) : ∃ A c l, v = .slice A l.length c ∧ kVl.C W A l.length l ∧ VlsIn l ∧ l.length ≤ Rows.uptoBulk d := by
  obtain ⟨A, c, l, e, hC, hI, hlc⟩ := open_sl Tryd.underlying111 (Op.slice Tryd.underlying111 (by kernel_rfl) (op_vl W)) hval h
  exact ⟨A, c, l, e, hC, (fun x hx => ⟨wf_u8 (hI.2 x hx).1, wf_u64 (hI.2 x hx).2.1, wf_i64 (hI.2 x hx).2.2.1, wf_i64 (hI.2 x hx).2.2.2⟩), hI.1⟩
set_option maxRecDepth 100000 in
set_option maxHeartbeats 2000000 in
theorem open_fr {H : Type} {enc : TypeId × Value → H} {W : World} {base : Nat} {v : Value} {d : DataW H} {ps : List MemPlace} (hval : Value.okWide Tryd.prog W .any base 79 v) (h : DataW.Trod enc Tryd.prog W 0 (fun _ => true) true 79 v d ps) : ∃ x : Sl.Fr, v = .agg #[.int .i64 x.1, .int .i64 x.2.1, .int .i64 x.2.2] ∧ FrIn [x] := by
  obtain ⟨x, cs, rfl, ⟨c0, c', rfl, rfl, c1, c2, rfl, rfl, rfl⟩, hI⟩ := open_st Tryd.underlying79 (op_fr W) hval h
  exact ⟨x, rfl, fun y hy => by obtain rfl : y = x := (by simpa using hy); exact ⟨wf_i64 hI.1, wf_i64 hI.2.1, wf_i64 hI.2.2⟩⟩
set_option maxRecDepth 100000 in
set_option maxHeartbeats 2000000 in
theorem open_vl {H : Type} {enc : TypeId × Value → H} {W : World} {base : Nat} {v : Value} {d : DataW H} {ps : List MemPlace} (hval : Value.okWide Tryd.prog W .any base 56 v) (h : DataW.Trod enc Tryd.prog W 0 (fun _ => true) true 56 v d ps) : ∃ x : Sl.Vl, v = .agg #[.int .u8 x.1, .int .u64 x.2.1, .int .i64 x.2.2.1, .int .i64 x.2.2.2] ∧ VlIn x := by
  obtain ⟨x, cs, rfl, ⟨c0, c', rfl, rfl, c1, c2, rfl, rfl, c3, c4, rfl, rfl, rfl⟩, hI⟩ := open_st Tryd.underlying56 (op_vl W) hval h
  exact ⟨x, rfl, wf_u8 hI.1, wf_u64 hI.2.1, wf_i64 hI.2.2.1, wf_i64 hI.2.2.2⟩
end Go.Proofs.YtcepafllgjnngaaDoor
