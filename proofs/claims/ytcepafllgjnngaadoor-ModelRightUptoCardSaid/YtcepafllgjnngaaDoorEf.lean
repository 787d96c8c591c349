/-
  What an argument of frames without addresses reads as.
-/
import Derived.Test.YtcepafllgjnngaaDoorEb
import Derived.Test.YtcepafllgjnngaaDoorPa
import Derived.Test.YtcepafllgjnngaaDoorPe
namespace Go.Proofs.YtcepafllgjnngaaDoor
open Go.RowKit Go.Proofs.YtcepafllgjnngaaDoorW.PrintWords
open Go.ChangeShapes Go.WideShapes Go.ChangeAt

instance : Inhabited Af := ⟨dAf⟩
set_option maxRecDepth 100000 in
set_option maxHeartbeats 2000000 in
theorem op_af (W : World) : Op W 113 kAf (fun B x => Wf .i64 x.1 ∧ x.2.length ≤ B ∧ ∀ p ∈ x.2, Wf .u8 p.1 ∧ Wf .u64 p.2.1 ∧ Wf .i64 p.2.2.1 ∧ Wf .i64 p.2.2.2) := by
  refine Op.struct (k := kAf) Tryd.underlying113 (by kernel_rfl) ?_
  refine FOp.cons (k := Kd.int .i64) (kr := Kd.slice 56 kVl) (I := fun _ => Wf .i64) (J := fun B (y : List Sl.Vl) => y.length ≤ B ∧ ∀ p ∈ y, Wf .u8 p.1 ∧ Wf .u64 p.2.1 ∧ Wf .i64 p.2.2.1 ∧ Wf .i64 p.2.2.2) rfl (by kernel_rfl) (op_int W) ?_
  exact FOp.one (k := Kd.slice 56 kVl) rfl (by kernel_rfl) (Op.slice Tryd.underlying111 (by kernel_rfl) (op_vl W))
set_option maxRecDepth 100000 in
set_option maxHeartbeats 2000000 in
theorem open_afs {H : Type} {enc : TypeId × Value → H} {W : World} {base : Nat} {v : Value} {d : DataW H} {ps : List MemPlace} (hval : Value.okWide Tryd.prog W .any base 42 v) (h : DataW.Trod enc Tryd.prog W 0 (fun _ => true) true 42 v d ps) : ∃ A c l, v = .slice A l.length c ∧ kAf.C W A l.length l ∧ AfIn l ∧ l.length ≤ Rows.uptoBulk d ∧ ∀ f ∈ l, f.2.length ≤ Rows.uptoBulk d := by
  obtain ⟨A, c, l, e, hC, hI, hlc⟩ := open_sl Tryd.underlying42 (Op.slice Tryd.underlying42 (by kernel_rfl) (op_af W)) hval h
  exact ⟨A, c, l, e, hC, (fun x hx p hp => ⟨wf_u8 ((hI.2 x hx).2.2 p hp).1, wf_u64 ((hI.2 x hx).2.2 p hp).2.1, wf_i64 ((hI.2 x hx).2.2 p hp).2.2.1, wf_i64 ((hI.2 x hx).2.2 p hp).2.2.2⟩), hI.1, (fun x hx => (hI.2 x hx).2.1)⟩
end Go.Proofs.YtcepafllgjnngaaDoor
