/-
  What an argument of steps reads as.
-/
import Derived.Test.YtpnklpjjbpheeaaDoorEb
import Derived.Test.YtpnklpjjbpheeaaDoorEc
import Derived.Test.YtpnklpjjbpheeaaDoorZo
namespace Go.Proofs.YtpnklpjjbpheeaaDoor
open Go.RowKit Go.Proofs.YtpnklpjjbpheeaaDoorW.PrintWords
open Go.ChangeShapes Go.WideShapes Go.ChangeAt

instance : Inhabited Tp := ⟨dTp⟩
set_option maxRecDepth 100000 in
set_option maxHeartbeats 2000000 in
theorem op_st (W : World) : Op W 46 kSt (fun B x => Wf .u8 x.1 ∧ Wf .i64 x.2.1 ∧ Wf .i64 x.2.2.1 ∧ Wf .i64 x.2.2.2.1 ∧ Wf .i64 x.2.2.2.2.1 ∧ Wf .i64 x.2.2.2.2.2.1 ∧ (Wf .u8 x.2.2.2.2.2.2.1.1 ∧ Wf .u64 x.2.2.2.2.2.2.1.2.1 ∧ Wf .i64 x.2.2.2.2.2.2.1.2.2.1 ∧ Wf .i64 x.2.2.2.2.2.2.1.2.2.2) ∧ Wf .u8 x.2.2.2.2.2.2.2.1 ∧ x.2.2.2.2.2.2.2.2.length ≤ B ∧ ∀ p ∈ x.2.2.2.2.2.2.2.2, Wf .i64 p) := by
  refine Op.struct (k := kSt) Tryd.underlying46 (by kernel_rfl) ?_
  refine FOp.cons (k := Kd.int .u8) (kr := Kd.pair (Kd.int .i64) (Kd.pair (Kd.int .i64) (Kd.pair (Kd.int .i64) (Kd.pair (Kd.int .i64) (Kd.pair (Kd.int .i64) (Kd.pair kVl (Kd.pair (Kd.int .u8) (Kd.slice 3 (Kd.int .i64))))))))) (I := fun _ => Wf .u8) (J := fun B (x : Int × (Int × (Int × (Int × (Int × (Sl.Vl × (Int × (List Int)))))))) => Wf .i64 x.1 ∧ Wf .i64 x.2.1 ∧ Wf .i64 x.2.2.1 ∧ Wf .i64 x.2.2.2.1 ∧ Wf .i64 x.2.2.2.2.1 ∧ (Wf .u8 x.2.2.2.2.2.1.1 ∧ Wf .u64 x.2.2.2.2.2.1.2.1 ∧ Wf .i64 x.2.2.2.2.2.1.2.2.1 ∧ Wf .i64 x.2.2.2.2.2.1.2.2.2) ∧ Wf .u8 x.2.2.2.2.2.2.1 ∧ x.2.2.2.2.2.2.2.length ≤ B ∧ ∀ p ∈ x.2.2.2.2.2.2.2, Wf .i64 p) rfl (by kernel_rfl) (Op.int Tryd.underlying5) ?_
  refine FOp.cons (k := Kd.int .i64) (kr := Kd.pair (Kd.int .i64) (Kd.pair (Kd.int .i64) (Kd.pair (Kd.int .i64) (Kd.pair (Kd.int .i64) (Kd.pair kVl (Kd.pair (Kd.int .u8) (Kd.slice 3 (Kd.int .i64)))))))) (I := fun _ => Wf .i64) (J := fun B (x : Int × (Int × (Int × (Int × (Sl.Vl × (Int × (List Int))))))) => Wf .i64 x.1 ∧ Wf .i64 x.2.1 ∧ Wf .i64 x.2.2.1 ∧ Wf .i64 x.2.2.2.1 ∧ (Wf .u8 x.2.2.2.2.1.1 ∧ Wf .u64 x.2.2.2.2.1.2.1 ∧ Wf .i64 x.2.2.2.2.1.2.2.1 ∧ Wf .i64 x.2.2.2.2.1.2.2.2) ∧ Wf .u8 x.2.2.2.2.2.1 ∧ x.2.2.2.2.2.2.length ≤ B ∧ ∀ p ∈ x.2.2.2.2.2.2, Wf .i64 p) rfl (by kernel_rfl) (op_int W) ?_
  refine FOp.cons (k := Kd.int .i64) (kr := Kd.pair (Kd.int .i64) (Kd.pair (Kd.int .i64) (Kd.pair (Kd.int .i64) (Kd.pair kVl (Kd.pair (Kd.int .u8) (Kd.slice 3 (Kd.int .i64))))))) (I := fun _ => Wf .i64) (J := fun B (x : Int × (Int × (Int × (Sl.Vl × (Int × (List Int)))))) => Wf .i64 x.1 ∧ Wf .i64 x.2.1 ∧ Wf .i64 x.2.2.1 ∧ (Wf .u8 x.2.2.2.1.1 ∧ Wf .u64 x.2.2.2.1.2.1 ∧ Wf .i64 x.2.2.2.1.2.2.1 ∧ Wf .i64 x.2.2.2.1.2.2.2) ∧ Wf .u8 x.2.2.2.2.1 ∧ x.2.2.2.2.2.length ≤ B ∧ ∀ p ∈ x.2.2.2.2.2, Wf .i64 p) rfl (by kernel_rfl) (op_int W) ?_
  refine FOp.cons (k := Kd.int .i64) (kr := Kd.pair (Kd.int .i64) (Kd.pair (Kd.int .i64) (Kd.pair kVl (Kd.pair (Kd.int .u8) (Kd.slice 3 (Kd.int .i64)))))) (I := fun _ => Wf .i64) (J := fun B (x : Int × (Int × (Sl.Vl × (Int × (List Int))))) => Wf .i64 x.1 ∧ Wf .i64 x.2.1 ∧ (Wf .u8 x.2.2.1.1 ∧ Wf .u64 x.2.2.1.2.1 ∧ Wf .i64 x.2.2.1.2.2.1 ∧ Wf .i64 x.2.2.1.2.2.2) ∧ Wf .u8 x.2.2.2.1 ∧ x.2.2.2.2.length ≤ B ∧ ∀ p ∈ x.2.2.2.2, Wf .i64 p) rfl (by kernel_rfl) (op_int W) ?_
  refine FOp.cons (k := Kd.int .i64) (kr := Kd.pair (Kd.int .i64) (Kd.pair kVl (Kd.pair (Kd.int .u8) (Kd.slice 3 (Kd.int .i64))))) (I := fun _ => Wf .i64) (J := fun B (x : Int × (Sl.Vl × (Int × (List Int)))) => Wf .i64 x.1 ∧ (Wf .u8 x.2.1.1 ∧ Wf .u64 x.2.1.2.1 ∧ Wf .i64 x.2.1.2.2.1 ∧ Wf .i64 x.2.1.2.2.2) ∧ Wf .u8 x.2.2.1 ∧ x.2.2.2.length ≤ B ∧ ∀ p ∈ x.2.2.2, Wf .i64 p) rfl (by kernel_rfl) (op_int W) ?_
  refine FOp.cons (k := Kd.int .i64) (kr := Kd.pair kVl (Kd.pair (Kd.int .u8) (Kd.slice 3 (Kd.int .i64)))) (I := fun _ => Wf .i64) (J := fun B (x : Sl.Vl × (Int × (List Int))) => (Wf .u8 x.1.1 ∧ Wf .u64 x.1.2.1 ∧ Wf .i64 x.1.2.2.1 ∧ Wf .i64 x.1.2.2.2) ∧ Wf .u8 x.2.1 ∧ x.2.2.length ≤ B ∧ ∀ p ∈ x.2.2, Wf .i64 p) rfl (by kernel_rfl) (op_int W) ?_
  refine FOp.cons (k := kVl) (kr := Kd.pair (Kd.int .u8) (Kd.slice 3 (Kd.int .i64))) (I := fun _ (x : Sl.Vl) => Wf .u8 x.1 ∧ Wf .u64 x.2.1 ∧ Wf .i64 x.2.2.1 ∧ Wf .i64 x.2.2.2) (J := fun B (x : Int × (List Int)) => Wf .u8 x.1 ∧ x.2.length ≤ B ∧ ∀ p ∈ x.2, Wf .i64 p) rfl (by kernel_rfl) (op_vl W) ?_
  refine FOp.cons (k := Kd.int .u8) (kr := Kd.slice 3 (Kd.int .i64)) (I := fun _ => Wf .u8) (J := fun B (x : List Int) => x.length ≤ B ∧ ∀ p ∈ x, Wf .i64 p) rfl (by kernel_rfl) (Op.int Tryd.underlying5) ?_
  exact FOp.one (k := Kd.slice 3 (Kd.int .i64)) rfl (by kernel_rfl) (Op.slice Tryd.underlying44 (by kernel_rfl) (op_int W))
set_option maxRecDepth 100000 in
set_option maxHeartbeats 2000000 in
theorem open_sts {H : Type} {enc : TypeId × Value → H} {W : World} {base : Nat} {v : Value} {d : DataW H} {ps : List MemPlace} (hval : Value.okWide Tryd.prog W .any base 34 v) (h : DataW.Trod enc Tryd.prog W 0 (fun _ => true) true 34 v d ps) : ∃ A c l, v = .slice A l.length c ∧ kSt.C W A l.length l ∧ (∀ t ∈ l, TpIn t) ∧ l.length ≤ Rows.uptoBulk d := by
  obtain ⟨A, c, l, e, hC, hI, hlc⟩ := open_sl Tryd.underlying34 (Op.slice Tryd.underlying34 (by kernel_rfl) (op_st W)) hval h
  refine ⟨A, c, l, e, hC, fun t ht => ?_, hI.1⟩
  obtain ⟨q0, q1, q2, q3, q4, q5, ⟨q6, q7, q8, q9⟩, q10, q11, q12⟩ := hI.2 t ht
  exact ⟨⟨wf_u8 q0, ⟨wf_u8 q6, wf_u64 q7, wf_i64 q8, wf_i64 q9⟩⟩, wf_u8 q10⟩
end Go.Proofs.YtpnklpjjbpheeaaDoor
