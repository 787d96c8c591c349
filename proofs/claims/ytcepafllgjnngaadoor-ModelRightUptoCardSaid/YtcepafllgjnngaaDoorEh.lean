/-
  What an act of law 19 reads as.
-/
import Derived.Test.YtcepafllgjnngaaDoorEc
import Derived.Test.YtcepafllgjnngaaDoorEf
namespace Go.Proofs.YtcepafllgjnngaaDoor
open Go.RowKit Go.Proofs.YtcepafllgjnngaaDoorW.PrintWords
open Go.ChangeShapes Go.WideShapes Go.ChangeAt

def kA19 : Kd (Int × (Int × (Int × (Int × (Sl.Vl × (Int × (Int × List Int))))))) := Kd.pair (Kd.int .i64) (Kd.pair (Kd.int .i64) (Kd.pair (Kd.int .i64) (Kd.pair (Kd.int .i64) (Kd.pair kVl (Kd.pair (Kd.int .u64) (Kd.pair (Kd.int .u8) (Kd.slice 3 (Kd.int .i64))))))))
set_option maxRecDepth 100000 in
set_option maxHeartbeats 2000000 in
theorem op_a19 (W : World) : Op W 58 kA19 (fun B x => Wf .i64 x.1 ∧ Wf .i64 x.2.1 ∧ Wf .i64 x.2.2.1 ∧ Wf .i64 x.2.2.2.1 ∧ (Wf .u8 x.2.2.2.2.1.1 ∧ Wf .u64 x.2.2.2.2.1.2.1 ∧ Wf .i64 x.2.2.2.2.1.2.2.1 ∧ Wf .i64 x.2.2.2.2.1.2.2.2) ∧ Wf .u64 x.2.2.2.2.2.1 ∧ Wf .u8 x.2.2.2.2.2.2.1 ∧ x.2.2.2.2.2.2.2.length ≤ B ∧ ∀ p ∈ x.2.2.2.2.2.2.2, Wf .i64 p) := by
  refine Op.struct (k := kA19) Tryd.underlying58 (by kernel_rfl) ?_
  refine FOp.cons (k := Kd.int .i64) (kr := Kd.pair (Kd.int .i64) (Kd.pair (Kd.int .i64) (Kd.pair (Kd.int .i64) (Kd.pair kVl (Kd.pair (Kd.int .u64) (Kd.pair (Kd.int .u8) (Kd.slice 3 (Kd.int .i64)))))))) (I := fun _ => Wf .i64) (J := fun B (x : Int × (Int × (Int × (Sl.Vl × (Int × (Int × List Int)))))) => Wf .i64 x.1 ∧ Wf .i64 x.2.1 ∧ Wf .i64 x.2.2.1 ∧ (Wf .u8 x.2.2.2.1.1 ∧ Wf .u64 x.2.2.2.1.2.1 ∧ Wf .i64 x.2.2.2.1.2.2.1 ∧ Wf .i64 x.2.2.2.1.2.2.2) ∧ Wf .u64 x.2.2.2.2.1 ∧ Wf .u8 x.2.2.2.2.2.1 ∧ x.2.2.2.2.2.2.length ≤ B ∧ ∀ p ∈ x.2.2.2.2.2.2, Wf .i64 p) rfl (by kernel_rfl) (op_int W) ?_
  refine FOp.cons (k := Kd.int .i64) (kr := Kd.pair (Kd.int .i64) (Kd.pair (Kd.int .i64) (Kd.pair kVl (Kd.pair (Kd.int .u64) (Kd.pair (Kd.int .u8) (Kd.slice 3 (Kd.int .i64))))))) (I := fun _ => Wf .i64) (J := fun B (x : Int × (Int × (Sl.Vl × (Int × (Int × List Int))))) => Wf .i64 x.1 ∧ Wf .i64 x.2.1 ∧ (Wf .u8 x.2.2.1.1 ∧ Wf .u64 x.2.2.1.2.1 ∧ Wf .i64 x.2.2.1.2.2.1 ∧ Wf .i64 x.2.2.1.2.2.2) ∧ Wf .u64 x.2.2.2.1 ∧ Wf .u8 x.2.2.2.2.1 ∧ x.2.2.2.2.2.length ≤ B ∧ ∀ p ∈ x.2.2.2.2.2, Wf .i64 p) rfl (by kernel_rfl) (op_int W) ?_
  refine FOp.cons (k := Kd.int .i64) (kr := Kd.pair (Kd.int .i64) (Kd.pair kVl (Kd.pair (Kd.int .u64) (Kd.pair (Kd.int .u8) (Kd.slice 3 (Kd.int .i64)))))) (I := fun _ => Wf .i64) (J := fun B (x : Int × (Sl.Vl × (Int × (Int × List Int)))) => Wf .i64 x.1 ∧ (Wf .u8 x.2.1.1 ∧ Wf .u64 x.2.1.2.1 ∧ Wf .i64 x.2.1.2.2.1 ∧ Wf .i64 x.2.1.2.2.2) ∧ Wf .u64 x.2.2.1 ∧ Wf .u8 x.2.2.2.1 ∧ x.2.2.2.2.length ≤ B ∧ ∀ p ∈ x.2.2.2.2, Wf .i64 p) rfl (by kernel_rfl) (op_int W) ?_
  refine FOp.cons (k := Kd.int .i64) (kr := Kd.pair kVl (Kd.pair (Kd.int .u64) (Kd.pair (Kd.int .u8) (Kd.slice 3 (Kd.int .i64))))) (I := fun _ => Wf .i64) (J := fun B (x : Sl.Vl × (Int × (Int × List Int))) => (Wf .u8 x.1.1 ∧ Wf .u64 x.1.2.1 ∧ Wf .i64 x.1.2.2.1 ∧ Wf .i64 x.1.2.2.2) ∧ Wf .u64 x.2.1 ∧ Wf .u8 x.2.2.1 ∧ x.2.2.2.length ≤ B ∧ ∀ p ∈ x.2.2.2, Wf .i64 p) rfl (by kernel_rfl) (op_int W) ?_
  refine FOp.cons (k := kVl) (kr := Kd.pair (Kd.int .u64) (Kd.pair (Kd.int .u8) (Kd.slice 3 (Kd.int .i64)))) (I := fun _ (x : Sl.Vl) => Wf .u8 x.1 ∧ Wf .u64 x.2.1 ∧ Wf .i64 x.2.2.1 ∧ Wf .i64 x.2.2.2) (J := fun B (x : Int × (Int × List Int)) => Wf .u64 x.1 ∧ Wf .u8 x.2.1 ∧ x.2.2.length ≤ B ∧ ∀ p ∈ x.2.2, Wf .i64 p) rfl (by kernel_rfl) (op_vl W) ?_
  refine FOp.cons (k := Kd.int .u64) (kr := Kd.pair (Kd.int .u8) (Kd.slice 3 (Kd.int .i64))) (I := fun _ => Wf .u64) (J := fun B (x : Int × List Int) => Wf .u8 x.1 ∧ x.2.length ≤ B ∧ ∀ p ∈ x.2, Wf .i64 p) rfl (by kernel_rfl) (Op.int Tryd.underlying23) ?_
  refine FOp.cons (k := Kd.int .u8) (kr := Kd.slice 3 (Kd.int .i64)) (I := fun _ => Wf .u8) (J := fun B (x : List Int) => x.length ≤ B ∧ ∀ p ∈ x, Wf .i64 p) rfl (by kernel_rfl) (Op.int Tryd.underlying5) ?_
  exact FOp.one (k := Kd.slice 3 (Kd.int .i64)) rfl (by kernel_rfl) (Op.slice Tryd.underlying34 (by kernel_rfl) (op_int W))
/-- an act as it is handed in -/
structure Ax where
  kd : Int
  f : Int
  d : Int
  s : Int
  v : Sl.Vl
  x : Int
  op : Int
  S : Option Addr
  sc : Nat
  sl : List Int
def AxIn (W : World) (a : Ax) : Prop := ReadsInt W .i64 a.S a.sl.length a.sl ∧ (∀ p ∈ a.sl, -9223372036854775808 ≤ p ∧ p ≤ 9223372036854775807) ∧ (-9223372036854775808 ≤ a.s ∧ a.s ≤ 9223372036854775807) ∧ VlIn a.v ∧ (0 ≤ a.x ∧ a.x ≤ 18446744073709551615)
set_option maxRecDepth 100000 in
set_option maxHeartbeats 2000000 in
theorem open_a19 {H : Type} {enc : TypeId × Value → H} {W : World} {base : Nat} {v : Value} {d : DataW H} {ps : List MemPlace} (hval : Value.okWide Tryd.prog W .any base 58 v) (h : DataW.Trod enc Tryd.prog W 0 (fun _ => true) true 58 v d ps) : ∃ a : Ax, v = .agg #[.int .i64 a.kd, .int .i64 a.f, .int .i64 a.d, .int .i64 a.s, .int .u8 a.v.1, .int .u64 a.v.2.1, .int .i64 a.v.2.2.1, .int .i64 a.v.2.2.2, .int .u64 a.x, .int .u8 a.op, .slice a.S a.sl.length a.sc] ∧ AxIn W a := by
  obtain ⟨x, cs, rfl, ⟨a0, a1, rfl, rfl, b0, b1, rfl, rfl, c0, c1, rfl, rfl, d0, d1, rfl, rfl, e0, e1, rfl, ⟨f0, f1, rfl, rfl, g0, g1, rfl, rfl, h0, h1, rfl, rfl, rfl⟩, i0, i1, rfl, rfl, j0, j1, rfl, rfl, A, c, rfl, hl, hC⟩, hI⟩ := open_st Tryd.underlying58 (op_a19 W) hval h
  obtain ⟨q1, q2, q3, q4, ⟨q5, q6, q7, q8⟩, q9, q10, q11, q12⟩ := hI
  refine ⟨⟨x.1, x.2.1, x.2.2.1, x.2.2.2.1, x.2.2.2.2.1, x.2.2.2.2.2.1, x.2.2.2.2.2.2.1, A, c, x.2.2.2.2.2.2.2⟩, rfl, ?_, fun p hp => wf_i64 (q12 p hp), wf_i64 q4, ⟨wf_u8 q5, wf_u64 q6, wf_i64 q7, wf_i64 q8⟩, wf_u64 q9⟩
  exact Kd.reads_of_C hC
end Go.Proofs.YtcepafllgjnngaaDoor
