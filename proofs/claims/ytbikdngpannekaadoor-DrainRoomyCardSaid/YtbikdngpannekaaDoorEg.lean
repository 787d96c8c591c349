/-
  What an argument of a config reads as.
-/
import Derived.Test.YtbikdngpannekaaDoorEc
namespace Go.Proofs.YtbikdngpannekaaDoor
open Go.RowKit Go.Proofs.YtbikdngpannekaaDoorW.PrintWords
open Go.ChangeShapes Go.WideShapes Go.ChangeAt

def kFnK : Kd (Int × List Int) := Kd.pair (Kd.int .i64) (Kd.slice 25 (Kd.int .u64))
def kCfg : Kd (Int × (Int × (Int × List (Int × List Int)))) := Kd.pair (Kd.int .i64) (Kd.pair (Kd.int .i64) (Kd.pair (Kd.int .i64) (Kd.slice 66 kFnK)))
def CfgI (B : Nat) (x : Int × (Int × (Int × List (Int × List Int)))) : Prop := Wf .i64 x.1 ∧ Wf .i64 x.2.1 ∧ Wf .i64 x.2.2.1 ∧ x.2.2.2.length ≤ B ∧ ∀ p ∈ x.2.2.2, Wf .i64 p.1 ∧ p.2.length ≤ B ∧ ∀ q ∈ p.2, Wf .u64 q
set_option maxRecDepth 100000 in
set_option maxHeartbeats 2000000 in
theorem op_cfg (W : World) : Op W 83 kCfg CfgI := by
  refine Op.struct (k := kCfg) Tryd.underlying83 (by kernel_rfl) ?_
  refine FOp.cons (k := Kd.int .i64) (kr := Kd.pair (Kd.int .i64) (Kd.pair (Kd.int .i64) (Kd.slice 66 kFnK))) (I := fun _ => Wf .i64) (J := fun B (x : Int × (Int × List (Int × List Int))) => Wf .i64 x.1 ∧ Wf .i64 x.2.1 ∧ x.2.2.length ≤ B ∧ ∀ p ∈ x.2.2, Wf .i64 p.1 ∧ p.2.length ≤ B ∧ ∀ q ∈ p.2, Wf .u64 q) rfl (by kernel_rfl) (op_int W) ?_
  refine FOp.cons (k := Kd.int .i64) (kr := Kd.pair (Kd.int .i64) (Kd.slice 66 kFnK)) (I := fun _ => Wf .i64) (J := fun B (x : Int × List (Int × List Int)) => Wf .i64 x.1 ∧ x.2.length ≤ B ∧ ∀ p ∈ x.2, Wf .i64 p.1 ∧ p.2.length ≤ B ∧ ∀ q ∈ p.2, Wf .u64 q) rfl (by kernel_rfl) (op_int W) ?_
  refine FOp.cons (k := Kd.int .i64) (kr := Kd.slice 66 kFnK) (I := fun _ => Wf .i64) (J := fun B (x : List (Int × List Int)) => x.length ≤ B ∧ ∀ p ∈ x, Wf .i64 p.1 ∧ p.2.length ≤ B ∧ ∀ q ∈ p.2, Wf .u64 q) rfl (by kernel_rfl) (op_int W) ?_
  exact FOp.one (k := Kd.slice 66 kFnK) rfl (by kernel_rfl) (Op.slice Tryd.underlying30 (by kernel_rfl) (op_fn W))
/-- a config as it is handed in -/
structure Cf where
  pg : Int
  pr : Int
  lm : Int
  A : Option Addr
  c : Nat
  l : List (Int × List Int)
def CfIn (W : World) (x : Cf) : Prop := FnC W x.A x.l.length x.l ∧ FnsIn x.l ∧ -9223372036854775808 ≤ x.lm ∧ x.lm ≤ 9223372036854775807
set_option maxRecDepth 100000 in
set_option maxHeartbeats 2000000 in
theorem open_cfg {H : Type} {enc : TypeId × Value → H} {W : World} {base : Nat} {v : Value} {d : DataW H} {ps : List MemPlace} (hval : Value.okWide Tryd.prog W .any base 83 v) (h : DataW.Trod enc Tryd.prog W 0 (fun _ => true) true 83 v d ps) : ∃ x : Cf, v = .agg #[.int .i64 x.pg, .int .i64 x.pr, .int .i64 x.lm, .slice x.A x.l.length x.c] ∧ CfIn W x := by
  obtain ⟨x, cs, rfl, ⟨a0, a1, rfl, rfl, b0, b1, rfl, rfl, c0, c', rfl, rfl, A, c, rfl, hl, hC⟩, hI⟩ := open_st Tryd.underlying83 (op_cfg W) hval h
  exact ⟨⟨x.1, x.2.1, x.2.2.1, A, c, x.2.2.2⟩, rfl, fnC_of hC, (fun y hy => ⟨wf_words (hI.2.2.2.2 y hy).2.2, wf_i64 (hI.2.2.2.2 y hy).1⟩), wf_i64 hI.2.2.1⟩
end Go.Proofs.YtbikdngpannekaaDoor
