/-
  What arguments of the program's own kinds read as: frames, values.
-/
import Derived.Test.YtbikdngpannekaaDoorEa
import Derived.Test.YtbikdngpannekaaDoorCa
import Derived.Test.YtbikdngpannekaaDoorCb
namespace Go.Proofs.YtbikdngpannekaaDoor
open Go.RowKit Go.Proofs.YtbikdngpannekaaDoorW.PrintWords
open Go.ChangeShapes Go.WideShapes Go.ChangeAt

instance : Inhabited Sl.Fr := ⟨Sl.dFr⟩
instance : Inhabited Sl.Vl := ⟨Sl.dVl⟩
set_option maxRecDepth 100000 in
set_option maxHeartbeats 2000000 in
theorem op_int (W : World) : Op W 3 (Kd.int .i64) (fun _ => Wf .i64) := Op.int Tryd.underlying3
set_option maxRecDepth 100000 in
set_option maxHeartbeats 2000000 in
theorem op_fr (W : World) : Op W 52 kFr (fun _ x => Wf .i64 x.1 ∧ Wf .i64 x.2.1 ∧ Wf .i64 x.2.2) := by
  refine Op.struct (k := kFr) Tryd.underlying52 (by kernel_rfl) ?_
  refine FOp.cons (k := Kd.int .i64) (kr := Kd.pair (Kd.int .i64) (Kd.int .i64)) (I := fun _ => Wf .i64) (J := fun _ (y : Int × Int) => Wf .i64 y.1 ∧ Wf .i64 y.2) rfl (by kernel_rfl) (op_int W) ?_
  refine FOp.cons (k := Kd.int .i64) (kr := Kd.int .i64) (I := fun _ => Wf .i64) (J := fun _ => Wf .i64) rfl (by kernel_rfl) (op_int W) ?_
  exact FOp.one (k := Kd.int .i64) rfl (by kernel_rfl) (op_int W)
set_option maxRecDepth 100000 in
set_option maxHeartbeats 2000000 in
theorem op_vl (W : World) : Op W 27 kVl (fun _ x => Wf .u8 x.1 ∧ Wf .u64 x.2.1 ∧ Wf .i64 x.2.2.1 ∧ Wf .i64 x.2.2.2) := by
  refine Op.struct (k := kVl) Tryd.underlying27 (by kernel_rfl) ?_
  refine FOp.cons (k := Kd.int .u8) (kr := Kd.pair (Kd.int .u64) (Kd.pair (Kd.int .i64) (Kd.int .i64))) (I := fun _ => Wf .u8) (J := fun _ (y : Int × (Int × Int)) => Wf .u64 y.1 ∧ Wf .i64 y.2.1 ∧ Wf .i64 y.2.2) rfl (by kernel_rfl) (Op.int Tryd.underlying5) ?_
  refine FOp.cons (k := Kd.int .u64) (kr := Kd.pair (Kd.int .i64) (Kd.int .i64)) (I := fun _ => Wf .u64) (J := fun _ (y : Int × Int) => Wf .i64 y.1 ∧ Wf .i64 y.2) rfl (by kernel_rfl) (Op.int Tryd.underlying25) ?_
  refine FOp.cons (k := Kd.int .i64) (kr := Kd.int .i64) (I := fun _ => Wf .i64) (J := fun _ => Wf .i64) rfl (by kernel_rfl) (op_int W) ?_
  exact FOp.one (k := Kd.int .i64) rfl (by kernel_rfl) (op_int W)
set_option maxRecDepth 100000 in
set_option maxHeartbeats 2000000 in
theorem open_frs {H : Type} {enc : TypeId × Value → H} {W : World} {base : Nat} {v : Value} {d : DataW H} {ps : List MemPlace} (hval : Value.okWide Tryd.prog W .any base 31 v) (h : DataW.Trod enc Tryd.prog W 0 (fun _ => true) true 31 v d ps) : ∃ A c l, v = .slice A l.length c ∧ kFr.C W A l.length l ∧ FrIn l ∧ l.length ≤ Rows.uptoBulk d := by
  obtain ⟨A, c, l, e, hC, hI⟩ := open_sl Tryd.underlying31 (Op.slice Tryd.underlying31 (by kernel_rfl) (op_fr W)) hval h
  exact ⟨A, c, l, e, hC, (fun x hx => ⟨wf_i64 (hI.2 x hx).1, wf_i64 (hI.2 x hx).2.1, wf_i64 (hI.2 x hx).2.2⟩), hI.1⟩
set_option maxRecDepth 100000 in
set_option maxHeartbeats 2000000 in
theorem open_vls {H : Type} {enc : TypeId × Value → H} {W : World} {base : Nat} {v : Value} {d : DataW H} {ps : List MemPlace} (hval : Value.okWide Tryd.prog W .any base 22 v) (h : DataW.Trod enc Tryd.prog W 0 (fun _ => true) true 22 v d ps) : ∃ A c l, v = .slice A l.length c ∧ kVl.C W A l.length l ∧ VlsIn l ∧ l.length ≤ Rows.uptoBulk d := by
  obtain ⟨A, c, l, e, hC, hI⟩ := open_sl Tryd.underlying22 (Op.slice Tryd.underlying22 (by kernel_rfl) (op_vl W)) hval h
  exact ⟨A, c, l, e, hC, (fun x hx => ⟨wf_u8 (hI.2 x hx).1, wf_u64 (hI.2 x hx).2.1, wf_i64 (hI.2 x hx).2.2.1, wf_i64 (hI.2 x hx).2.2.2⟩), hI.1⟩
set_option maxRecDepth 100000 in
set_option maxHeartbeats 2000000 in
theorem open_u64s' {H : Type} {enc : TypeId × Value → H} {W : World} {base : Nat} {v : Value} {d : DataW H} {ps : List MemPlace} (hval : Value.okWide Tryd.prog W .any base 37 v) (h : DataW.Trod enc Tryd.prog W 0 (fun _ => true) true 37 v d ps) : ∃ A c l, v = .slice A l.length c ∧ ReadsInt W .u64 A l.length l ∧ Bm.Words l ∧ l.length ≤ Rows.uptoBulk d := by
  obtain ⟨A, c, l, e, hC, hI⟩ := open_sl Tryd.underlying37 (Op.slice Tryd.underlying37 (by kernel_rfl) (Op.int Tryd.underlying25)) hval h
  exact ⟨A, c, l, e, Kd.reads_of_C hC, wf_words hI.2, hI.1⟩
set_option maxRecDepth 100000 in
set_option maxHeartbeats 2000000 in
theorem open_ints' {H : Type} {enc : TypeId × Value → H} {W : World} {base : Nat} {v : Value} {d : DataW H} {ps : List MemPlace} (hval : Value.okWide Tryd.prog W .any base 97 v) (h : DataW.Trod enc Tryd.prog W 0 (fun _ => true) true 97 v d ps) : ∃ A c l, v = .slice A l.length c ∧ ReadsInt W .i64 A l.length l ∧ (∀ x ∈ l, -9223372036854775808 ≤ x ∧ x ≤ 9223372036854775807) ∧ l.length ≤ Rows.uptoBulk d := by
  obtain ⟨A, c, l, e, hC, hI⟩ := open_sl Tryd.underlying97 (Op.slice Tryd.underlying97 (by kernel_rfl) (op_int W)) hval h
  exact ⟨A, c, l, e, Kd.reads_of_C hC, (fun x hx => wf_i64 (hI.2 x hx)), hI.1⟩
set_option maxRecDepth 100000 in
set_option maxHeartbeats 2000000 in
theorem open_fr {H : Type} {enc : TypeId × Value → H} {W : World} {base : Nat} {v : Value} {d : DataW H} {ps : List MemPlace} (hval : Value.okWide Tryd.prog W .any base 52 v) (h : DataW.Trod enc Tryd.prog W 0 (fun _ => true) true 52 v d ps) : ∃ x : Sl.Fr, v = .agg #[.int .i64 x.1, .int .i64 x.2.1, .int .i64 x.2.2] ∧ FrIn [x] := by
  obtain ⟨x, cs, rfl, ⟨c0, c', rfl, rfl, c1, c2, rfl, rfl, rfl⟩, hI⟩ := open_st Tryd.underlying52 (op_fr W) hval h
  exact ⟨x, rfl, fun y hy => by obtain rfl : y = x := (by simpa using hy); exact ⟨wf_i64 hI.1, wf_i64 hI.2.1, wf_i64 hI.2.2⟩⟩
set_option maxRecDepth 100000 in
set_option maxHeartbeats 2000000 in
theorem open_vl {H : Type} {enc : TypeId × Value → H} {W : World} {base : Nat} {v : Value} {d : DataW H} {ps : List MemPlace} (hval : Value.okWide Tryd.prog W .any base 27 v) (h : DataW.Trod enc Tryd.prog W 0 (fun _ => true) true 27 v d ps) : ∃ x : Sl.Vl, v = .agg #[.int .u8 x.1, .int .u64 x.2.1, .int .i64 x.2.2.1, .int .i64 x.2.2.2] ∧ VlIn x := by
  obtain ⟨x, cs, rfl, ⟨c0, c', rfl, rfl, c1, c2, rfl, rfl, c3, c4, rfl, rfl, rfl⟩, hI⟩ := open_st Tryd.underlying27 (op_vl W) hval h
  exact ⟨x, rfl, wf_u8 hI.1, wf_u64 hI.2.1, wf_i64 hI.2.2.1, wf_i64 hI.2.2.2⟩
set_option maxRecDepth 100000 in
set_option maxHeartbeats 2000000 in
theorem op_fn (W : World) : Op W 66 (Kd.pair (Kd.int .i64) (Kd.slice 25 (Kd.int .u64))) (fun B x => Wf .i64 x.1 ∧ x.2.length ≤ B ∧ ∀ p ∈ x.2, Wf .u64 p) := by
  refine Op.struct (k := Kd.pair (Kd.int .i64) (Kd.slice 25 (Kd.int .u64))) Tryd.underlying66 (by kernel_rfl) ?_
  refine FOp.cons (k := Kd.int .i64) (kr := Kd.slice 25 (Kd.int .u64)) (I := fun _ => Wf .i64) (J := fun B (y : List Int) => y.length ≤ B ∧ ∀ p ∈ y, Wf .u64 p) rfl (by kernel_rfl) (op_int W) ?_
  exact FOp.one (k := Kd.slice 25 (Kd.int .u64)) rfl (by kernel_rfl) (Op.slice Tryd.underlying37 (by kernel_rfl) (Op.int Tryd.underlying25))
theorem fnC_of {w : World} {A : Option Addr} {n : Nat} {l : List (Int × List Int)} (h : (Kd.pair (Kd.int .i64) (Kd.slice 25 (Kd.int .u64))).C w A n l) : FnC w A n l := by
  refine ReadsRow.imp_ h (Below.refl _ _) ?_
  rintro x cs ⟨c0, c1, rfl, rfl, A1, n1, rfl, hl, hc⟩
  exact ⟨A1, n1, rfl, hl, Kd.reads_of_C hc⟩
set_option maxRecDepth 100000 in
set_option maxHeartbeats 2000000 in
theorem open_fns' {H : Type} {enc : TypeId × Value → H} {W : World} {base : Nat} {v : Value} {d : DataW H} {ps : List MemPlace} (hval : Value.okWide Tryd.prog W .any base 30 v) (h : DataW.Trod enc Tryd.prog W 0 (fun _ => true) true 30 v d ps) : ∃ A c l, v = .slice A l.length c ∧ FnC W A l.length l ∧ FnsIn l ∧ l.length ≤ Rows.uptoBulk d ∧ ∀ f ∈ l, f.2.length ≤ Rows.uptoBulk d := by
  obtain ⟨A, c, l, e, hC, hI⟩ := open_sl Tryd.underlying30 (Op.slice Tryd.underlying30 (by kernel_rfl) (op_fn W)) hval h
  exact ⟨A, c, l, e, fnC_of hC, (fun x hx => ⟨wf_words (hI.2 x hx).2.2, wf_i64 (hI.2 x hx).1⟩), hI.1, (fun x hx => (hI.2 x hx).2.1)⟩
theorem fnsOk_of {l : List (Int × List Int)} {B : Nat} (h : FnsIn l) (hl : ∀ f ∈ l, f.2.length ≤ B) (hB : B ≤ 1048576) : FnsOk l := fun f hf => ⟨(h f hf).1, by have := hl f hf; omega, (h f hf).2⟩
end Go.Proofs.YtbikdngpannekaaDoor
