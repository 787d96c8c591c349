/-
  What arguments of words, numbers and functions read as.
-/
import Derived.Test.YtpnklpjjbpheeaaGreatDoorEa
namespace Go.Proofs.YtpnklpjjbpheeaaGreatDoor
open Go.RowKit Go.Proofs.YtpnklpjjbpheeaaGreatDoorW.PrintWords
open Go.ChangeShapes Go.WideShapes Go.ChangeAt

theorem op_int (W : World) : Op W 3 (Kd.int .i64) (fun _ => Wf .i64) := Op.int Tryz.underlying3
set_option maxRecDepth 100000 in
set_option maxHeartbeats 2000000 in
theorem open_u64s' {H : Type} {enc : TypeId × Value → H} {W : World} {base : Nat} {v : Value} {d : DataW H} {ps : List MemPlace} (hval : Value.okWide Tryz.prog W .any base 54 v) (h : DataW.Trod enc Tryz.prog W 0 (fun _ => true) true 54 v d ps) : ∃ A c l, v = .slice A l.length c ∧ ReadsInt W .u64 A l.length l ∧ Bm.Words l ∧ l.length ≤ c ∧ l.length ≤ Rows.uptoBulk d := by
  obtain ⟨A, c, l, e, hC, hI, hlc⟩ := open_sl Tryz.underlying54 (Op.slice Tryz.underlying54 (by kernel_rfl) (Op.int Tryz.underlying44)) hval h
  exact ⟨A, c, l, e, Kd.reads_of_C hC, wf_words hI.2, hlc, hI.1⟩
set_option maxRecDepth 100000 in
set_option maxHeartbeats 2000000 in
theorem open_ints' {H : Type} {enc : TypeId × Value → H} {W : World} {base : Nat} {v : Value} {d : DataW H} {ps : List MemPlace} (hval : Value.okWide Tryz.prog W .any base 47 v) (h : DataW.Trod enc Tryz.prog W 0 (fun _ => true) true 47 v d ps) : ∃ A c l, v = .slice A l.length c ∧ ReadsInt W .i64 A l.length l ∧ (∀ x ∈ l, -9223372036854775808 ≤ x ∧ x ≤ 9223372036854775807) ∧ l.length ≤ Rows.uptoBulk d := by
  obtain ⟨A, c, l, e, hC, hI, hlc⟩ := open_sl Tryz.underlying47 (Op.slice Tryz.underlying47 (by kernel_rfl) (op_int W)) hval h
  exact ⟨A, c, l, e, Kd.reads_of_C hC, (fun x hx => wf_i64 (hI.2 x hx)), hI.1⟩
set_option maxRecDepth 100000 in
set_option maxHeartbeats 2000000 in
theorem op_fn (W : World) : Op W 56 (Kd.pair (Kd.int .i64) (Kd.slice 44 (Kd.int .u64))) (fun B x => Wf .i64 x.1 ∧ x.2.length ≤ B ∧ ∀ p ∈ x.2, Wf .u64 p) := by
  refine Op.struct (k := Kd.pair (Kd.int .i64) (Kd.slice 44 (Kd.int .u64))) Tryz.underlying56 (by kernel_rfl) ?_
  refine FOp.cons (k := Kd.int .i64) (kr := Kd.slice 44 (Kd.int .u64)) (I := fun _ => Wf .i64) (J := fun B (y : List Int) => y.length ≤ B ∧ ∀ p ∈ y, Wf .u64 p) rfl (by kernel_rfl) (op_int W) ?_
  exact FOp.one (k := Kd.slice 44 (Kd.int .u64)) rfl (by kernel_rfl) (Op.slice Tryz.underlying54 (by kernel_rfl) (Op.int Tryz.underlying44))
theorem fnC_of {w : World} {A : Option Addr} {n : Nat} {l : List (Int × List Int)} (h : (Kd.pair (Kd.int .i64) (Kd.slice 44 (Kd.int .u64))).C w A n l) : FnC w A n l := by
  refine ReadsRow.imp_ h (Below.refl _ _) ?_
  rintro x cs ⟨c0, c1, rfl, rfl, A1, n1, rfl, hl, hc⟩
  exact ⟨A1, n1, rfl, hl, Kd.reads_of_C hc⟩
set_option maxRecDepth 100000 in
set_option maxHeartbeats 2000000 in
theorem open_fns' {H : Type} {enc : TypeId × Value → H} {W : World} {base : Nat} {v : Value} {d : DataW H} {ps : List MemPlace} (hval : Value.okWide Tryz.prog W .any base 23 v) (h : DataW.Trod enc Tryz.prog W 0 (fun _ => true) true 23 v d ps) : ∃ A c l, v = .slice A l.length c ∧ FnC W A l.length l ∧ FnsIn l ∧ l.length ≤ Rows.uptoBulk d ∧ ∀ f ∈ l, f.2.length ≤ Rows.uptoBulk d := by
  obtain ⟨A, c, l, e, hC, hI, hlc⟩ := open_sl Tryz.underlying23 (Op.slice Tryz.underlying23 (by kernel_rfl) (op_fn W)) hval h
  exact ⟨A, c, l, e, fnC_of hC, (fun x hx => ⟨wf_words (hI.2 x hx).2.2, wf_i64 (hI.2 x hx).1⟩), hI.1, (fun x hx => (hI.2 x hx).2.1)⟩
theorem fnsOk_of {l : List (Int × List Int)} {B : Nat} (h : FnsIn l) (hl : ∀ f ∈ l, f.2.length ≤ B) (hB : B ≤ 1048576) : FnsOk l := fun f hf => ⟨(h f hf).1, by have := hl f hf; omega, (h f hf).2⟩
end Go.Proofs.YtpnklpjjbpheeaaGreatDoor
