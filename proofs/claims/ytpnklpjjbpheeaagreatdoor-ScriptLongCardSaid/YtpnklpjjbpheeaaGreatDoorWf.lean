/-
  The law ScriptLong: its row, and its card. Printed by gen_card2.py.
-/
import Derived.Test.YtpnklpjjbpheeaaGreatDoorWe
import Derived.Test.YtpnklpjjbpheeaaGreatDoorEc
import Derived.Deep.DeepLaidRun
namespace Go.Proofs.YtpnklpjjbpheeaaGreatDoor.scriptLong
open Go.ChangeShapes Go.WideShapes Go.ChangeAt Go.RowKit Go.Proofs.YtpnklpjjbpheeaaGreatDoorW.PrintWords

theorem own : ownKnob Tryz.prog.godebug = none := by kernel_rfl
theorem laidOut : laidOutB Tryz.prog = true := by kernel_rfl
theorem gTab : Tryz.prog.globalNamed "math/bits.deBruijn64tab" = some 7 := by kernel_rfl
theorem gTabType : (Tryz.prog.globals[7]?).map (·.type) = some 172 := by kernel_rfl
theorem table {W : World} (h : laidMetH Tryz.prog Rows.scriptLongRow.laid W) : Lib.TabIs Tryz.prog W "math/bits.deBruijn64tab" .u8 (Lib.deBruijn64tab.map fun (n : Nat) => (n : Int)) := by
  have h' : laidMet Tryz.prog [("math/bits.deBruijn32tab", Rows.laid_math_bits_deBruijn32tab), ("math/bits.deBruijn64tab", Lib.tabData .u8 (Lib.deBruijn64tab.map fun (n : Nat) => (n : Int))), ("internal/strconv.uint64pow10", Rows.laid_internal_strconv_uint64pow10), ("unicode/utf8.acceptRanges", Rows.laid_unicode_utf8_acceptRanges), ("strconv.ErrRange", Rows.laid_strconv_ErrRange), ("strconv.ErrSyntax", Rows.laid_strconv_ErrSyntax), ("unicode/utf8.first", Rows.laid_unicode_utf8_first)] W := h
  obtain ⟨ps, hps, _⟩ := h'
  obtain ⟨_, _, _, _, _, q, _, _, _, _, hr, _⟩ := hps
  obtain ⟨g', t', cs, fuel, p, q', hg', ht', hvar, hd, _, _⟩ := hr
  obtain rfl := Option.some.inj (gTab.symm.trans hg')
  obtain rfl := Option.some.inj (gTabType.symm.trans ht')
  unfold Lib.TabIs
  rw [hvar, ← Lib.cells_of_tab Tryz.underlying172 Tryz.underlying5 (by kernel_rfl) (by kernel_rfl) hd]
theorem tab {W : World} (h : laidMetH Tryz.prog Rows.scriptLongRow.laid W) : Tab W := by
  intro j hj
  have := (table h).cell gTab j (by rw [List.length_map]; exact hj)
  rw [this]
  congr 2
  rw [List.getD_eq_getElem?_getD, List.getD_eq_getElem?_getD, List.getElem?_map, List.getElem?_eq_getElem hj]; rfl

theorem gPow : Tryz.prog.globalNamed "internal/strconv.uint64pow10" = some 5 := by kernel_rfl
theorem gPowType : (Tryz.prog.globals[5]?).map (·.type) = some 162 := by kernel_rfl
theorem pow {W : World} (h : laidMetH Tryz.prog Rows.scriptLongRow.laid W) : P10 W := by
  have h' : laidMet Tryz.prog [("math/bits.deBruijn32tab", Rows.laid_math_bits_deBruijn32tab), ("math/bits.deBruijn64tab", Rows.laid_math_bits_deBruijn64tab), ("internal/strconv.uint64pow10", Lib.tabData .u64 Lib.pow10Tab), ("unicode/utf8.acceptRanges", Rows.laid_unicode_utf8_acceptRanges), ("strconv.ErrRange", Rows.laid_strconv_ErrRange), ("strconv.ErrSyntax", Rows.laid_strconv_ErrSyntax), ("unicode/utf8.first", Rows.laid_unicode_utf8_first)] W := h
  obtain ⟨ps, hps, _⟩ := h'
  obtain ⟨_, _, _, _, _, q, _, _, _, _, hr, _⟩ := hps
  obtain ⟨_, _, _, _, _, q2, _, _, _, _, hr2, _⟩ := hr
  obtain ⟨g', t', cs, fuel, p, q', hg', ht', hvar, hd, _, _⟩ := hr2
  obtain rfl := Option.some.inj (gPow.symm.trans hg')
  obtain rfl := Option.some.inj (gPowType.symm.trans ht')
  unfold P10 Lib.TabIs
  rw [hvar, ← Lib.cells_of_tab Tryz.underlying162 Tryz.underlying44 (by kernel_rfl) (by kernel_rfl) hd]
set_option maxRecDepth 100000 in
theorem contract (H : Type) (enc : TypeId × Value → H) (W : World) (base : Nat) (args : Array Value) (ds gs : List (DataW H)) (before : List MemPlace)
    (hval : ∀ (j : Nat) t v, Tryz.f3.params[j]? = some t → args[j]? = some v → Value.okWide Tryz.prog W .any base t v)
    (hW : DataW.Whole enc Tryz.prog Tryz.f3.params.toList Rows.scriptLongSpec.vars false W args.toList ds gs before) (hL : laidMetH Tryz.prog Rows.scriptLongRow.laid W) :
    Calls Tryz.prog 3 args W fun e W' => ∃ v, e = .returned v ∧ Rows.scriptLongSpec.post enc Tryz.prog Tryz.f3 false true false false W args v W' := by
  have hW' := hW
  obtain ⟨p, q, hA0, hV, rfl, hfz, hnd⟩ := hW
  have hA : DataW.TrodAll enc Tryz.prog W 0 (fun _ => true) true Tryz.f3.params.toList args.toList ds p := hA0
  rw [Tryz.params3] at hA hval
  obtain ⟨v0, vs0, d0, ds0, p0, q0, hargs, rfl, rfl, h0, r0⟩ := trodAll_cons hA
  obtain ⟨rfl, rfl, rfl⟩ := trodAll_nil r0
  obtain rfl : args = #[v0] := by cases args; simp_all
  obtain ⟨rfl, rfl⟩ := trodVars_none hV
  obtain ⟨a0, rfl, rfl, rfl, w0⟩ := open_int Tryz.underlying5 (hval 0 5 v0 rfl rfl) h0
  clear hA0 hval
  refine (lawOfScriptLong a0 W (wf_u8 w0) (tab hL) (pow hL)).mono fun e W' ⟨he, bel⟩ => ?_
  subst he
  exact ⟨_, rfl, _, _, _, [], _, [], hW', trodAll_mk1 (shut_bool Tryz.underlying4 _), (trodAll_cons_mk (shut_int Tryz.underlying5 w0) trodAll_mk0), rfl, bel.frame _, fun h => by cases h⟩

def flatC : DataW Unit → List Value
  | .lit (.int k n) => [.int k n]
  | _ => []
def flat2 : DataW Unit → List Value
  | .agg l => l.flatMap flatC
  | d => flatC d
def flat3 : DataW Unit → List Value
  | .agg l => l.flatMap flat2
  | d => flat2 d
def strB : DataW Unit → ByteArray
  | .iface _ (.ptr (.agg [.lit (.string s)])) => ⟨s.toArray⟩
  | _ => .empty
def lay (h : Array Obj) (g : Nat) (cs : List Value) : Array Obj := h.modify g fun
  | .cells _ t frozen => .cells cs.toArray t frozen
  | o => o
def lays (h : Array Obj) : Array Obj :=
  ((lay (lay (lay (lay (lay (lay (lay h 6 (flat3 Rows.laid_math_bits_deBruijn32tab)) 7 (flat3 Rows.laid_math_bits_deBruijn64tab)) 5 (flat3 Rows.laid_internal_strconv_uint64pow10))
    2 (flat3 Rows.laid_unicode_utf8_acceptRanges)) 1 (flat3 Rows.laid_unicode_utf8_first))
    4 [.iface 165 (.pointer (some ⟨h.size, 0, none⟩))]) 3 [.iface 165 (.pointer (some ⟨h.size + 1, 0, none⟩))]).push
    (.cells #[.string (strB Rows.laid_strconv_ErrRange)] 167)).push (.cells #[.string (strB Rows.laid_strconv_ErrSyntax)] 167)
noncomputable def laidWorld (os : Os) : World :=
  { World.holding Tryz.prog os ⟨#[], #[], []⟩ with heap := lays (World.holding Tryz.prog os ⟨#[], #[], []⟩).heap }
theorem laid_met (os : Os) : laidMet Tryz.prog Rows.scriptLongRow.laid ((laidWorld os).forCall (fun _ _ => 0) ⟨#[], #[.int .u8 0], []⟩).memory :=
  laidMet_of_run3 300 (by kernel_rfl) (by kernel_rfl) (by kernel_rfl)
theorem reads (os : Os) {H : Type} (enc : TypeId × Value → H) : ∃ places, DataW.whole enc Tryz.prog ((laidWorld os).forCall (fun _ _ => 0) ⟨#[], #[.int .u8 0], []⟩).memory Tryz.f3.params.toList Rows.scriptLongSpec.vars false #[Value.int .u8 0].toList 8 = some ([.lit (.int .u8 0)], [], places) :=
  ⟨[], by kernel_rfl⟩

set_option maxRecDepth 100000 in
theorem lifted (os : Os) (started : os.Started) (H : Type) (enc : TypeId × Value → H) (F : Stop.Interp) :
    ReturnsInHanded {} Tryz.checked os 3 .any ((OpenSpec.ofChange Rows.scriptLongSpec).preRow enc Tryz.prog Tryz.f3 Rows.scriptLongRow.domain false Rows.scriptLongRow.laid) (((OpenSpec.ofChange Rows.scriptLongSpec).at F).post enc Tryz.prog Tryz.f3 false true false false) := by
  obtain ⟨places, hx⟩ := reads os enc
  refine returnsInHanded_of_row (C := Tryz.checked) (s := OpenSpec.ofChange Rows.scriptLongSpec) own started (by kernel_rfl) Tryz.func3
    (witness_row_at (enc := enc) (C := Tryz.checked) false (laidWorld os) #[.int .u8 0] rfl (by kernel_rfl) (by kernel_rfl) (by kernel_rfl)
      (OpenSpec.preRow_of_cond 8 hx (by kernel_rfl) (fun k hk => by cases hk) (by kernel_rfl) (laid_met os))) ?_
  intro W base args ds gs before hval hW _ hcond _ hL _ _
  exact contract H enc W base args ds gs before hval hW hL

theorem said : Rows.ScriptLongSaid :=
  OpenClaim.holds_of_cond 3 Tryz.f3 rfl rfl rfl rfl rfl rfl rfl ⟨rfl, rfl, rfl, rfl, rfl⟩ rfl rfl rfl rfl rfl (by kernel_rfl) Tryz.func3 (by kernel_rfl)
    (of_decide_eq_true (by kernel_rfl)) (by unfold Func.isWrapper; first | (rw [if_pos (by decide +kernel)]; kernel_rfl) | (rw [if_neg (by decide +kernel)]; exact ⟨rfl, rfl⟩))
    (fun os started H enc _ F => by rw [OpenClaim.pre_eq_preRow]; exact lifted os started H enc F)

theorem plain (f : FuncId) (fn : Func) (hf : Tryz.pinned.checked.prog.funcNamed "shoring/shoringlaw24.ScriptLong" = some f) (hfn : Tryz.pinned.checked.prog.funcs[f]? = some fn) :
    Rows.scriptLongCard.stood.looks = Tryz.pinned.checked.prog.looks [] ∧ ∀ (j : Nat) t, fn.params[j]? = some t → Tryz.pinned.checked.prog.wantsStandIn t = false := by
  obtain rfl : f = 3 := Option.some.inj ((show Tryz.prog.funcNamed "shoring/shoringlaw24.ScriptLong" = some 3 by kernel_rfl).symm.trans hf) |>.symm
  obtain rfl : fn = Tryz.f3 := (Option.some.inj (Tryz.func3.symm.trans hfn)).symm
  refine ⟨by kernel_rfl, fun j t ht => ?_⟩
  rw [Tryz.params3] at ht
  have hm0 := Array.mem_of_getElem? ht
  have hm : t = 5 := by simp at hm0; grind
  subst hm
  exact (show Tryz.prog.wantsStandIn 5 = false by kernel_rfl)

theorem proved : Rows.ScriptLongCardSaid :=
  Claim7.holds_tied_plain_at .later [] _ _ _ _ said (fun _ h => by cases h) (by kernel_rfl) (fun _ h => by cases h) scriptLong_row_tie rfl ⟨rfl, rfl⟩ (by kernel_rfl) rfl plain (by kernel_rfl)
end Go.Proofs.YtpnklpjjbpheeaaGreatDoor.scriptLong
