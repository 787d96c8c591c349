/-
  No cell of these rows narrows 'for every input' (looked for: loops, veiled, ifaces, maps, wideKeys, modest, calm, conditions, laid).
  DERIVED. THE GIVEN ROWS OF THIS SEAT. 4 by the template 'for every input the law returns true; each argument reads behind the call as it read before'; 0 by the template 'total and deterministic' (their statements: YtgkjonnbanlagaaTotals.lean).
  GIVEN WITH THE SEED: the statements are not yours to turn. If you find one false, say at which input.
  Laid BY PROGRAM, IN A SANDBOX (cutbox-rows.mjs): the forced cells as the released guide's own fill.sh prints them over the translation 21eb270777b8b94e… (all of the seat's roots in one cut). By AI agents, Wed Nov 11 2026. No macro, syntax, notation, axiom, sorry.
-/
import Derived.Test.YtgkjonnbanlagaaChecked
import GoSem.Claim
import GoSem.ClaimJoined
import GoSem.ClaimMapViews
import Derived.JoinedTies
import Derived.KernelRfl
namespace Go.Proofs.Ytgkjonnbanlagaa
/- THE CELL 'sum', in the pinned program and in every row, IS THE sha256 OF THE DUMP (.gsa) THAT YtgkjonnbanlagaaProg.lean LOADS. Nothing in Lean hashes anything: it is a label: what it is worth is what the hold of that sum in a sandbox is worth. -/
noncomputable def Try.pinned : Pinned := { name := "ytgkjonnbanlagaa", sum := "21eb270777b8b94e8f5445ed705d2019f34a95936124bae8ead49807c818e7b1", checked := Try.checked }
namespace Rows
def none {H : Type} : Left H := { results := [], args := [] }

/-- 'shoringlaw02.FloatCalcs': WHATEVER THE INPUT: true; the input reads as it did. -/
def floatCalcsSpec : ChangeSpec := { name := "floatCalcs", fn := fun _ => fun
  | [d1, d2, d3] => { results := [.lit (.bool true)], args := [d1, d2, d3] }
  | _ => none }
def floatCalcsRow : OpenClaim := { program := "ytgkjonnbanlagaa", sum := "21eb270777b8b94e8f5445ed705d2019f34a95936124bae8ead49807c818e7b1", func := "shoring/shoringlaw02.FloatCalcs", spec := "floatCalcs", inPlace := ["math.Float64frombits", "math.sqrt", "math.Float64bits"], recurses := true, apart := false }
def FloatCalcsSaid : Prop := floatCalcsRow.holds Try.pinned (OpenSpec.ofChange floatCalcsSpec)

/-- ITS FALSE NEIGHBOUR: 'it returns false'. Refute it at one input. -/
def floatCalcsWrong : ChangeSpec := { name := "floatCalcs", fn := fun _ => fun
  | [d1, d2, d3] => { results := [.lit (.bool false)], args := [d1, d2, d3] }
  | _ => none }
def FloatCalcsWrongFalsely : Prop := floatCalcsRow.holds Try.pinned (OpenSpec.ofChange floatCalcsWrong)

/-- 'shoringlaw02.FloatOne': WHATEVER THE INPUT: true; the input reads as it did. -/
def floatOneSpec : ChangeSpec := { name := "floatOne", fn := fun _ => fun
  | [d1, d2, d3] => { results := [.lit (.bool true)], args := [d1, d2, d3] }
  | _ => none }
def floatOneRow : OpenClaim := { program := "ytgkjonnbanlagaa", sum := "21eb270777b8b94e8f5445ed705d2019f34a95936124bae8ead49807c818e7b1", func := "shoring/shoringlaw02.FloatOne", spec := "floatOne", inPlace := ["math.Float64frombits", "math.sqrt", "math.Float64bits"], apart := false }
def FloatOneSaid : Prop := floatOneRow.holds Try.pinned (OpenSpec.ofChange floatOneSpec)

/-- ITS FALSE NEIGHBOUR: 'it returns false'. Refute it at one input. -/
def floatOneWrong : ChangeSpec := { name := "floatOne", fn := fun _ => fun
  | [d1, d2, d3] => { results := [.lit (.bool false)], args := [d1, d2, d3] }
  | _ => none }
def FloatOneWrongFalsely : Prop := floatOneRow.holds Try.pinned (OpenSpec.ofChange floatOneWrong)

/-- 'shoringlaw02.FloatSums': WHATEVER THE INPUT: true; the input reads as it did. -/
def floatSumsSpec : ChangeSpec := { name := "floatSums", fn := fun _ => fun
  | [d] => { results := [.lit (.bool true)], args := [d] }
  | _ => none }
def floatSumsRow : OpenClaim := { program := "ytgkjonnbanlagaa", sum := "21eb270777b8b94e8f5445ed705d2019f34a95936124bae8ead49807c818e7b1", func := "shoring/shoringlaw02.FloatSums", spec := "floatSums", inPlace := ["math.Float64frombits", "math.sqrt", "math.Float64bits"], unfollowed := true, recurses := true, apart := false }
def FloatSumsSaid : Prop := floatSumsRow.holds Try.pinned (OpenSpec.ofChange floatSumsSpec)

/-- ITS FALSE NEIGHBOUR: 'it returns false'. Refute it at one input. -/
def floatSumsWrong : ChangeSpec := { name := "floatSums", fn := fun _ => fun
  | [d] => { results := [.lit (.bool false)], args := [d] }
  | _ => none }
def FloatSumsWrongFalsely : Prop := floatSumsRow.holds Try.pinned (OpenSpec.ofChange floatSumsWrong)

/-- 'shoringlaw02.FloatOrders': WHATEVER THE INPUT: true; the input reads as it did. -/
def floatOrdersSpec : ChangeSpec := { name := "floatOrders", fn := fun _ => fun
  | [d1, d2, d3] => { results := [.lit (.bool true)], args := [d1, d2, d3] }
  | _ => none }
def floatOrdersRow : OpenClaim := { program := "ytgkjonnbanlagaa", sum := "21eb270777b8b94e8f5445ed705d2019f34a95936124bae8ead49807c818e7b1", func := "shoring/shoringlaw02.FloatOrders", spec := "floatOrders", inPlace := ["math.Float64frombits", "math.sqrt", "math.Float64bits"], apart := false }
def FloatOrdersSaid : Prop := floatOrdersRow.holds Try.pinned (OpenSpec.ofChange floatOrdersSpec)

/-- ITS FALSE NEIGHBOUR: 'it returns false'. Refute it at one input. -/
def floatOrdersWrong : ChangeSpec := { name := "floatOrders", fn := fun _ => fun
  | [d1, d2, d3] => { results := [.lit (.bool false)], args := [d1, d2, d3] }
  | _ => none }
def FloatOrdersWrongFalsely : Prop := floatOrdersRow.holds Try.pinned (OpenSpec.ofChange floatOrdersWrong)

/- THE SECOND FORM. 'bulk': how many values and letters a reading holds, each counted each time it is reached (what is shared counts as often as it is met; a slice's spare places count too). A statement '..UptoSaid' is the law's where the arguments, and the package variables that the reading takes, are together of bulk at most 1048576: NARROWER than '..Said'. Prove '..Said' where nothing that the law and all that it calls make is longer than what came in: it says more and counts as full. Else prove '..UptoSaid'. A law counts once. -/
mutual
def uptoBulk {H : Type} : DataW H → Nat
  | .lit (.string bytes) => bytes.length + 1
  | .lit _ => 1
  | .nil => 1
  | .ptr d => uptoBulk d + 1
  | .slice elems spare => uptoBulkAll elems + uptoBulkAll spare + 1
  | .agg parts => uptoBulkAll parts + 1
  | .iface _ d => uptoBulk d + 1
  | .map entries => uptoBulkEntries entries + 1
  | .held _ => 1
def uptoBulkAll {H : Type} : List (DataW H) → Nat
  | [] => 0
  | d :: r => uptoBulk d + uptoBulkAll r
def uptoBulkEntries {H : Type} : List (Lit × DataW H) → Nat
  | [] => 0
  | x :: r => uptoBulkEntry x + uptoBulkEntries r
def uptoBulkEntry {H : Type} : Lit × DataW H → Nat
  | (.string bytes, d) => bytes.length + uptoBulk d + 1
  | (_, d) => uptoBulk d + 1
 end
def uptoSmall : (H : Type) → List (DataW H) → Bool := fun _ ds => decide (uptoBulkAll ds ≤ 1048576)
def OpenSpec.upto (s : _root_.Go.ChangeSpec) : _root_.Go.OpenSpec := { _root_.Go.OpenSpec.ofChange s with cond := some uptoSmall }

/-- 'shoringlaw02.FloatCalcs', WHERE WHAT IT READS IS OF BULK AT MOST 1048576: true; the input reads as it did. -/
def floatCalcsUptoRow : OpenClaim := { program := "ytgkjonnbanlagaa", sum := "21eb270777b8b94e8f5445ed705d2019f34a95936124bae8ead49807c818e7b1", func := "shoring/shoringlaw02.FloatCalcs", spec := "floatCalcs", inPlace := ["math.Float64frombits", "math.sqrt", "math.Float64bits"], recurses := true, apart := false, narrowed := true }
def FloatCalcsUptoSaid : Prop := floatCalcsUptoRow.holds Try.pinned (OpenSpec.upto floatCalcsSpec)

/-- 'shoringlaw02.FloatOne', WHERE WHAT IT READS IS OF BULK AT MOST 1048576: true; the input reads as it did. -/
def floatOneUptoRow : OpenClaim := { program := "ytgkjonnbanlagaa", sum := "21eb270777b8b94e8f5445ed705d2019f34a95936124bae8ead49807c818e7b1", func := "shoring/shoringlaw02.FloatOne", spec := "floatOne", inPlace := ["math.Float64frombits", "math.sqrt", "math.Float64bits"], apart := false, narrowed := true }
def FloatOneUptoSaid : Prop := floatOneUptoRow.holds Try.pinned (OpenSpec.upto floatOneSpec)

/-- 'shoringlaw02.FloatSums', WHERE WHAT IT READS IS OF BULK AT MOST 1048576: true; the input reads as it did. -/
def floatSumsUptoRow : OpenClaim := { program := "ytgkjonnbanlagaa", sum := "21eb270777b8b94e8f5445ed705d2019f34a95936124bae8ead49807c818e7b1", func := "shoring/shoringlaw02.FloatSums", spec := "floatSums", inPlace := ["math.Float64frombits", "math.sqrt", "math.Float64bits"], unfollowed := true, recurses := true, apart := false, narrowed := true }
def FloatSumsUptoSaid : Prop := floatSumsUptoRow.holds Try.pinned (OpenSpec.upto floatSumsSpec)

/-- 'shoringlaw02.FloatOrders', WHERE WHAT IT READS IS OF BULK AT MOST 1048576: true; the input reads as it did. -/
def floatOrdersUptoRow : OpenClaim := { program := "ytgkjonnbanlagaa", sum := "21eb270777b8b94e8f5445ed705d2019f34a95936124bae8ead49807c818e7b1", func := "shoring/shoringlaw02.FloatOrders", spec := "floatOrders", inPlace := ["math.Float64frombits", "math.sqrt", "math.Float64bits"], apart := false, narrowed := true }
def FloatOrdersUptoSaid : Prop := floatOrdersUptoRow.holds Try.pinned (OpenSpec.upto floatOrdersSpec)

end Rows
end Go.Proofs.Ytgkjonnbanlagaa
