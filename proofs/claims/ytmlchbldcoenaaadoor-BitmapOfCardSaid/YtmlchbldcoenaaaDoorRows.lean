/-
  NARROWER THAN 'FOR EVERY INPUT', by the rows' own cells (each row's printed sentence says how): FnsOwn: laid · FnsIs: laid · FnsTells: laid · FnsJoins: laid · BitmapOf: laid · BitmapTells: laid · BitmapWith: laid · BitmapTwice: laid · BitmapReads: laid.
  DERIVED. THE GIVEN ROWS OF THIS SEAT. 9 by the template 'for every input the law returns true; each argument reads behind the call as it read before'; 0 by the template 'total and deterministic' (their statements: YtmlchbldcoenaaaDoorTotals.lean).
  GIVEN WITH THE SEED: the statements are not yours to turn. If you find one false, say at which input.
  Laid BY PROGRAM, IN A SANDBOX (cutbox-rows.mjs): the forced cells as the released guide's own fill.sh prints them over the translation a44313773bff59de… (all of the seat's roots in one cut). By AI agents, Wed Nov 11 2026. No macro, syntax, notation, axiom, sorry.
-/
import Derived.Test.YtmlchbldcoenaaaDoorChecked
import GoSem.Claim
import GoSem.ClaimJoined
import GoSem.ClaimMapViews
import Derived.JoinedTies
import Derived.KernelRfl
namespace Go.Proofs.YtmlchbldcoenaaaDoor
/- THE CELL 'sum', in the pinned program and in every row, IS THE sha256 OF THE DUMP (.gsa) THAT YtmlchbldcoenaaaDoorProg.lean LOADS. Nothing in Lean hashes anything: it is a label: what it is worth is what the hold of that sum in a sandbox is worth. -/
noncomputable def Tryd.pinned : Pinned := { name := "ytmlchbldcoenaaadoor", sum := "a44313773bff59de89ce2c13e1e186f361ed727dfef32d46f69295aa20cd7a03", checked := Tryd.checked }
namespace Rows
def none {H : Type} : Left H := { results := [], args := [] }

/- WHAT THE LISTED PACKAGE-LEVEL VARIABLES READ AS WHEN THE CALL BEGINS. Each datum BY PROGRAM (the guide's laid-datum.mjs) off the statement by which the dump's own 'gosem.cut.vars' lays the variable. In a bare row this is a premise. The card (YtmlchbldcoenaaaDoorCards.lean) ties it to the program's text. -/
def laid_math_bits_deBruijn64tab {H : Type} : DataW H := .agg [.lit (.int .u8 0), .lit (.int .u8 1), .lit (.int .u8 56), .lit (.int .u8 2), .lit (.int .u8 57), .lit (.int .u8 49), .lit (.int .u8 28), .lit (.int .u8 3), .lit (.int .u8 61), .lit (.int .u8 58), .lit (.int .u8 42), .lit (.int .u8 50), .lit (.int .u8 38), .lit (.int .u8 29), .lit (.int .u8 17), .lit (.int .u8 4), .lit (.int .u8 62), .lit (.int .u8 47), .lit (.int .u8 59), .lit (.int .u8 36), .lit (.int .u8 45), .lit (.int .u8 43), .lit (.int .u8 51), .lit (.int .u8 22), .lit (.int .u8 53), .lit (.int .u8 39), .lit (.int .u8 33), .lit (.int .u8 30), .lit (.int .u8 24), .lit (.int .u8 18), .lit (.int .u8 12), .lit (.int .u8 5), .lit (.int .u8 63), .lit (.int .u8 55), .lit (.int .u8 48), .lit (.int .u8 27), .lit (.int .u8 60), .lit (.int .u8 41), .lit (.int .u8 37), .lit (.int .u8 16), .lit (.int .u8 46), .lit (.int .u8 35), .lit (.int .u8 44), .lit (.int .u8 21), .lit (.int .u8 52), .lit (.int .u8 32), .lit (.int .u8 23), .lit (.int .u8 11), .lit (.int .u8 54), .lit (.int .u8 26), .lit (.int .u8 40), .lit (.int .u8 15), .lit (.int .u8 34), .lit (.int .u8 20), .lit (.int .u8 31), .lit (.int .u8 10), .lit (.int .u8 25), .lit (.int .u8 14), .lit (.int .u8 19), .lit (.int .u8 9), .lit (.int .u8 13), .lit (.int .u8 8), .lit (.int .u8 7), .lit (.int .u8 6)]

/-- 'shoringlaw13.FnsOwn': WHATEVER THE INPUT: true; the input reads as it did. -/
def fnsOwnSpec : ChangeSpec := { name := "fnsOwn", fn := fun _ => fun
  | [d1, d2] => { results := [.lit (.bool true)], args := [d1, d2] }
  | _ => none }
def fnsOwnRow : OpenClaim := { program := "ytmlchbldcoenaaadoor", sum := "a44313773bff59de89ce2c13e1e186f361ed727dfef32d46f69295aa20cd7a03", func := "shoring/shoringlaw13.FnsOwn", spec := "fnsOwn", unfollowed := true, recurses := true, named := ["math/bits.deBruijn64tab"], apart := false, laid := [("math/bits.deBruijn64tab", laid_math_bits_deBruijn64tab)] }
def FnsOwnSaid : Prop := fnsOwnRow.holds Tryd.pinned (OpenSpec.ofChange fnsOwnSpec)

/-- ITS FALSE NEIGHBOUR: 'it returns false'. Refute it at one input. -/
def fnsOwnWrong : ChangeSpec := { name := "fnsOwn", fn := fun _ => fun
  | [d1, d2] => { results := [.lit (.bool false)], args := [d1, d2] }
  | _ => none }
def FnsOwnWrongFalsely : Prop := fnsOwnRow.holds Tryd.pinned (OpenSpec.ofChange fnsOwnWrong)

/-- 'shoringlaw13.FnsIs': WHATEVER THE INPUT: true; the input reads as it did. -/
def fnsIsSpec : ChangeSpec := { name := "fnsIs", fn := fun _ => fun
  | [d] => { results := [.lit (.bool true)], args := [d] }
  | _ => none }
def fnsIsRow : OpenClaim := { program := "ytmlchbldcoenaaadoor", sum := "a44313773bff59de89ce2c13e1e186f361ed727dfef32d46f69295aa20cd7a03", func := "shoring/shoringlaw13.FnsIs", spec := "fnsIs", unfollowed := true, recurses := true, named := ["math/bits.deBruijn64tab"], apart := false, laid := [("math/bits.deBruijn64tab", laid_math_bits_deBruijn64tab)] }
def FnsIsSaid : Prop := fnsIsRow.holds Tryd.pinned (OpenSpec.ofChange fnsIsSpec)

/-- ITS FALSE NEIGHBOUR: 'it returns false'. Refute it at one input. -/
def fnsIsWrong : ChangeSpec := { name := "fnsIs", fn := fun _ => fun
  | [d] => { results := [.lit (.bool false)], args := [d] }
  | _ => none }
def FnsIsWrongFalsely : Prop := fnsIsRow.holds Tryd.pinned (OpenSpec.ofChange fnsIsWrong)

/-- 'shoringlaw13.FnsTells': WHATEVER THE INPUT: true; the input reads as it did. -/
def fnsTellsSpec : ChangeSpec := { name := "fnsTells", fn := fun _ => fun
  | [d1, d2, d3] => { results := [.lit (.bool true)], args := [d1, d2, d3] }
  | _ => none }
def fnsTellsRow : OpenClaim := { program := "ytmlchbldcoenaaadoor", sum := "a44313773bff59de89ce2c13e1e186f361ed727dfef32d46f69295aa20cd7a03", func := "shoring/shoringlaw13.FnsTells", spec := "fnsTells", unfollowed := true, recurses := true, named := ["math/bits.deBruijn64tab"], apart := false, laid := [("math/bits.deBruijn64tab", laid_math_bits_deBruijn64tab)] }
def FnsTellsSaid : Prop := fnsTellsRow.holds Tryd.pinned (OpenSpec.ofChange fnsTellsSpec)

/-- ITS FALSE NEIGHBOUR: 'it returns false'. Refute it at one input. -/
def fnsTellsWrong : ChangeSpec := { name := "fnsTells", fn := fun _ => fun
  | [d1, d2, d3] => { results := [.lit (.bool false)], args := [d1, d2, d3] }
  | _ => none }
def FnsTellsWrongFalsely : Prop := fnsTellsRow.holds Tryd.pinned (OpenSpec.ofChange fnsTellsWrong)

/-- 'shoringlaw13.FnsJoins': WHATEVER THE INPUT: true; the input reads as it did. -/
def fnsJoinsSpec : ChangeSpec := { name := "fnsJoins", fn := fun _ => fun
  | [d1, d2, d3, d4] => { results := [.lit (.bool true)], args := [d1, d2, d3, d4] }
  | _ => none }
def fnsJoinsRow : OpenClaim := { program := "ytmlchbldcoenaaadoor", sum := "a44313773bff59de89ce2c13e1e186f361ed727dfef32d46f69295aa20cd7a03", func := "shoring/shoringlaw13.FnsJoins", spec := "fnsJoins", unfollowed := true, recurses := true, named := ["math/bits.deBruijn64tab"], apart := false, laid := [("math/bits.deBruijn64tab", laid_math_bits_deBruijn64tab)] }
def FnsJoinsSaid : Prop := fnsJoinsRow.holds Tryd.pinned (OpenSpec.ofChange fnsJoinsSpec)

/-- ITS FALSE NEIGHBOUR: 'it returns false'. Refute it at one input. -/
def fnsJoinsWrong : ChangeSpec := { name := "fnsJoins", fn := fun _ => fun
  | [d1, d2, d3, d4] => { results := [.lit (.bool false)], args := [d1, d2, d3, d4] }
  | _ => none }
def FnsJoinsWrongFalsely : Prop := fnsJoinsRow.holds Tryd.pinned (OpenSpec.ofChange fnsJoinsWrong)

/-- 'shoringlaw03.BitmapOf': WHATEVER THE INPUT: true; the input reads as it did. -/
def bitmapOfSpec : ChangeSpec := { name := "bitmapOf", fn := fun _ => fun
  | [d1, d2] => { results := [.lit (.bool true)], args := [d1, d2] }
  | _ => none }
def bitmapOfRow : OpenClaim := { program := "ytmlchbldcoenaaadoor", sum := "a44313773bff59de89ce2c13e1e186f361ed727dfef32d46f69295aa20cd7a03", func := "shoring/shoringlaw03.BitmapOf", spec := "bitmapOf", inPlace := ["internal/abi.NoEscape", "internal/bytealg.MakeNoZero"], unfollowed := true, recurses := true, named := ["math/bits.deBruijn64tab"], apart := false, laid := [("math/bits.deBruijn64tab", laid_math_bits_deBruijn64tab)] }
def BitmapOfSaid : Prop := bitmapOfRow.holds Tryd.pinned (OpenSpec.ofChange bitmapOfSpec)

/-- ITS FALSE NEIGHBOUR: 'it returns false'. Refute it at one input. -/
def bitmapOfWrong : ChangeSpec := { name := "bitmapOf", fn := fun _ => fun
  | [d1, d2] => { results := [.lit (.bool false)], args := [d1, d2] }
  | _ => none }
def BitmapOfWrongFalsely : Prop := bitmapOfRow.holds Tryd.pinned (OpenSpec.ofChange bitmapOfWrong)

/-- 'shoringlaw03.BitmapTells': WHATEVER THE INPUT: true; the input reads as it did. -/
def bitmapTellsSpec : ChangeSpec := { name := "bitmapTells", fn := fun _ => fun
  | [d1, d2] => { results := [.lit (.bool true)], args := [d1, d2] }
  | _ => none }
def bitmapTellsRow : OpenClaim := { program := "ytmlchbldcoenaaadoor", sum := "a44313773bff59de89ce2c13e1e186f361ed727dfef32d46f69295aa20cd7a03", func := "shoring/shoringlaw03.BitmapTells", spec := "bitmapTells", inPlace := ["internal/abi.NoEscape", "internal/bytealg.MakeNoZero"], unfollowed := true, recurses := true, named := ["math/bits.deBruijn64tab"], apart := false, laid := [("math/bits.deBruijn64tab", laid_math_bits_deBruijn64tab)] }
def BitmapTellsSaid : Prop := bitmapTellsRow.holds Tryd.pinned (OpenSpec.ofChange bitmapTellsSpec)

/-- ITS FALSE NEIGHBOUR: 'it returns false'. Refute it at one input. -/
def bitmapTellsWrong : ChangeSpec := { name := "bitmapTells", fn := fun _ => fun
  | [d1, d2] => { results := [.lit (.bool false)], args := [d1, d2] }
  | _ => none }
def BitmapTellsWrongFalsely : Prop := bitmapTellsRow.holds Tryd.pinned (OpenSpec.ofChange bitmapTellsWrong)

/-- 'shoringlaw03.BitmapWith': WHATEVER THE INPUT: true; the input reads as it did. -/
def bitmapWithSpec : ChangeSpec := { name := "bitmapWith", fn := fun _ => fun
  | [d1, d2, d3, d4] => { results := [.lit (.bool true)], args := [d1, d2, d3, d4] }
  | _ => none }
def bitmapWithRow : OpenClaim := { program := "ytmlchbldcoenaaadoor", sum := "a44313773bff59de89ce2c13e1e186f361ed727dfef32d46f69295aa20cd7a03", func := "shoring/shoringlaw03.BitmapWith", spec := "bitmapWith", inPlace := ["internal/abi.NoEscape", "internal/bytealg.MakeNoZero"], unfollowed := true, recurses := true, named := ["math/bits.deBruijn64tab"], apart := false, laid := [("math/bits.deBruijn64tab", laid_math_bits_deBruijn64tab)] }
def BitmapWithSaid : Prop := bitmapWithRow.holds Tryd.pinned (OpenSpec.ofChange bitmapWithSpec)

/-- ITS FALSE NEIGHBOUR: 'it returns false'. Refute it at one input. -/
def bitmapWithWrong : ChangeSpec := { name := "bitmapWith", fn := fun _ => fun
  | [d1, d2, d3, d4] => { results := [.lit (.bool false)], args := [d1, d2, d3, d4] }
  | _ => none }
def BitmapWithWrongFalsely : Prop := bitmapWithRow.holds Tryd.pinned (OpenSpec.ofChange bitmapWithWrong)

/-- 'shoringlaw03.BitmapTwice': WHATEVER THE INPUT: true; the input reads as it did. -/
def bitmapTwiceSpec : ChangeSpec := { name := "bitmapTwice", fn := fun _ => fun
  | [d1, d2, d3, d4, d5] => { results := [.lit (.bool true)], args := [d1, d2, d3, d4, d5] }
  | _ => none }
def bitmapTwiceRow : OpenClaim := { program := "ytmlchbldcoenaaadoor", sum := "a44313773bff59de89ce2c13e1e186f361ed727dfef32d46f69295aa20cd7a03", func := "shoring/shoringlaw03.BitmapTwice", spec := "bitmapTwice", inPlace := ["internal/abi.NoEscape", "internal/bytealg.MakeNoZero"], unfollowed := true, recurses := true, named := ["math/bits.deBruijn64tab"], apart := false, laid := [("math/bits.deBruijn64tab", laid_math_bits_deBruijn64tab)] }
def BitmapTwiceSaid : Prop := bitmapTwiceRow.holds Tryd.pinned (OpenSpec.ofChange bitmapTwiceSpec)

/-- ITS FALSE NEIGHBOUR: 'it returns false'. Refute it at one input. -/
def bitmapTwiceWrong : ChangeSpec := { name := "bitmapTwice", fn := fun _ => fun
  | [d1, d2, d3, d4, d5] => { results := [.lit (.bool false)], args := [d1, d2, d3, d4, d5] }
  | _ => none }
def BitmapTwiceWrongFalsely : Prop := bitmapTwiceRow.holds Tryd.pinned (OpenSpec.ofChange bitmapTwiceWrong)

/-- 'shoringlaw03.BitmapReads': WHATEVER THE INPUT: true; the input reads as it did. -/
def bitmapReadsSpec : ChangeSpec := { name := "bitmapReads", fn := fun _ => fun
  | [d1, d2, d3] => { results := [.lit (.bool true)], args := [d1, d2, d3] }
  | _ => none }
def bitmapReadsRow : OpenClaim := { program := "ytmlchbldcoenaaadoor", sum := "a44313773bff59de89ce2c13e1e186f361ed727dfef32d46f69295aa20cd7a03", func := "shoring/shoringlaw03.BitmapReads", spec := "bitmapReads", inPlace := ["internal/abi.NoEscape", "internal/bytealg.MakeNoZero"], unfollowed := true, recurses := true, named := ["math/bits.deBruijn64tab"], apart := false, laid := [("math/bits.deBruijn64tab", laid_math_bits_deBruijn64tab)] }
def BitmapReadsSaid : Prop := bitmapReadsRow.holds Tryd.pinned (OpenSpec.ofChange bitmapReadsSpec)

/-- ITS FALSE NEIGHBOUR: 'it returns false'. Refute it at one input. -/
def bitmapReadsWrong : ChangeSpec := { name := "bitmapReads", fn := fun _ => fun
  | [d1, d2, d3] => { results := [.lit (.bool false)], args := [d1, d2, d3] }
  | _ => none }
def BitmapReadsWrongFalsely : Prop := bitmapReadsRow.holds Tryd.pinned (OpenSpec.ofChange bitmapReadsWrong)

/- THE SECOND FORM. 'bulk': how many values and letters a reading holds, each counted each time it is reached (what is shared counts as often as it is met; a slice's spare places count too). A statement '..UptoSaid' is the law's where the arguments, and the package variables that the reading takes, are together of bulk at most 1048576: NARROWER than '..Said'. Prove '..Said' where nothing that the law and all that it calls make is longer than what came in: it says more and counts as full. Else prove '..UptoSaid'. A law counts once. -/
mutual
def uptoBulk {H : Type} : DataW H → Nat
  | .lit (.string bytes) => bytes.length + 1
  | .lit _ => 1
  | .nil => 1
  | .ptr d => uptoBulk d + 1
  | .slice elems spare => uptoBulkAll elems + uptoBulkAll spare + 1
  | .agg parts => uptoBulkAll parts + 1
  | .iface _ d => uptoBulk d + 1
  | .map entries => uptoBulkEntries entries + 1
  | .held _ => 1
def uptoBulkAll {H : Type} : List (DataW H) → Nat
  | [] => 0
  | d :: r => uptoBulk d + uptoBulkAll r
def uptoBulkEntries {H : Type} : List (Lit × DataW H) → Nat
  | [] => 0
  | x :: r => uptoBulkEntry x + uptoBulkEntries r
def uptoBulkEntry {H : Type} : Lit × DataW H → Nat
  | (.string bytes, d) => bytes.length + uptoBulk d + 1
  | (_, d) => uptoBulk d + 1
 end
def uptoSmall : (H : Type) → List (DataW H) → Bool := fun _ ds => decide (uptoBulkAll ds ≤ 1048576)
def OpenSpec.upto (s : _root_.Go.ChangeSpec) : _root_.Go.OpenSpec := { _root_.Go.OpenSpec.ofChange s with cond := some uptoSmall }

/-- 'shoringlaw13.FnsOwn', WHERE WHAT IT READS IS OF BULK AT MOST 1048576: true; the input reads as it did. -/
def fnsOwnUptoRow : OpenClaim := { program := "ytmlchbldcoenaaadoor", sum := "a44313773bff59de89ce2c13e1e186f361ed727dfef32d46f69295aa20cd7a03", func := "shoring/shoringlaw13.FnsOwn", spec := "fnsOwn", unfollowed := true, recurses := true, named := ["math/bits.deBruijn64tab"], apart := false, laid := [("math/bits.deBruijn64tab", laid_math_bits_deBruijn64tab)], narrowed := true }
def FnsOwnUptoSaid : Prop := fnsOwnUptoRow.holds Tryd.pinned (OpenSpec.upto fnsOwnSpec)

/-- 'shoringlaw13.FnsIs', WHERE WHAT IT READS IS OF BULK AT MOST 1048576: true; the input reads as it did. -/
def fnsIsUptoRow : OpenClaim := { program := "ytmlchbldcoenaaadoor", sum := "a44313773bff59de89ce2c13e1e186f361ed727dfef32d46f69295aa20cd7a03", func := "shoring/shoringlaw13.FnsIs", spec := "fnsIs", unfollowed := true, recurses := true, named := ["math/bits.deBruijn64tab"], apart := false, laid := [("math/bits.deBruijn64tab", laid_math_bits_deBruijn64tab)], narrowed := true }
def FnsIsUptoSaid : Prop := fnsIsUptoRow.holds Tryd.pinned (OpenSpec.upto fnsIsSpec)

/-- 'shoringlaw13.FnsTells', WHERE WHAT IT READS IS OF BULK AT MOST 1048576: true; the input reads as it did. -/
def fnsTellsUptoRow : OpenClaim := { program := "ytmlchbldcoenaaadoor", sum := "a44313773bff59de89ce2c13e1e186f361ed727dfef32d46f69295aa20cd7a03", func := "shoring/shoringlaw13.FnsTells", spec := "fnsTells", unfollowed := true, recurses := true, named := ["math/bits.deBruijn64tab"], apart := false, laid := [("math/bits.deBruijn64tab", laid_math_bits_deBruijn64tab)], narrowed := true }
def FnsTellsUptoSaid : Prop := fnsTellsUptoRow.holds Tryd.pinned (OpenSpec.upto fnsTellsSpec)

/-- 'shoringlaw13.FnsJoins', WHERE WHAT IT READS IS OF BULK AT MOST 1048576: true; the input reads as it did. -/
def fnsJoinsUptoRow : OpenClaim := { program := "ytmlchbldcoenaaadoor", sum := "a44313773bff59de89ce2c13e1e186f361ed727dfef32d46f69295aa20cd7a03", func := "shoring/shoringlaw13.FnsJoins", spec := "fnsJoins", unfollowed := true, recurses := true, named := ["math/bits.deBruijn64tab"], apart := false, laid := [("math/bits.deBruijn64tab", laid_math_bits_deBruijn64tab)], narrowed := true }
def FnsJoinsUptoSaid : Prop := fnsJoinsUptoRow.holds Tryd.pinned (OpenSpec.upto fnsJoinsSpec)

/-- 'shoringlaw03.BitmapOf', WHERE WHAT IT READS IS OF BULK AT MOST 1048576: true; the input reads as it did. -/
def bitmapOfUptoRow : OpenClaim := { program := "ytmlchbldcoenaaadoor", sum := "a44313773bff59de89ce2c13e1e186f361ed727dfef32d46f69295aa20cd7a03", func := "shoring/shoringlaw03.BitmapOf", spec := "bitmapOf", inPlace := ["internal/abi.NoEscape", "internal/bytealg.MakeNoZero"], unfollowed := true, recurses := true, named := ["math/bits.deBruijn64tab"], apart := false, laid := [("math/bits.deBruijn64tab", laid_math_bits_deBruijn64tab)], narrowed := true }
def BitmapOfUptoSaid : Prop := bitmapOfUptoRow.holds Tryd.pinned (OpenSpec.upto bitmapOfSpec)

/-- 'shoringlaw03.BitmapTells', WHERE WHAT IT READS IS OF BULK AT MOST 1048576: true; the input reads as it did. -/
def bitmapTellsUptoRow : OpenClaim := { program := "ytmlchbldcoenaaadoor", sum := "a44313773bff59de89ce2c13e1e186f361ed727dfef32d46f69295aa20cd7a03", func := "shoring/shoringlaw03.BitmapTells", spec := "bitmapTells", inPlace := ["internal/abi.NoEscape", "internal/bytealg.MakeNoZero"], unfollowed := true, recurses := true, named := ["math/bits.deBruijn64tab"], apart := false, laid := [("math/bits.deBruijn64tab", laid_math_bits_deBruijn64tab)], narrowed := true }
def BitmapTellsUptoSaid : Prop := bitmapTellsUptoRow.holds Tryd.pinned (OpenSpec.upto bitmapTellsSpec)

/-- 'shoringlaw03.BitmapWith', WHERE WHAT IT READS IS OF BULK AT MOST 1048576: true; the input reads as it did. -/
def bitmapWithUptoRow : OpenClaim := { program := "ytmlchbldcoenaaadoor", sum := "a44313773bff59de89ce2c13e1e186f361ed727dfef32d46f69295aa20cd7a03", func := "shoring/shoringlaw03.BitmapWith", spec := "bitmapWith", inPlace := ["internal/abi.NoEscape", "internal/bytealg.MakeNoZero"], unfollowed := true, recurses := true, named := ["math/bits.deBruijn64tab"], apart := false, laid := [("math/bits.deBruijn64tab", laid_math_bits_deBruijn64tab)], narrowed := true }
def BitmapWithUptoSaid : Prop := bitmapWithUptoRow.holds Tryd.pinned (OpenSpec.upto bitmapWithSpec)

/-- 'shoringlaw03.BitmapTwice', WHERE WHAT IT READS IS OF BULK AT MOST 1048576: true; the input reads as it did. -/
def bitmapTwiceUptoRow : OpenClaim := { program := "ytmlchbldcoenaaadoor", sum := "a44313773bff59de89ce2c13e1e186f361ed727dfef32d46f69295aa20cd7a03", func := "shoring/shoringlaw03.BitmapTwice", spec := "bitmapTwice", inPlace := ["internal/abi.NoEscape", "internal/bytealg.MakeNoZero"], unfollowed := true, recurses := true, named := ["math/bits.deBruijn64tab"], apart := false, laid := [("math/bits.deBruijn64tab", laid_math_bits_deBruijn64tab)], narrowed := true }
def BitmapTwiceUptoSaid : Prop := bitmapTwiceUptoRow.holds Tryd.pinned (OpenSpec.upto bitmapTwiceSpec)

/-- 'shoringlaw03.BitmapReads', WHERE WHAT IT READS IS OF BULK AT MOST 1048576: true; the input reads as it did. -/
def bitmapReadsUptoRow : OpenClaim := { program := "ytmlchbldcoenaaadoor", sum := "a44313773bff59de89ce2c13e1e186f361ed727dfef32d46f69295aa20cd7a03", func := "shoring/shoringlaw03.BitmapReads", spec := "bitmapReads", inPlace := ["internal/abi.NoEscape", "internal/bytealg.MakeNoZero"], unfollowed := true, recurses := true, named := ["math/bits.deBruijn64tab"], apart := false, laid := [("math/bits.deBruijn64tab", laid_math_bits_deBruijn64tab)], narrowed := true }
def BitmapReadsUptoSaid : Prop := bitmapReadsUptoRow.holds Tryd.pinned (OpenSpec.upto bitmapReadsSpec)

end Rows
end Go.Proofs.YtmlchbldcoenaaaDoor
