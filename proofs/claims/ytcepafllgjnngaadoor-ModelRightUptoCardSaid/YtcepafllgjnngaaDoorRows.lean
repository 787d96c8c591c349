/-
  NARROWER THAN 'FOR EVERY INPUT', by the rows' own cells (each row's printed sentence says how): FnsOwn: laid · InjectIs: laid · ModelRight: laid · MoveKeeps: laid · MoveTwice: laid · MoveBack: laid · InjectMaps: laid.
  DERIVED. THE GIVEN ROWS OF THIS SEAT. 7 by the template 'for every input the law returns true; each argument reads behind the call as it read before'; 0 by the template 'total and deterministic' (their statements: YtcepafllgjnngaaDoorTotals.lean).
  GIVEN WITH THE SEED: the statements are not yours to turn. If you find one false, say at which input.
  Laid BY PROGRAM, IN A SANDBOX (cutbox-rows.mjs): the forced cells as the released guide's own fill.sh prints them over the translation 1dffd0fb74c97585… (all of the seat's roots in one cut). By AI agents, Wed Nov 11 2026. No macro, syntax, notation, axiom, sorry.
-/
import Derived.Test.YtcepafllgjnngaaDoorChecked
import GoSem.Claim
import GoSem.ClaimJoined
import GoSem.ClaimMapViews
import Derived.JoinedTies
import Derived.KernelRfl
namespace Go.Proofs.YtcepafllgjnngaaDoor
/- THE CELL 'sum', in the pinned program and in every row, IS THE sha256 OF THE DUMP (.gsa) THAT YtcepafllgjnngaaDoorProg.lean LOADS. Nothing in Lean hashes anything: it is a label: what it is worth is what the hold of that sum in a sandbox is worth. -/
noncomputable def Tryd.pinned : Pinned := { name := "ytcepafllgjnngaadoor", sum := "1dffd0fb74c97585fc587ac130dc1fcbd12a783d58efa1abb7a0605329dcbd0a", checked := Tryd.checked }
namespace Rows
def none {H : Type} : Left H := { results := [], args := [] }

/- WHAT THE LISTED PACKAGE-LEVEL VARIABLES READ AS WHEN THE CALL BEGINS. Each datum BY PROGRAM (the guide's laid-datum.mjs) off the statement by which the dump's own 'gosem.cut.vars' lays the variable. In a bare row this is a premise. The card (YtcepafllgjnngaaDoorCards.lean) ties it to the program's text. -/
def laid_math_bits_deBruijn64tab {H : Type} : DataW H := .agg [.lit (.int .u8 0), .lit (.int .u8 1), .lit (.int .u8 56), .lit (.int .u8 2), .lit (.int .u8 57), .lit (.int .u8 49), .lit (.int .u8 28), .lit (.int .u8 3), .lit (.int .u8 61), .lit (.int .u8 58), .lit (.int .u8 42), .lit (.int .u8 50), .lit (.int .u8 38), .lit (.int .u8 29), .lit (.int .u8 17), .lit (.int .u8 4), .lit (.int .u8 62), .lit (.int .u8 47), .lit (.int .u8 59), .lit (.int .u8 36), .lit (.int .u8 45), .lit (.int .u8 43), .lit (.int .u8 51), .lit (.int .u8 22), .lit (.int .u8 53), .lit (.int .u8 39), .lit (.int .u8 33), .lit (.int .u8 30), .lit (.int .u8 24), .lit (.int .u8 18), .lit (.int .u8 12), .lit (.int .u8 5), .lit (.int .u8 63), .lit (.int .u8 55), .lit (.int .u8 48), .lit (.int .u8 27), .lit (.int .u8 60), .lit (.int .u8 41), .lit (.int .u8 37), .lit (.int .u8 16), .lit (.int .u8 46), .lit (.int .u8 35), .lit (.int .u8 44), .lit (.int .u8 21), .lit (.int .u8 52), .lit (.int .u8 32), .lit (.int .u8 23), .lit (.int .u8 11), .lit (.int .u8 54), .lit (.int .u8 26), .lit (.int .u8 40), .lit (.int .u8 15), .lit (.int .u8 34), .lit (.int .u8 20), .lit (.int .u8 31), .lit (.int .u8 10), .lit (.int .u8 25), .lit (.int .u8 14), .lit (.int .u8 19), .lit (.int .u8 9), .lit (.int .u8 13), .lit (.int .u8 8), .lit (.int .u8 7), .lit (.int .u8 6)]

/-- 'shoringlaw13.FnsOwn': WHATEVER THE INPUT: true; the input reads as it did. -/
def fnsOwnSpec : ChangeSpec := { name := "fnsOwn", fn := fun _ => fun
  | [d1, d2] => { results := [.lit (.bool true)], args := [d1, d2] }
  | _ => none }
def fnsOwnRow : OpenClaim := { program := "ytcepafllgjnngaadoor", sum := "1dffd0fb74c97585fc587ac130dc1fcbd12a783d58efa1abb7a0605329dcbd0a", func := "shoring/shoringlaw13.FnsOwn", spec := "fnsOwn", unfollowed := true, recurses := true, named := ["math/bits.deBruijn64tab"], apart := false, laid := [("math/bits.deBruijn64tab", laid_math_bits_deBruijn64tab)] }
def FnsOwnSaid : Prop := fnsOwnRow.holds Tryd.pinned (OpenSpec.ofChange fnsOwnSpec)

/-- ITS FALSE NEIGHBOUR: 'it returns false'. Refute it at one input. -/
def fnsOwnWrong : ChangeSpec := { name := "fnsOwn", fn := fun _ => fun
  | [d1, d2] => { results := [.lit (.bool false)], args := [d1, d2] }
  | _ => none }
def FnsOwnWrongFalsely : Prop := fnsOwnRow.holds Tryd.pinned (OpenSpec.ofChange fnsOwnWrong)

/-- 'shoringlaw23.InjectIs': WHATEVER THE INPUT: true; the input reads as it did. -/
def injectIsSpec : ChangeSpec := { name := "injectIs", fn := fun _ => fun
  | [d1, d2, d3, d4] => { results := [.lit (.bool true)], args := [d1, d2, d3, d4] }
  | _ => none }
def injectIsRow : OpenClaim := { program := "ytcepafllgjnngaadoor", sum := "1dffd0fb74c97585fc587ac130dc1fcbd12a783d58efa1abb7a0605329dcbd0a", func := "shoring/shoringlaw23.InjectIs", spec := "injectIs", unfollowed := true, recurses := true, named := ["math/bits.deBruijn64tab"], apart := false, laid := [("math/bits.deBruijn64tab", laid_math_bits_deBruijn64tab)] }
def InjectIsSaid : Prop := injectIsRow.holds Tryd.pinned (OpenSpec.ofChange injectIsSpec)

/-- ITS FALSE NEIGHBOUR: 'it returns false'. Refute it at one input. -/
def injectIsWrong : ChangeSpec := { name := "injectIs", fn := fun _ => fun
  | [d1, d2, d3, d4] => { results := [.lit (.bool false)], args := [d1, d2, d3, d4] }
  | _ => none }
def InjectIsWrongFalsely : Prop := injectIsRow.holds Tryd.pinned (OpenSpec.ofChange injectIsWrong)

/-- 'shoringlaw19.ModelRight': WHATEVER THE INPUT: true; the input reads as it did. -/
def modelRightSpec : ChangeSpec := { name := "modelRight", fn := fun _ => fun
  | [d1, d2, d3] => { results := [.lit (.bool true)], args := [d1, d2, d3] }
  | _ => none }
def modelRightRow : OpenClaim := { program := "ytcepafllgjnngaadoor", sum := "1dffd0fb74c97585fc587ac130dc1fcbd12a783d58efa1abb7a0605329dcbd0a", func := "shoring/shoringlaw19.ModelRight", spec := "modelRight", inPlace := ["math.Float64frombits", "math.sqrt", "math.Float64bits"], unfollowed := true, recurses := true, named := ["math/bits.deBruijn64tab"], apart := false, laid := [("math/bits.deBruijn64tab", laid_math_bits_deBruijn64tab)] }
def ModelRightSaid : Prop := modelRightRow.holds Tryd.pinned (OpenSpec.ofChange modelRightSpec)

/-- ITS FALSE NEIGHBOUR: 'it returns false'. Refute it at one input. -/
def modelRightWrong : ChangeSpec := { name := "modelRight", fn := fun _ => fun
  | [d1, d2, d3] => { results := [.lit (.bool false)], args := [d1, d2, d3] }
  | _ => none }
def ModelRightWrongFalsely : Prop := modelRightRow.holds Tryd.pinned (OpenSpec.ofChange modelRightWrong)

/-- 'shoringlaw17.MoveKeeps': WHATEVER THE INPUT: true; the input reads as it did. -/
def moveKeepsSpec : ChangeSpec := { name := "moveKeeps", fn := fun _ => fun
  | [d1, d2, d3, d4, d5] => { results := [.lit (.bool true)], args := [d1, d2, d3, d4, d5] }
  | _ => none }
def moveKeepsRow : OpenClaim := { program := "ytcepafllgjnngaadoor", sum := "1dffd0fb74c97585fc587ac130dc1fcbd12a783d58efa1abb7a0605329dcbd0a", func := "shoring/shoringlaw17.MoveKeeps", spec := "moveKeeps", unfollowed := true, recurses := true, named := ["math/bits.deBruijn64tab"], apart := false, laid := [("math/bits.deBruijn64tab", laid_math_bits_deBruijn64tab)] }
def MoveKeepsSaid : Prop := moveKeepsRow.holds Tryd.pinned (OpenSpec.ofChange moveKeepsSpec)

/-- ITS FALSE NEIGHBOUR: 'it returns false'. Refute it at one input. -/
def moveKeepsWrong : ChangeSpec := { name := "moveKeeps", fn := fun _ => fun
  | [d1, d2, d3, d4, d5] => { results := [.lit (.bool false)], args := [d1, d2, d3, d4, d5] }
  | _ => none }
def MoveKeepsWrongFalsely : Prop := moveKeepsRow.holds Tryd.pinned (OpenSpec.ofChange moveKeepsWrong)

/-- 'shoringlaw17.MoveTwice': WHATEVER THE INPUT: true; the input reads as it did. -/
def moveTwiceSpec : ChangeSpec := { name := "moveTwice", fn := fun _ => fun
  | [d1, d2, d3, d4, d5, d6, d7] => { results := [.lit (.bool true)], args := [d1, d2, d3, d4, d5, d6, d7] }
  | _ => none }
def moveTwiceRow : OpenClaim := { program := "ytcepafllgjnngaadoor", sum := "1dffd0fb74c97585fc587ac130dc1fcbd12a783d58efa1abb7a0605329dcbd0a", func := "shoring/shoringlaw17.MoveTwice", spec := "moveTwice", unfollowed := true, recurses := true, named := ["math/bits.deBruijn64tab"], apart := false, laid := [("math/bits.deBruijn64tab", laid_math_bits_deBruijn64tab)] }
def MoveTwiceSaid : Prop := moveTwiceRow.holds Tryd.pinned (OpenSpec.ofChange moveTwiceSpec)

/-- ITS FALSE NEIGHBOUR: 'it returns false'. Refute it at one input. -/
def moveTwiceWrong : ChangeSpec := { name := "moveTwice", fn := fun _ => fun
  | [d1, d2, d3, d4, d5, d6, d7] => { results := [.lit (.bool false)], args := [d1, d2, d3, d4, d5, d6, d7] }
  | _ => none }
def MoveTwiceWrongFalsely : Prop := moveTwiceRow.holds Tryd.pinned (OpenSpec.ofChange moveTwiceWrong)

/-- 'shoringlaw17.MoveBack': WHATEVER THE INPUT: true; the input reads as it did. -/
def moveBackSpec : ChangeSpec := { name := "moveBack", fn := fun _ => fun
  | [d1, d2, d3, d4, d5] => { results := [.lit (.bool true)], args := [d1, d2, d3, d4, d5] }
  | _ => none }
def moveBackRow : OpenClaim := { program := "ytcepafllgjnngaadoor", sum := "1dffd0fb74c97585fc587ac130dc1fcbd12a783d58efa1abb7a0605329dcbd0a", func := "shoring/shoringlaw17.MoveBack", spec := "moveBack", unfollowed := true, recurses := true, named := ["math/bits.deBruijn64tab"], apart := false, laid := [("math/bits.deBruijn64tab", laid_math_bits_deBruijn64tab)] }
def MoveBackSaid : Prop := moveBackRow.holds Tryd.pinned (OpenSpec.ofChange moveBackSpec)

/-- ITS FALSE NEIGHBOUR: 'it returns false'. Refute it at one input. -/
def moveBackWrong : ChangeSpec := { name := "moveBack", fn := fun _ => fun
  | [d1, d2, d3, d4, d5] => { results := [.lit (.bool false)], args := [d1, d2, d3, d4, d5] }
  | _ => none }
def MoveBackWrongFalsely : Prop := moveBackRow.holds Tryd.pinned (OpenSpec.ofChange moveBackWrong)

/-- 'shoringlaw23.InjectMaps': WHATEVER THE INPUT: true; the input reads as it did. -/
def injectMapsSpec : ChangeSpec := { name := "injectMaps", fn := fun _ => fun
  | [d1, d2, d3, d4] => { results := [.lit (.bool true)], args := [d1, d2, d3, d4] }
  | _ => none }
def injectMapsRow : OpenClaim := { program := "ytcepafllgjnngaadoor", sum := "1dffd0fb74c97585fc587ac130dc1fcbd12a783d58efa1abb7a0605329dcbd0a", func := "shoring/shoringlaw23.InjectMaps", spec := "injectMaps", unfollowed := true, recurses := true, named := ["math/bits.deBruijn64tab"], apart := false, laid := [("math/bits.deBruijn64tab", laid_math_bits_deBruijn64tab)] }
def InjectMapsSaid : Prop := injectMapsRow.holds Tryd.pinned (OpenSpec.ofChange injectMapsSpec)

/-- ITS FALSE NEIGHBOUR: 'it returns false'. Refute it at one input. -/
def injectMapsWrong : ChangeSpec := { name := "injectMaps", fn := fun _ => fun
  | [d1, d2, d3, d4] => { results := [.lit (.bool false)], args := [d1, d2, d3, d4] }
  | _ => none }
def InjectMapsWrongFalsely : Prop := injectMapsRow.holds Tryd.pinned (OpenSpec.ofChange injectMapsWrong)

/- THE SECOND FORM. 'bulk': how many values and letters a reading holds, each counted each time it is reached (what is shared counts as often as it is met; a slice's spare places count too). A statement '..UptoSaid' is the law's where the arguments, and the package variables that the reading takes, are together of bulk at most 1048576: NARROWER than '..Said'. Prove '..Said' where nothing that the law and all that it calls make is longer than what came in: it says more and counts as full. Else prove '..UptoSaid'. A law counts once. -/
mutual
def uptoBulk {H : Type} : DataW H → Nat
  | .lit (.string bytes) => bytes.length + 1
  | .lit _ => 1
  | .nil => 1
  | .ptr d => uptoBulk d + 1
  | .slice elems spare => uptoBulkAll elems + uptoBulkAll spare + 1
  | .agg parts => uptoBulkAll parts + 1
  | .iface _ d => uptoBulk d + 1
  | .map entries => uptoBulkEntries entries + 1
  | .held _ => 1
def uptoBulkAll {H : Type} : List (DataW H) → Nat
  | [] => 0
  | d :: r => uptoBulk d + uptoBulkAll r
def uptoBulkEntries {H : Type} : List (Lit × DataW H) → Nat
  | [] => 0
  | x :: r => uptoBulkEntry x + uptoBulkEntries r
def uptoBulkEntry {H : Type} : Lit × DataW H → Nat
  | (.string bytes, d) => bytes.length + uptoBulk d + 1
  | (_, d) => uptoBulk d + 1
 end
def uptoSmall : (H : Type) → List (DataW H) → Bool := fun _ ds => decide (uptoBulkAll ds ≤ 1048576)
def OpenSpec.upto (s : _root_.Go.ChangeSpec) : _root_.Go.OpenSpec := { _root_.Go.OpenSpec.ofChange s with cond := some uptoSmall }

/-- 'shoringlaw13.FnsOwn', WHERE WHAT IT READS IS OF BULK AT MOST 1048576: true; the input reads as it did. -/
def fnsOwnUptoRow : OpenClaim := { program := "ytcepafllgjnngaadoor", sum := "1dffd0fb74c97585fc587ac130dc1fcbd12a783d58efa1abb7a0605329dcbd0a", func := "shoring/shoringlaw13.FnsOwn", spec := "fnsOwn", unfollowed := true, recurses := true, named := ["math/bits.deBruijn64tab"], apart := false, laid := [("math/bits.deBruijn64tab", laid_math_bits_deBruijn64tab)], narrowed := true }
def FnsOwnUptoSaid : Prop := fnsOwnUptoRow.holds Tryd.pinned (OpenSpec.upto fnsOwnSpec)

/-- 'shoringlaw23.InjectIs', WHERE WHAT IT READS IS OF BULK AT MOST 1048576: true; the input reads as it did. -/
def injectIsUptoRow : OpenClaim := { program := "ytcepafllgjnngaadoor", sum := "1dffd0fb74c97585fc587ac130dc1fcbd12a783d58efa1abb7a0605329dcbd0a", func := "shoring/shoringlaw23.InjectIs", spec := "injectIs", unfollowed := true, recurses := true, named := ["math/bits.deBruijn64tab"], apart := false, laid := [("math/bits.deBruijn64tab", laid_math_bits_deBruijn64tab)], narrowed := true }
def InjectIsUptoSaid : Prop := injectIsUptoRow.holds Tryd.pinned (OpenSpec.upto injectIsSpec)

/-- 'shoringlaw19.ModelRight', WHERE WHAT IT READS IS OF BULK AT MOST 1048576: true; the input reads as it did. -/
def modelRightUptoRow : OpenClaim := { program := "ytcepafllgjnngaadoor", sum := "1dffd0fb74c97585fc587ac130dc1fcbd12a783d58efa1abb7a0605329dcbd0a", func := "shoring/shoringlaw19.ModelRight", spec := "modelRight", inPlace := ["math.Float64frombits", "math.sqrt", "math.Float64bits"], unfollowed := true, recurses := true, named := ["math/bits.deBruijn64tab"], apart := false, laid := [("math/bits.deBruijn64tab", laid_math_bits_deBruijn64tab)], narrowed := true }
def ModelRightUptoSaid : Prop := modelRightUptoRow.holds Tryd.pinned (OpenSpec.upto modelRightSpec)

/-- 'shoringlaw17.MoveKeeps', WHERE WHAT IT READS IS OF BULK AT MOST 1048576: true; the input reads as it did. -/
def moveKeepsUptoRow : OpenClaim := { program := "ytcepafllgjnngaadoor", sum := "1dffd0fb74c97585fc587ac130dc1fcbd12a783d58efa1abb7a0605329dcbd0a", func := "shoring/shoringlaw17.MoveKeeps", spec := "moveKeeps", unfollowed := true, recurses := true, named := ["math/bits.deBruijn64tab"], apart := false, laid := [("math/bits.deBruijn64tab", laid_math_bits_deBruijn64tab)], narrowed := true }
def MoveKeepsUptoSaid : Prop := moveKeepsUptoRow.holds Tryd.pinned (OpenSpec.upto moveKeepsSpec)

/-- 'shoringlaw17.MoveTwice', WHERE WHAT IT READS IS OF BULK AT MOST 1048576: true; the input reads as it did. -/
def moveTwiceUptoRow : OpenClaim := { program := "ytcepafllgjnngaadoor", sum := "1dffd0fb74c97585fc587ac130dc1fcbd12a783d58efa1abb7a0605329dcbd0a", func := "shoring/shoringlaw17.MoveTwice", spec := "moveTwice", unfollowed := true, recurses := true, named := ["math/bits.deBruijn64tab"], apart := false, laid := [("math/bits.deBruijn64tab", laid_math_bits_deBruijn64tab)], narrowed := true }
def MoveTwiceUptoSaid : Prop := moveTwiceUptoRow.holds Tryd.pinned (OpenSpec.upto moveTwiceSpec)

/-- 'shoringlaw17.MoveBack', WHERE WHAT IT READS IS OF BULK AT MOST 1048576: true; the input reads as it did. -/
def moveBackUptoRow : OpenClaim := { program := "ytcepafllgjnngaadoor", sum := "1dffd0fb74c97585fc587ac130dc1fcbd12a783d58efa1abb7a0605329dcbd0a", func := "shoring/shoringlaw17.MoveBack", spec := "moveBack", unfollowed := true, recurses := true, named := ["math/bits.deBruijn64tab"], apart := false, laid := [("math/bits.deBruijn64tab", laid_math_bits_deBruijn64tab)], narrowed := true }
def MoveBackUptoSaid : Prop := moveBackUptoRow.holds Tryd.pinned (OpenSpec.upto moveBackSpec)

/-- 'shoringlaw23.InjectMaps', WHERE WHAT IT READS IS OF BULK AT MOST 1048576: true; the input reads as it did. -/
def injectMapsUptoRow : OpenClaim := { program := "ytcepafllgjnngaadoor", sum := "1dffd0fb74c97585fc587ac130dc1fcbd12a783d58efa1abb7a0605329dcbd0a", func := "shoring/shoringlaw23.InjectMaps", spec := "injectMaps", unfollowed := true, recurses := true, named := ["math/bits.deBruijn64tab"], apart := false, laid := [("math/bits.deBruijn64tab", laid_math_bits_deBruijn64tab)], narrowed := true }
def InjectMapsUptoSaid : Prop := injectMapsUptoRow.holds Tryd.pinned (OpenSpec.upto injectMapsSpec)

end Rows
end Go.Proofs.YtcepafllgjnngaaDoor
