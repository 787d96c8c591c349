/-
  NARROWER THAN 'FOR EVERY INPUT', by the rows' own cells (each row's printed sentence says how): SlotsMays: laid · SlotsFind: laid · FrameReads: laid · FrameWords: laid · FrameSlots: laid · ModelBack: laid · SlotsOne: laid · ModelSame: laid · DrainRoomy: laid · WalkTop: laid · WalkIs: laid · WalkMeets: laid.
  DERIVED. THE GIVEN ROWS OF THIS SEAT. 12 by the template 'for every input the law returns true; each argument reads behind the call as it read before'; 0 by the template 'total and deterministic' (their statements: YtbikdngpannekaaDoorTotals.lean).
  GIVEN WITH THE SEED: the statements are not yours to turn. If you find one false, say at which input.
  Laid BY PROGRAM, IN A SANDBOX (cutbox-rows.mjs): the forced cells as the released guide's own fill.sh prints them over the translation 356a6763763b79de… (all of the seat's roots in one cut). By AI agents, Wed Nov 11 2026. No macro, syntax, notation, axiom, sorry.
-/
import Derived.Test.YtbikdngpannekaaDoorChecked
import GoSem.Claim
import GoSem.ClaimJoined
import GoSem.ClaimMapViews
import Derived.JoinedTies
import Derived.KernelRfl
namespace Go.Proofs.YtbikdngpannekaaDoor
/- THE CELL 'sum', in the pinned program and in every row, IS THE sha256 OF THE DUMP (.gsa) THAT YtbikdngpannekaaDoorProg.lean LOADS. Nothing in Lean hashes anything: it is a label: what it is worth is what the hold of that sum in a sandbox is worth. -/
noncomputable def Tryd.pinned : Pinned := { name := "ytbikdngpannekaadoor", sum := "356a6763763b79dec622857204a38ef95a8be77ddb6c378ef4580b6270d81b0a", checked := Tryd.checked }
namespace Rows
def none {H : Type} : Left H := { results := [], args := [] }

/- WHAT THE LISTED PACKAGE-LEVEL VARIABLES READ AS WHEN THE CALL BEGINS. Each datum BY PROGRAM (the guide's laid-datum.mjs) off the statement by which the dump's own 'gosem.cut.vars' lays the variable. In a bare row this is a premise. The card (YtbikdngpannekaaDoorCards.lean) ties it to the program's text. -/
def laid_math_bits_deBruijn64tab {H : Type} : DataW H := .agg [.lit (.int .u8 0), .lit (.int .u8 1), .lit (.int .u8 56), .lit (.int .u8 2), .lit (.int .u8 57), .lit (.int .u8 49), .lit (.int .u8 28), .lit (.int .u8 3), .lit (.int .u8 61), .lit (.int .u8 58), .lit (.int .u8 42), .lit (.int .u8 50), .lit (.int .u8 38), .lit (.int .u8 29), .lit (.int .u8 17), .lit (.int .u8 4), .lit (.int .u8 62), .lit (.int .u8 47), .lit (.int .u8 59), .lit (.int .u8 36), .lit (.int .u8 45), .lit (.int .u8 43), .lit (.int .u8 51), .lit (.int .u8 22), .lit (.int .u8 53), .lit (.int .u8 39), .lit (.int .u8 33), .lit (.int .u8 30), .lit (.int .u8 24), .lit (.int .u8 18), .lit (.int .u8 12), .lit (.int .u8 5), .lit (.int .u8 63), .lit (.int .u8 55), .lit (.int .u8 48), .lit (.int .u8 27), .lit (.int .u8 60), .lit (.int .u8 41), .lit (.int .u8 37), .lit (.int .u8 16), .lit (.int .u8 46), .lit (.int .u8 35), .lit (.int .u8 44), .lit (.int .u8 21), .lit (.int .u8 52), .lit (.int .u8 32), .lit (.int .u8 23), .lit (.int .u8 11), .lit (.int .u8 54), .lit (.int .u8 26), .lit (.int .u8 40), .lit (.int .u8 15), .lit (.int .u8 34), .lit (.int .u8 20), .lit (.int .u8 31), .lit (.int .u8 10), .lit (.int .u8 25), .lit (.int .u8 14), .lit (.int .u8 19), .lit (.int .u8 9), .lit (.int .u8 13), .lit (.int .u8 8), .lit (.int .u8 7), .lit (.int .u8 6)]

/-- 'shoringlaw16.SlotsMays': WHATEVER THE INPUT: true; the input reads as it did. -/
def slotsMaysSpec : ChangeSpec := { name := "slotsMays", fn := fun _ => fun
  | [d] => { results := [.lit (.bool true)], args := [d] }
  | _ => none }
def slotsMaysRow : OpenClaim := { program := "ytbikdngpannekaadoor", sum := "356a6763763b79dec622857204a38ef95a8be77ddb6c378ef4580b6270d81b0a", func := "shoring/shoringlaw16.SlotsMays", spec := "slotsMays", unfollowed := true, recurses := true, named := ["math/bits.deBruijn64tab"], apart := false, laid := [("math/bits.deBruijn64tab", laid_math_bits_deBruijn64tab)] }
def SlotsMaysSaid : Prop := slotsMaysRow.holds Tryd.pinned (OpenSpec.ofChange slotsMaysSpec)

/-- ITS FALSE NEIGHBOUR: 'it returns false'. Refute it at one input. -/
def slotsMaysWrong : ChangeSpec := { name := "slotsMays", fn := fun _ => fun
  | [d] => { results := [.lit (.bool false)], args := [d] }
  | _ => none }
def SlotsMaysWrongFalsely : Prop := slotsMaysRow.holds Tryd.pinned (OpenSpec.ofChange slotsMaysWrong)

/-- 'shoringlaw16.SlotsFind': WHATEVER THE INPUT: true; the input reads as it did. -/
def slotsFindSpec : ChangeSpec := { name := "slotsFind", fn := fun _ => fun
  | [d1, d2, d3, d4, d5] => { results := [.lit (.bool true)], args := [d1, d2, d3, d4, d5] }
  | _ => none }
def slotsFindRow : OpenClaim := { program := "ytbikdngpannekaadoor", sum := "356a6763763b79dec622857204a38ef95a8be77ddb6c378ef4580b6270d81b0a", func := "shoring/shoringlaw16.SlotsFind", spec := "slotsFind", unfollowed := true, recurses := true, named := ["math/bits.deBruijn64tab"], apart := false, laid := [("math/bits.deBruijn64tab", laid_math_bits_deBruijn64tab)] }
def SlotsFindSaid : Prop := slotsFindRow.holds Tryd.pinned (OpenSpec.ofChange slotsFindSpec)

/-- ITS FALSE NEIGHBOUR: 'it returns false'. Refute it at one input. -/
def slotsFindWrong : ChangeSpec := { name := "slotsFind", fn := fun _ => fun
  | [d1, d2, d3, d4, d5] => { results := [.lit (.bool false)], args := [d1, d2, d3, d4, d5] }
  | _ => none }
def SlotsFindWrongFalsely : Prop := slotsFindRow.holds Tryd.pinned (OpenSpec.ofChange slotsFindWrong)

/-- 'shoringlaw14.FrameReads': WHATEVER THE INPUT: true; the input reads as it did. -/
def frameReadsSpec : ChangeSpec := { name := "frameReads", fn := fun _ => fun
  | [d1, d2, d3] => { results := [.lit (.bool true)], args := [d1, d2, d3] }
  | _ => none }
def frameReadsRow : OpenClaim := { program := "ytbikdngpannekaadoor", sum := "356a6763763b79dec622857204a38ef95a8be77ddb6c378ef4580b6270d81b0a", func := "shoring/shoringlaw14.FrameReads", spec := "frameReads", unfollowed := true, recurses := true, named := ["math/bits.deBruijn64tab"], apart := false, laid := [("math/bits.deBruijn64tab", laid_math_bits_deBruijn64tab)] }
def FrameReadsSaid : Prop := frameReadsRow.holds Tryd.pinned (OpenSpec.ofChange frameReadsSpec)

/-- ITS FALSE NEIGHBOUR: 'it returns false'. Refute it at one input. -/
def frameReadsWrong : ChangeSpec := { name := "frameReads", fn := fun _ => fun
  | [d1, d2, d3] => { results := [.lit (.bool false)], args := [d1, d2, d3] }
  | _ => none }
def FrameReadsWrongFalsely : Prop := frameReadsRow.holds Tryd.pinned (OpenSpec.ofChange frameReadsWrong)

/-- 'shoringlaw14.FrameWords': WHATEVER THE INPUT: true; the input reads as it did. -/
def frameWordsSpec : ChangeSpec := { name := "frameWords", fn := fun _ => fun
  | [d1, d2, d3, d4, d5] => { results := [.lit (.bool true)], args := [d1, d2, d3, d4, d5] }
  | _ => none }
def frameWordsRow : OpenClaim := { program := "ytbikdngpannekaadoor", sum := "356a6763763b79dec622857204a38ef95a8be77ddb6c378ef4580b6270d81b0a", func := "shoring/shoringlaw14.FrameWords", spec := "frameWords", unfollowed := true, recurses := true, named := ["math/bits.deBruijn64tab"], apart := false, laid := [("math/bits.deBruijn64tab", laid_math_bits_deBruijn64tab)] }
def FrameWordsSaid : Prop := frameWordsRow.holds Tryd.pinned (OpenSpec.ofChange frameWordsSpec)

/-- ITS FALSE NEIGHBOUR: 'it returns false'. Refute it at one input. -/
def frameWordsWrong : ChangeSpec := { name := "frameWords", fn := fun _ => fun
  | [d1, d2, d3, d4, d5] => { results := [.lit (.bool false)], args := [d1, d2, d3, d4, d5] }
  | _ => none }
def FrameWordsWrongFalsely : Prop := frameWordsRow.holds Tryd.pinned (OpenSpec.ofChange frameWordsWrong)

/-- 'shoringlaw14.FrameSlots': WHATEVER THE INPUT: true; the input reads as it did. -/
def frameSlotsSpec : ChangeSpec := { name := "frameSlots", fn := fun _ => fun
  | [d1, d2, d3] => { results := [.lit (.bool true)], args := [d1, d2, d3] }
  | _ => none }
def frameSlotsRow : OpenClaim := { program := "ytbikdngpannekaadoor", sum := "356a6763763b79dec622857204a38ef95a8be77ddb6c378ef4580b6270d81b0a", func := "shoring/shoringlaw14.FrameSlots", spec := "frameSlots", unfollowed := true, recurses := true, named := ["math/bits.deBruijn64tab"], apart := false, laid := [("math/bits.deBruijn64tab", laid_math_bits_deBruijn64tab)] }
def FrameSlotsSaid : Prop := frameSlotsRow.holds Tryd.pinned (OpenSpec.ofChange frameSlotsSpec)

/-- ITS FALSE NEIGHBOUR: 'it returns false'. Refute it at one input. -/
def frameSlotsWrong : ChangeSpec := { name := "frameSlots", fn := fun _ => fun
  | [d1, d2, d3] => { results := [.lit (.bool false)], args := [d1, d2, d3] }
  | _ => none }
def FrameSlotsWrongFalsely : Prop := frameSlotsRow.holds Tryd.pinned (OpenSpec.ofChange frameSlotsWrong)

/-- 'shoringlaw19.ModelBack': WHATEVER THE INPUT: true; the input reads as it did. -/
def modelBackSpec : ChangeSpec := { name := "modelBack", fn := fun _ => fun
  | [d1, d2, d3, d4, d5] => { results := [.lit (.bool true)], args := [d1, d2, d3, d4, d5] }
  | _ => none }
def modelBackRow : OpenClaim := { program := "ytbikdngpannekaadoor", sum := "356a6763763b79dec622857204a38ef95a8be77ddb6c378ef4580b6270d81b0a", func := "shoring/shoringlaw19.ModelBack", spec := "modelBack", unfollowed := true, recurses := true, named := ["math/bits.deBruijn64tab"], apart := false, laid := [("math/bits.deBruijn64tab", laid_math_bits_deBruijn64tab)] }
def ModelBackSaid : Prop := modelBackRow.holds Tryd.pinned (OpenSpec.ofChange modelBackSpec)

/-- ITS FALSE NEIGHBOUR: 'it returns false'. Refute it at one input. -/
def modelBackWrong : ChangeSpec := { name := "modelBack", fn := fun _ => fun
  | [d1, d2, d3, d4, d5] => { results := [.lit (.bool false)], args := [d1, d2, d3, d4, d5] }
  | _ => none }
def ModelBackWrongFalsely : Prop := modelBackRow.holds Tryd.pinned (OpenSpec.ofChange modelBackWrong)

/-- 'shoringlaw16.SlotsOne': WHATEVER THE INPUT: true; the input reads as it did. -/
def slotsOneSpec : ChangeSpec := { name := "slotsOne", fn := fun _ => fun
  | [d1, d2, d3, d4] => { results := [.lit (.bool true)], args := [d1, d2, d3, d4] }
  | _ => none }
def slotsOneRow : OpenClaim := { program := "ytbikdngpannekaadoor", sum := "356a6763763b79dec622857204a38ef95a8be77ddb6c378ef4580b6270d81b0a", func := "shoring/shoringlaw16.SlotsOne", spec := "slotsOne", unfollowed := true, recurses := true, named := ["math/bits.deBruijn64tab"], apart := false, laid := [("math/bits.deBruijn64tab", laid_math_bits_deBruijn64tab)] }
def SlotsOneSaid : Prop := slotsOneRow.holds Tryd.pinned (OpenSpec.ofChange slotsOneSpec)

/-- ITS FALSE NEIGHBOUR: 'it returns false'. Refute it at one input. -/
def slotsOneWrong : ChangeSpec := { name := "slotsOne", fn := fun _ => fun
  | [d1, d2, d3, d4] => { results := [.lit (.bool false)], args := [d1, d2, d3, d4] }
  | _ => none }
def SlotsOneWrongFalsely : Prop := slotsOneRow.holds Tryd.pinned (OpenSpec.ofChange slotsOneWrong)

/-- 'shoringlaw19.ModelSame': WHATEVER THE INPUT: true; the input reads as it did. -/
def modelSameSpec : ChangeSpec := { name := "modelSame", fn := fun _ => fun
  | [d1, d2] => { results := [.lit (.bool true)], args := [d1, d2] }
  | _ => none }
def modelSameRow : OpenClaim := { program := "ytbikdngpannekaadoor", sum := "356a6763763b79dec622857204a38ef95a8be77ddb6c378ef4580b6270d81b0a", func := "shoring/shoringlaw19.ModelSame", spec := "modelSame", unfollowed := true, recurses := true, named := ["math/bits.deBruijn64tab"], apart := false, laid := [("math/bits.deBruijn64tab", laid_math_bits_deBruijn64tab)] }
def ModelSameSaid : Prop := modelSameRow.holds Tryd.pinned (OpenSpec.ofChange modelSameSpec)

/-- ITS FALSE NEIGHBOUR: 'it returns false'. Refute it at one input. -/
def modelSameWrong : ChangeSpec := { name := "modelSame", fn := fun _ => fun
  | [d1, d2] => { results := [.lit (.bool false)], args := [d1, d2] }
  | _ => none }
def ModelSameWrongFalsely : Prop := modelSameRow.holds Tryd.pinned (OpenSpec.ofChange modelSameWrong)

/-- 'shoringlaw26.DrainRoomy': WHATEVER THE INPUT: true; the input reads as it did. -/
def drainRoomySpec : ChangeSpec := { name := "drainRoomy", fn := fun _ => fun
  | [d1, d2, d3, d4] => { results := [.lit (.bool true)], args := [d1, d2, d3, d4] }
  | _ => none }
def drainRoomyRow : OpenClaim := { program := "ytbikdngpannekaadoor", sum := "356a6763763b79dec622857204a38ef95a8be77ddb6c378ef4580b6270d81b0a", func := "shoring/shoringlaw26.DrainRoomy", spec := "drainRoomy", unfollowed := true, recurses := true, named := ["math/bits.deBruijn64tab"], apart := false, laid := [("math/bits.deBruijn64tab", laid_math_bits_deBruijn64tab)] }
def DrainRoomySaid : Prop := drainRoomyRow.holds Tryd.pinned (OpenSpec.ofChange drainRoomySpec)

/-- ITS FALSE NEIGHBOUR: 'it returns false'. Refute it at one input. -/
def drainRoomyWrong : ChangeSpec := { name := "drainRoomy", fn := fun _ => fun
  | [d1, d2, d3, d4] => { results := [.lit (.bool false)], args := [d1, d2, d3, d4] }
  | _ => none }
def DrainRoomyWrongFalsely : Prop := drainRoomyRow.holds Tryd.pinned (OpenSpec.ofChange drainRoomyWrong)

/-- 'shoringlaw15.WalkTop': WHATEVER THE INPUT: true; the input reads as it did. -/
def walkTopSpec : ChangeSpec := { name := "walkTop", fn := fun _ => fun
  | [d1, d2, d3] => { results := [.lit (.bool true)], args := [d1, d2, d3] }
  | _ => none }
def walkTopRow : OpenClaim := { program := "ytbikdngpannekaadoor", sum := "356a6763763b79dec622857204a38ef95a8be77ddb6c378ef4580b6270d81b0a", func := "shoring/shoringlaw15.WalkTop", spec := "walkTop", unfollowed := true, recurses := true, named := ["math/bits.deBruijn64tab"], apart := false, laid := [("math/bits.deBruijn64tab", laid_math_bits_deBruijn64tab)] }
def WalkTopSaid : Prop := walkTopRow.holds Tryd.pinned (OpenSpec.ofChange walkTopSpec)

/-- ITS FALSE NEIGHBOUR: 'it returns false'. Refute it at one input. -/
def walkTopWrong : ChangeSpec := { name := "walkTop", fn := fun _ => fun
  | [d1, d2, d3] => { results := [.lit (.bool false)], args := [d1, d2, d3] }
  | _ => none }
def WalkTopWrongFalsely : Prop := walkTopRow.holds Tryd.pinned (OpenSpec.ofChange walkTopWrong)

/-- 'shoringlaw15.WalkIs': WHATEVER THE INPUT: true; the input reads as it did. -/
def walkIsSpec : ChangeSpec := { name := "walkIs", fn := fun _ => fun
  | [d1, d2, d3] => { results := [.lit (.bool true)], args := [d1, d2, d3] }
  | _ => none }
def walkIsRow : OpenClaim := { program := "ytbikdngpannekaadoor", sum := "356a6763763b79dec622857204a38ef95a8be77ddb6c378ef4580b6270d81b0a", func := "shoring/shoringlaw15.WalkIs", spec := "walkIs", unfollowed := true, recurses := true, named := ["math/bits.deBruijn64tab"], apart := false, laid := [("math/bits.deBruijn64tab", laid_math_bits_deBruijn64tab)] }
def WalkIsSaid : Prop := walkIsRow.holds Tryd.pinned (OpenSpec.ofChange walkIsSpec)

/-- ITS FALSE NEIGHBOUR: 'it returns false'. Refute it at one input. -/
def walkIsWrong : ChangeSpec := { name := "walkIs", fn := fun _ => fun
  | [d1, d2, d3] => { results := [.lit (.bool false)], args := [d1, d2, d3] }
  | _ => none }
def WalkIsWrongFalsely : Prop := walkIsRow.holds Tryd.pinned (OpenSpec.ofChange walkIsWrong)

/-- 'shoringlaw15.WalkMeets': WHATEVER THE INPUT: true; the input reads as it did. -/
def walkMeetsSpec : ChangeSpec := { name := "walkMeets", fn := fun _ => fun
  | [d1, d2, d3, d4] => { results := [.lit (.bool true)], args := [d1, d2, d3, d4] }
  | _ => none }
def walkMeetsRow : OpenClaim := { program := "ytbikdngpannekaadoor", sum := "356a6763763b79dec622857204a38ef95a8be77ddb6c378ef4580b6270d81b0a", func := "shoring/shoringlaw15.WalkMeets", spec := "walkMeets", unfollowed := true, recurses := true, named := ["math/bits.deBruijn64tab"], apart := false, laid := [("math/bits.deBruijn64tab", laid_math_bits_deBruijn64tab)] }
def WalkMeetsSaid : Prop := walkMeetsRow.holds Tryd.pinned (OpenSpec.ofChange walkMeetsSpec)

/-- ITS FALSE NEIGHBOUR: 'it returns false'. Refute it at one input. -/
def walkMeetsWrong : ChangeSpec := { name := "walkMeets", fn := fun _ => fun
  | [d1, d2, d3, d4] => { results := [.lit (.bool false)], args := [d1, d2, d3, d4] }
  | _ => none }
def WalkMeetsWrongFalsely : Prop := walkMeetsRow.holds Tryd.pinned (OpenSpec.ofChange walkMeetsWrong)

/- THE SECOND FORM. 'bulk': how many values and letters a reading holds, each counted each time it is reached (what is shared counts as often as it is met; a slice's spare places count too). A statement '..UptoSaid' is the law's where the arguments, and the package variables that the reading takes, are together of bulk at most 1048576: NARROWER than '..Said'. Prove '..Said' where nothing that the law and all that it calls make is longer than what came in: it says more and counts as full. Else prove '..UptoSaid'. A law counts once. -/
mutual
def uptoBulk {H : Type} : DataW H → Nat
  | .lit (.string bytes) => bytes.length + 1
  | .lit _ => 1
  | .nil => 1
  | .ptr d => uptoBulk d + 1
  | .slice elems spare => uptoBulkAll elems + uptoBulkAll spare + 1
  | .agg parts => uptoBulkAll parts + 1
  | .iface _ d => uptoBulk d + 1
  | .map entries => uptoBulkEntries entries + 1
  | .held _ => 1
def uptoBulkAll {H : Type} : List (DataW H) → Nat
  | [] => 0
  | d :: r => uptoBulk d + uptoBulkAll r
def uptoBulkEntries {H : Type} : List (Lit × DataW H) → Nat
  | [] => 0
  | x :: r => uptoBulkEntry x + uptoBulkEntries r
def uptoBulkEntry {H : Type} : Lit × DataW H → Nat
  | (.string bytes, d) => bytes.length + uptoBulk d + 1
  | (_, d) => uptoBulk d + 1
 end
def uptoSmall : (H : Type) → List (DataW H) → Bool := fun _ ds => decide (uptoBulkAll ds ≤ 1048576)
def OpenSpec.upto (s : _root_.Go.ChangeSpec) : _root_.Go.OpenSpec := { _root_.Go.OpenSpec.ofChange s with cond := some uptoSmall }

/-- 'shoringlaw16.SlotsMays', WHERE WHAT IT READS IS OF BULK AT MOST 1048576: true; the input reads as it did. -/
def slotsMaysUptoRow : OpenClaim := { program := "ytbikdngpannekaadoor", sum := "356a6763763b79dec622857204a38ef95a8be77ddb6c378ef4580b6270d81b0a", func := "shoring/shoringlaw16.SlotsMays", spec := "slotsMays", unfollowed := true, recurses := true, named := ["math/bits.deBruijn64tab"], apart := false, laid := [("math/bits.deBruijn64tab", laid_math_bits_deBruijn64tab)], narrowed := true }
def SlotsMaysUptoSaid : Prop := slotsMaysUptoRow.holds Tryd.pinned (OpenSpec.upto slotsMaysSpec)

/-- 'shoringlaw16.SlotsFind', WHERE WHAT IT READS IS OF BULK AT MOST 1048576: true; the input reads as it did. -/
def slotsFindUptoRow : OpenClaim := { program := "ytbikdngpannekaadoor", sum := "356a6763763b79dec622857204a38ef95a8be77ddb6c378ef4580b6270d81b0a", func := "shoring/shoringlaw16.SlotsFind", spec := "slotsFind", unfollowed := true, recurses := true, named := ["math/bits.deBruijn64tab"], apart := false, laid := [("math/bits.deBruijn64tab", laid_math_bits_deBruijn64tab)], narrowed := true }
def SlotsFindUptoSaid : Prop := slotsFindUptoRow.holds Tryd.pinned (OpenSpec.upto slotsFindSpec)

/-- 'shoringlaw14.FrameReads', WHERE WHAT IT READS IS OF BULK AT MOST 1048576: true; the input reads as it did. -/
def frameReadsUptoRow : OpenClaim := { program := "ytbikdngpannekaadoor", sum := "356a6763763b79dec622857204a38ef95a8be77ddb6c378ef4580b6270d81b0a", func := "shoring/shoringlaw14.FrameReads", spec := "frameReads", unfollowed := true, recurses := true, named := ["math/bits.deBruijn64tab"], apart := false, laid := [("math/bits.deBruijn64tab", laid_math_bits_deBruijn64tab)], narrowed := true }
def FrameReadsUptoSaid : Prop := frameReadsUptoRow.holds Tryd.pinned (OpenSpec.upto frameReadsSpec)

/-- 'shoringlaw14.FrameWords', WHERE WHAT IT READS IS OF BULK AT MOST 1048576: true; the input reads as it did. -/
def frameWordsUptoRow : OpenClaim := { program := "ytbikdngpannekaadoor", sum := "356a6763763b79dec622857204a38ef95a8be77ddb6c378ef4580b6270d81b0a", func := "shoring/shoringlaw14.FrameWords", spec := "frameWords", unfollowed := true, recurses := true, named := ["math/bits.deBruijn64tab"], apart := false, laid := [("math/bits.deBruijn64tab", laid_math_bits_deBruijn64tab)], narrowed := true }
def FrameWordsUptoSaid : Prop := frameWordsUptoRow.holds Tryd.pinned (OpenSpec.upto frameWordsSpec)

/-- 'shoringlaw14.FrameSlots', WHERE WHAT IT READS IS OF BULK AT MOST 1048576: true; the input reads as it did. -/
def frameSlotsUptoRow : OpenClaim := { program := "ytbikdngpannekaadoor", sum := "356a6763763b79dec622857204a38ef95a8be77ddb6c378ef4580b6270d81b0a", func := "shoring/shoringlaw14.FrameSlots", spec := "frameSlots", unfollowed := true, recurses := true, named := ["math/bits.deBruijn64tab"], apart := false, laid := [("math/bits.deBruijn64tab", laid_math_bits_deBruijn64tab)], narrowed := true }
def FrameSlotsUptoSaid : Prop := frameSlotsUptoRow.holds Tryd.pinned (OpenSpec.upto frameSlotsSpec)

/-- 'shoringlaw19.ModelBack', WHERE WHAT IT READS IS OF BULK AT MOST 1048576: true; the input reads as it did. -/
def modelBackUptoRow : OpenClaim := { program := "ytbikdngpannekaadoor", sum := "356a6763763b79dec622857204a38ef95a8be77ddb6c378ef4580b6270d81b0a", func := "shoring/shoringlaw19.ModelBack", spec := "modelBack", unfollowed := true, recurses := true, named := ["math/bits.deBruijn64tab"], apart := false, laid := [("math/bits.deBruijn64tab", laid_math_bits_deBruijn64tab)], narrowed := true }
def ModelBackUptoSaid : Prop := modelBackUptoRow.holds Tryd.pinned (OpenSpec.upto modelBackSpec)

/-- 'shoringlaw16.SlotsOne', WHERE WHAT IT READS IS OF BULK AT MOST 1048576: true; the input reads as it did. -/
def slotsOneUptoRow : OpenClaim := { program := "ytbikdngpannekaadoor", sum := "356a6763763b79dec622857204a38ef95a8be77ddb6c378ef4580b6270d81b0a", func := "shoring/shoringlaw16.SlotsOne", spec := "slotsOne", unfollowed := true, recurses := true, named := ["math/bits.deBruijn64tab"], apart := false, laid := [("math/bits.deBruijn64tab", laid_math_bits_deBruijn64tab)], narrowed := true }
def SlotsOneUptoSaid : Prop := slotsOneUptoRow.holds Tryd.pinned (OpenSpec.upto slotsOneSpec)

/-- 'shoringlaw19.ModelSame', WHERE WHAT IT READS IS OF BULK AT MOST 1048576: true; the input reads as it did. -/
def modelSameUptoRow : OpenClaim := { program := "ytbikdngpannekaadoor", sum := "356a6763763b79dec622857204a38ef95a8be77ddb6c378ef4580b6270d81b0a", func := "shoring/shoringlaw19.ModelSame", spec := "modelSame", unfollowed := true, recurses := true, named := ["math/bits.deBruijn64tab"], apart := false, laid := [("math/bits.deBruijn64tab", laid_math_bits_deBruijn64tab)], narrowed := true }
def ModelSameUptoSaid : Prop := modelSameUptoRow.holds Tryd.pinned (OpenSpec.upto modelSameSpec)

/-- 'shoringlaw26.DrainRoomy', WHERE WHAT IT READS IS OF BULK AT MOST 1048576: true; the input reads as it did. -/
def drainRoomyUptoRow : OpenClaim := { program := "ytbikdngpannekaadoor", sum := "356a6763763b79dec622857204a38ef95a8be77ddb6c378ef4580b6270d81b0a", func := "shoring/shoringlaw26.DrainRoomy", spec := "drainRoomy", unfollowed := true, recurses := true, named := ["math/bits.deBruijn64tab"], apart := false, laid := [("math/bits.deBruijn64tab", laid_math_bits_deBruijn64tab)], narrowed := true }
def DrainRoomyUptoSaid : Prop := drainRoomyUptoRow.holds Tryd.pinned (OpenSpec.upto drainRoomySpec)

/-- 'shoringlaw15.WalkTop', WHERE WHAT IT READS IS OF BULK AT MOST 1048576: true; the input reads as it did. -/
def walkTopUptoRow : OpenClaim := { program := "ytbikdngpannekaadoor", sum := "356a6763763b79dec622857204a38ef95a8be77ddb6c378ef4580b6270d81b0a", func := "shoring/shoringlaw15.WalkTop", spec := "walkTop", unfollowed := true, recurses := true, named := ["math/bits.deBruijn64tab"], apart := false, laid := [("math/bits.deBruijn64tab", laid_math_bits_deBruijn64tab)], narrowed := true }
def WalkTopUptoSaid : Prop := walkTopUptoRow.holds Tryd.pinned (OpenSpec.upto walkTopSpec)

/-- 'shoringlaw15.WalkIs', WHERE WHAT IT READS IS OF BULK AT MOST 1048576: true; the input reads as it did. -/
def walkIsUptoRow : OpenClaim := { program := "ytbikdngpannekaadoor", sum := "356a6763763b79dec622857204a38ef95a8be77ddb6c378ef4580b6270d81b0a", func := "shoring/shoringlaw15.WalkIs", spec := "walkIs", unfollowed := true, recurses := true, named := ["math/bits.deBruijn64tab"], apart := false, laid := [("math/bits.deBruijn64tab", laid_math_bits_deBruijn64tab)], narrowed := true }
def WalkIsUptoSaid : Prop := walkIsUptoRow.holds Tryd.pinned (OpenSpec.upto walkIsSpec)

/-- 'shoringlaw15.WalkMeets', WHERE WHAT IT READS IS OF BULK AT MOST 1048576: true; the input reads as it did. -/
def walkMeetsUptoRow : OpenClaim := { program := "ytbikdngpannekaadoor", sum := "356a6763763b79dec622857204a38ef95a8be77ddb6c378ef4580b6270d81b0a", func := "shoring/shoringlaw15.WalkMeets", spec := "walkMeets", unfollowed := true, recurses := true, named := ["math/bits.deBruijn64tab"], apart := false, laid := [("math/bits.deBruijn64tab", laid_math_bits_deBruijn64tab)], narrowed := true }
def WalkMeetsUptoSaid : Prop := walkMeetsUptoRow.holds Tryd.pinned (OpenSpec.upto walkMeetsSpec)

end Rows
end Go.Proofs.YtbikdngpannekaaDoor
