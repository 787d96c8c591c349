/-
  No cell of these rows narrows 'for every input' (looked for: loops, veiled, ifaces, maps, wideKeys, modest, calm, conditions, laid).
  DERIVED. THE GIVEN ROWS OF THIS SEAT. 3 by the template 'for every input the law returns true; each argument reads behind the call as it read before'; 0 by the template 'total and deterministic' (their statements: YtcepafllgjnngaaTotals.lean).
  GIVEN WITH THE SEED: the statements are not yours to turn. If you find one false, say at which input.
  Laid BY PROGRAM, IN A SANDBOX (cutbox-rows.mjs): the forced cells as the released guide's own fill.sh prints them over the translation 61fc54c0a03fcb70… (all of the seat's roots in one cut). By AI agents, Wed Nov 11 2026. No macro, syntax, notation, axiom, sorry.
-/
import Derived.Test.YtcepafllgjnngaaChecked
import GoSem.Claim
import GoSem.ClaimJoined
import GoSem.ClaimMapViews
import Derived.JoinedTies
import Derived.KernelRfl
namespace Go.Proofs.Ytcepafllgjnngaa
/- THE CELL 'sum', in the pinned program and in every row, IS THE sha256 OF THE DUMP (.gsa) THAT YtcepafllgjnngaaProg.lean LOADS. Nothing in Lean hashes anything: it is a label: what it is worth is what the hold of that sum in a sandbox is worth. -/
noncomputable def Try.pinned : Pinned := { name := "ytcepafllgjnngaa", sum := "61fc54c0a03fcb704c9b6bcba6b7bd2a929cd46c15cf072a331e5a51e206d128", checked := Try.checked }
namespace Rows
def none {H : Type} : Left H := { results := [], args := [] }

/-- 'shoringlaw02.FloatSums': WHATEVER THE INPUT: true; the input reads as it did. -/
def floatSumsSpec : ChangeSpec := { name := "floatSums", fn := fun _ => fun
  | [d] => { results := [.lit (.bool true)], args := [d] }
  | _ => none }
def floatSumsRow : OpenClaim := { program := "ytcepafllgjnngaa", sum := "61fc54c0a03fcb704c9b6bcba6b7bd2a929cd46c15cf072a331e5a51e206d128", func := "shoring/shoringlaw02.FloatSums", spec := "floatSums", inPlace := ["math.Float64frombits", "math.sqrt", "math.Float64bits"], unfollowed := true, recurses := true, apart := false }
def FloatSumsSaid : Prop := floatSumsRow.holds Try.pinned (OpenSpec.ofChange floatSumsSpec)

/-- ITS FALSE NEIGHBOUR: 'it returns false'. Refute it at one input. -/
def floatSumsWrong : ChangeSpec := { name := "floatSums", fn := fun _ => fun
  | [d] => { results := [.lit (.bool false)], args := [d] }
  | _ => none }
def FloatSumsWrongFalsely : Prop := floatSumsRow.holds Try.pinned (OpenSpec.ofChange floatSumsWrong)

/-- 'shoringlaw22.AuditTurns': WHATEVER THE INPUT: true; the input reads as it did. -/
def auditTurnsSpec : ChangeSpec := { name := "auditTurns", fn := fun _ => fun
  | [d1, d2] => { results := [.lit (.bool true)], args := [d1, d2] }
  | _ => none }
def auditTurnsRow : OpenClaim := { program := "ytcepafllgjnngaa", sum := "61fc54c0a03fcb704c9b6bcba6b7bd2a929cd46c15cf072a331e5a51e206d128", func := "shoring/shoringlaw22.AuditTurns", spec := "auditTurns", unfollowed := true, recurses := true, apart := false }
def AuditTurnsSaid : Prop := auditTurnsRow.holds Try.pinned (OpenSpec.ofChange auditTurnsSpec)

/-- ITS FALSE NEIGHBOUR: 'it returns false'. Refute it at one input. -/
def auditTurnsWrong : ChangeSpec := { name := "auditTurns", fn := fun _ => fun
  | [d1, d2] => { results := [.lit (.bool false)], args := [d1, d2] }
  | _ => none }
def AuditTurnsWrongFalsely : Prop := auditTurnsRow.holds Try.pinned (OpenSpec.ofChange auditTurnsWrong)

/-- 'shoringlaw22.AuditSums': WHATEVER THE INPUT: true; the input reads as it did. -/
def auditSumsSpec : ChangeSpec := { name := "auditSums", fn := fun _ => fun
  | [d1, d2] => { results := [.lit (.bool true)], args := [d1, d2] }
  | _ => none }
def auditSumsRow : OpenClaim := { program := "ytcepafllgjnngaa", sum := "61fc54c0a03fcb704c9b6bcba6b7bd2a929cd46c15cf072a331e5a51e206d128", func := "shoring/shoringlaw22.AuditSums", spec := "auditSums", unfollowed := true, recurses := true, apart := false }
def AuditSumsSaid : Prop := auditSumsRow.holds Try.pinned (OpenSpec.ofChange auditSumsSpec)

/-- ITS FALSE NEIGHBOUR: 'it returns false'. Refute it at one input. -/
def auditSumsWrong : ChangeSpec := { name := "auditSums", fn := fun _ => fun
  | [d1, d2] => { results := [.lit (.bool false)], args := [d1, d2] }
  | _ => none }
def AuditSumsWrongFalsely : Prop := auditSumsRow.holds Try.pinned (OpenSpec.ofChange auditSumsWrong)

/- THE SECOND FORM. 'bulk': how many values and letters a reading holds, each counted each time it is reached (what is shared counts as often as it is met; a slice's spare places count too). A statement '..UptoSaid' is the law's where the arguments, and the package variables that the reading takes, are together of bulk at most 1048576: NARROWER than '..Said'. Prove '..Said' where nothing that the law and all that it calls make is longer than what came in: it says more and counts as full. Else prove '..UptoSaid'. A law counts once. -/
mutual
def uptoBulk {H : Type} : DataW H → Nat
  | .lit (.string bytes) => bytes.length + 1
  | .lit _ => 1
  | .nil => 1
  | .ptr d => uptoBulk d + 1
  | .slice elems spare => uptoBulkAll elems + uptoBulkAll spare + 1
  | .agg parts => uptoBulkAll parts + 1
  | .iface _ d => uptoBulk d + 1
  | .map entries => uptoBulkEntries entries + 1
  | .held _ => 1
def uptoBulkAll {H : Type} : List (DataW H) → Nat
  | [] => 0
  | d :: r => uptoBulk d + uptoBulkAll r
def uptoBulkEntries {H : Type} : List (Lit × DataW H) → Nat
  | [] => 0
  | x :: r => uptoBulkEntry x + uptoBulkEntries r
def uptoBulkEntry {H : Type} : Lit × DataW H → Nat
  | (.string bytes, d) => bytes.length + uptoBulk d + 1
  | (_, d) => uptoBulk d + 1
 end
def uptoSmall : (H : Type) → List (DataW H) → Bool := fun _ ds => decide (uptoBulkAll ds ≤ 1048576)
def OpenSpec.upto (s : _root_.Go.ChangeSpec) : _root_.Go.OpenSpec := { _root_.Go.OpenSpec.ofChange s with cond := some uptoSmall }

/-- 'shoringlaw02.FloatSums', WHERE WHAT IT READS IS OF BULK AT MOST 1048576: true; the input reads as it did. -/
def floatSumsUptoRow : OpenClaim := { program := "ytcepafllgjnngaa", sum := "61fc54c0a03fcb704c9b6bcba6b7bd2a929cd46c15cf072a331e5a51e206d128", func := "shoring/shoringlaw02.FloatSums", spec := "floatSums", inPlace := ["math.Float64frombits", "math.sqrt", "math.Float64bits"], unfollowed := true, recurses := true, apart := false, narrowed := true }
def FloatSumsUptoSaid : Prop := floatSumsUptoRow.holds Try.pinned (OpenSpec.upto floatSumsSpec)

/-- 'shoringlaw22.AuditTurns', WHERE WHAT IT READS IS OF BULK AT MOST 1048576: true; the input reads as it did. -/
def auditTurnsUptoRow : OpenClaim := { program := "ytcepafllgjnngaa", sum := "61fc54c0a03fcb704c9b6bcba6b7bd2a929cd46c15cf072a331e5a51e206d128", func := "shoring/shoringlaw22.AuditTurns", spec := "auditTurns", unfollowed := true, recurses := true, apart := false, narrowed := true }
def AuditTurnsUptoSaid : Prop := auditTurnsUptoRow.holds Try.pinned (OpenSpec.upto auditTurnsSpec)

/-- 'shoringlaw22.AuditSums', WHERE WHAT IT READS IS OF BULK AT MOST 1048576: true; the input reads as it did. -/
def auditSumsUptoRow : OpenClaim := { program := "ytcepafllgjnngaa", sum := "61fc54c0a03fcb704c9b6bcba6b7bd2a929cd46c15cf072a331e5a51e206d128", func := "shoring/shoringlaw22.AuditSums", spec := "auditSums", unfollowed := true, recurses := true, apart := false, narrowed := true }
def AuditSumsUptoSaid : Prop := auditSumsUptoRow.holds Try.pinned (OpenSpec.upto auditSumsSpec)

end Rows
end Go.Proofs.Ytcepafllgjnngaa
