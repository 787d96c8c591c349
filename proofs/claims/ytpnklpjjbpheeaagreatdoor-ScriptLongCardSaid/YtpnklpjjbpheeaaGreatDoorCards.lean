/-
  DERIVED. GIVEN WITH THE SEED: THE CARDS: each row of YtpnklpjjbpheeaaGreatDoorRows.lean that lists a variable, with what it lists TIED to the program's text (the seventh form; the later family's looks); each row that meets fmt, with fmt's text TOLD by the authors' own Lean function (tested against real Go, not proved from fmt's source: count such statements apart). THE CARD IS WHAT COUNTS. Prove the row's statement (the work); the ties are given (YtpnklpjjbpheeaaGreatDoorTie.lean); close each card by the builder's one call (the guide's Derived/Test/ToyasCard.lean, 'card_holds'). Laid BY PROGRAM, IN A SANDBOX (cutbox-door.mjs). By AI agents, Wed Nov 11 2026. No macro, syntax, notation, axiom, sorry.
-/
import Derived.Test.YtpnklpjjbpheeaaGreatDoorRows
import GoSem.ClaimSeven
namespace Go.Proofs.YtpnklpjjbpheeaaGreatDoor
namespace Rows

/-- THE TIED CARD OF 'shoringlaw24.ScriptLong'. -/
def scriptLongCard : Claim7 := { stood := { row := scriptLongRow, standIns := [], harness := (true, "a297c8b2ab45506eeeaaf9f34e29543f64f7a48d6ed8ca8372c9c0695844254a"), looks := true }, kinds := [], alts := [], laidByText := true, laidKinds := [.data, .data, .data, .data, .sentinel, .sentinel, .pinned], laidTests := true, laidLooks := .later }
def ScriptLongCardSaid : Prop := Claim7.holds Tryz.pinned (.plain (OpenSpec.ofChange scriptLongSpec)) scriptLongCard

/-- THE SECOND FORM's CARD OF 'shoringlaw24.ScriptLong'. -/
def scriptLongUptoCard : Claim7 := { stood := { row := scriptLongUptoRow, standIns := [], harness := (true, "a297c8b2ab45506eeeaaf9f34e29543f64f7a48d6ed8ca8372c9c0695844254a"), looks := true }, kinds := [], alts := [], laidByText := true, laidKinds := [.data, .data, .data, .data, .sentinel, .sentinel, .pinned], laidTests := true, laidLooks := .later }
def ScriptLongUptoCardSaid : Prop := Claim7.holds Tryz.pinned (.plain (OpenSpec.upto scriptLongSpec)) scriptLongUptoCard
end Rows
end Go.Proofs.YtpnklpjjbpheeaaGreatDoor
