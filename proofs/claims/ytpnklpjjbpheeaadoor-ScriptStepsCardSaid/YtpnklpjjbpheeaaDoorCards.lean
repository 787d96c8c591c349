/-
  DERIVED. GIVEN WITH THE SEED: THE CARDS: each row of YtpnklpjjbpheeaaDoorRows.lean that lists a variable, with what it lists TIED to the program's text (the seventh form; the later family's looks); each row that meets fmt, with fmt's text TOLD by the authors' own Lean function (tested against real Go, not proved from fmt's source: count such statements apart). THE CARD IS WHAT COUNTS. Prove the row's statement (the work); the ties are given (YtpnklpjjbpheeaaDoorTie.lean); close each card by the builder's one call (the guide's Derived/Test/ToyasCard.lean, 'card_holds'). Laid BY PROGRAM, IN A SANDBOX (cutbox-door.mjs). By AI agents, Wed Nov 11 2026. No macro, syntax, notation, axiom, sorry.
-/
import Derived.Test.YtpnklpjjbpheeaaDoorRows
import GoSem.ClaimSeven
namespace Go.Proofs.YtpnklpjjbpheeaaDoor
namespace Rows

/-- THE TIED CARD OF 'shoringlaw02.FloatIs'. -/
def floatIsCard : Claim7 := { stood := { row := floatIsRow, standIns := [], harness := (true, "9c383be30a6e65b66d7a4f0bc80315c658aabf46d299564919cb474512ac59d4"), looks := true }, kinds := [], alts := [], laidByText := true, laidKinds := [.data, .data, .data], laidTests := true, laidLooks := .later }
def FloatIsCardSaid : Prop := Claim7.holds Tryd.pinned (.plain (OpenSpec.ofChange floatIsSpec)) floatIsCard

/-- THE TIED CARD OF 'shoringlaw02.FloatReads'. -/
def floatReadsCard : Claim7 := { stood := { row := floatReadsRow, standIns := [], harness := (true, "9c383be30a6e65b66d7a4f0bc80315c658aabf46d299564919cb474512ac59d4"), looks := true }, kinds := [], alts := [], laidByText := true, laidKinds := [.data, .data, .data, .data, .sentinel, .sentinel, .pinned], laidTests := true, laidLooks := .later }
def FloatReadsCardSaid : Prop := Claim7.holds Tryd.pinned (.plain (OpenSpec.ofChange floatReadsSpec)) floatReadsCard

/-- THE TIED CARD OF 'shoringlaw24.ScriptSteps'. -/
def scriptStepsCard : Claim7 := { stood := { row := scriptStepsRow, standIns := [], harness := (true, "9c383be30a6e65b66d7a4f0bc80315c658aabf46d299564919cb474512ac59d4"), looks := true }, kinds := [], alts := [], laidByText := true, laidKinds := [.data, .data, .data], laidTests := true, laidLooks := .later }
def ScriptStepsCardSaid : Prop := Claim7.holds Tryd.pinned (.plain (OpenSpec.ofChange scriptStepsSpec)) scriptStepsCard

/-- THE SECOND FORM's CARD OF 'shoringlaw02.FloatIs'. -/
def floatIsUptoCard : Claim7 := { stood := { row := floatIsUptoRow, standIns := [], harness := (true, "9c383be30a6e65b66d7a4f0bc80315c658aabf46d299564919cb474512ac59d4"), looks := true }, kinds := [], alts := [], laidByText := true, laidKinds := [.data, .data, .data], laidTests := true, laidLooks := .later }
def FloatIsUptoCardSaid : Prop := Claim7.holds Tryd.pinned (.plain (OpenSpec.upto floatIsSpec)) floatIsUptoCard

/-- THE SECOND FORM's CARD OF 'shoringlaw02.FloatReads'. -/
def floatReadsUptoCard : Claim7 := { stood := { row := floatReadsUptoRow, standIns := [], harness := (true, "9c383be30a6e65b66d7a4f0bc80315c658aabf46d299564919cb474512ac59d4"), looks := true }, kinds := [], alts := [], laidByText := true, laidKinds := [.data, .data, .data, .data, .sentinel, .sentinel, .pinned], laidTests := true, laidLooks := .later }
def FloatReadsUptoCardSaid : Prop := Claim7.holds Tryd.pinned (.plain (OpenSpec.upto floatReadsSpec)) floatReadsUptoCard

/-- THE SECOND FORM's CARD OF 'shoringlaw24.ScriptSteps'. -/
def scriptStepsUptoCard : Claim7 := { stood := { row := scriptStepsUptoRow, standIns := [], harness := (true, "9c383be30a6e65b66d7a4f0bc80315c658aabf46d299564919cb474512ac59d4"), looks := true }, kinds := [], alts := [], laidByText := true, laidKinds := [.data, .data, .data], laidTests := true, laidLooks := .later }
def ScriptStepsUptoCardSaid : Prop := Claim7.holds Tryd.pinned (.plain (OpenSpec.upto scriptStepsSpec)) scriptStepsUptoCard
end Rows
end Go.Proofs.YtpnklpjjbpheeaaDoor
