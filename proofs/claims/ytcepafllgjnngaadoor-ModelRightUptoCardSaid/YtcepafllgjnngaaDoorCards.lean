/-
  DERIVED. GIVEN WITH THE SEED: THE CARDS: each row of YtcepafllgjnngaaDoorRows.lean that lists a variable, with what it lists TIED to the program's text (the seventh form; the later family's looks); each row that meets fmt, with fmt's text TOLD by the authors' own Lean function (tested against real Go, not proved from fmt's source: count such statements apart). THE CARD IS WHAT COUNTS. Prove the row's statement (the work); the ties are given (YtcepafllgjnngaaDoorTie.lean); close each card by the builder's one call (the guide's Derived/Test/ToyasCard.lean, 'card_holds'). Laid BY PROGRAM, IN A SANDBOX (cutbox-door.mjs). By AI agents, Wed Nov 11 2026. No macro, syntax, notation, axiom, sorry.
-/
import Derived.Test.YtcepafllgjnngaaDoorRows
import GoSem.ClaimSeven
namespace Go.Proofs.YtcepafllgjnngaaDoor
namespace Rows

/-- THE TIED CARD OF 'shoringlaw13.FnsOwn'. -/
def fnsOwnCard : Claim7 := { stood := { row := fnsOwnRow, standIns := [], harness := (true, "996ba25dc99de29bdd1b27f54134d382e92e6a8bf2093fded4a131e579855fd4"), looks := true }, kinds := [], alts := [], laidByText := true, laidKinds := [.data], laidTests := true, laidLooks := .later }
def FnsOwnCardSaid : Prop := Claim7.holds Tryd.pinned (.plain (OpenSpec.ofChange fnsOwnSpec)) fnsOwnCard

/-- THE TIED CARD OF 'shoringlaw23.InjectIs'. -/
def injectIsCard : Claim7 := { stood := { row := injectIsRow, standIns := [], harness := (true, "996ba25dc99de29bdd1b27f54134d382e92e6a8bf2093fded4a131e579855fd4"), looks := true }, kinds := [], alts := [], laidByText := true, laidKinds := [.data], laidTests := true, laidLooks := .later }
def InjectIsCardSaid : Prop := Claim7.holds Tryd.pinned (.plain (OpenSpec.ofChange injectIsSpec)) injectIsCard

/-- THE TIED CARD OF 'shoringlaw19.ModelRight'. -/
def modelRightCard : Claim7 := { stood := { row := modelRightRow, standIns := [], harness := (true, "996ba25dc99de29bdd1b27f54134d382e92e6a8bf2093fded4a131e579855fd4"), looks := true }, kinds := [], alts := [], laidByText := true, laidKinds := [.data], laidTests := true, laidLooks := .later }
def ModelRightCardSaid : Prop := Claim7.holds Tryd.pinned (.plain (OpenSpec.ofChange modelRightSpec)) modelRightCard

/-- THE TIED CARD OF 'shoringlaw17.MoveKeeps'. -/
def moveKeepsCard : Claim7 := { stood := { row := moveKeepsRow, standIns := [], harness := (true, "996ba25dc99de29bdd1b27f54134d382e92e6a8bf2093fded4a131e579855fd4"), looks := true }, kinds := [], alts := [], laidByText := true, laidKinds := [.data], laidTests := true, laidLooks := .later }
def MoveKeepsCardSaid : Prop := Claim7.holds Tryd.pinned (.plain (OpenSpec.ofChange moveKeepsSpec)) moveKeepsCard

/-- THE TIED CARD OF 'shoringlaw17.MoveTwice'. -/
def moveTwiceCard : Claim7 := { stood := { row := moveTwiceRow, standIns := [], harness := (true, "996ba25dc99de29bdd1b27f54134d382e92e6a8bf2093fded4a131e579855fd4"), looks := true }, kinds := [], alts := [], laidByText := true, laidKinds := [.data], laidTests := true, laidLooks := .later }
def MoveTwiceCardSaid : Prop := Claim7.holds Tryd.pinned (.plain (OpenSpec.ofChange moveTwiceSpec)) moveTwiceCard

/-- THE TIED CARD OF 'shoringlaw17.MoveBack'. -/
def moveBackCard : Claim7 := { stood := { row := moveBackRow, standIns := [], harness := (true, "996ba25dc99de29bdd1b27f54134d382e92e6a8bf2093fded4a131e579855fd4"), looks := true }, kinds := [], alts := [], laidByText := true, laidKinds := [.data], laidTests := true, laidLooks := .later }
def MoveBackCardSaid : Prop := Claim7.holds Tryd.pinned (.plain (OpenSpec.ofChange moveBackSpec)) moveBackCard

/-- THE TIED CARD OF 'shoringlaw23.InjectMaps'. -/
def injectMapsCard : Claim7 := { stood := { row := injectMapsRow, standIns := [], harness := (true, "996ba25dc99de29bdd1b27f54134d382e92e6a8bf2093fded4a131e579855fd4"), looks := true }, kinds := [], alts := [], laidByText := true, laidKinds := [.data], laidTests := true, laidLooks := .later }
def InjectMapsCardSaid : Prop := Claim7.holds Tryd.pinned (.plain (OpenSpec.ofChange injectMapsSpec)) injectMapsCard

/-- THE SECOND FORM's CARD OF 'shoringlaw13.FnsOwn'. -/
def fnsOwnUptoCard : Claim7 := { stood := { row := fnsOwnUptoRow, standIns := [], harness := (true, "996ba25dc99de29bdd1b27f54134d382e92e6a8bf2093fded4a131e579855fd4"), looks := true }, kinds := [], alts := [], laidByText := true, laidKinds := [.data], laidTests := true, laidLooks := .later }
def FnsOwnUptoCardSaid : Prop := Claim7.holds Tryd.pinned (.plain (OpenSpec.upto fnsOwnSpec)) fnsOwnUptoCard

/-- THE SECOND FORM's CARD OF 'shoringlaw23.InjectIs'. -/
def injectIsUptoCard : Claim7 := { stood := { row := injectIsUptoRow, standIns := [], harness := (true, "996ba25dc99de29bdd1b27f54134d382e92e6a8bf2093fded4a131e579855fd4"), looks := true }, kinds := [], alts := [], laidByText := true, laidKinds := [.data], laidTests := true, laidLooks := .later }
def InjectIsUptoCardSaid : Prop := Claim7.holds Tryd.pinned (.plain (OpenSpec.upto injectIsSpec)) injectIsUptoCard

/-- THE SECOND FORM's CARD OF 'shoringlaw19.ModelRight'. -/
def modelRightUptoCard : Claim7 := { stood := { row := modelRightUptoRow, standIns := [], harness := (true, "996ba25dc99de29bdd1b27f54134d382e92e6a8bf2093fded4a131e579855fd4"), looks := true }, kinds := [], alts := [], laidByText := true, laidKinds := [.data], laidTests := true, laidLooks := .later }
def ModelRightUptoCardSaid : Prop := Claim7.holds Tryd.pinned (.plain (OpenSpec.upto modelRightSpec)) modelRightUptoCard

/-- THE SECOND FORM's CARD OF 'shoringlaw17.MoveKeeps'. -/
def moveKeepsUptoCard : Claim7 := { stood := { row := moveKeepsUptoRow, standIns := [], harness := (true, "996ba25dc99de29bdd1b27f54134d382e92e6a8bf2093fded4a131e579855fd4"), looks := true }, kinds := [], alts := [], laidByText := true, laidKinds := [.data], laidTests := true, laidLooks := .later }
def MoveKeepsUptoCardSaid : Prop := Claim7.holds Tryd.pinned (.plain (OpenSpec.upto moveKeepsSpec)) moveKeepsUptoCard

/-- THE SECOND FORM's CARD OF 'shoringlaw17.MoveTwice'. -/
def moveTwiceUptoCard : Claim7 := { stood := { row := moveTwiceUptoRow, standIns := [], harness := (true, "996ba25dc99de29bdd1b27f54134d382e92e6a8bf2093fded4a131e579855fd4"), looks := true }, kinds := [], alts := [], laidByText := true, laidKinds := [.data], laidTests := true, laidLooks := .later }
def MoveTwiceUptoCardSaid : Prop := Claim7.holds Tryd.pinned (.plain (OpenSpec.upto moveTwiceSpec)) moveTwiceUptoCard

/-- THE SECOND FORM's CARD OF 'shoringlaw17.MoveBack'. -/
def moveBackUptoCard : Claim7 := { stood := { row := moveBackUptoRow, standIns := [], harness := (true, "996ba25dc99de29bdd1b27f54134d382e92e6a8bf2093fded4a131e579855fd4"), looks := true }, kinds := [], alts := [], laidByText := true, laidKinds := [.data], laidTests := true, laidLooks := .later }
def MoveBackUptoCardSaid : Prop := Claim7.holds Tryd.pinned (.plain (OpenSpec.upto moveBackSpec)) moveBackUptoCard

/-- THE SECOND FORM's CARD OF 'shoringlaw23.InjectMaps'. -/
def injectMapsUptoCard : Claim7 := { stood := { row := injectMapsUptoRow, standIns := [], harness := (true, "996ba25dc99de29bdd1b27f54134d382e92e6a8bf2093fded4a131e579855fd4"), looks := true }, kinds := [], alts := [], laidByText := true, laidKinds := [.data], laidTests := true, laidLooks := .later }
def InjectMapsUptoCardSaid : Prop := Claim7.holds Tryd.pinned (.plain (OpenSpec.upto injectMapsSpec)) injectMapsUptoCard
end Rows
end Go.Proofs.YtcepafllgjnngaaDoor
