/-
  DERIVED. GIVEN WITH THE SEED: THE CARDS: each row of YtmlchbldcoenaaaDoorRows.lean that lists a variable, with what it lists TIED to the program's text (the seventh form; the later family's looks); each row that meets fmt, with fmt's text TOLD by the authors' own Lean function (tested against real Go, not proved from fmt's source: count such statements apart). THE CARD IS WHAT COUNTS. Prove the row's statement (the work); the ties are given (YtmlchbldcoenaaaDoorTie.lean); close each card by the builder's one call (the guide's Derived/Test/ToyasCard.lean, 'card_holds'). Laid BY PROGRAM, IN A SANDBOX (cutbox-door.mjs). By AI agents, Wed Nov 11 2026. No macro, syntax, notation, axiom, sorry.
-/
import Derived.Test.YtmlchbldcoenaaaDoorRows
import GoSem.ClaimSeven
namespace Go.Proofs.YtmlchbldcoenaaaDoor
namespace Rows

/-- THE TIED CARD OF 'shoringlaw13.FnsOwn'. -/
def fnsOwnCard : Claim7 := { stood := { row := fnsOwnRow, standIns := [], harness := (true, "e67ad581e22b2e6e45f9165ba5e0a9942b52552f644c083a8c98a35b55a4db4f"), looks := false }, kinds := [], alts := [], laidByText := true, laidKinds := [.data], laidTests := true, laidLooks := .later }
def FnsOwnCardSaid : Prop := Claim7.holds Tryd.pinned (.plain (OpenSpec.ofChange fnsOwnSpec)) fnsOwnCard

/-- THE TIED CARD OF 'shoringlaw13.FnsIs'. -/
def fnsIsCard : Claim7 := { stood := { row := fnsIsRow, standIns := [], harness := (true, "e67ad581e22b2e6e45f9165ba5e0a9942b52552f644c083a8c98a35b55a4db4f"), looks := false }, kinds := [], alts := [], laidByText := true, laidKinds := [.data], laidTests := true, laidLooks := .later }
def FnsIsCardSaid : Prop := Claim7.holds Tryd.pinned (.plain (OpenSpec.ofChange fnsIsSpec)) fnsIsCard

/-- THE TIED CARD OF 'shoringlaw13.FnsTells'. -/
def fnsTellsCard : Claim7 := { stood := { row := fnsTellsRow, standIns := [], harness := (true, "e67ad581e22b2e6e45f9165ba5e0a9942b52552f644c083a8c98a35b55a4db4f"), looks := false }, kinds := [], alts := [], laidByText := true, laidKinds := [.data], laidTests := true, laidLooks := .later }
def FnsTellsCardSaid : Prop := Claim7.holds Tryd.pinned (.plain (OpenSpec.ofChange fnsTellsSpec)) fnsTellsCard

/-- THE TIED CARD OF 'shoringlaw13.FnsJoins'. -/
def fnsJoinsCard : Claim7 := { stood := { row := fnsJoinsRow, standIns := [], harness := (true, "e67ad581e22b2e6e45f9165ba5e0a9942b52552f644c083a8c98a35b55a4db4f"), looks := false }, kinds := [], alts := [], laidByText := true, laidKinds := [.data], laidTests := true, laidLooks := .later }
def FnsJoinsCardSaid : Prop := Claim7.holds Tryd.pinned (.plain (OpenSpec.ofChange fnsJoinsSpec)) fnsJoinsCard

/-- THE TIED CARD OF 'shoringlaw03.BitmapOf'. -/
def bitmapOfCard : Claim7 := { stood := { row := bitmapOfRow, standIns := [], harness := (true, "e67ad581e22b2e6e45f9165ba5e0a9942b52552f644c083a8c98a35b55a4db4f"), looks := false }, kinds := [], alts := [], laidByText := true, laidKinds := [.data], laidTests := true, laidLooks := .later }
def BitmapOfCardSaid : Prop := Claim7.holds Tryd.pinned (.plain (OpenSpec.ofChange bitmapOfSpec)) bitmapOfCard

/-- THE TIED CARD OF 'shoringlaw03.BitmapTells'. -/
def bitmapTellsCard : Claim7 := { stood := { row := bitmapTellsRow, standIns := [], harness := (true, "e67ad581e22b2e6e45f9165ba5e0a9942b52552f644c083a8c98a35b55a4db4f"), looks := false }, kinds := [], alts := [], laidByText := true, laidKinds := [.data], laidTests := true, laidLooks := .later }
def BitmapTellsCardSaid : Prop := Claim7.holds Tryd.pinned (.plain (OpenSpec.ofChange bitmapTellsSpec)) bitmapTellsCard

/-- THE TIED CARD OF 'shoringlaw03.BitmapWith'. -/
def bitmapWithCard : Claim7 := { stood := { row := bitmapWithRow, standIns := [], harness := (true, "e67ad581e22b2e6e45f9165ba5e0a9942b52552f644c083a8c98a35b55a4db4f"), looks := false }, kinds := [], alts := [], laidByText := true, laidKinds := [.data], laidTests := true, laidLooks := .later }
def BitmapWithCardSaid : Prop := Claim7.holds Tryd.pinned (.plain (OpenSpec.ofChange bitmapWithSpec)) bitmapWithCard

/-- THE TIED CARD OF 'shoringlaw03.BitmapTwice'. -/
def bitmapTwiceCard : Claim7 := { stood := { row := bitmapTwiceRow, standIns := [], harness := (true, "e67ad581e22b2e6e45f9165ba5e0a9942b52552f644c083a8c98a35b55a4db4f"), looks := false }, kinds := [], alts := [], laidByText := true, laidKinds := [.data], laidTests := true, laidLooks := .later }
def BitmapTwiceCardSaid : Prop := Claim7.holds Tryd.pinned (.plain (OpenSpec.ofChange bitmapTwiceSpec)) bitmapTwiceCard

/-- THE TIED CARD OF 'shoringlaw03.BitmapReads'. -/
def bitmapReadsCard : Claim7 := { stood := { row := bitmapReadsRow, standIns := [], harness := (true, "e67ad581e22b2e6e45f9165ba5e0a9942b52552f644c083a8c98a35b55a4db4f"), looks := false }, kinds := [], alts := [], laidByText := true, laidKinds := [.data], laidTests := true, laidLooks := .later }
def BitmapReadsCardSaid : Prop := Claim7.holds Tryd.pinned (.plain (OpenSpec.ofChange bitmapReadsSpec)) bitmapReadsCard

/-- THE SECOND FORM's CARD OF 'shoringlaw13.FnsOwn'. -/
def fnsOwnUptoCard : Claim7 := { stood := { row := fnsOwnUptoRow, standIns := [], harness := (true, "e67ad581e22b2e6e45f9165ba5e0a9942b52552f644c083a8c98a35b55a4db4f"), looks := false }, kinds := [], alts := [], laidByText := true, laidKinds := [.data], laidTests := true, laidLooks := .later }
def FnsOwnUptoCardSaid : Prop := Claim7.holds Tryd.pinned (.plain (OpenSpec.upto fnsOwnSpec)) fnsOwnUptoCard

/-- THE SECOND FORM's CARD OF 'shoringlaw13.FnsIs'. -/
def fnsIsUptoCard : Claim7 := { stood := { row := fnsIsUptoRow, standIns := [], harness := (true, "e67ad581e22b2e6e45f9165ba5e0a9942b52552f644c083a8c98a35b55a4db4f"), looks := false }, kinds := [], alts := [], laidByText := true, laidKinds := [.data], laidTests := true, laidLooks := .later }
def FnsIsUptoCardSaid : Prop := Claim7.holds Tryd.pinned (.plain (OpenSpec.upto fnsIsSpec)) fnsIsUptoCard

/-- THE SECOND FORM's CARD OF 'shoringlaw13.FnsTells'. -/
def fnsTellsUptoCard : Claim7 := { stood := { row := fnsTellsUptoRow, standIns := [], harness := (true, "e67ad581e22b2e6e45f9165ba5e0a9942b52552f644c083a8c98a35b55a4db4f"), looks := false }, kinds := [], alts := [], laidByText := true, laidKinds := [.data], laidTests := true, laidLooks := .later }
def FnsTellsUptoCardSaid : Prop := Claim7.holds Tryd.pinned (.plain (OpenSpec.upto fnsTellsSpec)) fnsTellsUptoCard

/-- THE SECOND FORM's CARD OF 'shoringlaw13.FnsJoins'. -/
def fnsJoinsUptoCard : Claim7 := { stood := { row := fnsJoinsUptoRow, standIns := [], harness := (true, "e67ad581e22b2e6e45f9165ba5e0a9942b52552f644c083a8c98a35b55a4db4f"), looks := false }, kinds := [], alts := [], laidByText := true, laidKinds := [.data], laidTests := true, laidLooks := .later }
def FnsJoinsUptoCardSaid : Prop := Claim7.holds Tryd.pinned (.plain (OpenSpec.upto fnsJoinsSpec)) fnsJoinsUptoCard

/-- THE SECOND FORM's CARD OF 'shoringlaw03.BitmapOf'. -/
def bitmapOfUptoCard : Claim7 := { stood := { row := bitmapOfUptoRow, standIns := [], harness := (true, "e67ad581e22b2e6e45f9165ba5e0a9942b52552f644c083a8c98a35b55a4db4f"), looks := false }, kinds := [], alts := [], laidByText := true, laidKinds := [.data], laidTests := true, laidLooks := .later }
def BitmapOfUptoCardSaid : Prop := Claim7.holds Tryd.pinned (.plain (OpenSpec.upto bitmapOfSpec)) bitmapOfUptoCard

/-- THE SECOND FORM's CARD OF 'shoringlaw03.BitmapTells'. -/
def bitmapTellsUptoCard : Claim7 := { stood := { row := bitmapTellsUptoRow, standIns := [], harness := (true, "e67ad581e22b2e6e45f9165ba5e0a9942b52552f644c083a8c98a35b55a4db4f"), looks := false }, kinds := [], alts := [], laidByText := true, laidKinds := [.data], laidTests := true, laidLooks := .later }
def BitmapTellsUptoCardSaid : Prop := Claim7.holds Tryd.pinned (.plain (OpenSpec.upto bitmapTellsSpec)) bitmapTellsUptoCard

/-- THE SECOND FORM's CARD OF 'shoringlaw03.BitmapWith'. -/
def bitmapWithUptoCard : Claim7 := { stood := { row := bitmapWithUptoRow, standIns := [], harness := (true, "e67ad581e22b2e6e45f9165ba5e0a9942b52552f644c083a8c98a35b55a4db4f"), looks := false }, kinds := [], alts := [], laidByText := true, laidKinds := [.data], laidTests := true, laidLooks := .later }
def BitmapWithUptoCardSaid : Prop := Claim7.holds Tryd.pinned (.plain (OpenSpec.upto bitmapWithSpec)) bitmapWithUptoCard

/-- THE SECOND FORM's CARD OF 'shoringlaw03.BitmapTwice'. -/
def bitmapTwiceUptoCard : Claim7 := { stood := { row := bitmapTwiceUptoRow, standIns := [], harness := (true, "e67ad581e22b2e6e45f9165ba5e0a9942b52552f644c083a8c98a35b55a4db4f"), looks := false }, kinds := [], alts := [], laidByText := true, laidKinds := [.data], laidTests := true, laidLooks := .later }
def BitmapTwiceUptoCardSaid : Prop := Claim7.holds Tryd.pinned (.plain (OpenSpec.upto bitmapTwiceSpec)) bitmapTwiceUptoCard

/-- THE SECOND FORM's CARD OF 'shoringlaw03.BitmapReads'. -/
def bitmapReadsUptoCard : Claim7 := { stood := { row := bitmapReadsUptoRow, standIns := [], harness := (true, "e67ad581e22b2e6e45f9165ba5e0a9942b52552f644c083a8c98a35b55a4db4f"), looks := false }, kinds := [], alts := [], laidByText := true, laidKinds := [.data], laidTests := true, laidLooks := .later }
def BitmapReadsUptoCardSaid : Prop := Claim7.holds Tryd.pinned (.plain (OpenSpec.upto bitmapReadsSpec)) bitmapReadsUptoCard
end Rows
end Go.Proofs.YtmlchbldcoenaaaDoor
