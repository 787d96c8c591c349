/-
  DERIVED. GIVEN WITH THE SEED: THE CARDS: each row of YtbikdngpannekaaDoorRows.lean that lists a variable, with what it lists TIED to the program's text (the seventh form; the later family's looks); each row that meets fmt, with fmt's text TOLD by the authors' own Lean function (tested against real Go, not proved from fmt's source: count such statements apart). THE CARD IS WHAT COUNTS. Prove the row's statement (the work); the ties are given (YtbikdngpannekaaDoorTie.lean); close each card by the builder's one call (the guide's Derived/Test/ToyasCard.lean, 'card_holds'). Laid BY PROGRAM, IN A SANDBOX (cutbox-door.mjs). By AI agents, Wed Nov 11 2026. No macro, syntax, notation, axiom, sorry.
-/
import Derived.Test.YtbikdngpannekaaDoorRows
import GoSem.ClaimSeven
namespace Go.Proofs.YtbikdngpannekaaDoor
namespace Rows

/-- THE TIED CARD OF 'shoringlaw16.SlotsMays'. -/
def slotsMaysCard : Claim7 := { stood := { row := slotsMaysRow, standIns := [], harness := (true, "d8ef6aa3d250bcf58e91fa1ae2a045e3c8552c8f75072c9982280a6f0f21cc42"), looks := true }, kinds := [], alts := [], laidByText := true, laidKinds := [.data], laidTests := true, laidLooks := .later }
def SlotsMaysCardSaid : Prop := Claim7.holds Tryd.pinned (.plain (OpenSpec.ofChange slotsMaysSpec)) slotsMaysCard

/-- THE TIED CARD OF 'shoringlaw16.SlotsFind'. -/
def slotsFindCard : Claim7 := { stood := { row := slotsFindRow, standIns := [], harness := (true, "d8ef6aa3d250bcf58e91fa1ae2a045e3c8552c8f75072c9982280a6f0f21cc42"), looks := true }, kinds := [], alts := [], laidByText := true, laidKinds := [.data], laidTests := true, laidLooks := .later }
def SlotsFindCardSaid : Prop := Claim7.holds Tryd.pinned (.plain (OpenSpec.ofChange slotsFindSpec)) slotsFindCard

/-- THE TIED CARD OF 'shoringlaw14.FrameReads'. -/
def frameReadsCard : Claim7 := { stood := { row := frameReadsRow, standIns := [], harness := (true, "d8ef6aa3d250bcf58e91fa1ae2a045e3c8552c8f75072c9982280a6f0f21cc42"), looks := true }, kinds := [], alts := [], laidByText := true, laidKinds := [.data], laidTests := true, laidLooks := .later }
def FrameReadsCardSaid : Prop := Claim7.holds Tryd.pinned (.plain (OpenSpec.ofChange frameReadsSpec)) frameReadsCard

/-- THE TIED CARD OF 'shoringlaw14.FrameWords'. -/
def frameWordsCard : Claim7 := { stood := { row := frameWordsRow, standIns := [], harness := (true, "d8ef6aa3d250bcf58e91fa1ae2a045e3c8552c8f75072c9982280a6f0f21cc42"), looks := true }, kinds := [], alts := [], laidByText := true, laidKinds := [.data], laidTests := true, laidLooks := .later }
def FrameWordsCardSaid : Prop := Claim7.holds Tryd.pinned (.plain (OpenSpec.ofChange frameWordsSpec)) frameWordsCard

/-- THE TIED CARD OF 'shoringlaw14.FrameSlots'. -/
def frameSlotsCard : Claim7 := { stood := { row := frameSlotsRow, standIns := [], harness := (true, "d8ef6aa3d250bcf58e91fa1ae2a045e3c8552c8f75072c9982280a6f0f21cc42"), looks := true }, kinds := [], alts := [], laidByText := true, laidKinds := [.data], laidTests := true, laidLooks := .later }
def FrameSlotsCardSaid : Prop := Claim7.holds Tryd.pinned (.plain (OpenSpec.ofChange frameSlotsSpec)) frameSlotsCard

/-- THE TIED CARD OF 'shoringlaw19.ModelBack'. -/
def modelBackCard : Claim7 := { stood := { row := modelBackRow, standIns := [], harness := (true, "d8ef6aa3d250bcf58e91fa1ae2a045e3c8552c8f75072c9982280a6f0f21cc42"), looks := true }, kinds := [], alts := [], laidByText := true, laidKinds := [.data], laidTests := true, laidLooks := .later }
def ModelBackCardSaid : Prop := Claim7.holds Tryd.pinned (.plain (OpenSpec.ofChange modelBackSpec)) modelBackCard

/-- THE TIED CARD OF 'shoringlaw16.SlotsOne'. -/
def slotsOneCard : Claim7 := { stood := { row := slotsOneRow, standIns := [], harness := (true, "d8ef6aa3d250bcf58e91fa1ae2a045e3c8552c8f75072c9982280a6f0f21cc42"), looks := true }, kinds := [], alts := [], laidByText := true, laidKinds := [.data], laidTests := true, laidLooks := .later }
def SlotsOneCardSaid : Prop := Claim7.holds Tryd.pinned (.plain (OpenSpec.ofChange slotsOneSpec)) slotsOneCard

/-- THE TIED CARD OF 'shoringlaw19.ModelSame'. -/
def modelSameCard : Claim7 := { stood := { row := modelSameRow, standIns := [], harness := (true, "d8ef6aa3d250bcf58e91fa1ae2a045e3c8552c8f75072c9982280a6f0f21cc42"), looks := true }, kinds := [], alts := [], laidByText := true, laidKinds := [.data], laidTests := true, laidLooks := .later }
def ModelSameCardSaid : Prop := Claim7.holds Tryd.pinned (.plain (OpenSpec.ofChange modelSameSpec)) modelSameCard

/-- THE TIED CARD OF 'shoringlaw26.DrainRoomy'. -/
def drainRoomyCard : Claim7 := { stood := { row := drainRoomyRow, standIns := [], harness := (true, "d8ef6aa3d250bcf58e91fa1ae2a045e3c8552c8f75072c9982280a6f0f21cc42"), looks := true }, kinds := [], alts := [], laidByText := true, laidKinds := [.data], laidTests := true, laidLooks := .later }
def DrainRoomyCardSaid : Prop := Claim7.holds Tryd.pinned (.plain (OpenSpec.ofChange drainRoomySpec)) drainRoomyCard

/-- THE TIED CARD OF 'shoringlaw15.WalkTop'. -/
def walkTopCard : Claim7 := { stood := { row := walkTopRow, standIns := [], harness := (true, "d8ef6aa3d250bcf58e91fa1ae2a045e3c8552c8f75072c9982280a6f0f21cc42"), looks := true }, kinds := [], alts := [], laidByText := true, laidKinds := [.data], laidTests := true, laidLooks := .later }
def WalkTopCardSaid : Prop := Claim7.holds Tryd.pinned (.plain (OpenSpec.ofChange walkTopSpec)) walkTopCard

/-- THE TIED CARD OF 'shoringlaw15.WalkIs'. -/
def walkIsCard : Claim7 := { stood := { row := walkIsRow, standIns := [], harness := (true, "d8ef6aa3d250bcf58e91fa1ae2a045e3c8552c8f75072c9982280a6f0f21cc42"), looks := true }, kinds := [], alts := [], laidByText := true, laidKinds := [.data], laidTests := true, laidLooks := .later }
def WalkIsCardSaid : Prop := Claim7.holds Tryd.pinned (.plain (OpenSpec.ofChange walkIsSpec)) walkIsCard

/-- THE TIED CARD OF 'shoringlaw15.WalkMeets'. -/
def walkMeetsCard : Claim7 := { stood := { row := walkMeetsRow, standIns := [], harness := (true, "d8ef6aa3d250bcf58e91fa1ae2a045e3c8552c8f75072c9982280a6f0f21cc42"), looks := true }, kinds := [], alts := [], laidByText := true, laidKinds := [.data], laidTests := true, laidLooks := .later }
def WalkMeetsCardSaid : Prop := Claim7.holds Tryd.pinned (.plain (OpenSpec.ofChange walkMeetsSpec)) walkMeetsCard

/-- THE SECOND FORM's CARD OF 'shoringlaw16.SlotsMays'. -/
def slotsMaysUptoCard : Claim7 := { stood := { row := slotsMaysUptoRow, standIns := [], harness := (true, "d8ef6aa3d250bcf58e91fa1ae2a045e3c8552c8f75072c9982280a6f0f21cc42"), looks := true }, kinds := [], alts := [], laidByText := true, laidKinds := [.data], laidTests := true, laidLooks := .later }
def SlotsMaysUptoCardSaid : Prop := Claim7.holds Tryd.pinned (.plain (OpenSpec.upto slotsMaysSpec)) slotsMaysUptoCard

/-- THE SECOND FORM's CARD OF 'shoringlaw16.SlotsFind'. -/
def slotsFindUptoCard : Claim7 := { stood := { row := slotsFindUptoRow, standIns := [], harness := (true, "d8ef6aa3d250bcf58e91fa1ae2a045e3c8552c8f75072c9982280a6f0f21cc42"), looks := true }, kinds := [], alts := [], laidByText := true, laidKinds := [.data], laidTests := true, laidLooks := .later }
def SlotsFindUptoCardSaid : Prop := Claim7.holds Tryd.pinned (.plain (OpenSpec.upto slotsFindSpec)) slotsFindUptoCard

/-- THE SECOND FORM's CARD OF 'shoringlaw14.FrameReads'. -/
def frameReadsUptoCard : Claim7 := { stood := { row := frameReadsUptoRow, standIns := [], harness := (true, "d8ef6aa3d250bcf58e91fa1ae2a045e3c8552c8f75072c9982280a6f0f21cc42"), looks := true }, kinds := [], alts := [], laidByText := true, laidKinds := [.data], laidTests := true, laidLooks := .later }
def FrameReadsUptoCardSaid : Prop := Claim7.holds Tryd.pinned (.plain (OpenSpec.upto frameReadsSpec)) frameReadsUptoCard

/-- THE SECOND FORM's CARD OF 'shoringlaw14.FrameWords'. -/
def frameWordsUptoCard : Claim7 := { stood := { row := frameWordsUptoRow, standIns := [], harness := (true, "d8ef6aa3d250bcf58e91fa1ae2a045e3c8552c8f75072c9982280a6f0f21cc42"), looks := true }, kinds := [], alts := [], laidByText := true, laidKinds := [.data], laidTests := true, laidLooks := .later }
def FrameWordsUptoCardSaid : Prop := Claim7.holds Tryd.pinned (.plain (OpenSpec.upto frameWordsSpec)) frameWordsUptoCard

/-- THE SECOND FORM's CARD OF 'shoringlaw14.FrameSlots'. -/
def frameSlotsUptoCard : Claim7 := { stood := { row := frameSlotsUptoRow, standIns := [], harness := (true, "d8ef6aa3d250bcf58e91fa1ae2a045e3c8552c8f75072c9982280a6f0f21cc42"), looks := true }, kinds := [], alts := [], laidByText := true, laidKinds := [.data], laidTests := true, laidLooks := .later }
def FrameSlotsUptoCardSaid : Prop := Claim7.holds Tryd.pinned (.plain (OpenSpec.upto frameSlotsSpec)) frameSlotsUptoCard

/-- THE SECOND FORM's CARD OF 'shoringlaw19.ModelBack'. -/
def modelBackUptoCard : Claim7 := { stood := { row := modelBackUptoRow, standIns := [], harness := (true, "d8ef6aa3d250bcf58e91fa1ae2a045e3c8552c8f75072c9982280a6f0f21cc42"), looks := true }, kinds := [], alts := [], laidByText := true, laidKinds := [.data], laidTests := true, laidLooks := .later }
def ModelBackUptoCardSaid : Prop := Claim7.holds Tryd.pinned (.plain (OpenSpec.upto modelBackSpec)) modelBackUptoCard

/-- THE SECOND FORM's CARD OF 'shoringlaw16.SlotsOne'. -/
def slotsOneUptoCard : Claim7 := { stood := { row := slotsOneUptoRow, standIns := [], harness := (true, "d8ef6aa3d250bcf58e91fa1ae2a045e3c8552c8f75072c9982280a6f0f21cc42"), looks := true }, kinds := [], alts := [], laidByText := true, laidKinds := [.data], laidTests := true, laidLooks := .later }
def SlotsOneUptoCardSaid : Prop := Claim7.holds Tryd.pinned (.plain (OpenSpec.upto slotsOneSpec)) slotsOneUptoCard

/-- THE SECOND FORM's CARD OF 'shoringlaw19.ModelSame'. -/
def modelSameUptoCard : Claim7 := { stood := { row := modelSameUptoRow, standIns := [], harness := (true, "d8ef6aa3d250bcf58e91fa1ae2a045e3c8552c8f75072c9982280a6f0f21cc42"), looks := true }, kinds := [], alts := [], laidByText := true, laidKinds := [.data], laidTests := true, laidLooks := .later }
def ModelSameUptoCardSaid : Prop := Claim7.holds Tryd.pinned (.plain (OpenSpec.upto modelSameSpec)) modelSameUptoCard

/-- THE SECOND FORM's CARD OF 'shoringlaw26.DrainRoomy'. -/
def drainRoomyUptoCard : Claim7 := { stood := { row := drainRoomyUptoRow, standIns := [], harness := (true, "d8ef6aa3d250bcf58e91fa1ae2a045e3c8552c8f75072c9982280a6f0f21cc42"), looks := true }, kinds := [], alts := [], laidByText := true, laidKinds := [.data], laidTests := true, laidLooks := .later }
def DrainRoomyUptoCardSaid : Prop := Claim7.holds Tryd.pinned (.plain (OpenSpec.upto drainRoomySpec)) drainRoomyUptoCard

/-- THE SECOND FORM's CARD OF 'shoringlaw15.WalkTop'. -/
def walkTopUptoCard : Claim7 := { stood := { row := walkTopUptoRow, standIns := [], harness := (true, "d8ef6aa3d250bcf58e91fa1ae2a045e3c8552c8f75072c9982280a6f0f21cc42"), looks := true }, kinds := [], alts := [], laidByText := true, laidKinds := [.data], laidTests := true, laidLooks := .later }
def WalkTopUptoCardSaid : Prop := Claim7.holds Tryd.pinned (.plain (OpenSpec.upto walkTopSpec)) walkTopUptoCard

/-- THE SECOND FORM's CARD OF 'shoringlaw15.WalkIs'. -/
def walkIsUptoCard : Claim7 := { stood := { row := walkIsUptoRow, standIns := [], harness := (true, "d8ef6aa3d250bcf58e91fa1ae2a045e3c8552c8f75072c9982280a6f0f21cc42"), looks := true }, kinds := [], alts := [], laidByText := true, laidKinds := [.data], laidTests := true, laidLooks := .later }
def WalkIsUptoCardSaid : Prop := Claim7.holds Tryd.pinned (.plain (OpenSpec.upto walkIsSpec)) walkIsUptoCard

/-- THE SECOND FORM's CARD OF 'shoringlaw15.WalkMeets'. -/
def walkMeetsUptoCard : Claim7 := { stood := { row := walkMeetsUptoRow, standIns := [], harness := (true, "d8ef6aa3d250bcf58e91fa1ae2a045e3c8552c8f75072c9982280a6f0f21cc42"), looks := true }, kinds := [], alts := [], laidByText := true, laidKinds := [.data], laidTests := true, laidLooks := .later }
def WalkMeetsUptoCardSaid : Prop := Claim7.holds Tryd.pinned (.plain (OpenSpec.upto walkMeetsSpec)) walkMeetsUptoCard
end Rows
end Go.Proofs.YtbikdngpannekaaDoor
