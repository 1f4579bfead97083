/-
  DERIVED. GIVEN WITH THE SEED: THE CARDS: each row of YtoogangnldppaaaGreatDoorRows.lean that lists a variable, with what it lists TIED to the program's text (the seventh form; the later family's looks); each row that meets fmt, with fmt's text TOLD by the authors' own Lean function (tested against real Go, not proved from fmt's source: count such statements apart). THE CARD IS WHAT COUNTS. Prove the row's statement (the work); the ties are given (YtoogangnldppaaaGreatDoorTie.lean); close each card by the builder's one call (the guide's Derived/Test/ToyasCard.lean, 'card_holds'). Laid BY PROGRAM, IN A SANDBOX (cutbox-door.mjs). By AI agents, Wed Nov 11 2026. No macro, syntax, notation, axiom, sorry.
-/
import Derived.Test.YtoogangnldppaaaGreatDoorRows
import GoSem.ClaimSeven
namespace Go.Proofs.YtoogangnldppaaaGreatDoor
namespace Rows

/-- THE TIED CARD OF 'potsherdlaw22.CallOthers'. -/
def callOthersCard : Claim7 := { stood := { row := callOthersRow, standIns := [], harness := (true, "069fba04a039688a4201fb238ade52635c0d57e74f0cf433ca04f880b3577569"), looks := true }, kinds := [], alts := [], laidByText := true, laidKinds := [.data, .pinned], laidTests := true, laidLooks := .later }
def CallOthersCardSaid : Prop := Claim7.holds Tryz.pinned (.plain (OpenSpec.ofChange callOthersSpec)) callOthersCard

/-- THE TIED CARD OF 'potsherdlaw22.CallLists'. -/
def callListsCard : Claim7 := { stood := { row := callListsRow, standIns := [], harness := (true, "069fba04a039688a4201fb238ade52635c0d57e74f0cf433ca04f880b3577569"), looks := true }, kinds := [], alts := [], laidByText := true, laidKinds := [.data, .pinned], laidTests := true, laidLooks := .later }
def CallListsCardSaid : Prop := Claim7.holds Tryz.pinned (.plain (OpenSpec.ofChange callListsSpec)) callListsCard

/-- THE TIED CARD OF 'potsherdlaw22.CallLooks'. -/
def callLooksCard : Claim7 := { stood := { row := callLooksRow, standIns := [], harness := (true, "069fba04a039688a4201fb238ade52635c0d57e74f0cf433ca04f880b3577569"), looks := true }, kinds := [], alts := [], laidByText := true, laidKinds := [.data, .pinned], laidTests := true, laidLooks := .later }
def CallLooksCardSaid : Prop := Claim7.holds Tryz.pinned (.plain (OpenSpec.ofChange callLooksSpec)) callLooksCard

/-- THE TIED CARD OF 'potsherdlaw22.CallSpace'. -/
def callSpaceCard : Claim7 := { stood := { row := callSpaceRow, standIns := [], harness := (true, "069fba04a039688a4201fb238ade52635c0d57e74f0cf433ca04f880b3577569"), looks := true }, kinds := [], alts := [], laidByText := true, laidKinds := [.data, .pinned], laidTests := true, laidLooks := .later }
def CallSpaceCardSaid : Prop := Claim7.holds Tryz.pinned (.plain (OpenSpec.ofChange callSpaceSpec)) callSpaceCard

/-- THE TIED CARD OF 'potsherdlaw22.CallPlays'. -/
def callPlaysCard : Claim7 := { stood := { row := callPlaysRow, standIns := [], harness := (true, "069fba04a039688a4201fb238ade52635c0d57e74f0cf433ca04f880b3577569"), looks := true }, kinds := [], alts := [], laidByText := true, laidKinds := [.data, .pinned], laidTests := true, laidLooks := .later }
def CallPlaysCardSaid : Prop := Claim7.holds Tryz.pinned (.plain (OpenSpec.ofChange callPlaysSpec)) callPlaysCard

/-- THE TIED CARD OF 'potsherdlaw22.CallRestarts'. -/
def callRestartsCard : Claim7 := { stood := { row := callRestartsRow, standIns := [], harness := (true, "069fba04a039688a4201fb238ade52635c0d57e74f0cf433ca04f880b3577569"), looks := true }, kinds := [], alts := [], laidByText := true, laidKinds := [.data, .pinned], laidTests := true, laidLooks := .later }
def CallRestartsCardSaid : Prop := Claim7.holds Tryz.pinned (.plain (OpenSpec.ofChange callRestartsSpec)) callRestartsCard

/-- THE TIED CARD OF 'potsherdlaw22.CallCopies'. -/
def callCopiesCard : Claim7 := { stood := { row := callCopiesRow, standIns := [], harness := (true, "069fba04a039688a4201fb238ade52635c0d57e74f0cf433ca04f880b3577569"), looks := true }, kinds := [], alts := [], laidByText := true, laidKinds := [.data, .pinned], laidTests := true, laidLooks := .later }
def CallCopiesCardSaid : Prop := Claim7.holds Tryz.pinned (.plain (OpenSpec.ofChange callCopiesSpec)) callCopiesCard

/-- THE TIED CARD OF 'potsherdlaw22.CallNil'. -/
def callNilCard : Claim7 := { stood := { row := callNilRow, standIns := [], harness := (true, "069fba04a039688a4201fb238ade52635c0d57e74f0cf433ca04f880b3577569"), looks := true }, kinds := [], alts := [], laidByText := true, laidKinds := [.data, .pinned], laidTests := true, laidLooks := .later }
def CallNilCardSaid : Prop := Claim7.holds Tryz.pinned (.plain (OpenSpec.ofChange callNilSpec)) callNilCard

/-- THE SECOND FORM's CARD OF 'potsherdlaw22.CallOthers'. -/
def callOthersUptoCard : Claim7 := { stood := { row := callOthersUptoRow, standIns := [], harness := (true, "069fba04a039688a4201fb238ade52635c0d57e74f0cf433ca04f880b3577569"), looks := true }, kinds := [], alts := [], laidByText := true, laidKinds := [.data, .pinned], laidTests := true, laidLooks := .later }
def CallOthersUptoCardSaid : Prop := Claim7.holds Tryz.pinned (.plain (OpenSpec.upto callOthersSpec)) callOthersUptoCard

/-- THE SECOND FORM's CARD OF 'potsherdlaw22.CallLists'. -/
def callListsUptoCard : Claim7 := { stood := { row := callListsUptoRow, standIns := [], harness := (true, "069fba04a039688a4201fb238ade52635c0d57e74f0cf433ca04f880b3577569"), looks := true }, kinds := [], alts := [], laidByText := true, laidKinds := [.data, .pinned], laidTests := true, laidLooks := .later }
def CallListsUptoCardSaid : Prop := Claim7.holds Tryz.pinned (.plain (OpenSpec.upto callListsSpec)) callListsUptoCard

/-- THE SECOND FORM's CARD OF 'potsherdlaw22.CallLooks'. -/
def callLooksUptoCard : Claim7 := { stood := { row := callLooksUptoRow, standIns := [], harness := (true, "069fba04a039688a4201fb238ade52635c0d57e74f0cf433ca04f880b3577569"), looks := true }, kinds := [], alts := [], laidByText := true, laidKinds := [.data, .pinned], laidTests := true, laidLooks := .later }
def CallLooksUptoCardSaid : Prop := Claim7.holds Tryz.pinned (.plain (OpenSpec.upto callLooksSpec)) callLooksUptoCard

/-- THE SECOND FORM's CARD OF 'potsherdlaw22.CallSpace'. -/
def callSpaceUptoCard : Claim7 := { stood := { row := callSpaceUptoRow, standIns := [], harness := (true, "069fba04a039688a4201fb238ade52635c0d57e74f0cf433ca04f880b3577569"), looks := true }, kinds := [], alts := [], laidByText := true, laidKinds := [.data, .pinned], laidTests := true, laidLooks := .later }
def CallSpaceUptoCardSaid : Prop := Claim7.holds Tryz.pinned (.plain (OpenSpec.upto callSpaceSpec)) callSpaceUptoCard

/-- THE SECOND FORM's CARD OF 'potsherdlaw22.CallPlays'. -/
def callPlaysUptoCard : Claim7 := { stood := { row := callPlaysUptoRow, standIns := [], harness := (true, "069fba04a039688a4201fb238ade52635c0d57e74f0cf433ca04f880b3577569"), looks := true }, kinds := [], alts := [], laidByText := true, laidKinds := [.data, .pinned], laidTests := true, laidLooks := .later }
def CallPlaysUptoCardSaid : Prop := Claim7.holds Tryz.pinned (.plain (OpenSpec.upto callPlaysSpec)) callPlaysUptoCard

/-- THE SECOND FORM's CARD OF 'potsherdlaw22.CallRestarts'. -/
def callRestartsUptoCard : Claim7 := { stood := { row := callRestartsUptoRow, standIns := [], harness := (true, "069fba04a039688a4201fb238ade52635c0d57e74f0cf433ca04f880b3577569"), looks := true }, kinds := [], alts := [], laidByText := true, laidKinds := [.data, .pinned], laidTests := true, laidLooks := .later }
def CallRestartsUptoCardSaid : Prop := Claim7.holds Tryz.pinned (.plain (OpenSpec.upto callRestartsSpec)) callRestartsUptoCard

/-- THE SECOND FORM's CARD OF 'potsherdlaw22.CallCopies'. -/
def callCopiesUptoCard : Claim7 := { stood := { row := callCopiesUptoRow, standIns := [], harness := (true, "069fba04a039688a4201fb238ade52635c0d57e74f0cf433ca04f880b3577569"), looks := true }, kinds := [], alts := [], laidByText := true, laidKinds := [.data, .pinned], laidTests := true, laidLooks := .later }
def CallCopiesUptoCardSaid : Prop := Claim7.holds Tryz.pinned (.plain (OpenSpec.upto callCopiesSpec)) callCopiesUptoCard

/-- THE SECOND FORM's CARD OF 'potsherdlaw22.CallNil'. -/
def callNilUptoCard : Claim7 := { stood := { row := callNilUptoRow, standIns := [], harness := (true, "069fba04a039688a4201fb238ade52635c0d57e74f0cf433ca04f880b3577569"), looks := true }, kinds := [], alts := [], laidByText := true, laidKinds := [.data, .pinned], laidTests := true, laidLooks := .later }
def CallNilUptoCardSaid : Prop := Claim7.holds Tryz.pinned (.plain (OpenSpec.upto callNilSpec)) callNilUptoCard
end Rows
end Go.Proofs.YtoogangnldppaaaGreatDoor
