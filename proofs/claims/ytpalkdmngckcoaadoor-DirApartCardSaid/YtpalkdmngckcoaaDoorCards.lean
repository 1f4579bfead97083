/-
  DERIVED. GIVEN WITH THE SEED: THE CARDS: each row of YtpalkdmngckcoaaDoorRows.lean that lists a variable, with what it lists TIED to the program's text (the seventh form; the later family's looks); each row that meets fmt, with fmt's text TOLD by the authors' own Lean function (tested against real Go, not proved from fmt's source: count such statements apart). THE CARD IS WHAT COUNTS. Prove the row's statement (the work); the ties are given (YtpalkdmngckcoaaDoorTie.lean); close each card by the builder's one call (the guide's Derived/Test/ToyasCard.lean, 'card_holds'). Laid BY PROGRAM, IN A SANDBOX (cutbox-door.mjs). By AI agents, Wed Nov 11 2026. No macro, syntax, notation, axiom, sorry.
-/
import Derived.Test.YtpalkdmngckcoaaDoorRows
import GoSem.ClaimSeven
namespace Go.Proofs.YtpalkdmngckcoaaDoor
namespace Rows

/-- THE TIED CARD OF 'potsherdlaw15.DirFrees'. -/
def dirFreesCard : Claim7 := { stood := { row := dirFreesRow, standIns := [], harness := (true, "a285e9cd002130289d58e5179a29a61eb86e808a4a031d2df9dae044768589c4"), looks := false }, kinds := [], alts := [], laidByText := true, laidKinds := [.data, .pinned], laidTests := true, laidLooks := .later }
def DirFreesCardSaid : Prop := Claim7.holds Tryd.pinned (.plain (OpenSpec.ofChange dirFreesSpec)) dirFreesCard

/-- THE TIED CARD OF 'potsherdlaw15.DirInside'. -/
def dirInsideCard : Claim7 := { stood := { row := dirInsideRow, standIns := [], harness := (true, "a285e9cd002130289d58e5179a29a61eb86e808a4a031d2df9dae044768589c4"), looks := false }, kinds := [], alts := [], laidByText := true, laidKinds := [.data, .pinned], laidTests := true, laidLooks := .later }
def DirInsideCardSaid : Prop := Claim7.holds Tryd.pinned (.plain (OpenSpec.ofChange dirInsideSpec)) dirInsideCard

/-- THE TIED CARD OF 'potsherdlaw15.DirApart'. -/
def dirApartCard : Claim7 := { stood := { row := dirApartRow, standIns := [], harness := (true, "a285e9cd002130289d58e5179a29a61eb86e808a4a031d2df9dae044768589c4"), looks := false }, kinds := [], alts := [], laidByText := true, laidKinds := [.data, .pinned], laidTests := true, laidLooks := .later }
def DirApartCardSaid : Prop := Claim7.holds Tryd.pinned (.plain (OpenSpec.ofChange dirApartSpec)) dirApartCard

/-- THE TIED CARD OF 'potsherdlaw15.DirCopies'. -/
def dirCopiesCard : Claim7 := { stood := { row := dirCopiesRow, standIns := [], harness := (true, "a285e9cd002130289d58e5179a29a61eb86e808a4a031d2df9dae044768589c4"), looks := false }, kinds := [], alts := [], laidByText := true, laidKinds := [.data, .pinned], laidTests := true, laidLooks := .later }
def DirCopiesCardSaid : Prop := Claim7.holds Tryd.pinned (.plain (OpenSpec.ofChange dirCopiesSpec)) dirCopiesCard

/-- THE TIED CARD OF 'potsherdlaw15.DirWalks'. -/
def dirWalksCard : Claim7 := { stood := { row := dirWalksRow, standIns := [], harness := (true, "a285e9cd002130289d58e5179a29a61eb86e808a4a031d2df9dae044768589c4"), looks := false }, kinds := [], alts := [], laidByText := true, laidKinds := [.data, .pinned], laidTests := true, laidLooks := .later }
def DirWalksCardSaid : Prop := Claim7.holds Tryd.pinned (.plain (OpenSpec.ofChange dirWalksSpec)) dirWalksCard

/-- THE TIED CARD OF 'potsherdlaw15.DirCounts'. -/
def dirCountsCard : Claim7 := { stood := { row := dirCountsRow, standIns := [], harness := (true, "a285e9cd002130289d58e5179a29a61eb86e808a4a031d2df9dae044768589c4"), looks := false }, kinds := [], alts := [], laidByText := true, laidKinds := [.data, .pinned], laidTests := true, laidLooks := .later }
def DirCountsCardSaid : Prop := Claim7.holds Tryd.pinned (.plain (OpenSpec.ofChange dirCountsSpec)) dirCountsCard

/-- THE TIED CARD OF 'potsherdlaw17.RootClears'. -/
def rootClearsCard : Claim7 := { stood := { row := rootClearsRow, standIns := [], harness := (true, "a285e9cd002130289d58e5179a29a61eb86e808a4a031d2df9dae044768589c4"), looks := false }, kinds := [], alts := [], laidByText := true, laidKinds := [.data, .pinned], laidTests := true, laidLooks := .later }
def RootClearsCardSaid : Prop := Claim7.holds Tryd.pinned (.plain (OpenSpec.ofChange rootClearsSpec)) rootClearsCard

/-- THE SECOND FORM's CARD OF 'potsherdlaw15.DirFrees'. -/
def dirFreesUptoCard : Claim7 := { stood := { row := dirFreesUptoRow, standIns := [], harness := (true, "a285e9cd002130289d58e5179a29a61eb86e808a4a031d2df9dae044768589c4"), looks := false }, kinds := [], alts := [], laidByText := true, laidKinds := [.data, .pinned], laidTests := true, laidLooks := .later }
def DirFreesUptoCardSaid : Prop := Claim7.holds Tryd.pinned (.plain (OpenSpec.upto dirFreesSpec)) dirFreesUptoCard

/-- THE SECOND FORM's CARD OF 'potsherdlaw15.DirInside'. -/
def dirInsideUptoCard : Claim7 := { stood := { row := dirInsideUptoRow, standIns := [], harness := (true, "a285e9cd002130289d58e5179a29a61eb86e808a4a031d2df9dae044768589c4"), looks := false }, kinds := [], alts := [], laidByText := true, laidKinds := [.data, .pinned], laidTests := true, laidLooks := .later }
def DirInsideUptoCardSaid : Prop := Claim7.holds Tryd.pinned (.plain (OpenSpec.upto dirInsideSpec)) dirInsideUptoCard

/-- THE SECOND FORM's CARD OF 'potsherdlaw15.DirApart'. -/
def dirApartUptoCard : Claim7 := { stood := { row := dirApartUptoRow, standIns := [], harness := (true, "a285e9cd002130289d58e5179a29a61eb86e808a4a031d2df9dae044768589c4"), looks := false }, kinds := [], alts := [], laidByText := true, laidKinds := [.data, .pinned], laidTests := true, laidLooks := .later }
def DirApartUptoCardSaid : Prop := Claim7.holds Tryd.pinned (.plain (OpenSpec.upto dirApartSpec)) dirApartUptoCard

/-- THE SECOND FORM's CARD OF 'potsherdlaw15.DirCopies'. -/
def dirCopiesUptoCard : Claim7 := { stood := { row := dirCopiesUptoRow, standIns := [], harness := (true, "a285e9cd002130289d58e5179a29a61eb86e808a4a031d2df9dae044768589c4"), looks := false }, kinds := [], alts := [], laidByText := true, laidKinds := [.data, .pinned], laidTests := true, laidLooks := .later }
def DirCopiesUptoCardSaid : Prop := Claim7.holds Tryd.pinned (.plain (OpenSpec.upto dirCopiesSpec)) dirCopiesUptoCard

/-- THE SECOND FORM's CARD OF 'potsherdlaw15.DirWalks'. -/
def dirWalksUptoCard : Claim7 := { stood := { row := dirWalksUptoRow, standIns := [], harness := (true, "a285e9cd002130289d58e5179a29a61eb86e808a4a031d2df9dae044768589c4"), looks := false }, kinds := [], alts := [], laidByText := true, laidKinds := [.data, .pinned], laidTests := true, laidLooks := .later }
def DirWalksUptoCardSaid : Prop := Claim7.holds Tryd.pinned (.plain (OpenSpec.upto dirWalksSpec)) dirWalksUptoCard

/-- THE SECOND FORM's CARD OF 'potsherdlaw15.DirCounts'. -/
def dirCountsUptoCard : Claim7 := { stood := { row := dirCountsUptoRow, standIns := [], harness := (true, "a285e9cd002130289d58e5179a29a61eb86e808a4a031d2df9dae044768589c4"), looks := false }, kinds := [], alts := [], laidByText := true, laidKinds := [.data, .pinned], laidTests := true, laidLooks := .later }
def DirCountsUptoCardSaid : Prop := Claim7.holds Tryd.pinned (.plain (OpenSpec.upto dirCountsSpec)) dirCountsUptoCard

/-- THE SECOND FORM's CARD OF 'potsherdlaw17.RootClears'. -/
def rootClearsUptoCard : Claim7 := { stood := { row := rootClearsUptoRow, standIns := [], harness := (true, "a285e9cd002130289d58e5179a29a61eb86e808a4a031d2df9dae044768589c4"), looks := false }, kinds := [], alts := [], laidByText := true, laidKinds := [.data, .pinned], laidTests := true, laidLooks := .later }
def RootClearsUptoCardSaid : Prop := Claim7.holds Tryd.pinned (.plain (OpenSpec.upto rootClearsSpec)) rootClearsUptoCard
end Rows
end Go.Proofs.YtpalkdmngckcoaaDoor
