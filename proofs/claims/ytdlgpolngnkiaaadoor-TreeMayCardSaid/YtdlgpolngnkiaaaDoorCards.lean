/-
  DERIVED. GIVEN WITH THE SEED: THE CARDS: each row of YtdlgpolngnkiaaaDoorRows.lean that lists a variable, with what it lists TIED to the program's text (the seventh form; the later family's looks); each row that meets fmt, with fmt's text TOLD by the authors' own Lean function (tested against real Go, not proved from fmt's source: count such statements apart). THE CARD IS WHAT COUNTS. Prove the row's statement (the work); the ties are given (YtdlgpolngnkiaaaDoorTie.lean); close each card by the builder's one call (the guide's Derived/Test/ToyasCard.lean, 'card_holds'). Laid BY PROGRAM, IN A SANDBOX (cutbox-door.mjs). By AI agents, Wed Nov 11 2026. No macro, syntax, notation, axiom, sorry.
-/
import Derived.Test.YtdlgpolngnkiaaaDoorRows
import GoSem.ClaimSeven
namespace Go.Proofs.YtdlgpolngnkiaaaDoor
namespace Rows

/-- THE TIED CARD OF 'potsherdlaw19.TreeRenames'. -/
def treeRenamesCard : Claim7 := { stood := { row := treeRenamesRow, standIns := [], harness := (true, "c051d729759df79cb1e6fa0e1a8c506804cb2e86a7bb24ee3cdd0a0fd0d0ff94"), looks := false }, kinds := [], alts := [], laidByText := true, laidKinds := [.data, .pinned], laidTests := true, laidLooks := .later }
def TreeRenamesCardSaid : Prop := Claim7.holds Tryd.pinned (.plain (OpenSpec.ofChange treeRenamesSpec)) treeRenamesCard

/-- THE TIED CARD OF 'potsherdlaw19.TreeFull'. -/
def treeFullCard : Claim7 := { stood := { row := treeFullRow, standIns := [], harness := (true, "c051d729759df79cb1e6fa0e1a8c506804cb2e86a7bb24ee3cdd0a0fd0d0ff94"), looks := false }, kinds := [], alts := [], laidByText := true, laidKinds := [.data, .pinned], laidTests := true, laidLooks := .later }
def TreeFullCardSaid : Prop := Claim7.holds Tryd.pinned (.plain (OpenSpec.ofChange treeFullSpec)) treeFullCard

/-- THE TIED CARD OF 'potsherdlaw19.TreeTakes'. -/
def treeTakesCard : Claim7 := { stood := { row := treeTakesRow, standIns := [], harness := (true, "c051d729759df79cb1e6fa0e1a8c506804cb2e86a7bb24ee3cdd0a0fd0d0ff94"), looks := false }, kinds := [], alts := [], laidByText := true, laidKinds := [.data, .pinned], laidTests := true, laidLooks := .later }
def TreeTakesCardSaid : Prop := Claim7.holds Tryd.pinned (.plain (OpenSpec.ofChange treeTakesSpec)) treeTakesCard

/-- THE TIED CARD OF 'potsherdlaw19.TreeDirs'. -/
def treeDirsCard : Claim7 := { stood := { row := treeDirsRow, standIns := [], harness := (true, "c051d729759df79cb1e6fa0e1a8c506804cb2e86a7bb24ee3cdd0a0fd0d0ff94"), looks := false }, kinds := [], alts := [], laidByText := true, laidKinds := [.data, .pinned], laidTests := true, laidLooks := .later }
def TreeDirsCardSaid : Prop := Claim7.holds Tryd.pinned (.plain (OpenSpec.ofChange treeDirsSpec)) treeDirsCard

/-- THE TIED CARD OF 'potsherdlaw19.TreeMay'. -/
def treeMayCard : Claim7 := { stood := { row := treeMayRow, standIns := [], harness := (true, "c051d729759df79cb1e6fa0e1a8c506804cb2e86a7bb24ee3cdd0a0fd0d0ff94"), looks := false }, kinds := [], alts := [], laidByText := true, laidKinds := [.data, .pinned], laidTests := true, laidLooks := .later }
def TreeMayCardSaid : Prop := Claim7.holds Tryd.pinned (.plain (OpenSpec.ofChange treeMaySpec)) treeMayCard

/-- THE TIED CARD OF 'potsherdlaw19.TreeHolds'. -/
def treeHoldsCard : Claim7 := { stood := { row := treeHoldsRow, standIns := [], harness := (true, "c051d729759df79cb1e6fa0e1a8c506804cb2e86a7bb24ee3cdd0a0fd0d0ff94"), looks := false }, kinds := [], alts := [], laidByText := true, laidKinds := [.data, .pinned], laidTests := true, laidLooks := .later }
def TreeHoldsCardSaid : Prop := Claim7.holds Tryd.pinned (.plain (OpenSpec.ofChange treeHoldsSpec)) treeHoldsCard

/-- THE SECOND FORM's CARD OF 'potsherdlaw19.TreeRenames'. -/
def treeRenamesUptoCard : Claim7 := { stood := { row := treeRenamesUptoRow, standIns := [], harness := (true, "c051d729759df79cb1e6fa0e1a8c506804cb2e86a7bb24ee3cdd0a0fd0d0ff94"), looks := false }, kinds := [], alts := [], laidByText := true, laidKinds := [.data, .pinned], laidTests := true, laidLooks := .later }
def TreeRenamesUptoCardSaid : Prop := Claim7.holds Tryd.pinned (.plain (OpenSpec.upto treeRenamesSpec)) treeRenamesUptoCard

/-- THE SECOND FORM's CARD OF 'potsherdlaw19.TreeFull'. -/
def treeFullUptoCard : Claim7 := { stood := { row := treeFullUptoRow, standIns := [], harness := (true, "c051d729759df79cb1e6fa0e1a8c506804cb2e86a7bb24ee3cdd0a0fd0d0ff94"), looks := false }, kinds := [], alts := [], laidByText := true, laidKinds := [.data, .pinned], laidTests := true, laidLooks := .later }
def TreeFullUptoCardSaid : Prop := Claim7.holds Tryd.pinned (.plain (OpenSpec.upto treeFullSpec)) treeFullUptoCard

/-- THE SECOND FORM's CARD OF 'potsherdlaw19.TreeTakes'. -/
def treeTakesUptoCard : Claim7 := { stood := { row := treeTakesUptoRow, standIns := [], harness := (true, "c051d729759df79cb1e6fa0e1a8c506804cb2e86a7bb24ee3cdd0a0fd0d0ff94"), looks := false }, kinds := [], alts := [], laidByText := true, laidKinds := [.data, .pinned], laidTests := true, laidLooks := .later }
def TreeTakesUptoCardSaid : Prop := Claim7.holds Tryd.pinned (.plain (OpenSpec.upto treeTakesSpec)) treeTakesUptoCard

/-- THE SECOND FORM's CARD OF 'potsherdlaw19.TreeDirs'. -/
def treeDirsUptoCard : Claim7 := { stood := { row := treeDirsUptoRow, standIns := [], harness := (true, "c051d729759df79cb1e6fa0e1a8c506804cb2e86a7bb24ee3cdd0a0fd0d0ff94"), looks := false }, kinds := [], alts := [], laidByText := true, laidKinds := [.data, .pinned], laidTests := true, laidLooks := .later }
def TreeDirsUptoCardSaid : Prop := Claim7.holds Tryd.pinned (.plain (OpenSpec.upto treeDirsSpec)) treeDirsUptoCard

/-- THE SECOND FORM's CARD OF 'potsherdlaw19.TreeMay'. -/
def treeMayUptoCard : Claim7 := { stood := { row := treeMayUptoRow, standIns := [], harness := (true, "c051d729759df79cb1e6fa0e1a8c506804cb2e86a7bb24ee3cdd0a0fd0d0ff94"), looks := false }, kinds := [], alts := [], laidByText := true, laidKinds := [.data, .pinned], laidTests := true, laidLooks := .later }
def TreeMayUptoCardSaid : Prop := Claim7.holds Tryd.pinned (.plain (OpenSpec.upto treeMaySpec)) treeMayUptoCard

/-- THE SECOND FORM's CARD OF 'potsherdlaw19.TreeHolds'. -/
def treeHoldsUptoCard : Claim7 := { stood := { row := treeHoldsUptoRow, standIns := [], harness := (true, "c051d729759df79cb1e6fa0e1a8c506804cb2e86a7bb24ee3cdd0a0fd0d0ff94"), looks := false }, kinds := [], alts := [], laidByText := true, laidKinds := [.data, .pinned], laidTests := true, laidLooks := .later }
def TreeHoldsUptoCardSaid : Prop := Claim7.holds Tryd.pinned (.plain (OpenSpec.upto treeHoldsSpec)) treeHoldsUptoCard
end Rows
end Go.Proofs.YtdlgpolngnkiaaaDoor
