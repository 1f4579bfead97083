/-
  DERIVED. GIVEN WITH THE SEED: THE CARDS: each row of YtdlgpolngnkiaaaGreatDoorRows.lean that lists a variable, with what it lists TIED to the program's text (the seventh form; the later family's looks); each row that meets fmt, with fmt's text TOLD by the authors' own Lean function (tested against real Go, not proved from fmt's source: count such statements apart). THE CARD IS WHAT COUNTS. Prove the row's statement (the work); the ties are given (YtdlgpolngnkiaaaGreatDoorTie.lean); close each card by the builder's one call (the guide's Derived/Test/ToyasCard.lean, 'card_holds'). Laid BY PROGRAM, IN A SANDBOX (cutbox-door.mjs). By AI agents, Wed Nov 11 2026. No macro, syntax, notation, axiom, sorry.
-/
import Derived.Test.YtdlgpolngnkiaaaGreatDoorRows
import GoSem.ClaimSeven
namespace Go.Proofs.YtdlgpolngnkiaaaGreatDoor
namespace Rows

/-- THE TIED CARD OF 'potsherdlaw19.TreeForms'. -/
def treeFormsCard : Claim7 := { stood := { row := treeFormsRow, standIns := [], harness := (true, "47a3ae977a613d72ac7f492c654fe946eb08ed36c3737340522a31cd1252a0bf"), looks := false }, kinds := [], alts := [], laidByText := true, laidKinds := [.data, .pinned], laidTests := true, laidLooks := .later }
def TreeFormsCardSaid : Prop := Claim7.holds Tryz.pinned (.plain (OpenSpec.ofChange treeFormsSpec)) treeFormsCard

/-- THE TIED CARD OF 'potsherdlaw19.TreeNames'. -/
def treeNamesCard : Claim7 := { stood := { row := treeNamesRow, standIns := [], harness := (true, "47a3ae977a613d72ac7f492c654fe946eb08ed36c3737340522a31cd1252a0bf"), looks := false }, kinds := [], alts := [], laidByText := true, laidKinds := [.data, .pinned], laidTests := true, laidLooks := .later }
def TreeNamesCardSaid : Prop := Claim7.holds Tryz.pinned (.plain (OpenSpec.ofChange treeNamesSpec)) treeNamesCard

/-- THE SECOND FORM's CARD OF 'potsherdlaw19.TreeForms'. -/
def treeFormsUptoCard : Claim7 := { stood := { row := treeFormsUptoRow, standIns := [], harness := (true, "47a3ae977a613d72ac7f492c654fe946eb08ed36c3737340522a31cd1252a0bf"), looks := false }, kinds := [], alts := [], laidByText := true, laidKinds := [.data, .pinned], laidTests := true, laidLooks := .later }
def TreeFormsUptoCardSaid : Prop := Claim7.holds Tryz.pinned (.plain (OpenSpec.upto treeFormsSpec)) treeFormsUptoCard

/-- THE SECOND FORM's CARD OF 'potsherdlaw19.TreeNames'. -/
def treeNamesUptoCard : Claim7 := { stood := { row := treeNamesUptoRow, standIns := [], harness := (true, "47a3ae977a613d72ac7f492c654fe946eb08ed36c3737340522a31cd1252a0bf"), looks := false }, kinds := [], alts := [], laidByText := true, laidKinds := [.data, .pinned], laidTests := true, laidLooks := .later }
def TreeNamesUptoCardSaid : Prop := Claim7.holds Tryz.pinned (.plain (OpenSpec.upto treeNamesSpec)) treeNamesUptoCard
end Rows
end Go.Proofs.YtdlgpolngnkiaaaGreatDoor
