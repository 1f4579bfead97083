/-
  DERIVED. GIVEN WITH THE SEED: THE CARDS: each row of YtpmoliahcgfkgaaDoorRows.lean that lists a variable, with what it lists TIED to the program's text (the seventh form; the later family's looks); each row that meets fmt, with fmt's text TOLD by the authors' own Lean function (tested against real Go, not proved from fmt's source: count such statements apart). THE CARD IS WHAT COUNTS. Prove the row's statement (the work); the ties are given (YtpmoliahcgfkgaaDoorTie.lean); close each card by the builder's one call (the guide's Derived/Test/ToyasCard.lean, 'card_holds'). Laid BY PROGRAM, IN A SANDBOX (cutbox-door.mjs). By AI agents, Wed Nov 11 2026. No macro, syntax, notation, axiom, sorry.
-/
import Derived.Test.YtpmoliahcgfkgaaDoorRows
import GoSem.ClaimSeven
namespace Go.Proofs.YtpmoliahcgfkgaaDoor
namespace Rows

/-- THE TIED CARD OF 'potsherdlaw12.PathRaw'. -/
def pathRawCard : Claim7 := { stood := { row := pathRawRow, standIns := [], harness := (true, "080b5246b20e328bd4cb6df25de41af924a03cdf3c30373ab7acd8a269699fd8"), looks := false }, kinds := [], alts := [], laidByText := true, laidKinds := [.data, .pinned], laidTests := true, laidLooks := .later }
def PathRawCardSaid : Prop := Claim7.holds Tryd.pinned (.plain (OpenSpec.ofChange pathRawSpec)) pathRawCard

/-- THE TIED CARD OF 'potsherdlaw12.PathBounds'. -/
def pathBoundsCard : Claim7 := { stood := { row := pathBoundsRow, standIns := [], harness := (true, "080b5246b20e328bd4cb6df25de41af924a03cdf3c30373ab7acd8a269699fd8"), looks := false }, kinds := [], alts := [], laidByText := true, laidKinds := [.data, .pinned], laidTests := true, laidLooks := .later }
def PathBoundsCardSaid : Prop := Claim7.holds Tryd.pinned (.plain (OpenSpec.ofChange pathBoundsSpec)) pathBoundsCard

/-- THE TIED CARD OF 'potsherdlaw12.PathLonger'. -/
def pathLongerCard : Claim7 := { stood := { row := pathLongerRow, standIns := [], harness := (true, "080b5246b20e328bd4cb6df25de41af924a03cdf3c30373ab7acd8a269699fd8"), looks := false }, kinds := [], alts := [], laidByText := true, laidKinds := [.data, .pinned], laidTests := true, laidLooks := .later }
def PathLongerCardSaid : Prop := Claim7.holds Tryd.pinned (.plain (OpenSpec.ofChange pathLongerSpec)) pathLongerCard

/-- THE SECOND FORM's CARD OF 'potsherdlaw12.PathRaw'. -/
def pathRawUptoCard : Claim7 := { stood := { row := pathRawUptoRow, standIns := [], harness := (true, "080b5246b20e328bd4cb6df25de41af924a03cdf3c30373ab7acd8a269699fd8"), looks := false }, kinds := [], alts := [], laidByText := true, laidKinds := [.data, .pinned], laidTests := true, laidLooks := .later }
def PathRawUptoCardSaid : Prop := Claim7.holds Tryd.pinned (.plain (OpenSpec.upto pathRawSpec)) pathRawUptoCard

/-- THE SECOND FORM's CARD OF 'potsherdlaw12.PathBounds'. -/
def pathBoundsUptoCard : Claim7 := { stood := { row := pathBoundsUptoRow, standIns := [], harness := (true, "080b5246b20e328bd4cb6df25de41af924a03cdf3c30373ab7acd8a269699fd8"), looks := false }, kinds := [], alts := [], laidByText := true, laidKinds := [.data, .pinned], laidTests := true, laidLooks := .later }
def PathBoundsUptoCardSaid : Prop := Claim7.holds Tryd.pinned (.plain (OpenSpec.upto pathBoundsSpec)) pathBoundsUptoCard

/-- THE SECOND FORM's CARD OF 'potsherdlaw12.PathLonger'. -/
def pathLongerUptoCard : Claim7 := { stood := { row := pathLongerUptoRow, standIns := [], harness := (true, "080b5246b20e328bd4cb6df25de41af924a03cdf3c30373ab7acd8a269699fd8"), looks := false }, kinds := [], alts := [], laidByText := true, laidKinds := [.data, .pinned], laidTests := true, laidLooks := .later }
def PathLongerUptoCardSaid : Prop := Claim7.holds Tryd.pinned (.plain (OpenSpec.upto pathLongerSpec)) pathLongerUptoCard
end Rows
end Go.Proofs.YtpmoliahcgfkgaaDoor
