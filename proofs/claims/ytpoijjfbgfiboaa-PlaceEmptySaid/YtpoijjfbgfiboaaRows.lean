/-
  No cell of these rows narrows 'for every input' (looked for: loops, veiled, ifaces, maps, wideKeys, modest, calm, conditions, laid).
  DERIVED. THE GIVEN ROWS OF THIS SEAT. 5 by the template 'for every input the law returns true; each argument reads behind the call as it read before'; 0 by the template 'total and deterministic' (their statements: YtpoijjfbgfiboaaTotals.lean).
  GIVEN WITH THE SEED: the statements are not yours to turn. If you find one false, say at which input.
  Laid BY PROGRAM, IN A SANDBOX (cutbox-rows.mjs): the forced cells as the released guide's own fill.sh prints them over the translation afc93fc15c24c005… (all of the seat's roots in one cut). By AI agents, Wed Nov 11 2026. No macro, syntax, notation, axiom, sorry.
-/
import Derived.Test.YtpoijjfbgfiboaaChecked
import GoSem.Claim
import GoSem.ClaimJoined
import GoSem.ClaimMapViews
import Derived.JoinedTies
import Derived.KernelRfl
namespace Go.Proofs.Ytpoijjfbgfiboaa
/- THE CELL 'sum', in the pinned program and in every row, IS THE sha256 OF THE DUMP (.gsa) THAT YtpoijjfbgfiboaaProg.lean LOADS. Nothing in Lean hashes anything: it is a label: what it is worth is what the hold of that sum in a sandbox is worth. -/
noncomputable def Try.pinned : Pinned := { name := "ytpoijjfbgfiboaa", sum := "afc93fc15c24c00524eeeef80a740e8d09c115e69e50123311c4c076a7ca7e85", checked := Try.checked }
namespace Rows
def none {H : Type} : Left H := { results := [], args := [] }

/-- 'potsherdlaw9.PlacePlays': WHATEVER THE INPUT: true; the input reads as it did. -/
def placePlaysSpec : ChangeSpec := { name := "placePlays", fn := fun _ => fun
  | [d1, d2, d3] => { results := [.lit (.bool true)], args := [d1, d2, d3] }
  | _ => none }
def placePlaysRow : OpenClaim := { program := "ytpoijjfbgfiboaa", sum := "afc93fc15c24c00524eeeef80a740e8d09c115e69e50123311c4c076a7ca7e85", func := "potsherd/potsherdlaw9.PlacePlays", spec := "placePlays", unfollowed := true, recurses := true, plainKeys := false, apart := false }
def PlacePlaysSaid : Prop := placePlaysRow.holds Try.pinned (OpenSpec.ofChange placePlaysSpec)

/-- ITS FALSE NEIGHBOUR: 'it returns false'. Refute it at one input. -/
def placePlaysWrong : ChangeSpec := { name := "placePlays", fn := fun _ => fun
  | [d1, d2, d3] => { results := [.lit (.bool false)], args := [d1, d2, d3] }
  | _ => none }
def PlacePlaysWrongFalsely : Prop := placePlaysRow.holds Try.pinned (OpenSpec.ofChange placePlaysWrong)

/-- 'potsherdlaw9.PlaceNil': WHATEVER THE INPUT: true; the input reads as it did. -/
def placeNilSpec : ChangeSpec := { name := "placeNil", fn := fun _ => fun
  | [d1, d2] => { results := [.lit (.bool true)], args := [d1, d2] }
  | _ => none }
def placeNilRow : OpenClaim := { program := "ytpoijjfbgfiboaa", sum := "afc93fc15c24c00524eeeef80a740e8d09c115e69e50123311c4c076a7ca7e85", func := "potsherd/potsherdlaw9.PlaceNil", spec := "placeNil", unfollowed := true, recurses := true, plainKeys := false, apart := false }
def PlaceNilSaid : Prop := placeNilRow.holds Try.pinned (OpenSpec.ofChange placeNilSpec)

/-- ITS FALSE NEIGHBOUR: 'it returns false'. Refute it at one input. -/
def placeNilWrong : ChangeSpec := { name := "placeNil", fn := fun _ => fun
  | [d1, d2] => { results := [.lit (.bool false)], args := [d1, d2] }
  | _ => none }
def PlaceNilWrongFalsely : Prop := placeNilRow.holds Try.pinned (OpenSpec.ofChange placeNilWrong)

/-- 'potsherdlaw9.PlaceMoves': WHATEVER THE INPUT: true; the input reads as it did. -/
def placeMovesSpec : ChangeSpec := { name := "placeMoves", fn := fun _ => fun
  | [d] => { results := [.lit (.bool true)], args := [d] }
  | _ => none }
def placeMovesRow : OpenClaim := { program := "ytpoijjfbgfiboaa", sum := "afc93fc15c24c00524eeeef80a740e8d09c115e69e50123311c4c076a7ca7e85", func := "potsherd/potsherdlaw9.PlaceMoves", spec := "placeMoves", unfollowed := true, recurses := true, plainKeys := false, apart := false }
def PlaceMovesSaid : Prop := placeMovesRow.holds Try.pinned (OpenSpec.ofChange placeMovesSpec)

/-- ITS FALSE NEIGHBOUR: 'it returns false'. Refute it at one input. -/
def placeMovesWrong : ChangeSpec := { name := "placeMoves", fn := fun _ => fun
  | [d] => { results := [.lit (.bool false)], args := [d] }
  | _ => none }
def PlaceMovesWrongFalsely : Prop := placeMovesRow.holds Try.pinned (OpenSpec.ofChange placeMovesWrong)

/-- 'potsherdlaw9.PlaceEmpty': WHATEVER THE INPUT: true; the input reads as it did. -/
def placeEmptySpec : ChangeSpec := { name := "placeEmpty", fn := fun _ => fun
  | [d] => { results := [.lit (.bool true)], args := [d] }
  | _ => none }
def placeEmptyRow : OpenClaim := { program := "ytpoijjfbgfiboaa", sum := "afc93fc15c24c00524eeeef80a740e8d09c115e69e50123311c4c076a7ca7e85", func := "potsherd/potsherdlaw9.PlaceEmpty", spec := "placeEmpty", unfollowed := true, recurses := true, plainKeys := false, apart := false }
def PlaceEmptySaid : Prop := placeEmptyRow.holds Try.pinned (OpenSpec.ofChange placeEmptySpec)

/-- ITS FALSE NEIGHBOUR: 'it returns false'. Refute it at one input. -/
def placeEmptyWrong : ChangeSpec := { name := "placeEmpty", fn := fun _ => fun
  | [d] => { results := [.lit (.bool false)], args := [d] }
  | _ => none }
def PlaceEmptyWrongFalsely : Prop := placeEmptyRow.holds Try.pinned (OpenSpec.ofChange placeEmptyWrong)

/-- 'potsherdlaw9.PlaceCrowded': WHATEVER THE INPUT: true; the input reads as it did. -/
def placeCrowdedSpec : ChangeSpec := { name := "placeCrowded", fn := fun _ => fun
  | [d1, d2, d3, d4] => { results := [.lit (.bool true)], args := [d1, d2, d3, d4] }
  | _ => none }
def placeCrowdedRow : OpenClaim := { program := "ytpoijjfbgfiboaa", sum := "afc93fc15c24c00524eeeef80a740e8d09c115e69e50123311c4c076a7ca7e85", func := "potsherd/potsherdlaw9.PlaceCrowded", spec := "placeCrowded", unfollowed := true, recurses := true, plainKeys := false, apart := false }
def PlaceCrowdedSaid : Prop := placeCrowdedRow.holds Try.pinned (OpenSpec.ofChange placeCrowdedSpec)

/-- ITS FALSE NEIGHBOUR: 'it returns false'. Refute it at one input. -/
def placeCrowdedWrong : ChangeSpec := { name := "placeCrowded", fn := fun _ => fun
  | [d1, d2, d3, d4] => { results := [.lit (.bool false)], args := [d1, d2, d3, d4] }
  | _ => none }
def PlaceCrowdedWrongFalsely : Prop := placeCrowdedRow.holds Try.pinned (OpenSpec.ofChange placeCrowdedWrong)

/- THE SECOND FORM. 'bulk': how many values and letters a reading holds, each counted each time it is reached (what is shared counts as often as it is met; a slice's spare places count too). A statement '..UptoSaid' is the law's where the arguments, and the package variables that the reading takes, are together of bulk at most 1048576: NARROWER than '..Said'. Prove '..Said' where nothing that the law and all that it calls make is longer than what came in: it says more and counts as full. Else prove '..UptoSaid'. A law counts once. -/
mutual
def uptoBulk {H : Type} : DataW H → Nat
  | .lit (.string bytes) => bytes.length + 1
  | .lit _ => 1
  | .nil => 1
  | .ptr d => uptoBulk d + 1
  | .slice elems spare => uptoBulkAll elems + uptoBulkAll spare + 1
  | .agg parts => uptoBulkAll parts + 1
  | .iface _ d => uptoBulk d + 1
  | .map entries => uptoBulkEntries entries + 1
  | .held _ => 1
def uptoBulkAll {H : Type} : List (DataW H) → Nat
  | [] => 0
  | d :: r => uptoBulk d + uptoBulkAll r
def uptoBulkEntries {H : Type} : List (Lit × DataW H) → Nat
  | [] => 0
  | x :: r => uptoBulkEntry x + uptoBulkEntries r
def uptoBulkEntry {H : Type} : Lit × DataW H → Nat
  | (.string bytes, d) => bytes.length + uptoBulk d + 1
  | (_, d) => uptoBulk d + 1
 end
def uptoSmall : (H : Type) → List (DataW H) → Bool := fun _ ds => decide (uptoBulkAll ds ≤ 1048576)
def OpenSpec.upto (s : _root_.Go.ChangeSpec) : _root_.Go.OpenSpec := { _root_.Go.OpenSpec.ofChange s with cond := some uptoSmall }

/-- 'potsherdlaw9.PlacePlays', WHERE WHAT IT READS IS OF BULK AT MOST 1048576: true; the input reads as it did. -/
def placePlaysUptoRow : OpenClaim := { program := "ytpoijjfbgfiboaa", sum := "afc93fc15c24c00524eeeef80a740e8d09c115e69e50123311c4c076a7ca7e85", func := "potsherd/potsherdlaw9.PlacePlays", spec := "placePlays", unfollowed := true, recurses := true, plainKeys := false, apart := false, narrowed := true }
def PlacePlaysUptoSaid : Prop := placePlaysUptoRow.holds Try.pinned (OpenSpec.upto placePlaysSpec)

/-- 'potsherdlaw9.PlaceNil', WHERE WHAT IT READS IS OF BULK AT MOST 1048576: true; the input reads as it did. -/
def placeNilUptoRow : OpenClaim := { program := "ytpoijjfbgfiboaa", sum := "afc93fc15c24c00524eeeef80a740e8d09c115e69e50123311c4c076a7ca7e85", func := "potsherd/potsherdlaw9.PlaceNil", spec := "placeNil", unfollowed := true, recurses := true, plainKeys := false, apart := false, narrowed := true }
def PlaceNilUptoSaid : Prop := placeNilUptoRow.holds Try.pinned (OpenSpec.upto placeNilSpec)

/-- 'potsherdlaw9.PlaceMoves', WHERE WHAT IT READS IS OF BULK AT MOST 1048576: true; the input reads as it did. -/
def placeMovesUptoRow : OpenClaim := { program := "ytpoijjfbgfiboaa", sum := "afc93fc15c24c00524eeeef80a740e8d09c115e69e50123311c4c076a7ca7e85", func := "potsherd/potsherdlaw9.PlaceMoves", spec := "placeMoves", unfollowed := true, recurses := true, plainKeys := false, apart := false, narrowed := true }
def PlaceMovesUptoSaid : Prop := placeMovesUptoRow.holds Try.pinned (OpenSpec.upto placeMovesSpec)

/-- 'potsherdlaw9.PlaceEmpty', WHERE WHAT IT READS IS OF BULK AT MOST 1048576: true; the input reads as it did. -/
def placeEmptyUptoRow : OpenClaim := { program := "ytpoijjfbgfiboaa", sum := "afc93fc15c24c00524eeeef80a740e8d09c115e69e50123311c4c076a7ca7e85", func := "potsherd/potsherdlaw9.PlaceEmpty", spec := "placeEmpty", unfollowed := true, recurses := true, plainKeys := false, apart := false, narrowed := true }
def PlaceEmptyUptoSaid : Prop := placeEmptyUptoRow.holds Try.pinned (OpenSpec.upto placeEmptySpec)

/-- 'potsherdlaw9.PlaceCrowded', WHERE WHAT IT READS IS OF BULK AT MOST 1048576: true; the input reads as it did. -/
def placeCrowdedUptoRow : OpenClaim := { program := "ytpoijjfbgfiboaa", sum := "afc93fc15c24c00524eeeef80a740e8d09c115e69e50123311c4c076a7ca7e85", func := "potsherd/potsherdlaw9.PlaceCrowded", spec := "placeCrowded", unfollowed := true, recurses := true, plainKeys := false, apart := false, narrowed := true }
def PlaceCrowdedUptoSaid : Prop := placeCrowdedUptoRow.holds Try.pinned (OpenSpec.upto placeCrowdedSpec)

end Rows
end Go.Proofs.Ytpoijjfbgfiboaa
