/-
  NARROWER THAN 'FOR EVERY INPUT', by the rows' own cells (each row's printed sentence says how): TreeRenames: laid · TreeFull: laid · TreeTakes: laid · TreeDirs: laid · TreeMay: laid · TreeHolds: laid.
  DERIVED. THE GIVEN ROWS OF THIS SEAT. 6 by the template 'for every input the law returns true; each argument reads behind the call as it read before'; 0 by the template 'total and deterministic' (their statements: YtdlgpolngnkiaaaDoorTotals.lean).
  GIVEN WITH THE SEED: the statements are not yours to turn. If you find one false, say at which input.
  Laid BY PROGRAM, IN A SANDBOX (cutbox-rows.mjs): the forced cells as the released guide's own fill.sh prints them over the translation 0451914d170e10a5… (all of the seat's roots in one cut). By AI agents, Wed Nov 11 2026. No macro, syntax, notation, axiom, sorry.
-/
import Derived.Test.YtdlgpolngnkiaaaDoorChecked
import GoSem.PinnedTables
import GoSem.Claim
import GoSem.ClaimJoined
import GoSem.ClaimMapViews
import Derived.JoinedTies
import Derived.KernelRfl
namespace Go.Proofs.YtdlgpolngnkiaaaDoor
/- THE CELL 'sum', in the pinned program and in every row, IS THE sha256 OF THE DUMP (.gsa) THAT YtdlgpolngnkiaaaDoorProg.lean LOADS. Nothing in Lean hashes anything: it is a label: what it is worth is what the hold of that sum in a sandbox is worth. -/
noncomputable def Tryd.pinned : Pinned := { name := "ytdlgpolngnkiaaadoor", sum := "0451914d170e10a52b7723aa86b1370409b4d80ad621bab02e5c0b874d28e61a", checked := Tryd.checked }
namespace Rows
def none {H : Type} : Left H := { results := [], args := [] }

/- WHAT THE LISTED PACKAGE-LEVEL VARIABLES READ AS WHEN THE CALL BEGINS. Each datum BY PROGRAM (the guide's laid-datum.mjs) off the statement by which the dump's own 'gosem.cut.vars' lays the variable. In a bare row this is a premise. The card (YtdlgpolngnkiaaaDoorCards.lean) ties it to the program's text. -/
def laid_unicode_utf8_acceptRanges {H : Type} : DataW H := .agg [.agg [.lit (.int .u8 128), .lit (.int .u8 191)], .agg [.lit (.int .u8 160), .lit (.int .u8 191)], .agg [.lit (.int .u8 128), .lit (.int .u8 159)], .agg [.lit (.int .u8 144), .lit (.int .u8 191)], .agg [.lit (.int .u8 128), .lit (.int .u8 143)], .agg [.lit (.int .u8 0), .lit (.int .u8 0)], .agg [.lit (.int .u8 0), .lit (.int .u8 0)], .agg [.lit (.int .u8 0), .lit (.int .u8 0)], .agg [.lit (.int .u8 0), .lit (.int .u8 0)], .agg [.lit (.int .u8 0), .lit (.int .u8 0)], .agg [.lit (.int .u8 0), .lit (.int .u8 0)], .agg [.lit (.int .u8 0), .lit (.int .u8 0)], .agg [.lit (.int .u8 0), .lit (.int .u8 0)], .agg [.lit (.int .u8 0), .lit (.int .u8 0)], .agg [.lit (.int .u8 0), .lit (.int .u8 0)], .agg [.lit (.int .u8 0), .lit (.int .u8 0)]]
/-- One of Go's own tables, pinned by name: the form's constant. -/
def laid_unicode_utf8_first : DataW Unit := Go.Pinned.utf8First

/-- 'potsherdlaw19.TreeRenames': WHATEVER THE INPUT: true; the input reads as it did. -/
def treeRenamesSpec : ChangeSpec := { name := "treeRenames", fn := fun _ => fun
  | [d1, d2, d3] => { results := [.lit (.bool true)], args := [d1, d2, d3] }
  | _ => none }
def treeRenamesRow : OpenClaim := { program := "ytdlgpolngnkiaaadoor", sum := "0451914d170e10a52b7723aa86b1370409b4d80ad621bab02e5c0b874d28e61a", func := "potsherd/potsherdlaw19.TreeRenames", spec := "treeRenames", inPlace := ["internal/bytealg.CountString", "internal/bytealg.IndexByteString", "internal/bytealg.IndexString", "internal/abi.NoEscape", "internal/bytealg.MakeNoZero"], unfollowed := true, recurses := true, named := ["unicode/utf8.first", "unicode/utf8.acceptRanges", "internal/bytealg.MaxLen"], apart := false, laid := [("unicode/utf8.acceptRanges", laid_unicode_utf8_acceptRanges), ("unicode/utf8.first", laid_unicode_utf8_first)] }
def TreeRenamesSaid : Prop := treeRenamesRow.holds Tryd.pinned (OpenSpec.ofChange treeRenamesSpec)

/-- ITS FALSE NEIGHBOUR: 'it returns false'. Refute it at one input. -/
def treeRenamesWrong : ChangeSpec := { name := "treeRenames", fn := fun _ => fun
  | [d1, d2, d3] => { results := [.lit (.bool false)], args := [d1, d2, d3] }
  | _ => none }
def TreeRenamesWrongFalsely : Prop := treeRenamesRow.holds Tryd.pinned (OpenSpec.ofChange treeRenamesWrong)

/-- 'potsherdlaw19.TreeFull': WHATEVER THE INPUT: true; the input reads as it did. -/
def treeFullSpec : ChangeSpec := { name := "treeFull", fn := fun _ => fun
  | [d] => { results := [.lit (.bool true)], args := [d] }
  | _ => none }
def treeFullRow : OpenClaim := { program := "ytdlgpolngnkiaaadoor", sum := "0451914d170e10a52b7723aa86b1370409b4d80ad621bab02e5c0b874d28e61a", func := "potsherd/potsherdlaw19.TreeFull", spec := "treeFull", inPlace := ["internal/bytealg.CountString", "internal/bytealg.IndexByteString", "internal/bytealg.IndexString", "internal/abi.NoEscape", "internal/bytealg.MakeNoZero"], unfollowed := true, recurses := true, named := ["unicode/utf8.first", "unicode/utf8.acceptRanges", "internal/bytealg.MaxLen"], apart := false, laid := [("unicode/utf8.acceptRanges", laid_unicode_utf8_acceptRanges), ("unicode/utf8.first", laid_unicode_utf8_first)] }
def TreeFullSaid : Prop := treeFullRow.holds Tryd.pinned (OpenSpec.ofChange treeFullSpec)

/-- ITS FALSE NEIGHBOUR: 'it returns false'. Refute it at one input. -/
def treeFullWrong : ChangeSpec := { name := "treeFull", fn := fun _ => fun
  | [d] => { results := [.lit (.bool false)], args := [d] }
  | _ => none }
def TreeFullWrongFalsely : Prop := treeFullRow.holds Tryd.pinned (OpenSpec.ofChange treeFullWrong)

/-- 'potsherdlaw19.TreeTakes': WHATEVER THE INPUT: true; the input reads as it did. -/
def treeTakesSpec : ChangeSpec := { name := "treeTakes", fn := fun _ => fun
  | [d1, d2, d3] => { results := [.lit (.bool true)], args := [d1, d2, d3] }
  | _ => none }
def treeTakesRow : OpenClaim := { program := "ytdlgpolngnkiaaadoor", sum := "0451914d170e10a52b7723aa86b1370409b4d80ad621bab02e5c0b874d28e61a", func := "potsherd/potsherdlaw19.TreeTakes", spec := "treeTakes", inPlace := ["internal/bytealg.CountString", "internal/bytealg.IndexByteString", "internal/bytealg.IndexString", "internal/abi.NoEscape", "internal/bytealg.MakeNoZero"], unfollowed := true, recurses := true, named := ["unicode/utf8.first", "unicode/utf8.acceptRanges", "internal/bytealg.MaxLen"], apart := false, laid := [("unicode/utf8.acceptRanges", laid_unicode_utf8_acceptRanges), ("unicode/utf8.first", laid_unicode_utf8_first)] }
def TreeTakesSaid : Prop := treeTakesRow.holds Tryd.pinned (OpenSpec.ofChange treeTakesSpec)

/-- ITS FALSE NEIGHBOUR: 'it returns false'. Refute it at one input. -/
def treeTakesWrong : ChangeSpec := { name := "treeTakes", fn := fun _ => fun
  | [d1, d2, d3] => { results := [.lit (.bool false)], args := [d1, d2, d3] }
  | _ => none }
def TreeTakesWrongFalsely : Prop := treeTakesRow.holds Tryd.pinned (OpenSpec.ofChange treeTakesWrong)

/-- 'potsherdlaw19.TreeDirs': WHATEVER THE INPUT: true; the input reads as it did. -/
def treeDirsSpec : ChangeSpec := { name := "treeDirs", fn := fun _ => fun
  | [d1, d2, d3] => { results := [.lit (.bool true)], args := [d1, d2, d3] }
  | _ => none }
def treeDirsRow : OpenClaim := { program := "ytdlgpolngnkiaaadoor", sum := "0451914d170e10a52b7723aa86b1370409b4d80ad621bab02e5c0b874d28e61a", func := "potsherd/potsherdlaw19.TreeDirs", spec := "treeDirs", inPlace := ["internal/bytealg.CountString", "internal/bytealg.IndexByteString", "internal/bytealg.IndexString", "internal/abi.NoEscape", "internal/bytealg.MakeNoZero"], unfollowed := true, recurses := true, named := ["unicode/utf8.first", "unicode/utf8.acceptRanges", "internal/bytealg.MaxLen"], apart := false, laid := [("unicode/utf8.acceptRanges", laid_unicode_utf8_acceptRanges), ("unicode/utf8.first", laid_unicode_utf8_first)] }
def TreeDirsSaid : Prop := treeDirsRow.holds Tryd.pinned (OpenSpec.ofChange treeDirsSpec)

/-- ITS FALSE NEIGHBOUR: 'it returns false'. Refute it at one input. -/
def treeDirsWrong : ChangeSpec := { name := "treeDirs", fn := fun _ => fun
  | [d1, d2, d3] => { results := [.lit (.bool false)], args := [d1, d2, d3] }
  | _ => none }
def TreeDirsWrongFalsely : Prop := treeDirsRow.holds Tryd.pinned (OpenSpec.ofChange treeDirsWrong)

/-- 'potsherdlaw19.TreeMay': WHATEVER THE INPUT: true; the input reads as it did. -/
def treeMaySpec : ChangeSpec := { name := "treeMay", fn := fun _ => fun
  | [d1, d2] => { results := [.lit (.bool true)], args := [d1, d2] }
  | _ => none }
def treeMayRow : OpenClaim := { program := "ytdlgpolngnkiaaadoor", sum := "0451914d170e10a52b7723aa86b1370409b4d80ad621bab02e5c0b874d28e61a", func := "potsherd/potsherdlaw19.TreeMay", spec := "treeMay", inPlace := ["internal/bytealg.CountString", "internal/bytealg.IndexByteString", "internal/bytealg.IndexString", "internal/abi.NoEscape", "internal/bytealg.MakeNoZero"], unfollowed := true, recurses := true, named := ["unicode/utf8.first", "unicode/utf8.acceptRanges", "internal/bytealg.MaxLen"], apart := false, laid := [("unicode/utf8.acceptRanges", laid_unicode_utf8_acceptRanges), ("unicode/utf8.first", laid_unicode_utf8_first)] }
def TreeMaySaid : Prop := treeMayRow.holds Tryd.pinned (OpenSpec.ofChange treeMaySpec)

/-- ITS FALSE NEIGHBOUR: 'it returns false'. Refute it at one input. -/
def treeMayWrong : ChangeSpec := { name := "treeMay", fn := fun _ => fun
  | [d1, d2] => { results := [.lit (.bool false)], args := [d1, d2] }
  | _ => none }
def TreeMayWrongFalsely : Prop := treeMayRow.holds Tryd.pinned (OpenSpec.ofChange treeMayWrong)

/-- 'potsherdlaw19.TreeHolds': WHATEVER THE INPUT: true; the input reads as it did. -/
def treeHoldsSpec : ChangeSpec := { name := "treeHolds", fn := fun _ => fun
  | [d1, d2] => { results := [.lit (.bool true)], args := [d1, d2] }
  | _ => none }
def treeHoldsRow : OpenClaim := { program := "ytdlgpolngnkiaaadoor", sum := "0451914d170e10a52b7723aa86b1370409b4d80ad621bab02e5c0b874d28e61a", func := "potsherd/potsherdlaw19.TreeHolds", spec := "treeHolds", inPlace := ["internal/bytealg.CountString", "internal/bytealg.IndexByteString", "internal/bytealg.IndexString", "internal/abi.NoEscape", "internal/bytealg.MakeNoZero"], unfollowed := true, recurses := true, named := ["unicode/utf8.first", "unicode/utf8.acceptRanges", "internal/bytealg.MaxLen"], apart := false, laid := [("unicode/utf8.acceptRanges", laid_unicode_utf8_acceptRanges), ("unicode/utf8.first", laid_unicode_utf8_first)] }
def TreeHoldsSaid : Prop := treeHoldsRow.holds Tryd.pinned (OpenSpec.ofChange treeHoldsSpec)

/-- ITS FALSE NEIGHBOUR: 'it returns false'. Refute it at one input. -/
def treeHoldsWrong : ChangeSpec := { name := "treeHolds", fn := fun _ => fun
  | [d1, d2] => { results := [.lit (.bool false)], args := [d1, d2] }
  | _ => none }
def TreeHoldsWrongFalsely : Prop := treeHoldsRow.holds Tryd.pinned (OpenSpec.ofChange treeHoldsWrong)

/- THE SECOND FORM. 'bulk': how many values and letters a reading holds, each counted each time it is reached (what is shared counts as often as it is met; a slice's spare places count too). A statement '..UptoSaid' is the law's where the arguments, and the package variables that the reading takes, are together of bulk at most 1048576: NARROWER than '..Said'. Prove '..Said' where nothing that the law and all that it calls make is longer than what came in: it says more and counts as full. Else prove '..UptoSaid'. A law counts once. -/
mutual
def uptoBulk {H : Type} : DataW H → Nat
  | .lit (.string bytes) => bytes.length + 1
  | .lit _ => 1
  | .nil => 1
  | .ptr d => uptoBulk d + 1
  | .slice elems spare => uptoBulkAll elems + uptoBulkAll spare + 1
  | .agg parts => uptoBulkAll parts + 1
  | .iface _ d => uptoBulk d + 1
  | .map entries => uptoBulkEntries entries + 1
  | .held _ => 1
def uptoBulkAll {H : Type} : List (DataW H) → Nat
  | [] => 0
  | d :: r => uptoBulk d + uptoBulkAll r
def uptoBulkEntries {H : Type} : List (Lit × DataW H) → Nat
  | [] => 0
  | x :: r => uptoBulkEntry x + uptoBulkEntries r
def uptoBulkEntry {H : Type} : Lit × DataW H → Nat
  | (.string bytes, d) => bytes.length + uptoBulk d + 1
  | (_, d) => uptoBulk d + 1
 end
def uptoSmall : (H : Type) → List (DataW H) → Bool := fun _ ds => decide (uptoBulkAll ds ≤ 1048576)
def OpenSpec.upto (s : _root_.Go.ChangeSpec) : _root_.Go.OpenSpec := { _root_.Go.OpenSpec.ofChange s with cond := some uptoSmall }

/-- 'potsherdlaw19.TreeRenames', WHERE WHAT IT READS IS OF BULK AT MOST 1048576: true; the input reads as it did. -/
def treeRenamesUptoRow : OpenClaim := { program := "ytdlgpolngnkiaaadoor", sum := "0451914d170e10a52b7723aa86b1370409b4d80ad621bab02e5c0b874d28e61a", func := "potsherd/potsherdlaw19.TreeRenames", spec := "treeRenames", inPlace := ["internal/bytealg.CountString", "internal/bytealg.IndexByteString", "internal/bytealg.IndexString", "internal/abi.NoEscape", "internal/bytealg.MakeNoZero"], unfollowed := true, recurses := true, named := ["unicode/utf8.first", "unicode/utf8.acceptRanges", "internal/bytealg.MaxLen"], apart := false, laid := [("unicode/utf8.acceptRanges", laid_unicode_utf8_acceptRanges), ("unicode/utf8.first", laid_unicode_utf8_first)], narrowed := true }
def TreeRenamesUptoSaid : Prop := treeRenamesUptoRow.holds Tryd.pinned (OpenSpec.upto treeRenamesSpec)

/-- 'potsherdlaw19.TreeFull', WHERE WHAT IT READS IS OF BULK AT MOST 1048576: true; the input reads as it did. -/
def treeFullUptoRow : OpenClaim := { program := "ytdlgpolngnkiaaadoor", sum := "0451914d170e10a52b7723aa86b1370409b4d80ad621bab02e5c0b874d28e61a", func := "potsherd/potsherdlaw19.TreeFull", spec := "treeFull", inPlace := ["internal/bytealg.CountString", "internal/bytealg.IndexByteString", "internal/bytealg.IndexString", "internal/abi.NoEscape", "internal/bytealg.MakeNoZero"], unfollowed := true, recurses := true, named := ["unicode/utf8.first", "unicode/utf8.acceptRanges", "internal/bytealg.MaxLen"], apart := false, laid := [("unicode/utf8.acceptRanges", laid_unicode_utf8_acceptRanges), ("unicode/utf8.first", laid_unicode_utf8_first)], narrowed := true }
def TreeFullUptoSaid : Prop := treeFullUptoRow.holds Tryd.pinned (OpenSpec.upto treeFullSpec)

/-- 'potsherdlaw19.TreeTakes', WHERE WHAT IT READS IS OF BULK AT MOST 1048576: true; the input reads as it did. -/
def treeTakesUptoRow : OpenClaim := { program := "ytdlgpolngnkiaaadoor", sum := "0451914d170e10a52b7723aa86b1370409b4d80ad621bab02e5c0b874d28e61a", func := "potsherd/potsherdlaw19.TreeTakes", spec := "treeTakes", inPlace := ["internal/bytealg.CountString", "internal/bytealg.IndexByteString", "internal/bytealg.IndexString", "internal/abi.NoEscape", "internal/bytealg.MakeNoZero"], unfollowed := true, recurses := true, named := ["unicode/utf8.first", "unicode/utf8.acceptRanges", "internal/bytealg.MaxLen"], apart := false, laid := [("unicode/utf8.acceptRanges", laid_unicode_utf8_acceptRanges), ("unicode/utf8.first", laid_unicode_utf8_first)], narrowed := true }
def TreeTakesUptoSaid : Prop := treeTakesUptoRow.holds Tryd.pinned (OpenSpec.upto treeTakesSpec)

/-- 'potsherdlaw19.TreeDirs', WHERE WHAT IT READS IS OF BULK AT MOST 1048576: true; the input reads as it did. -/
def treeDirsUptoRow : OpenClaim := { program := "ytdlgpolngnkiaaadoor", sum := "0451914d170e10a52b7723aa86b1370409b4d80ad621bab02e5c0b874d28e61a", func := "potsherd/potsherdlaw19.TreeDirs", spec := "treeDirs", inPlace := ["internal/bytealg.CountString", "internal/bytealg.IndexByteString", "internal/bytealg.IndexString", "internal/abi.NoEscape", "internal/bytealg.MakeNoZero"], unfollowed := true, recurses := true, named := ["unicode/utf8.first", "unicode/utf8.acceptRanges", "internal/bytealg.MaxLen"], apart := false, laid := [("unicode/utf8.acceptRanges", laid_unicode_utf8_acceptRanges), ("unicode/utf8.first", laid_unicode_utf8_first)], narrowed := true }
def TreeDirsUptoSaid : Prop := treeDirsUptoRow.holds Tryd.pinned (OpenSpec.upto treeDirsSpec)

/-- 'potsherdlaw19.TreeMay', WHERE WHAT IT READS IS OF BULK AT MOST 1048576: true; the input reads as it did. -/
def treeMayUptoRow : OpenClaim := { program := "ytdlgpolngnkiaaadoor", sum := "0451914d170e10a52b7723aa86b1370409b4d80ad621bab02e5c0b874d28e61a", func := "potsherd/potsherdlaw19.TreeMay", spec := "treeMay", inPlace := ["internal/bytealg.CountString", "internal/bytealg.IndexByteString", "internal/bytealg.IndexString", "internal/abi.NoEscape", "internal/bytealg.MakeNoZero"], unfollowed := true, recurses := true, named := ["unicode/utf8.first", "unicode/utf8.acceptRanges", "internal/bytealg.MaxLen"], apart := false, laid := [("unicode/utf8.acceptRanges", laid_unicode_utf8_acceptRanges), ("unicode/utf8.first", laid_unicode_utf8_first)], narrowed := true }
def TreeMayUptoSaid : Prop := treeMayUptoRow.holds Tryd.pinned (OpenSpec.upto treeMaySpec)

/-- 'potsherdlaw19.TreeHolds', WHERE WHAT IT READS IS OF BULK AT MOST 1048576: true; the input reads as it did. -/
def treeHoldsUptoRow : OpenClaim := { program := "ytdlgpolngnkiaaadoor", sum := "0451914d170e10a52b7723aa86b1370409b4d80ad621bab02e5c0b874d28e61a", func := "potsherd/potsherdlaw19.TreeHolds", spec := "treeHolds", inPlace := ["internal/bytealg.CountString", "internal/bytealg.IndexByteString", "internal/bytealg.IndexString", "internal/abi.NoEscape", "internal/bytealg.MakeNoZero"], unfollowed := true, recurses := true, named := ["unicode/utf8.first", "unicode/utf8.acceptRanges", "internal/bytealg.MaxLen"], apart := false, laid := [("unicode/utf8.acceptRanges", laid_unicode_utf8_acceptRanges), ("unicode/utf8.first", laid_unicode_utf8_first)], narrowed := true }
def TreeHoldsUptoSaid : Prop := treeHoldsUptoRow.holds Tryd.pinned (OpenSpec.upto treeHoldsSpec)

end Rows
end Go.Proofs.YtdlgpolngnkiaaaDoor
