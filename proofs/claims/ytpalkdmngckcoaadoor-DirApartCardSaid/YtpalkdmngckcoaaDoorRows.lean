/-
  NARROWER THAN 'FOR EVERY INPUT', by the rows' own cells (each row's printed sentence says how): DirFrees: laid · DirInside: laid · DirApart: laid · DirCopies: laid · DirWalks: laid · DirCounts: laid · RootClears: laid.
  DERIVED. THE GIVEN ROWS OF THIS SEAT. 7 by the template 'for every input the law returns true; each argument reads behind the call as it read before'; 0 by the template 'total and deterministic' (their statements: YtpalkdmngckcoaaDoorTotals.lean).
  GIVEN WITH THE SEED: the statements are not yours to turn. If you find one false, say at which input.
  Laid BY PROGRAM, IN A SANDBOX (cutbox-rows.mjs): the forced cells as the released guide's own fill.sh prints them over the translation 49b6f0cece015210… (all of the seat's roots in one cut). By AI agents, Wed Nov 11 2026. No macro, syntax, notation, axiom, sorry.
-/
import Derived.Test.YtpalkdmngckcoaaDoorChecked
import GoSem.PinnedTables
import GoSem.Claim
import GoSem.ClaimJoined
import GoSem.ClaimMapViews
import Derived.JoinedTies
import Derived.KernelRfl
namespace Go.Proofs.YtpalkdmngckcoaaDoor
/- THE CELL 'sum', in the pinned program and in every row, IS THE sha256 OF THE DUMP (.gsa) THAT YtpalkdmngckcoaaDoorProg.lean LOADS. Nothing in Lean hashes anything: it is a label: what it is worth is what the hold of that sum in a sandbox is worth. -/
noncomputable def Tryd.pinned : Pinned := { name := "ytpalkdmngckcoaadoor", sum := "49b6f0cece0152109d96f731b67875aac934ae1ac96b3989cb6d1b982ecf2826", checked := Tryd.checked }
namespace Rows
def none {H : Type} : Left H := { results := [], args := [] }

/- WHAT THE LISTED PACKAGE-LEVEL VARIABLES READ AS WHEN THE CALL BEGINS. Each datum BY PROGRAM (the guide's laid-datum.mjs) off the statement by which the dump's own 'gosem.cut.vars' lays the variable. In a bare row this is a premise. The card (YtpalkdmngckcoaaDoorCards.lean) ties it to the program's text. -/
def laid_unicode_utf8_acceptRanges {H : Type} : DataW H := .agg [.agg [.lit (.int .u8 128), .lit (.int .u8 191)], .agg [.lit (.int .u8 160), .lit (.int .u8 191)], .agg [.lit (.int .u8 128), .lit (.int .u8 159)], .agg [.lit (.int .u8 144), .lit (.int .u8 191)], .agg [.lit (.int .u8 128), .lit (.int .u8 143)], .agg [.lit (.int .u8 0), .lit (.int .u8 0)], .agg [.lit (.int .u8 0), .lit (.int .u8 0)], .agg [.lit (.int .u8 0), .lit (.int .u8 0)], .agg [.lit (.int .u8 0), .lit (.int .u8 0)], .agg [.lit (.int .u8 0), .lit (.int .u8 0)], .agg [.lit (.int .u8 0), .lit (.int .u8 0)], .agg [.lit (.int .u8 0), .lit (.int .u8 0)], .agg [.lit (.int .u8 0), .lit (.int .u8 0)], .agg [.lit (.int .u8 0), .lit (.int .u8 0)], .agg [.lit (.int .u8 0), .lit (.int .u8 0)], .agg [.lit (.int .u8 0), .lit (.int .u8 0)]]
/-- One of Go's own tables, pinned by name: the form's constant. -/
def laid_unicode_utf8_first : DataW Unit := Go.Pinned.utf8First

/-- 'potsherdlaw15.DirFrees': WHATEVER THE INPUT: true; the input reads as it did. -/
def dirFreesSpec : ChangeSpec := { name := "dirFrees", fn := fun _ => fun
  | [d] => { results := [.lit (.bool true)], args := [d] }
  | _ => none }
def dirFreesRow : OpenClaim := { program := "ytpalkdmngckcoaadoor", sum := "49b6f0cece0152109d96f731b67875aac934ae1ac96b3989cb6d1b982ecf2826", func := "potsherd/potsherdlaw15.DirFrees", spec := "dirFrees", inPlace := ["internal/bytealg.CountString", "internal/bytealg.IndexByteString", "internal/bytealg.IndexString", "internal/abi.NoEscape", "internal/bytealg.MakeNoZero"], unfollowed := true, recurses := true, named := ["unicode/utf8.first", "unicode/utf8.acceptRanges", "internal/bytealg.MaxLen"], apart := false, laid := [("unicode/utf8.acceptRanges", laid_unicode_utf8_acceptRanges), ("unicode/utf8.first", laid_unicode_utf8_first)] }
def DirFreesSaid : Prop := dirFreesRow.holds Tryd.pinned (OpenSpec.ofChange dirFreesSpec)

/-- ITS FALSE NEIGHBOUR: 'it returns false'. Refute it at one input. -/
def dirFreesWrong : ChangeSpec := { name := "dirFrees", fn := fun _ => fun
  | [d] => { results := [.lit (.bool false)], args := [d] }
  | _ => none }
def DirFreesWrongFalsely : Prop := dirFreesRow.holds Tryd.pinned (OpenSpec.ofChange dirFreesWrong)

/-- 'potsherdlaw15.DirInside': WHATEVER THE INPUT: true; the input reads as it did. -/
def dirInsideSpec : ChangeSpec := { name := "dirInside", fn := fun _ => fun
  | [d1, d2, d3, d4] => { results := [.lit (.bool true)], args := [d1, d2, d3, d4] }
  | _ => none }
def dirInsideRow : OpenClaim := { program := "ytpalkdmngckcoaadoor", sum := "49b6f0cece0152109d96f731b67875aac934ae1ac96b3989cb6d1b982ecf2826", func := "potsherd/potsherdlaw15.DirInside", spec := "dirInside", inPlace := ["internal/bytealg.CountString", "internal/bytealg.IndexByteString", "internal/bytealg.IndexString", "internal/abi.NoEscape", "internal/bytealg.MakeNoZero"], unfollowed := true, recurses := true, named := ["unicode/utf8.first", "unicode/utf8.acceptRanges", "internal/bytealg.MaxLen"], apart := false, laid := [("unicode/utf8.acceptRanges", laid_unicode_utf8_acceptRanges), ("unicode/utf8.first", laid_unicode_utf8_first)] }
def DirInsideSaid : Prop := dirInsideRow.holds Tryd.pinned (OpenSpec.ofChange dirInsideSpec)

/-- ITS FALSE NEIGHBOUR: 'it returns false'. Refute it at one input. -/
def dirInsideWrong : ChangeSpec := { name := "dirInside", fn := fun _ => fun
  | [d1, d2, d3, d4] => { results := [.lit (.bool false)], args := [d1, d2, d3, d4] }
  | _ => none }
def DirInsideWrongFalsely : Prop := dirInsideRow.holds Tryd.pinned (OpenSpec.ofChange dirInsideWrong)

/-- 'potsherdlaw15.DirApart': WHATEVER THE INPUT: true; the input reads as it did. -/
def dirApartSpec : ChangeSpec := { name := "dirApart", fn := fun _ => fun
  | [d1, d2, d3] => { results := [.lit (.bool true)], args := [d1, d2, d3] }
  | _ => none }
def dirApartRow : OpenClaim := { program := "ytpalkdmngckcoaadoor", sum := "49b6f0cece0152109d96f731b67875aac934ae1ac96b3989cb6d1b982ecf2826", func := "potsherd/potsherdlaw15.DirApart", spec := "dirApart", inPlace := ["internal/bytealg.CountString", "internal/bytealg.IndexByteString", "internal/bytealg.IndexString", "internal/abi.NoEscape", "internal/bytealg.MakeNoZero"], unfollowed := true, recurses := true, named := ["unicode/utf8.first", "unicode/utf8.acceptRanges", "internal/bytealg.MaxLen"], apart := false, laid := [("unicode/utf8.acceptRanges", laid_unicode_utf8_acceptRanges), ("unicode/utf8.first", laid_unicode_utf8_first)] }
def DirApartSaid : Prop := dirApartRow.holds Tryd.pinned (OpenSpec.ofChange dirApartSpec)

/-- ITS FALSE NEIGHBOUR: 'it returns false'. Refute it at one input. -/
def dirApartWrong : ChangeSpec := { name := "dirApart", fn := fun _ => fun
  | [d1, d2, d3] => { results := [.lit (.bool false)], args := [d1, d2, d3] }
  | _ => none }
def DirApartWrongFalsely : Prop := dirApartRow.holds Tryd.pinned (OpenSpec.ofChange dirApartWrong)

/-- 'potsherdlaw15.DirCopies': WHATEVER THE INPUT: true; the input reads as it did. -/
def dirCopiesSpec : ChangeSpec := { name := "dirCopies", fn := fun _ => fun
  | [d1, d2] => { results := [.lit (.bool true)], args := [d1, d2] }
  | _ => none }
def dirCopiesRow : OpenClaim := { program := "ytpalkdmngckcoaadoor", sum := "49b6f0cece0152109d96f731b67875aac934ae1ac96b3989cb6d1b982ecf2826", func := "potsherd/potsherdlaw15.DirCopies", spec := "dirCopies", inPlace := ["internal/bytealg.CountString", "internal/bytealg.IndexByteString", "internal/bytealg.IndexString", "internal/abi.NoEscape", "internal/bytealg.MakeNoZero"], unfollowed := true, recurses := true, named := ["unicode/utf8.first", "unicode/utf8.acceptRanges", "internal/bytealg.MaxLen"], apart := false, laid := [("unicode/utf8.acceptRanges", laid_unicode_utf8_acceptRanges), ("unicode/utf8.first", laid_unicode_utf8_first)] }
def DirCopiesSaid : Prop := dirCopiesRow.holds Tryd.pinned (OpenSpec.ofChange dirCopiesSpec)

/-- ITS FALSE NEIGHBOUR: 'it returns false'. Refute it at one input. -/
def dirCopiesWrong : ChangeSpec := { name := "dirCopies", fn := fun _ => fun
  | [d1, d2] => { results := [.lit (.bool false)], args := [d1, d2] }
  | _ => none }
def DirCopiesWrongFalsely : Prop := dirCopiesRow.holds Tryd.pinned (OpenSpec.ofChange dirCopiesWrong)

/-- 'potsherdlaw15.DirWalks': WHATEVER THE INPUT: true; the input reads as it did. -/
def dirWalksSpec : ChangeSpec := { name := "dirWalks", fn := fun _ => fun
  | [d1, d2] => { results := [.lit (.bool true)], args := [d1, d2] }
  | _ => none }
def dirWalksRow : OpenClaim := { program := "ytpalkdmngckcoaadoor", sum := "49b6f0cece0152109d96f731b67875aac934ae1ac96b3989cb6d1b982ecf2826", func := "potsherd/potsherdlaw15.DirWalks", spec := "dirWalks", inPlace := ["internal/bytealg.CountString", "internal/bytealg.IndexByteString", "internal/bytealg.IndexString", "internal/abi.NoEscape", "internal/bytealg.MakeNoZero"], unfollowed := true, recurses := true, named := ["unicode/utf8.first", "unicode/utf8.acceptRanges", "internal/bytealg.MaxLen"], apart := false, laid := [("unicode/utf8.acceptRanges", laid_unicode_utf8_acceptRanges), ("unicode/utf8.first", laid_unicode_utf8_first)] }
def DirWalksSaid : Prop := dirWalksRow.holds Tryd.pinned (OpenSpec.ofChange dirWalksSpec)

/-- ITS FALSE NEIGHBOUR: 'it returns false'. Refute it at one input. -/
def dirWalksWrong : ChangeSpec := { name := "dirWalks", fn := fun _ => fun
  | [d1, d2] => { results := [.lit (.bool false)], args := [d1, d2] }
  | _ => none }
def DirWalksWrongFalsely : Prop := dirWalksRow.holds Tryd.pinned (OpenSpec.ofChange dirWalksWrong)

/-- 'potsherdlaw15.DirCounts': WHATEVER THE INPUT: true; the input reads as it did. -/
def dirCountsSpec : ChangeSpec := { name := "dirCounts", fn := fun _ => fun
  | [d1, d2] => { results := [.lit (.bool true)], args := [d1, d2] }
  | _ => none }
def dirCountsRow : OpenClaim := { program := "ytpalkdmngckcoaadoor", sum := "49b6f0cece0152109d96f731b67875aac934ae1ac96b3989cb6d1b982ecf2826", func := "potsherd/potsherdlaw15.DirCounts", spec := "dirCounts", inPlace := ["internal/bytealg.CountString", "internal/bytealg.IndexByteString", "internal/bytealg.IndexString", "internal/abi.NoEscape", "internal/bytealg.MakeNoZero"], unfollowed := true, recurses := true, named := ["unicode/utf8.first", "unicode/utf8.acceptRanges", "internal/bytealg.MaxLen"], apart := false, laid := [("unicode/utf8.acceptRanges", laid_unicode_utf8_acceptRanges), ("unicode/utf8.first", laid_unicode_utf8_first)] }
def DirCountsSaid : Prop := dirCountsRow.holds Tryd.pinned (OpenSpec.ofChange dirCountsSpec)

/-- ITS FALSE NEIGHBOUR: 'it returns false'. Refute it at one input. -/
def dirCountsWrong : ChangeSpec := { name := "dirCounts", fn := fun _ => fun
  | [d1, d2] => { results := [.lit (.bool false)], args := [d1, d2] }
  | _ => none }
def DirCountsWrongFalsely : Prop := dirCountsRow.holds Tryd.pinned (OpenSpec.ofChange dirCountsWrong)

/-- 'potsherdlaw17.RootClears': WHATEVER THE INPUT: true; the input reads as it did. -/
def rootClearsSpec : ChangeSpec := { name := "rootClears", fn := fun _ => fun
  | [d] => { results := [.lit (.bool true)], args := [d] }
  | _ => none }
def rootClearsRow : OpenClaim := { program := "ytpalkdmngckcoaadoor", sum := "49b6f0cece0152109d96f731b67875aac934ae1ac96b3989cb6d1b982ecf2826", func := "potsherd/potsherdlaw17.RootClears", spec := "rootClears", inPlace := ["internal/abi.NoEscape", "internal/bytealg.MakeNoZero", "internal/bytealg.CountString", "internal/bytealg.IndexByteString", "internal/bytealg.IndexString"], unfollowed := true, recurses := true, named := ["unicode/utf8.first", "unicode/utf8.acceptRanges", "internal/bytealg.MaxLen"], apart := false, laid := [("unicode/utf8.acceptRanges", laid_unicode_utf8_acceptRanges), ("unicode/utf8.first", laid_unicode_utf8_first)] }
def RootClearsSaid : Prop := rootClearsRow.holds Tryd.pinned (OpenSpec.ofChange rootClearsSpec)

/-- ITS FALSE NEIGHBOUR: 'it returns false'. Refute it at one input. -/
def rootClearsWrong : ChangeSpec := { name := "rootClears", fn := fun _ => fun
  | [d] => { results := [.lit (.bool false)], args := [d] }
  | _ => none }
def RootClearsWrongFalsely : Prop := rootClearsRow.holds Tryd.pinned (OpenSpec.ofChange rootClearsWrong)

/- THE SECOND FORM. 'bulk': how many values and letters a reading holds, each counted each time it is reached (what is shared counts as often as it is met; a slice's spare places count too). A statement '..UptoSaid' is the law's where the arguments, and the package variables that the reading takes, are together of bulk at most 1048576: NARROWER than '..Said'. Prove '..Said' where nothing that the law and all that it calls make is longer than what came in: it says more and counts as full. Else prove '..UptoSaid'. A law counts once. -/
mutual
def uptoBulk {H : Type} : DataW H → Nat
  | .lit (.string bytes) => bytes.length + 1
  | .lit _ => 1
  | .nil => 1
  | .ptr d => uptoBulk d + 1
  | .slice elems spare => uptoBulkAll elems + uptoBulkAll spare + 1
  | .agg parts => uptoBulkAll parts + 1
  | .iface _ d => uptoBulk d + 1
  | .map entries => uptoBulkEntries entries + 1
  | .held _ => 1
def uptoBulkAll {H : Type} : List (DataW H) → Nat
  | [] => 0
  | d :: r => uptoBulk d + uptoBulkAll r
def uptoBulkEntries {H : Type} : List (Lit × DataW H) → Nat
  | [] => 0
  | x :: r => uptoBulkEntry x + uptoBulkEntries r
def uptoBulkEntry {H : Type} : Lit × DataW H → Nat
  | (.string bytes, d) => bytes.length + uptoBulk d + 1
  | (_, d) => uptoBulk d + 1
 end
def uptoSmall : (H : Type) → List (DataW H) → Bool := fun _ ds => decide (uptoBulkAll ds ≤ 1048576)
def OpenSpec.upto (s : _root_.Go.ChangeSpec) : _root_.Go.OpenSpec := { _root_.Go.OpenSpec.ofChange s with cond := some uptoSmall }

/-- 'potsherdlaw15.DirFrees', WHERE WHAT IT READS IS OF BULK AT MOST 1048576: true; the input reads as it did. -/
def dirFreesUptoRow : OpenClaim := { program := "ytpalkdmngckcoaadoor", sum := "49b6f0cece0152109d96f731b67875aac934ae1ac96b3989cb6d1b982ecf2826", func := "potsherd/potsherdlaw15.DirFrees", spec := "dirFrees", inPlace := ["internal/bytealg.CountString", "internal/bytealg.IndexByteString", "internal/bytealg.IndexString", "internal/abi.NoEscape", "internal/bytealg.MakeNoZero"], unfollowed := true, recurses := true, named := ["unicode/utf8.first", "unicode/utf8.acceptRanges", "internal/bytealg.MaxLen"], apart := false, laid := [("unicode/utf8.acceptRanges", laid_unicode_utf8_acceptRanges), ("unicode/utf8.first", laid_unicode_utf8_first)], narrowed := true }
def DirFreesUptoSaid : Prop := dirFreesUptoRow.holds Tryd.pinned (OpenSpec.upto dirFreesSpec)

/-- 'potsherdlaw15.DirInside', WHERE WHAT IT READS IS OF BULK AT MOST 1048576: true; the input reads as it did. -/
def dirInsideUptoRow : OpenClaim := { program := "ytpalkdmngckcoaadoor", sum := "49b6f0cece0152109d96f731b67875aac934ae1ac96b3989cb6d1b982ecf2826", func := "potsherd/potsherdlaw15.DirInside", spec := "dirInside", inPlace := ["internal/bytealg.CountString", "internal/bytealg.IndexByteString", "internal/bytealg.IndexString", "internal/abi.NoEscape", "internal/bytealg.MakeNoZero"], unfollowed := true, recurses := true, named := ["unicode/utf8.first", "unicode/utf8.acceptRanges", "internal/bytealg.MaxLen"], apart := false, laid := [("unicode/utf8.acceptRanges", laid_unicode_utf8_acceptRanges), ("unicode/utf8.first", laid_unicode_utf8_first)], narrowed := true }
def DirInsideUptoSaid : Prop := dirInsideUptoRow.holds Tryd.pinned (OpenSpec.upto dirInsideSpec)

/-- 'potsherdlaw15.DirApart', WHERE WHAT IT READS IS OF BULK AT MOST 1048576: true; the input reads as it did. -/
def dirApartUptoRow : OpenClaim := { program := "ytpalkdmngckcoaadoor", sum := "49b6f0cece0152109d96f731b67875aac934ae1ac96b3989cb6d1b982ecf2826", func := "potsherd/potsherdlaw15.DirApart", spec := "dirApart", inPlace := ["internal/bytealg.CountString", "internal/bytealg.IndexByteString", "internal/bytealg.IndexString", "internal/abi.NoEscape", "internal/bytealg.MakeNoZero"], unfollowed := true, recurses := true, named := ["unicode/utf8.first", "unicode/utf8.acceptRanges", "internal/bytealg.MaxLen"], apart := false, laid := [("unicode/utf8.acceptRanges", laid_unicode_utf8_acceptRanges), ("unicode/utf8.first", laid_unicode_utf8_first)], narrowed := true }
def DirApartUptoSaid : Prop := dirApartUptoRow.holds Tryd.pinned (OpenSpec.upto dirApartSpec)

/-- 'potsherdlaw15.DirCopies', WHERE WHAT IT READS IS OF BULK AT MOST 1048576: true; the input reads as it did. -/
def dirCopiesUptoRow : OpenClaim := { program := "ytpalkdmngckcoaadoor", sum := "49b6f0cece0152109d96f731b67875aac934ae1ac96b3989cb6d1b982ecf2826", func := "potsherd/potsherdlaw15.DirCopies", spec := "dirCopies", inPlace := ["internal/bytealg.CountString", "internal/bytealg.IndexByteString", "internal/bytealg.IndexString", "internal/abi.NoEscape", "internal/bytealg.MakeNoZero"], unfollowed := true, recurses := true, named := ["unicode/utf8.first", "unicode/utf8.acceptRanges", "internal/bytealg.MaxLen"], apart := false, laid := [("unicode/utf8.acceptRanges", laid_unicode_utf8_acceptRanges), ("unicode/utf8.first", laid_unicode_utf8_first)], narrowed := true }
def DirCopiesUptoSaid : Prop := dirCopiesUptoRow.holds Tryd.pinned (OpenSpec.upto dirCopiesSpec)

/-- 'potsherdlaw15.DirWalks', WHERE WHAT IT READS IS OF BULK AT MOST 1048576: true; the input reads as it did. -/
def dirWalksUptoRow : OpenClaim := { program := "ytpalkdmngckcoaadoor", sum := "49b6f0cece0152109d96f731b67875aac934ae1ac96b3989cb6d1b982ecf2826", func := "potsherd/potsherdlaw15.DirWalks", spec := "dirWalks", inPlace := ["internal/bytealg.CountString", "internal/bytealg.IndexByteString", "internal/bytealg.IndexString", "internal/abi.NoEscape", "internal/bytealg.MakeNoZero"], unfollowed := true, recurses := true, named := ["unicode/utf8.first", "unicode/utf8.acceptRanges", "internal/bytealg.MaxLen"], apart := false, laid := [("unicode/utf8.acceptRanges", laid_unicode_utf8_acceptRanges), ("unicode/utf8.first", laid_unicode_utf8_first)], narrowed := true }
def DirWalksUptoSaid : Prop := dirWalksUptoRow.holds Tryd.pinned (OpenSpec.upto dirWalksSpec)

/-- 'potsherdlaw15.DirCounts', WHERE WHAT IT READS IS OF BULK AT MOST 1048576: true; the input reads as it did. -/
def dirCountsUptoRow : OpenClaim := { program := "ytpalkdmngckcoaadoor", sum := "49b6f0cece0152109d96f731b67875aac934ae1ac96b3989cb6d1b982ecf2826", func := "potsherd/potsherdlaw15.DirCounts", spec := "dirCounts", inPlace := ["internal/bytealg.CountString", "internal/bytealg.IndexByteString", "internal/bytealg.IndexString", "internal/abi.NoEscape", "internal/bytealg.MakeNoZero"], unfollowed := true, recurses := true, named := ["unicode/utf8.first", "unicode/utf8.acceptRanges", "internal/bytealg.MaxLen"], apart := false, laid := [("unicode/utf8.acceptRanges", laid_unicode_utf8_acceptRanges), ("unicode/utf8.first", laid_unicode_utf8_first)], narrowed := true }
def DirCountsUptoSaid : Prop := dirCountsUptoRow.holds Tryd.pinned (OpenSpec.upto dirCountsSpec)

/-- 'potsherdlaw17.RootClears', WHERE WHAT IT READS IS OF BULK AT MOST 1048576: true; the input reads as it did. -/
def rootClearsUptoRow : OpenClaim := { program := "ytpalkdmngckcoaadoor", sum := "49b6f0cece0152109d96f731b67875aac934ae1ac96b3989cb6d1b982ecf2826", func := "potsherd/potsherdlaw17.RootClears", spec := "rootClears", inPlace := ["internal/abi.NoEscape", "internal/bytealg.MakeNoZero", "internal/bytealg.CountString", "internal/bytealg.IndexByteString", "internal/bytealg.IndexString"], unfollowed := true, recurses := true, named := ["unicode/utf8.first", "unicode/utf8.acceptRanges", "internal/bytealg.MaxLen"], apart := false, laid := [("unicode/utf8.acceptRanges", laid_unicode_utf8_acceptRanges), ("unicode/utf8.first", laid_unicode_utf8_first)], narrowed := true }
def RootClearsUptoSaid : Prop := rootClearsUptoRow.holds Tryd.pinned (OpenSpec.upto rootClearsSpec)

end Rows
end Go.Proofs.YtpalkdmngckcoaaDoor
