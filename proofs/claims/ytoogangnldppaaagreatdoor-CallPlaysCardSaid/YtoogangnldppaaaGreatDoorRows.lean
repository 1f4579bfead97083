/-
  NARROWER THAN 'FOR EVERY INPUT', by the rows' own cells (each row's printed sentence says how): CallOthers: laid · CallLists: laid · CallLooks: laid · CallSpace: laid · CallPlays: laid · CallRestarts: laid · CallCopies: laid · CallNil: laid.
  DERIVED. THE GIVEN ROWS OF THIS SEAT. 8 by the template 'for every input the law returns true; each argument reads behind the call as it read before'; 0 by the template 'total and deterministic' (their statements: YtoogangnldppaaaGreatDoorTotals.lean).
  GIVEN WITH THE SEED: the statements are not yours to turn. If you find one false, say at which input.
  Laid BY PROGRAM, IN A SANDBOX (cutbox-rows.mjs): the forced cells as the released guide's own fill.sh prints them over the translation 3b57ecd18895c09c… (all of the seat's roots in one cut). By AI agents, Wed Nov 11 2026. No macro, syntax, notation, axiom, sorry.
-/
import Derived.Test.YtoogangnldppaaaGreatDoorChecked
import GoSem.PinnedTables
import GoSem.Claim
import GoSem.ClaimJoined
import GoSem.ClaimMapViews
import Derived.JoinedTies
import Derived.KernelRfl
namespace Go.Proofs.YtoogangnldppaaaGreatDoor
/- THE CELL 'sum', in the pinned program and in every row, IS THE sha256 OF THE DUMP (.gsa) THAT YtoogangnldppaaaGreatDoorProg.lean LOADS. Nothing in Lean hashes anything: it is a label: what it is worth is what the hold of that sum in a sandbox is worth. -/
noncomputable def Tryz.pinned : Pinned := { name := "ytoogangnldppaaagreatdoor", sum := "3b57ecd18895c09c9d36d920729cb54661a5979e5946b7a9396c15a6ba1e1ced", checked := Tryz.checked }
namespace Rows
def none {H : Type} : Left H := { results := [], args := [] }

/- WHAT THE LISTED PACKAGE-LEVEL VARIABLES READ AS WHEN THE CALL BEGINS. Each datum BY PROGRAM (the guide's laid-datum.mjs) off the statement by which the dump's own 'gosem.cut.vars' lays the variable. In a bare row this is a premise. The card (YtoogangnldppaaaGreatDoorCards.lean) ties it to the program's text. -/
def laid_unicode_utf8_acceptRanges {H : Type} : DataW H := .agg [.agg [.lit (.int .u8 128), .lit (.int .u8 191)], .agg [.lit (.int .u8 160), .lit (.int .u8 191)], .agg [.lit (.int .u8 128), .lit (.int .u8 159)], .agg [.lit (.int .u8 144), .lit (.int .u8 191)], .agg [.lit (.int .u8 128), .lit (.int .u8 143)], .agg [.lit (.int .u8 0), .lit (.int .u8 0)], .agg [.lit (.int .u8 0), .lit (.int .u8 0)], .agg [.lit (.int .u8 0), .lit (.int .u8 0)], .agg [.lit (.int .u8 0), .lit (.int .u8 0)], .agg [.lit (.int .u8 0), .lit (.int .u8 0)], .agg [.lit (.int .u8 0), .lit (.int .u8 0)], .agg [.lit (.int .u8 0), .lit (.int .u8 0)], .agg [.lit (.int .u8 0), .lit (.int .u8 0)], .agg [.lit (.int .u8 0), .lit (.int .u8 0)], .agg [.lit (.int .u8 0), .lit (.int .u8 0)], .agg [.lit (.int .u8 0), .lit (.int .u8 0)]]
/-- One of Go's own tables, pinned by name: the form's constant. -/
def laid_unicode_utf8_first : DataW Unit := Go.Pinned.utf8First

/-- 'potsherdlaw22.CallOthers': WHATEVER THE INPUT: true; the input reads as it did. -/
def callOthersSpec : ChangeSpec := { name := "callOthers", fn := fun _ => fun
  | [d1, d2, d3, d4] => { results := [.lit (.bool true)], args := [d1, d2, d3, d4] }
  | _ => none }
def callOthersRow : OpenClaim := { program := "ytoogangnldppaaagreatdoor", sum := "3b57ecd18895c09c9d36d920729cb54661a5979e5946b7a9396c15a6ba1e1ced", func := "potsherd/potsherdlaw22.CallOthers", spec := "callOthers", inPlace := ["internal/bytealg.CountString", "internal/bytealg.IndexByteString", "internal/bytealg.IndexString", "internal/abi.NoEscape", "internal/bytealg.MakeNoZero"], unfollowed := true, recurses := true, named := ["unicode/utf8.first", "unicode/utf8.acceptRanges", "internal/bytealg.MaxLen"], apart := false, laid := [("unicode/utf8.acceptRanges", laid_unicode_utf8_acceptRanges), ("unicode/utf8.first", laid_unicode_utf8_first)] }
def CallOthersSaid : Prop := callOthersRow.holds Tryz.pinned (OpenSpec.ofChange callOthersSpec)

/-- ITS FALSE NEIGHBOUR: 'it returns false'. Refute it at one input. -/
def callOthersWrong : ChangeSpec := { name := "callOthers", fn := fun _ => fun
  | [d1, d2, d3, d4] => { results := [.lit (.bool false)], args := [d1, d2, d3, d4] }
  | _ => none }
def CallOthersWrongFalsely : Prop := callOthersRow.holds Tryz.pinned (OpenSpec.ofChange callOthersWrong)

/-- 'potsherdlaw22.CallLists': WHATEVER THE INPUT: true; the input reads as it did. -/
def callListsSpec : ChangeSpec := { name := "callLists", fn := fun _ => fun
  | [d1, d2] => { results := [.lit (.bool true)], args := [d1, d2] }
  | _ => none }
def callListsRow : OpenClaim := { program := "ytoogangnldppaaagreatdoor", sum := "3b57ecd18895c09c9d36d920729cb54661a5979e5946b7a9396c15a6ba1e1ced", func := "potsherd/potsherdlaw22.CallLists", spec := "callLists", inPlace := ["internal/bytealg.CountString", "internal/bytealg.IndexByteString", "internal/bytealg.IndexString", "internal/abi.NoEscape", "internal/bytealg.MakeNoZero"], unfollowed := true, recurses := true, named := ["unicode/utf8.first", "unicode/utf8.acceptRanges", "internal/bytealg.MaxLen"], apart := false, laid := [("unicode/utf8.acceptRanges", laid_unicode_utf8_acceptRanges), ("unicode/utf8.first", laid_unicode_utf8_first)] }
def CallListsSaid : Prop := callListsRow.holds Tryz.pinned (OpenSpec.ofChange callListsSpec)

/-- ITS FALSE NEIGHBOUR: 'it returns false'. Refute it at one input. -/
def callListsWrong : ChangeSpec := { name := "callLists", fn := fun _ => fun
  | [d1, d2] => { results := [.lit (.bool false)], args := [d1, d2] }
  | _ => none }
def CallListsWrongFalsely : Prop := callListsRow.holds Tryz.pinned (OpenSpec.ofChange callListsWrong)

/-- 'potsherdlaw22.CallLooks': WHATEVER THE INPUT: true; the input reads as it did. -/
def callLooksSpec : ChangeSpec := { name := "callLooks", fn := fun _ => fun
  | [d1, d2] => { results := [.lit (.bool true)], args := [d1, d2] }
  | _ => none }
def callLooksRow : OpenClaim := { program := "ytoogangnldppaaagreatdoor", sum := "3b57ecd18895c09c9d36d920729cb54661a5979e5946b7a9396c15a6ba1e1ced", func := "potsherd/potsherdlaw22.CallLooks", spec := "callLooks", inPlace := ["internal/bytealg.CountString", "internal/bytealg.IndexByteString", "internal/bytealg.IndexString", "internal/abi.NoEscape", "internal/bytealg.MakeNoZero"], unfollowed := true, recurses := true, named := ["unicode/utf8.first", "unicode/utf8.acceptRanges", "internal/bytealg.MaxLen"], apart := false, laid := [("unicode/utf8.acceptRanges", laid_unicode_utf8_acceptRanges), ("unicode/utf8.first", laid_unicode_utf8_first)] }
def CallLooksSaid : Prop := callLooksRow.holds Tryz.pinned (OpenSpec.ofChange callLooksSpec)

/-- ITS FALSE NEIGHBOUR: 'it returns false'. Refute it at one input. -/
def callLooksWrong : ChangeSpec := { name := "callLooks", fn := fun _ => fun
  | [d1, d2] => { results := [.lit (.bool false)], args := [d1, d2] }
  | _ => none }
def CallLooksWrongFalsely : Prop := callLooksRow.holds Tryz.pinned (OpenSpec.ofChange callLooksWrong)

/-- 'potsherdlaw22.CallSpace': WHATEVER THE INPUT: true; the input reads as it did. -/
def callSpaceSpec : ChangeSpec := { name := "callSpace", fn := fun _ => fun
  | [d1, d2] => { results := [.lit (.bool true)], args := [d1, d2] }
  | _ => none }
def callSpaceRow : OpenClaim := { program := "ytoogangnldppaaagreatdoor", sum := "3b57ecd18895c09c9d36d920729cb54661a5979e5946b7a9396c15a6ba1e1ced", func := "potsherd/potsherdlaw22.CallSpace", spec := "callSpace", inPlace := ["internal/bytealg.CountString", "internal/bytealg.IndexByteString", "internal/bytealg.IndexString", "internal/abi.NoEscape", "internal/bytealg.MakeNoZero"], unfollowed := true, recurses := true, named := ["unicode/utf8.first", "unicode/utf8.acceptRanges", "internal/bytealg.MaxLen"], apart := false, laid := [("unicode/utf8.acceptRanges", laid_unicode_utf8_acceptRanges), ("unicode/utf8.first", laid_unicode_utf8_first)] }
def CallSpaceSaid : Prop := callSpaceRow.holds Tryz.pinned (OpenSpec.ofChange callSpaceSpec)

/-- ITS FALSE NEIGHBOUR: 'it returns false'. Refute it at one input. -/
def callSpaceWrong : ChangeSpec := { name := "callSpace", fn := fun _ => fun
  | [d1, d2] => { results := [.lit (.bool false)], args := [d1, d2] }
  | _ => none }
def CallSpaceWrongFalsely : Prop := callSpaceRow.holds Tryz.pinned (OpenSpec.ofChange callSpaceWrong)

/-- 'potsherdlaw22.CallPlays': WHATEVER THE INPUT: true; the input reads as it did. -/
def callPlaysSpec : ChangeSpec := { name := "callPlays", fn := fun _ => fun
  | [d1, d2, d3] => { results := [.lit (.bool true)], args := [d1, d2, d3] }
  | _ => none }
def callPlaysRow : OpenClaim := { program := "ytoogangnldppaaagreatdoor", sum := "3b57ecd18895c09c9d36d920729cb54661a5979e5946b7a9396c15a6ba1e1ced", func := "potsherd/potsherdlaw22.CallPlays", spec := "callPlays", inPlace := ["internal/bytealg.CountString", "internal/bytealg.IndexByteString", "internal/bytealg.IndexString", "internal/abi.NoEscape", "internal/bytealg.MakeNoZero"], unfollowed := true, recurses := true, named := ["unicode/utf8.first", "unicode/utf8.acceptRanges", "internal/bytealg.MaxLen"], apart := false, laid := [("unicode/utf8.acceptRanges", laid_unicode_utf8_acceptRanges), ("unicode/utf8.first", laid_unicode_utf8_first)] }
def CallPlaysSaid : Prop := callPlaysRow.holds Tryz.pinned (OpenSpec.ofChange callPlaysSpec)

/-- ITS FALSE NEIGHBOUR: 'it returns false'. Refute it at one input. -/
def callPlaysWrong : ChangeSpec := { name := "callPlays", fn := fun _ => fun
  | [d1, d2, d3] => { results := [.lit (.bool false)], args := [d1, d2, d3] }
  | _ => none }
def CallPlaysWrongFalsely : Prop := callPlaysRow.holds Tryz.pinned (OpenSpec.ofChange callPlaysWrong)

/-- 'potsherdlaw22.CallRestarts': WHATEVER THE INPUT: true; the input reads as it did. -/
def callRestartsSpec : ChangeSpec := { name := "callRestarts", fn := fun _ => fun
  | [d] => { results := [.lit (.bool true)], args := [d] }
  | _ => none }
def callRestartsRow : OpenClaim := { program := "ytoogangnldppaaagreatdoor", sum := "3b57ecd18895c09c9d36d920729cb54661a5979e5946b7a9396c15a6ba1e1ced", func := "potsherd/potsherdlaw22.CallRestarts", spec := "callRestarts", inPlace := ["internal/bytealg.CountString", "internal/bytealg.IndexByteString", "internal/bytealg.IndexString", "internal/abi.NoEscape", "internal/bytealg.MakeNoZero"], unfollowed := true, recurses := true, named := ["unicode/utf8.first", "unicode/utf8.acceptRanges", "internal/bytealg.MaxLen"], apart := false, laid := [("unicode/utf8.acceptRanges", laid_unicode_utf8_acceptRanges), ("unicode/utf8.first", laid_unicode_utf8_first)] }
def CallRestartsSaid : Prop := callRestartsRow.holds Tryz.pinned (OpenSpec.ofChange callRestartsSpec)

/-- ITS FALSE NEIGHBOUR: 'it returns false'. Refute it at one input. -/
def callRestartsWrong : ChangeSpec := { name := "callRestarts", fn := fun _ => fun
  | [d] => { results := [.lit (.bool false)], args := [d] }
  | _ => none }
def CallRestartsWrongFalsely : Prop := callRestartsRow.holds Tryz.pinned (OpenSpec.ofChange callRestartsWrong)

/-- 'potsherdlaw22.CallCopies': WHATEVER THE INPUT: true; the input reads as it did. -/
def callCopiesSpec : ChangeSpec := { name := "callCopies", fn := fun _ => fun
  | [d1, d2, d3] => { results := [.lit (.bool true)], args := [d1, d2, d3] }
  | _ => none }
def callCopiesRow : OpenClaim := { program := "ytoogangnldppaaagreatdoor", sum := "3b57ecd18895c09c9d36d920729cb54661a5979e5946b7a9396c15a6ba1e1ced", func := "potsherd/potsherdlaw22.CallCopies", spec := "callCopies", inPlace := ["internal/bytealg.CountString", "internal/bytealg.IndexByteString", "internal/bytealg.IndexString", "internal/abi.NoEscape", "internal/bytealg.MakeNoZero", "maps.clone"], unfollowed := true, recurses := true, named := ["unicode/utf8.first", "unicode/utf8.acceptRanges", "internal/bytealg.MaxLen"], apart := false, laid := [("unicode/utf8.acceptRanges", laid_unicode_utf8_acceptRanges), ("unicode/utf8.first", laid_unicode_utf8_first)] }
def CallCopiesSaid : Prop := callCopiesRow.holds Tryz.pinned (OpenSpec.ofChange callCopiesSpec)

/-- ITS FALSE NEIGHBOUR: 'it returns false'. Refute it at one input. -/
def callCopiesWrong : ChangeSpec := { name := "callCopies", fn := fun _ => fun
  | [d1, d2, d3] => { results := [.lit (.bool false)], args := [d1, d2, d3] }
  | _ => none }
def CallCopiesWrongFalsely : Prop := callCopiesRow.holds Tryz.pinned (OpenSpec.ofChange callCopiesWrong)

/-- 'potsherdlaw22.CallNil': WHATEVER THE INPUT: true; the input reads as it did. -/
def callNilSpec : ChangeSpec := { name := "callNil", fn := fun _ => fun
  | [d1, d2] => { results := [.lit (.bool true)], args := [d1, d2] }
  | _ => none }
def callNilRow : OpenClaim := { program := "ytoogangnldppaaagreatdoor", sum := "3b57ecd18895c09c9d36d920729cb54661a5979e5946b7a9396c15a6ba1e1ced", func := "potsherd/potsherdlaw22.CallNil", spec := "callNil", inPlace := ["internal/bytealg.CountString", "internal/bytealg.IndexByteString", "internal/bytealg.IndexString", "internal/abi.NoEscape", "internal/bytealg.MakeNoZero", "maps.clone"], unfollowed := true, recurses := true, named := ["unicode/utf8.first", "unicode/utf8.acceptRanges", "internal/bytealg.MaxLen"], apart := false, laid := [("unicode/utf8.acceptRanges", laid_unicode_utf8_acceptRanges), ("unicode/utf8.first", laid_unicode_utf8_first)] }
def CallNilSaid : Prop := callNilRow.holds Tryz.pinned (OpenSpec.ofChange callNilSpec)

/-- ITS FALSE NEIGHBOUR: 'it returns false'. Refute it at one input. -/
def callNilWrong : ChangeSpec := { name := "callNil", fn := fun _ => fun
  | [d1, d2] => { results := [.lit (.bool false)], args := [d1, d2] }
  | _ => none }
def CallNilWrongFalsely : Prop := callNilRow.holds Tryz.pinned (OpenSpec.ofChange callNilWrong)

/- THE SECOND FORM. 'bulk': how many values and letters a reading holds, each counted each time it is reached (what is shared counts as often as it is met; a slice's spare places count too). A statement '..UptoSaid' is the law's where the arguments, and the package variables that the reading takes, are together of bulk at most 1048576: NARROWER than '..Said'. Prove '..Said' where nothing that the law and all that it calls make is longer than what came in: it says more and counts as full. Else prove '..UptoSaid'. A law counts once. -/
mutual
def uptoBulk {H : Type} : DataW H → Nat
  | .lit (.string bytes) => bytes.length + 1
  | .lit _ => 1
  | .nil => 1
  | .ptr d => uptoBulk d + 1
  | .slice elems spare => uptoBulkAll elems + uptoBulkAll spare + 1
  | .agg parts => uptoBulkAll parts + 1
  | .iface _ d => uptoBulk d + 1
  | .map entries => uptoBulkEntries entries + 1
  | .held _ => 1
def uptoBulkAll {H : Type} : List (DataW H) → Nat
  | [] => 0
  | d :: r => uptoBulk d + uptoBulkAll r
def uptoBulkEntries {H : Type} : List (Lit × DataW H) → Nat
  | [] => 0
  | x :: r => uptoBulkEntry x + uptoBulkEntries r
def uptoBulkEntry {H : Type} : Lit × DataW H → Nat
  | (.string bytes, d) => bytes.length + uptoBulk d + 1
  | (_, d) => uptoBulk d + 1
 end
def uptoSmall : (H : Type) → List (DataW H) → Bool := fun _ ds => decide (uptoBulkAll ds ≤ 1048576)
def OpenSpec.upto (s : _root_.Go.ChangeSpec) : _root_.Go.OpenSpec := { _root_.Go.OpenSpec.ofChange s with cond := some uptoSmall }

/-- 'potsherdlaw22.CallOthers', WHERE WHAT IT READS IS OF BULK AT MOST 1048576: true; the input reads as it did. -/
def callOthersUptoRow : OpenClaim := { program := "ytoogangnldppaaagreatdoor", sum := "3b57ecd18895c09c9d36d920729cb54661a5979e5946b7a9396c15a6ba1e1ced", func := "potsherd/potsherdlaw22.CallOthers", spec := "callOthers", inPlace := ["internal/bytealg.CountString", "internal/bytealg.IndexByteString", "internal/bytealg.IndexString", "internal/abi.NoEscape", "internal/bytealg.MakeNoZero"], unfollowed := true, recurses := true, named := ["unicode/utf8.first", "unicode/utf8.acceptRanges", "internal/bytealg.MaxLen"], apart := false, laid := [("unicode/utf8.acceptRanges", laid_unicode_utf8_acceptRanges), ("unicode/utf8.first", laid_unicode_utf8_first)], narrowed := true }
def CallOthersUptoSaid : Prop := callOthersUptoRow.holds Tryz.pinned (OpenSpec.upto callOthersSpec)

/-- 'potsherdlaw22.CallLists', WHERE WHAT IT READS IS OF BULK AT MOST 1048576: true; the input reads as it did. -/
def callListsUptoRow : OpenClaim := { program := "ytoogangnldppaaagreatdoor", sum := "3b57ecd18895c09c9d36d920729cb54661a5979e5946b7a9396c15a6ba1e1ced", func := "potsherd/potsherdlaw22.CallLists", spec := "callLists", inPlace := ["internal/bytealg.CountString", "internal/bytealg.IndexByteString", "internal/bytealg.IndexString", "internal/abi.NoEscape", "internal/bytealg.MakeNoZero"], unfollowed := true, recurses := true, named := ["unicode/utf8.first", "unicode/utf8.acceptRanges", "internal/bytealg.MaxLen"], apart := false, laid := [("unicode/utf8.acceptRanges", laid_unicode_utf8_acceptRanges), ("unicode/utf8.first", laid_unicode_utf8_first)], narrowed := true }
def CallListsUptoSaid : Prop := callListsUptoRow.holds Tryz.pinned (OpenSpec.upto callListsSpec)

/-- 'potsherdlaw22.CallLooks', WHERE WHAT IT READS IS OF BULK AT MOST 1048576: true; the input reads as it did. -/
def callLooksUptoRow : OpenClaim := { program := "ytoogangnldppaaagreatdoor", sum := "3b57ecd18895c09c9d36d920729cb54661a5979e5946b7a9396c15a6ba1e1ced", func := "potsherd/potsherdlaw22.CallLooks", spec := "callLooks", inPlace := ["internal/bytealg.CountString", "internal/bytealg.IndexByteString", "internal/bytealg.IndexString", "internal/abi.NoEscape", "internal/bytealg.MakeNoZero"], unfollowed := true, recurses := true, named := ["unicode/utf8.first", "unicode/utf8.acceptRanges", "internal/bytealg.MaxLen"], apart := false, laid := [("unicode/utf8.acceptRanges", laid_unicode_utf8_acceptRanges), ("unicode/utf8.first", laid_unicode_utf8_first)], narrowed := true }
def CallLooksUptoSaid : Prop := callLooksUptoRow.holds Tryz.pinned (OpenSpec.upto callLooksSpec)

/-- 'potsherdlaw22.CallSpace', WHERE WHAT IT READS IS OF BULK AT MOST 1048576: true; the input reads as it did. -/
def callSpaceUptoRow : OpenClaim := { program := "ytoogangnldppaaagreatdoor", sum := "3b57ecd18895c09c9d36d920729cb54661a5979e5946b7a9396c15a6ba1e1ced", func := "potsherd/potsherdlaw22.CallSpace", spec := "callSpace", inPlace := ["internal/bytealg.CountString", "internal/bytealg.IndexByteString", "internal/bytealg.IndexString", "internal/abi.NoEscape", "internal/bytealg.MakeNoZero"], unfollowed := true, recurses := true, named := ["unicode/utf8.first", "unicode/utf8.acceptRanges", "internal/bytealg.MaxLen"], apart := false, laid := [("unicode/utf8.acceptRanges", laid_unicode_utf8_acceptRanges), ("unicode/utf8.first", laid_unicode_utf8_first)], narrowed := true }
def CallSpaceUptoSaid : Prop := callSpaceUptoRow.holds Tryz.pinned (OpenSpec.upto callSpaceSpec)

/-- 'potsherdlaw22.CallPlays', WHERE WHAT IT READS IS OF BULK AT MOST 1048576: true; the input reads as it did. -/
def callPlaysUptoRow : OpenClaim := { program := "ytoogangnldppaaagreatdoor", sum := "3b57ecd18895c09c9d36d920729cb54661a5979e5946b7a9396c15a6ba1e1ced", func := "potsherd/potsherdlaw22.CallPlays", spec := "callPlays", inPlace := ["internal/bytealg.CountString", "internal/bytealg.IndexByteString", "internal/bytealg.IndexString", "internal/abi.NoEscape", "internal/bytealg.MakeNoZero"], unfollowed := true, recurses := true, named := ["unicode/utf8.first", "unicode/utf8.acceptRanges", "internal/bytealg.MaxLen"], apart := false, laid := [("unicode/utf8.acceptRanges", laid_unicode_utf8_acceptRanges), ("unicode/utf8.first", laid_unicode_utf8_first)], narrowed := true }
def CallPlaysUptoSaid : Prop := callPlaysUptoRow.holds Tryz.pinned (OpenSpec.upto callPlaysSpec)

/-- 'potsherdlaw22.CallRestarts', WHERE WHAT IT READS IS OF BULK AT MOST 1048576: true; the input reads as it did. -/
def callRestartsUptoRow : OpenClaim := { program := "ytoogangnldppaaagreatdoor", sum := "3b57ecd18895c09c9d36d920729cb54661a5979e5946b7a9396c15a6ba1e1ced", func := "potsherd/potsherdlaw22.CallRestarts", spec := "callRestarts", inPlace := ["internal/bytealg.CountString", "internal/bytealg.IndexByteString", "internal/bytealg.IndexString", "internal/abi.NoEscape", "internal/bytealg.MakeNoZero"], unfollowed := true, recurses := true, named := ["unicode/utf8.first", "unicode/utf8.acceptRanges", "internal/bytealg.MaxLen"], apart := false, laid := [("unicode/utf8.acceptRanges", laid_unicode_utf8_acceptRanges), ("unicode/utf8.first", laid_unicode_utf8_first)], narrowed := true }
def CallRestartsUptoSaid : Prop := callRestartsUptoRow.holds Tryz.pinned (OpenSpec.upto callRestartsSpec)

/-- 'potsherdlaw22.CallCopies', WHERE WHAT IT READS IS OF BULK AT MOST 1048576: true; the input reads as it did. -/
def callCopiesUptoRow : OpenClaim := { program := "ytoogangnldppaaagreatdoor", sum := "3b57ecd18895c09c9d36d920729cb54661a5979e5946b7a9396c15a6ba1e1ced", func := "potsherd/potsherdlaw22.CallCopies", spec := "callCopies", inPlace := ["internal/bytealg.CountString", "internal/bytealg.IndexByteString", "internal/bytealg.IndexString", "internal/abi.NoEscape", "internal/bytealg.MakeNoZero", "maps.clone"], unfollowed := true, recurses := true, named := ["unicode/utf8.first", "unicode/utf8.acceptRanges", "internal/bytealg.MaxLen"], apart := false, laid := [("unicode/utf8.acceptRanges", laid_unicode_utf8_acceptRanges), ("unicode/utf8.first", laid_unicode_utf8_first)], narrowed := true }
def CallCopiesUptoSaid : Prop := callCopiesUptoRow.holds Tryz.pinned (OpenSpec.upto callCopiesSpec)

/-- 'potsherdlaw22.CallNil', WHERE WHAT IT READS IS OF BULK AT MOST 1048576: true; the input reads as it did. -/
def callNilUptoRow : OpenClaim := { program := "ytoogangnldppaaagreatdoor", sum := "3b57ecd18895c09c9d36d920729cb54661a5979e5946b7a9396c15a6ba1e1ced", func := "potsherd/potsherdlaw22.CallNil", spec := "callNil", inPlace := ["internal/bytealg.CountString", "internal/bytealg.IndexByteString", "internal/bytealg.IndexString", "internal/abi.NoEscape", "internal/bytealg.MakeNoZero", "maps.clone"], unfollowed := true, recurses := true, named := ["unicode/utf8.first", "unicode/utf8.acceptRanges", "internal/bytealg.MaxLen"], apart := false, laid := [("unicode/utf8.acceptRanges", laid_unicode_utf8_acceptRanges), ("unicode/utf8.first", laid_unicode_utf8_first)], narrowed := true }
def CallNilUptoSaid : Prop := callNilUptoRow.holds Tryz.pinned (OpenSpec.upto callNilSpec)

end Rows
end Go.Proofs.YtoogangnldppaaaGreatDoor
