/-
  No cell of these rows narrows 'for every input' (looked for: loops, veiled, ifaces, maps, wideKeys, modest, calm, conditions, laid).
  DERIVED. THE GIVEN ROWS OF THIS SEAT. 6 by the template 'for every input the law returns true; each argument reads behind the call as it read before'; 0 by the template 'total and deterministic' (their statements: YtgkmcnafkhdlnaaGreatTotals.lean).
  GIVEN WITH THE SEED: the statements are not yours to turn. If you find one false, say at which input.
  Laid BY PROGRAM, IN A SANDBOX (cutbox-rows.mjs): the forced cells as the released guide's own fill.sh prints them over the translation 4c45e9bff16f6479… (all of the seat's roots in one cut). By AI agents, Wed Nov 11 2026. No macro, syntax, notation, axiom, sorry.
-/
import Derived.Test.YtgkmcnafkhdlnaaGreatChecked
import GoSem.Claim
import GoSem.ClaimJoined
import GoSem.ClaimMapViews
import Derived.JoinedTies
import Derived.KernelRfl
namespace Go.Proofs.YtgkmcnafkhdlnaaGreat
/- THE CELL 'sum', in the pinned program and in every row, IS THE sha256 OF THE DUMP (.gsa) THAT YtgkmcnafkhdlnaaGreatProg.lean LOADS. Nothing in Lean hashes anything: it is a label: what it is worth is what the hold of that sum in a sandbox is worth. -/
noncomputable def Tryz.pinned : Pinned := { name := "ytgkmcnafkhdlnaagreat", sum := "4c45e9bff16f6479ca60ea2cfc96add918ae2ab896b5886cfb157b3e04b71157", checked := Tryz.checked }
namespace Rows
def none {H : Type} : Left H := { results := [], args := [] }

/-- 'potsherdlaw10.PoolNil': WHATEVER THE INPUT: true; the input reads as it did. -/
def poolNilSpec : ChangeSpec := { name := "poolNil", fn := fun _ => fun
  | [d1, d2, d3] => { results := [.lit (.bool true)], args := [d1, d2, d3] }
  | _ => none }
def poolNilRow : OpenClaim := { program := "ytgkmcnafkhdlnaagreat", sum := "4c45e9bff16f6479ca60ea2cfc96add918ae2ab896b5886cfb157b3e04b71157", func := "potsherd/potsherdlaw10.PoolNil", spec := "poolNil", unfollowed := true, recurses := true, plainKeys := false, apart := false }
def PoolNilSaid : Prop := poolNilRow.holds Tryz.pinned (OpenSpec.ofChange poolNilSpec)

/-- ITS FALSE NEIGHBOUR: 'it returns false'. Refute it at one input. -/
def poolNilWrong : ChangeSpec := { name := "poolNil", fn := fun _ => fun
  | [d1, d2, d3] => { results := [.lit (.bool false)], args := [d1, d2, d3] }
  | _ => none }
def PoolNilWrongFalsely : Prop := poolNilRow.holds Tryz.pinned (OpenSpec.ofChange poolNilWrong)

/-- 'potsherdlaw10.PoolRewrites': WHATEVER THE INPUT: true; the input reads as it did. -/
def poolRewritesSpec : ChangeSpec := { name := "poolRewrites", fn := fun _ => fun
  | [d1, d2, d3] => { results := [.lit (.bool true)], args := [d1, d2, d3] }
  | _ => none }
def poolRewritesRow : OpenClaim := { program := "ytgkmcnafkhdlnaagreat", sum := "4c45e9bff16f6479ca60ea2cfc96add918ae2ab896b5886cfb157b3e04b71157", func := "potsherd/potsherdlaw10.PoolRewrites", spec := "poolRewrites", unfollowed := true, recurses := true, plainKeys := false, apart := false }
def PoolRewritesSaid : Prop := poolRewritesRow.holds Tryz.pinned (OpenSpec.ofChange poolRewritesSpec)

/-- ITS FALSE NEIGHBOUR: 'it returns false'. Refute it at one input. -/
def poolRewritesWrong : ChangeSpec := { name := "poolRewrites", fn := fun _ => fun
  | [d1, d2, d3] => { results := [.lit (.bool false)], args := [d1, d2, d3] }
  | _ => none }
def PoolRewritesWrongFalsely : Prop := poolRewritesRow.holds Tryz.pinned (OpenSpec.ofChange poolRewritesWrong)

/-- 'potsherdlaw10.PoolUndone': WHATEVER THE INPUT: true; the input reads as it did. -/
def poolUndoneSpec : ChangeSpec := { name := "poolUndone", fn := fun _ => fun
  | [d1, d2] => { results := [.lit (.bool true)], args := [d1, d2] }
  | _ => none }
def poolUndoneRow : OpenClaim := { program := "ytgkmcnafkhdlnaagreat", sum := "4c45e9bff16f6479ca60ea2cfc96add918ae2ab896b5886cfb157b3e04b71157", func := "potsherd/potsherdlaw10.PoolUndone", spec := "poolUndone", unfollowed := true, recurses := true, plainKeys := false, apart := false }
def PoolUndoneSaid : Prop := poolUndoneRow.holds Tryz.pinned (OpenSpec.ofChange poolUndoneSpec)

/-- ITS FALSE NEIGHBOUR: 'it returns false'. Refute it at one input. -/
def poolUndoneWrong : ChangeSpec := { name := "poolUndone", fn := fun _ => fun
  | [d1, d2] => { results := [.lit (.bool false)], args := [d1, d2] }
  | _ => none }
def PoolUndoneWrongFalsely : Prop := poolUndoneRow.holds Tryz.pinned (OpenSpec.ofChange poolUndoneWrong)

/-- 'potsherdlaw10.PoolSeals': WHATEVER THE INPUT: true; the input reads as it did. -/
def poolSealsSpec : ChangeSpec := { name := "poolSeals", fn := fun _ => fun
  | [d1, d2, d3, d4] => { results := [.lit (.bool true)], args := [d1, d2, d3, d4] }
  | _ => none }
def poolSealsRow : OpenClaim := { program := "ytgkmcnafkhdlnaagreat", sum := "4c45e9bff16f6479ca60ea2cfc96add918ae2ab896b5886cfb157b3e04b71157", func := "potsherd/potsherdlaw10.PoolSeals", spec := "poolSeals", unfollowed := true, recurses := true, plainKeys := false, apart := false }
def PoolSealsSaid : Prop := poolSealsRow.holds Tryz.pinned (OpenSpec.ofChange poolSealsSpec)

/-- ITS FALSE NEIGHBOUR: 'it returns false'. Refute it at one input. -/
def poolSealsWrong : ChangeSpec := { name := "poolSeals", fn := fun _ => fun
  | [d1, d2, d3, d4] => { results := [.lit (.bool false)], args := [d1, d2, d3, d4] }
  | _ => none }
def PoolSealsWrongFalsely : Prop := poolSealsRow.holds Tryz.pinned (OpenSpec.ofChange poolSealsWrong)

/-- 'potsherdlaw10.PoolPlays': WHATEVER THE INPUT: true; the input reads as it did. -/
def poolPlaysSpec : ChangeSpec := { name := "poolPlays", fn := fun _ => fun
  | [d1, d2, d3] => { results := [.lit (.bool true)], args := [d1, d2, d3] }
  | _ => none }
def poolPlaysRow : OpenClaim := { program := "ytgkmcnafkhdlnaagreat", sum := "4c45e9bff16f6479ca60ea2cfc96add918ae2ab896b5886cfb157b3e04b71157", func := "potsherd/potsherdlaw10.PoolPlays", spec := "poolPlays", unfollowed := true, recurses := true, plainKeys := false, apart := false }
def PoolPlaysSaid : Prop := poolPlaysRow.holds Tryz.pinned (OpenSpec.ofChange poolPlaysSpec)

/-- ITS FALSE NEIGHBOUR: 'it returns false'. Refute it at one input. -/
def poolPlaysWrong : ChangeSpec := { name := "poolPlays", fn := fun _ => fun
  | [d1, d2, d3] => { results := [.lit (.bool false)], args := [d1, d2, d3] }
  | _ => none }
def PoolPlaysWrongFalsely : Prop := poolPlaysRow.holds Tryz.pinned (OpenSpec.ofChange poolPlaysWrong)

/-- 'potsherdlaw10.PoolLives': WHATEVER THE INPUT: true; the input reads as it did. -/
def poolLivesSpec : ChangeSpec := { name := "poolLives", fn := fun _ => fun
  | [d1, d2, d3] => { results := [.lit (.bool true)], args := [d1, d2, d3] }
  | _ => none }
def poolLivesRow : OpenClaim := { program := "ytgkmcnafkhdlnaagreat", sum := "4c45e9bff16f6479ca60ea2cfc96add918ae2ab896b5886cfb157b3e04b71157", func := "potsherd/potsherdlaw10.PoolLives", spec := "poolLives", unfollowed := true, recurses := true, plainKeys := false, apart := false }
def PoolLivesSaid : Prop := poolLivesRow.holds Tryz.pinned (OpenSpec.ofChange poolLivesSpec)

/-- ITS FALSE NEIGHBOUR: 'it returns false'. Refute it at one input. -/
def poolLivesWrong : ChangeSpec := { name := "poolLives", fn := fun _ => fun
  | [d1, d2, d3] => { results := [.lit (.bool false)], args := [d1, d2, d3] }
  | _ => none }
def PoolLivesWrongFalsely : Prop := poolLivesRow.holds Tryz.pinned (OpenSpec.ofChange poolLivesWrong)

/- THE SECOND FORM. 'bulk': how many values and letters a reading holds, each counted each time it is reached (what is shared counts as often as it is met; a slice's spare places count too). A statement '..UptoSaid' is the law's where the arguments, and the package variables that the reading takes, are together of bulk at most 1048576: NARROWER than '..Said'. Prove '..Said' where nothing that the law and all that it calls make is longer than what came in: it says more and counts as full. Else prove '..UptoSaid'. A law counts once. -/
mutual
def uptoBulk {H : Type} : DataW H → Nat
  | .lit (.string bytes) => bytes.length + 1
  | .lit _ => 1
  | .nil => 1
  | .ptr d => uptoBulk d + 1
  | .slice elems spare => uptoBulkAll elems + uptoBulkAll spare + 1
  | .agg parts => uptoBulkAll parts + 1
  | .iface _ d => uptoBulk d + 1
  | .map entries => uptoBulkEntries entries + 1
  | .held _ => 1
def uptoBulkAll {H : Type} : List (DataW H) → Nat
  | [] => 0
  | d :: r => uptoBulk d + uptoBulkAll r
def uptoBulkEntries {H : Type} : List (Lit × DataW H) → Nat
  | [] => 0
  | x :: r => uptoBulkEntry x + uptoBulkEntries r
def uptoBulkEntry {H : Type} : Lit × DataW H → Nat
  | (.string bytes, d) => bytes.length + uptoBulk d + 1
  | (_, d) => uptoBulk d + 1
 end
def uptoSmall : (H : Type) → List (DataW H) → Bool := fun _ ds => decide (uptoBulkAll ds ≤ 1048576)
def OpenSpec.upto (s : _root_.Go.ChangeSpec) : _root_.Go.OpenSpec := { _root_.Go.OpenSpec.ofChange s with cond := some uptoSmall }

/-- 'potsherdlaw10.PoolNil', WHERE WHAT IT READS IS OF BULK AT MOST 1048576: true; the input reads as it did. -/
def poolNilUptoRow : OpenClaim := { program := "ytgkmcnafkhdlnaagreat", sum := "4c45e9bff16f6479ca60ea2cfc96add918ae2ab896b5886cfb157b3e04b71157", func := "potsherd/potsherdlaw10.PoolNil", spec := "poolNil", unfollowed := true, recurses := true, plainKeys := false, apart := false, narrowed := true }
def PoolNilUptoSaid : Prop := poolNilUptoRow.holds Tryz.pinned (OpenSpec.upto poolNilSpec)

/-- 'potsherdlaw10.PoolRewrites', WHERE WHAT IT READS IS OF BULK AT MOST 1048576: true; the input reads as it did. -/
def poolRewritesUptoRow : OpenClaim := { program := "ytgkmcnafkhdlnaagreat", sum := "4c45e9bff16f6479ca60ea2cfc96add918ae2ab896b5886cfb157b3e04b71157", func := "potsherd/potsherdlaw10.PoolRewrites", spec := "poolRewrites", unfollowed := true, recurses := true, plainKeys := false, apart := false, narrowed := true }
def PoolRewritesUptoSaid : Prop := poolRewritesUptoRow.holds Tryz.pinned (OpenSpec.upto poolRewritesSpec)

/-- 'potsherdlaw10.PoolUndone', WHERE WHAT IT READS IS OF BULK AT MOST 1048576: true; the input reads as it did. -/
def poolUndoneUptoRow : OpenClaim := { program := "ytgkmcnafkhdlnaagreat", sum := "4c45e9bff16f6479ca60ea2cfc96add918ae2ab896b5886cfb157b3e04b71157", func := "potsherd/potsherdlaw10.PoolUndone", spec := "poolUndone", unfollowed := true, recurses := true, plainKeys := false, apart := false, narrowed := true }
def PoolUndoneUptoSaid : Prop := poolUndoneUptoRow.holds Tryz.pinned (OpenSpec.upto poolUndoneSpec)

/-- 'potsherdlaw10.PoolSeals', WHERE WHAT IT READS IS OF BULK AT MOST 1048576: true; the input reads as it did. -/
def poolSealsUptoRow : OpenClaim := { program := "ytgkmcnafkhdlnaagreat", sum := "4c45e9bff16f6479ca60ea2cfc96add918ae2ab896b5886cfb157b3e04b71157", func := "potsherd/potsherdlaw10.PoolSeals", spec := "poolSeals", unfollowed := true, recurses := true, plainKeys := false, apart := false, narrowed := true }
def PoolSealsUptoSaid : Prop := poolSealsUptoRow.holds Tryz.pinned (OpenSpec.upto poolSealsSpec)

/-- 'potsherdlaw10.PoolPlays', WHERE WHAT IT READS IS OF BULK AT MOST 1048576: true; the input reads as it did. -/
def poolPlaysUptoRow : OpenClaim := { program := "ytgkmcnafkhdlnaagreat", sum := "4c45e9bff16f6479ca60ea2cfc96add918ae2ab896b5886cfb157b3e04b71157", func := "potsherd/potsherdlaw10.PoolPlays", spec := "poolPlays", unfollowed := true, recurses := true, plainKeys := false, apart := false, narrowed := true }
def PoolPlaysUptoSaid : Prop := poolPlaysUptoRow.holds Tryz.pinned (OpenSpec.upto poolPlaysSpec)

/-- 'potsherdlaw10.PoolLives', WHERE WHAT IT READS IS OF BULK AT MOST 1048576: true; the input reads as it did. -/
def poolLivesUptoRow : OpenClaim := { program := "ytgkmcnafkhdlnaagreat", sum := "4c45e9bff16f6479ca60ea2cfc96add918ae2ab896b5886cfb157b3e04b71157", func := "potsherd/potsherdlaw10.PoolLives", spec := "poolLives", unfollowed := true, recurses := true, plainKeys := false, apart := false, narrowed := true }
def PoolLivesUptoSaid : Prop := poolLivesUptoRow.holds Tryz.pinned (OpenSpec.upto poolLivesSpec)

end Rows
end Go.Proofs.YtgkmcnafkhdlnaaGreat
