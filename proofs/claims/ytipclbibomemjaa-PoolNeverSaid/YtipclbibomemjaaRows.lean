/-
  No cell of these rows narrows 'for every input' (looked for: loops, veiled, ifaces, maps, wideKeys, modest, calm, conditions, laid).
  DERIVED. THE GIVEN ROWS OF THIS SEAT. 4 by the template 'for every input the law returns true; each argument reads behind the call as it read before'; 0 by the template 'total and deterministic' (their statements: YtipclbibomemjaaTotals.lean).
  GIVEN WITH THE SEED: the statements are not yours to turn. If you find one false, say at which input.
  Laid BY PROGRAM, IN A SANDBOX (cutbox-rows.mjs): the forced cells as the released guide's own fill.sh prints them over the translation e5f09373de652bf9… (all of the seat's roots in one cut). By AI agents, Wed Nov 11 2026. No macro, syntax, notation, axiom, sorry.
-/
import Derived.Test.YtipclbibomemjaaChecked
import GoSem.Claim
import GoSem.ClaimJoined
import GoSem.ClaimMapViews
import Derived.JoinedTies
import Derived.KernelRfl
namespace Go.Proofs.Ytipclbibomemjaa
/- THE CELL 'sum', in the pinned program and in every row, IS THE sha256 OF THE DUMP (.gsa) THAT YtipclbibomemjaaProg.lean LOADS. Nothing in Lean hashes anything: it is a label: what it is worth is what the hold of that sum in a sandbox is worth. -/
noncomputable def Try.pinned : Pinned := { name := "ytipclbibomemjaa", sum := "e5f09373de652bf9a3f7c0b0de9420eb4940ea533692fcf1c64edc4233a697c0", checked := Try.checked }
namespace Rows
def none {H : Type} : Left H := { results := [], args := [] }

/-- 'coppicelaw17.PoolNews': WHATEVER THE INPUT: true; the input reads as it did. -/
def poolNewsSpec : ChangeSpec := { name := "poolNews", fn := fun _ => fun
  | [d1, d2, d3] => { results := [.lit (.bool true)], args := [d1, d2, d3] }
  | _ => none }
def poolNewsRow : OpenClaim := { program := "ytipclbibomemjaa", sum := "e5f09373de652bf9a3f7c0b0de9420eb4940ea533692fcf1c64edc4233a697c0", func := "coppice/coppicelaw17.PoolNews", spec := "poolNews", recurses := true, apart := false }
def PoolNewsSaid : Prop := poolNewsRow.holds Try.pinned (OpenSpec.ofChange poolNewsSpec)

/-- ITS FALSE NEIGHBOUR: 'it returns false'. Refute it at one input. -/
def poolNewsWrong : ChangeSpec := { name := "poolNews", fn := fun _ => fun
  | [d1, d2, d3] => { results := [.lit (.bool false)], args := [d1, d2, d3] }
  | _ => none }
def PoolNewsWrongFalsely : Prop := poolNewsRow.holds Try.pinned (OpenSpec.ofChange poolNewsWrong)

/-- 'coppicelaw17.PoolPlays': WHATEVER THE INPUT: true; the input reads as it did. -/
def poolPlaysSpec : ChangeSpec := { name := "poolPlays", fn := fun _ => fun
  | [d1, d2, d3, d4, d5] => { results := [.lit (.bool true)], args := [d1, d2, d3, d4, d5] }
  | _ => none }
def poolPlaysRow : OpenClaim := { program := "ytipclbibomemjaa", sum := "e5f09373de652bf9a3f7c0b0de9420eb4940ea533692fcf1c64edc4233a697c0", func := "coppice/coppicelaw17.PoolPlays", spec := "poolPlays", recurses := true, apart := false }
def PoolPlaysSaid : Prop := poolPlaysRow.holds Try.pinned (OpenSpec.ofChange poolPlaysSpec)

/-- ITS FALSE NEIGHBOUR: 'it returns false'. Refute it at one input. -/
def poolPlaysWrong : ChangeSpec := { name := "poolPlays", fn := fun _ => fun
  | [d1, d2, d3, d4, d5] => { results := [.lit (.bool false)], args := [d1, d2, d3, d4, d5] }
  | _ => none }
def PoolPlaysWrongFalsely : Prop := poolPlaysRow.holds Try.pinned (OpenSpec.ofChange poolPlaysWrong)

/-- 'coppicelaw17.PoolNever': WHATEVER THE INPUT: true; the input reads as it did. -/
def poolNeverSpec : ChangeSpec := { name := "poolNever", fn := fun _ => fun
  | [d1, d2, d3] => { results := [.lit (.bool true)], args := [d1, d2, d3] }
  | _ => none }
def poolNeverRow : OpenClaim := { program := "ytipclbibomemjaa", sum := "e5f09373de652bf9a3f7c0b0de9420eb4940ea533692fcf1c64edc4233a697c0", func := "coppice/coppicelaw17.PoolNever", spec := "poolNever", recurses := true, apart := false }
def PoolNeverSaid : Prop := poolNeverRow.holds Try.pinned (OpenSpec.ofChange poolNeverSpec)

/-- ITS FALSE NEIGHBOUR: 'it returns false'. Refute it at one input. -/
def poolNeverWrong : ChangeSpec := { name := "poolNever", fn := fun _ => fun
  | [d1, d2, d3] => { results := [.lit (.bool false)], args := [d1, d2, d3] }
  | _ => none }
def PoolNeverWrongFalsely : Prop := poolNeverRow.holds Try.pinned (OpenSpec.ofChange poolNeverWrong)

/-- 'coppicelaw17.PoolLists': WHATEVER THE INPUT: true; the input reads as it did. -/
def poolListsSpec : ChangeSpec := { name := "poolLists", fn := fun _ => fun
  | [d1, d2, d3, d4, d5] => { results := [.lit (.bool true)], args := [d1, d2, d3, d4, d5] }
  | _ => none }
def poolListsRow : OpenClaim := { program := "ytipclbibomemjaa", sum := "e5f09373de652bf9a3f7c0b0de9420eb4940ea533692fcf1c64edc4233a697c0", func := "coppice/coppicelaw17.PoolLists", spec := "poolLists", recurses := true, apart := false }
def PoolListsSaid : Prop := poolListsRow.holds Try.pinned (OpenSpec.ofChange poolListsSpec)

/-- ITS FALSE NEIGHBOUR: 'it returns false'. Refute it at one input. -/
def poolListsWrong : ChangeSpec := { name := "poolLists", fn := fun _ => fun
  | [d1, d2, d3, d4, d5] => { results := [.lit (.bool false)], args := [d1, d2, d3, d4, d5] }
  | _ => none }
def PoolListsWrongFalsely : Prop := poolListsRow.holds Try.pinned (OpenSpec.ofChange poolListsWrong)

/- THE SECOND FORM. 'bulk': how many values and letters a reading holds, each counted each time it is reached (what is shared counts as often as it is met; a slice's spare places count too). A statement '..UptoSaid' is the law's where the arguments, and the package variables that the reading takes, are together of bulk at most 1048576: NARROWER than '..Said'. Prove '..Said' where nothing that the law and all that it calls make is longer than what came in: it says more and counts as full. Else prove '..UptoSaid'. A law counts once. -/
mutual
def uptoBulk {H : Type} : DataW H → Nat
  | .lit (.string bytes) => bytes.length + 1
  | .lit _ => 1
  | .nil => 1
  | .ptr d => uptoBulk d + 1
  | .slice elems spare => uptoBulkAll elems + uptoBulkAll spare + 1
  | .agg parts => uptoBulkAll parts + 1
  | .iface _ d => uptoBulk d + 1
  | .map entries => uptoBulkEntries entries + 1
  | .held _ => 1
def uptoBulkAll {H : Type} : List (DataW H) → Nat
  | [] => 0
  | d :: r => uptoBulk d + uptoBulkAll r
def uptoBulkEntries {H : Type} : List (Lit × DataW H) → Nat
  | [] => 0
  | x :: r => uptoBulkEntry x + uptoBulkEntries r
def uptoBulkEntry {H : Type} : Lit × DataW H → Nat
  | (.string bytes, d) => bytes.length + uptoBulk d + 1
  | (_, d) => uptoBulk d + 1
 end
def uptoSmall : (H : Type) → List (DataW H) → Bool := fun _ ds => decide (uptoBulkAll ds ≤ 1048576)
def OpenSpec.upto (s : _root_.Go.ChangeSpec) : _root_.Go.OpenSpec := { _root_.Go.OpenSpec.ofChange s with cond := some uptoSmall }

/-- 'coppicelaw17.PoolNews', WHERE WHAT IT READS IS OF BULK AT MOST 1048576: true; the input reads as it did. -/
def poolNewsUptoRow : OpenClaim := { program := "ytipclbibomemjaa", sum := "e5f09373de652bf9a3f7c0b0de9420eb4940ea533692fcf1c64edc4233a697c0", func := "coppice/coppicelaw17.PoolNews", spec := "poolNews", recurses := true, apart := false, narrowed := true }
def PoolNewsUptoSaid : Prop := poolNewsUptoRow.holds Try.pinned (OpenSpec.upto poolNewsSpec)

/-- 'coppicelaw17.PoolPlays', WHERE WHAT IT READS IS OF BULK AT MOST 1048576: true; the input reads as it did. -/
def poolPlaysUptoRow : OpenClaim := { program := "ytipclbibomemjaa", sum := "e5f09373de652bf9a3f7c0b0de9420eb4940ea533692fcf1c64edc4233a697c0", func := "coppice/coppicelaw17.PoolPlays", spec := "poolPlays", recurses := true, apart := false, narrowed := true }
def PoolPlaysUptoSaid : Prop := poolPlaysUptoRow.holds Try.pinned (OpenSpec.upto poolPlaysSpec)

/-- 'coppicelaw17.PoolNever', WHERE WHAT IT READS IS OF BULK AT MOST 1048576: true; the input reads as it did. -/
def poolNeverUptoRow : OpenClaim := { program := "ytipclbibomemjaa", sum := "e5f09373de652bf9a3f7c0b0de9420eb4940ea533692fcf1c64edc4233a697c0", func := "coppice/coppicelaw17.PoolNever", spec := "poolNever", recurses := true, apart := false, narrowed := true }
def PoolNeverUptoSaid : Prop := poolNeverUptoRow.holds Try.pinned (OpenSpec.upto poolNeverSpec)

/-- 'coppicelaw17.PoolLists', WHERE WHAT IT READS IS OF BULK AT MOST 1048576: true; the input reads as it did. -/
def poolListsUptoRow : OpenClaim := { program := "ytipclbibomemjaa", sum := "e5f09373de652bf9a3f7c0b0de9420eb4940ea533692fcf1c64edc4233a697c0", func := "coppice/coppicelaw17.PoolLists", spec := "poolLists", recurses := true, apart := false, narrowed := true }
def PoolListsUptoSaid : Prop := poolListsUptoRow.holds Try.pinned (OpenSpec.upto poolListsSpec)

end Rows
end Go.Proofs.Ytipclbibomemjaa
