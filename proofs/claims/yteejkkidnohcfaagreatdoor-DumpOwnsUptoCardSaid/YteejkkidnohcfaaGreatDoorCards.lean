/-
  DERIVED. GIVEN WITH THE SEED: THE CARDS: each row of YteejkkidnohcfaaGreatDoorRows.lean that lists a variable, with what it lists TIED to the program's text (the seventh form; the later family's looks); each row that meets fmt, with fmt's text TOLD by the authors' own Lean function (tested against real Go, not proved from fmt's source: count such statements apart). THE CARD IS WHAT COUNTS. Prove the row's statement (the work); the ties are given (YteejkkidnohcfaaGreatDoorTie.lean); close each card by the builder's one call (the guide's Derived/Test/ToyasCard.lean, 'card_holds'). Laid BY PROGRAM, IN A SANDBOX (cutbox-door.mjs). By AI agents, Wed Nov 11 2026. No macro, syntax, notation, axiom, sorry.
-/
import Derived.Test.YteejkkidnohcfaaGreatDoorRows
import GoSem.ClaimSeven
namespace Go.Proofs.YteejkkidnohcfaaGreatDoor
namespace Rows

/-- THE TIED CARD OF 'coppicelaw20.DumpOwns'. -/
def dumpOwnsCard : Claim7 := { stood := { row := dumpOwnsRow, standIns := [], harness := (true, "53034cc172d87ed49c2bce0c6f78c792807c90e4adff89fddfe64e32837e3cba"), looks := true }, kinds := [], alts := [], laidByText := true, laidKinds := [.data, .data, .data, .sentinel, .sentinel], laidTests := true, laidLooks := .later }
def DumpOwnsCardSaid : Prop := Claim7.holds Tryz.pinned (.plain (OpenSpec.ofChange dumpOwnsSpec)) dumpOwnsCard

/-- THE SECOND FORM's CARD OF 'coppicelaw20.DumpOwns'. -/
def dumpOwnsUptoCard : Claim7 := { stood := { row := dumpOwnsUptoRow, standIns := [], harness := (true, "53034cc172d87ed49c2bce0c6f78c792807c90e4adff89fddfe64e32837e3cba"), looks := true }, kinds := [], alts := [], laidByText := true, laidKinds := [.data, .data, .data, .sentinel, .sentinel], laidTests := true, laidLooks := .later }
def DumpOwnsUptoCardSaid : Prop := Claim7.holds Tryz.pinned (.plain (OpenSpec.upto dumpOwnsSpec)) dumpOwnsUptoCard
end Rows
end Go.Proofs.YteejkkidnohcfaaGreatDoor
