/-
  DERIVED. GIVEN WITH THE SEED: THE CARDS: each row of YtipclbibomemjaaGreatDoorRows.lean that lists a variable, with what it lists TIED to the program's text (the seventh form; the later family's looks); each row that meets fmt, with fmt's text TOLD by the authors' own Lean function (tested against real Go, not proved from fmt's source: count such statements apart). THE CARD IS WHAT COUNTS. Prove the row's statement (the work); the ties are given (YtipclbibomemjaaGreatDoorTie.lean); close each card by the builder's one call (the guide's Derived/Test/ToyasCard.lean, 'card_holds'). Laid BY PROGRAM, IN A SANDBOX (cutbox-door.mjs). By AI agents, Wed Nov 11 2026. No macro, syntax, notation, axiom, sorry.
-/
import Derived.Test.YtipclbibomemjaaGreatDoorRows
import GoSem.ClaimSeven
namespace Go.Proofs.YtipclbibomemjaaGreatDoor
namespace Rows

/-- THE TIED CARD OF 'coppicelaw17.PoolOwns'. -/
def poolOwnsCard : Claim7 := { stood := { row := poolOwnsRow, standIns := [], harness := (true, "69cf2cda699803b89c9898c9f1d80b45d4362c3e6fb57246151dac3add42da24"), looks := false }, kinds := [], alts := [], laidByText := true, laidKinds := [.data, .data, .data], laidTests := true, laidLooks := .later }
def PoolOwnsCardSaid : Prop := Claim7.holds Tryz.pinned (.plain (OpenSpec.ofChange poolOwnsSpec)) poolOwnsCard

/-- THE SECOND FORM's CARD OF 'coppicelaw17.PoolOwns'. -/
def poolOwnsUptoCard : Claim7 := { stood := { row := poolOwnsUptoRow, standIns := [], harness := (true, "69cf2cda699803b89c9898c9f1d80b45d4362c3e6fb57246151dac3add42da24"), looks := false }, kinds := [], alts := [], laidByText := true, laidKinds := [.data, .data, .data], laidTests := true, laidLooks := .later }
def PoolOwnsUptoCardSaid : Prop := Claim7.holds Tryz.pinned (.plain (OpenSpec.upto poolOwnsSpec)) poolOwnsUptoCard
end Rows
end Go.Proofs.YtipclbibomemjaaGreatDoor
