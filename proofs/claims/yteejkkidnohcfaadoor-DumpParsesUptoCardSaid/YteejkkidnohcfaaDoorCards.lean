/-
  DERIVED. GIVEN WITH THE SEED: THE CARDS: each row of YteejkkidnohcfaaDoorRows.lean that lists a variable, with what it lists TIED to the program's text (the seventh form; the later family's looks); each row that meets fmt, with fmt's text TOLD by the authors' own Lean function (tested against real Go, not proved from fmt's source: count such statements apart). THE CARD IS WHAT COUNTS. Prove the row's statement (the work); the ties are given (YteejkkidnohcfaaDoorTie.lean); close each card by the builder's one call (the guide's Derived/Test/ToyasCard.lean, 'card_holds'). Laid BY PROGRAM, IN A SANDBOX (cutbox-door.mjs). By AI agents, Wed Nov 11 2026. No macro, syntax, notation, axiom, sorry.
-/
import Derived.Test.YteejkkidnohcfaaDoorRows
import GoSem.ClaimSeven
namespace Go.Proofs.YteejkkidnohcfaaDoor
namespace Rows

/-- THE TIED CARD OF 'coppicelaw20.DumpHexes'. -/
def dumpHexesCard : Claim7 := { stood := { row := dumpHexesRow, standIns := [], harness := (true, "7a0793cabe2c4ed8d9d3ff8ecc88b44109a3d21f52cda76fb412fdf32b4fd581"), looks := true }, kinds := [], alts := [], laidByText := true, laidKinds := [.data, .data, .data, .sentinel, .sentinel], laidTests := true, laidLooks := .later }
def DumpHexesCardSaid : Prop := Claim7.holds Tryd.pinned (.plain (OpenSpec.ofChange dumpHexesSpec)) dumpHexesCard

/-- THE TIED CARD OF 'coppicelaw20.DumpUnhexes'. -/
def dumpUnhexesCard : Claim7 := { stood := { row := dumpUnhexesRow, standIns := [], harness := (true, "7a0793cabe2c4ed8d9d3ff8ecc88b44109a3d21f52cda76fb412fdf32b4fd581"), looks := true }, kinds := [], alts := [], laidByText := true, laidKinds := [.data, .data, .data, .sentinel, .sentinel], laidTests := true, laidLooks := .later }
def DumpUnhexesCardSaid : Prop := Claim7.holds Tryd.pinned (.plain (OpenSpec.ofChange dumpUnhexesSpec)) dumpUnhexesCard

/-- THE TIED CARD OF 'coppicelaw20.DumpTexts'. -/
def dumpTextsCard : Claim7 := { stood := { row := dumpTextsRow, standIns := [], harness := (true, "7a0793cabe2c4ed8d9d3ff8ecc88b44109a3d21f52cda76fb412fdf32b4fd581"), looks := true }, kinds := [], alts := [], laidByText := true, laidKinds := [.data, .data, .data, .sentinel, .sentinel], laidTests := true, laidLooks := .later }
def DumpTextsCardSaid : Prop := Claim7.holds Tryd.pinned (.plain (OpenSpec.ofChange dumpTextsSpec)) dumpTextsCard

/-- THE TIED CARD OF 'coppicelaw20.DumpParses'. -/
def dumpParsesCard : Claim7 := { stood := { row := dumpParsesRow, standIns := [], harness := (true, "7a0793cabe2c4ed8d9d3ff8ecc88b44109a3d21f52cda76fb412fdf32b4fd581"), looks := true }, kinds := [], alts := [], laidByText := true, laidKinds := [.data, .data, .data, .sentinel, .sentinel], laidTests := true, laidLooks := .later }
def DumpParsesCardSaid : Prop := Claim7.holds Tryd.pinned (.plain (OpenSpec.ofChange dumpParsesSpec)) dumpParsesCard

/-- THE TIED CARD OF 'coppicelaw20.DumpBack'. -/
def dumpBackCard : Claim7 := { stood := { row := dumpBackRow, standIns := [], harness := (true, "7a0793cabe2c4ed8d9d3ff8ecc88b44109a3d21f52cda76fb412fdf32b4fd581"), looks := true }, kinds := [], alts := [], laidByText := true, laidKinds := [.data, .data, .data, .sentinel, .sentinel], laidTests := true, laidLooks := .later }
def DumpBackCardSaid : Prop := Claim7.holds Tryd.pinned (.plain (OpenSpec.ofChange dumpBackSpec)) dumpBackCard

/-- THE TIED CARD OF 'coppicelaw20.DumpShort'. -/
def dumpShortCard : Claim7 := { stood := { row := dumpShortRow, standIns := [], harness := (true, "7a0793cabe2c4ed8d9d3ff8ecc88b44109a3d21f52cda76fb412fdf32b4fd581"), looks := true }, kinds := [], alts := [], laidByText := true, laidKinds := [.data, .data, .data, .sentinel, .sentinel], laidTests := true, laidLooks := .later }
def DumpShortCardSaid : Prop := Claim7.holds Tryd.pinned (.plain (OpenSpec.ofChange dumpShortSpec)) dumpShortCard

/-- THE SECOND FORM's CARD OF 'coppicelaw20.DumpHexes'. -/
def dumpHexesUptoCard : Claim7 := { stood := { row := dumpHexesUptoRow, standIns := [], harness := (true, "7a0793cabe2c4ed8d9d3ff8ecc88b44109a3d21f52cda76fb412fdf32b4fd581"), looks := true }, kinds := [], alts := [], laidByText := true, laidKinds := [.data, .data, .data, .sentinel, .sentinel], laidTests := true, laidLooks := .later }
def DumpHexesUptoCardSaid : Prop := Claim7.holds Tryd.pinned (.plain (OpenSpec.upto dumpHexesSpec)) dumpHexesUptoCard

/-- THE SECOND FORM's CARD OF 'coppicelaw20.DumpUnhexes'. -/
def dumpUnhexesUptoCard : Claim7 := { stood := { row := dumpUnhexesUptoRow, standIns := [], harness := (true, "7a0793cabe2c4ed8d9d3ff8ecc88b44109a3d21f52cda76fb412fdf32b4fd581"), looks := true }, kinds := [], alts := [], laidByText := true, laidKinds := [.data, .data, .data, .sentinel, .sentinel], laidTests := true, laidLooks := .later }
def DumpUnhexesUptoCardSaid : Prop := Claim7.holds Tryd.pinned (.plain (OpenSpec.upto dumpUnhexesSpec)) dumpUnhexesUptoCard

/-- THE SECOND FORM's CARD OF 'coppicelaw20.DumpTexts'. -/
def dumpTextsUptoCard : Claim7 := { stood := { row := dumpTextsUptoRow, standIns := [], harness := (true, "7a0793cabe2c4ed8d9d3ff8ecc88b44109a3d21f52cda76fb412fdf32b4fd581"), looks := true }, kinds := [], alts := [], laidByText := true, laidKinds := [.data, .data, .data, .sentinel, .sentinel], laidTests := true, laidLooks := .later }
def DumpTextsUptoCardSaid : Prop := Claim7.holds Tryd.pinned (.plain (OpenSpec.upto dumpTextsSpec)) dumpTextsUptoCard

/-- THE SECOND FORM's CARD OF 'coppicelaw20.DumpParses'. -/
def dumpParsesUptoCard : Claim7 := { stood := { row := dumpParsesUptoRow, standIns := [], harness := (true, "7a0793cabe2c4ed8d9d3ff8ecc88b44109a3d21f52cda76fb412fdf32b4fd581"), looks := true }, kinds := [], alts := [], laidByText := true, laidKinds := [.data, .data, .data, .sentinel, .sentinel], laidTests := true, laidLooks := .later }
def DumpParsesUptoCardSaid : Prop := Claim7.holds Tryd.pinned (.plain (OpenSpec.upto dumpParsesSpec)) dumpParsesUptoCard

/-- THE SECOND FORM's CARD OF 'coppicelaw20.DumpBack'. -/
def dumpBackUptoCard : Claim7 := { stood := { row := dumpBackUptoRow, standIns := [], harness := (true, "7a0793cabe2c4ed8d9d3ff8ecc88b44109a3d21f52cda76fb412fdf32b4fd581"), looks := true }, kinds := [], alts := [], laidByText := true, laidKinds := [.data, .data, .data, .sentinel, .sentinel], laidTests := true, laidLooks := .later }
def DumpBackUptoCardSaid : Prop := Claim7.holds Tryd.pinned (.plain (OpenSpec.upto dumpBackSpec)) dumpBackUptoCard

/-- THE SECOND FORM's CARD OF 'coppicelaw20.DumpShort'. -/
def dumpShortUptoCard : Claim7 := { stood := { row := dumpShortUptoRow, standIns := [], harness := (true, "7a0793cabe2c4ed8d9d3ff8ecc88b44109a3d21f52cda76fb412fdf32b4fd581"), looks := true }, kinds := [], alts := [], laidByText := true, laidKinds := [.data, .data, .data, .sentinel, .sentinel], laidTests := true, laidLooks := .later }
def DumpShortUptoCardSaid : Prop := Claim7.holds Tryd.pinned (.plain (OpenSpec.upto dumpShortSpec)) dumpShortUptoCard
end Rows
end Go.Proofs.YteejkkidnohcfaaDoor
