/- What a row's list of the library's variables gives a walk; a world for the witness. -/
import Derived.Test.YteejkkidnohcfaaGreatDoorRows
import Derived.Test.YteejkkidnohcfaaGreatDoorW8
import Derived.Stop.LaidErr
import Derived.Lib.LaidTab
import Derived.Deep.DeepHandedRow
import Derived.Deep.DeepWitnessRowRef
import Derived.ProofKit
import Derived.OpenShut
import Derived.SizedLaws
import Derived.MakeChecks
namespace Go.Proofs.YteejkkidnohcfaaGreatDoor
open Go Go.RowKit Go.Maps
open Go.ChangeShapes Go.WideShapes Go.ChangeAt

theorem own : ownKnob Tryz.prog.godebug = none := by kernel_rfl
theorem laidOut : laidOutB Tryz.prog = true := by kernel_rfl
theorem gTabType : (Tryz.prog.globals[3]?).map (·.type) = some 187 := by kernel_rfl
theorem cells99 : Tryz.prog.cellsOf 172 = 1 := by kernel_rfl
theorem cells111 : Tryz.prog.cellsOf 187 = 20 := by kernel_rfl
theorem gES : Tryz.prog.globalNamed "strconv.ErrSyntax" = some 1 := by kernel_rfl
theorem gESType : (Tryz.prog.globals[1]?).map (·.type) = some 77 := by kernel_rfl
theorem gER : Tryz.prog.globalNamed "strconv.ErrRange" = some 2 := by kernel_rfl
theorem gERType : (Tryz.prog.globals[2]?).map (·.type) = some 77 := by kernel_rfl
theorem cells128 : Tryz.prog.cellsOf 195 = 1 := by kernel_rfl
theorem cells9 : Tryz.prog.cellsOf 9 = 1 := by kernel_rfl

theorem star : "*" ++ "errors.errorString" = "*errors.errorString" := by decide
theorem row126 (u : TypeId) (h : Tryz.prog.typeName? 3 u = some "*errors.errorString") : u = 193 :=
  typeName_ptr_named (nm := "errors.errorString") (by rw [star]; kernel_rfl) (by kernel_rfl) (by decide) u (by rw [star]; exact h)
/-- What every row of this seat lists. -/
def laidL : List (String × DataW Unit) := [("math/bits.deBruijn32tab", Rows.laid_math_bits_deBruijn32tab), ("math/bits.deBruijn64tab", Rows.laid_math_bits_deBruijn64tab), ("internal/strconv.uint64pow10", Rows.laid_internal_strconv_uint64pow10), ("strconv.ErrRange", Rows.laid_strconv_ErrRange), ("strconv.ErrSyntax", Rows.laid_strconv_ErrSyntax)]

theorem env_of {W : World} (hL0 : laidMetH Tryz.prog laidL W) (hsh : W.ShapedOpen Tryz.prog) : Env W := by
  have hL : laidMet Tryz.prog laidL W := by
    rw [Go.MakeChecks.laidMetH_plain _ _ _ (by kernel_rfl)] at hL0; exact hL0
  have h3 := hL.tail.tail
  have h4 := h3.tail
  have h5 := h4.tail
  obtain ⟨a0, s0, hv0, -, -, -⟩ := laid_sentinel h4 gER gERType Tryz.underlying77 row126 Tryz.underlying193 Tryz.underlying195 rfl rfl Tryz.underlying9 cells128 cells9
  obtain ⟨a1, s1, hv1, -, -, -⟩ := laid_sentinel h5 gES gESType Tryz.underlying77 row126 Tryz.underlying193 Tryz.underlying195 rfl rfl Tryz.underlying9 cells128 cells9
  exact ⟨Tryz.laysM145.s1_3 W hsh, Lib.tabIs_of_head (k := .u64) (zs := Lib.pow10Tab) gTab gTabType Tryz.underlying187 Tryz.underlying172 cells99 cells111 h3,
    ⟨_, by have h0 := World.var?_cell gES hv1 0; simpa using h0, Or.inr ⟨_, _, rfl⟩⟩, ⟨_, by have h0 := World.var?_cell gER hv0 0; simpa using h0, Or.inr ⟨_, _, rfl⟩⟩⟩

/-- The cells of a table that is listed. -/
def tabCells : DataW Unit → Array Value
  | .agg l => (l.map fun | .lit (.int k n) => Value.int k n | _ => undef).toArray
  | _ => #[]
abbrev synS : ByteArray := { data := #[105, 110, 118, 97, 108, 105, 100, 32, 115, 121, 110, 116, 97, 120] }
abbrev rngS : ByteArray := { data := #[118, 97, 108, 117, 101, 32, 111, 117, 116, 32, 111, 102, 32, 114, 97, 110, 103, 101] }
noncomputable def low : Nat := (World.holding Tryz.prog default ⟨#[], #[], []⟩).heap.size
def putCells (cs : Array Value) : Obj → Obj
  | .cells _ t frozen => .cells cs t frozen
  | o => o
/-- The settled world, the listed variables as their initialisers lay them. -/
noncomputable def laidWorld (os : Os) : World :=
  let w0 := World.holding Tryz.prog os ⟨#[.cells #[.string synS] 195, .cells #[.string rngS] 195], #[], []⟩
  { w0 with heap := ((((w0.heap.modify 3 (putCells (tabCells Rows.laid_internal_strconv_uint64pow10))).modify 1 (putCells #[.iface 193 (.pointer (some ⟨low, 0, none⟩))])).modify 2 (putCells #[.iface 193 (.pointer (some ⟨low + 1, 0, none⟩))])).modify 4 (putCells (tabCells Rows.laid_math_bits_deBruijn32tab))).modify 5 (putCells (tabCells Rows.laid_math_bits_deBruijn64tab)) }
theorem laid_met (os : Os) (args : Array Value) : laidMet Tryz.prog laidL ((laidWorld os).forCall (fun _ _ => 0) ⟨#[], args, []⟩).memory :=
  laidMet_of_run' 8 (by kernel_rfl) (by kernel_rfl)
end Go.Proofs.YteejkkidnohcfaaGreatDoor
