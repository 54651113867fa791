/- What the row's list of the library's variables is; a world for the witness. -/
import Derived.Test.YtckioocahmbhkaaGreatDoorRows
import Derived.Test.YtckioocahmbhkaaGreatDoorHeap
import Derived.Stop.LaidErr
import Derived.Lib.LaidTab
import Derived.Deep.DeepHandedRow
import Derived.Deep.DeepWitnessRowRef
import Derived.ProofKit
import Derived.OpenShut
import Derived.SizedLaws
import Derived.MakeChecks
namespace Go.Proofs.YtckioocahmbhkaaGreatDoor
open Go Go.RowKit Go.Maps
open Go.ChangeShapes Go.WideShapes Go.ChangeAt

theorem ownNone : ownKnob Tryz.prog.godebug = none := by kernel_rfl
theorem laidOut : laidOutB Tryz.prog = true := by kernel_rfl
/-- What every row of this seat lists. -/
def laidL : List (String × DataW Unit) := [("math/bits.deBruijn32tab", Rows.laid_math_bits_deBruijn32tab), ("math/bits.deBruijn64tab", Rows.laid_math_bits_deBruijn64tab), ("internal/strconv.uint64pow10", Rows.laid_internal_strconv_uint64pow10)]
/-- The cells of a table that is listed. -/
def tabCells : DataW Unit → Array Value
  | .agg l => (l.map fun | .lit (.int k n) => Value.int k n | _ => undef).toArray
  | _ => #[]
def putCells (cs : Array Value) : Obj → Obj
  | .cells _ t frozen => .cells cs t frozen
  | o => o
/-- The settled world, the listed variables as their initialisers lay them. -/
noncomputable def laidWorld (os : Os) : World :=
  let w0 := World.holding Tryz.prog os ⟨#[], #[], []⟩
  { w0 with heap := ((w0.heap.modify 0 (putCells (tabCells Rows.laid_internal_strconv_uint64pow10))).modify 1 (putCells (tabCells Rows.laid_math_bits_deBruijn32tab))).modify 2 (putCells (tabCells Rows.laid_math_bits_deBruijn64tab)) }
theorem laid_met (os : Os) (args : Array Value) : laidMet Tryz.prog laidL ((laidWorld os).forCall (fun _ _ => 0) ⟨#[], args, []⟩).memory :=
  laidMet_of_run' 8 (by kernel_rfl) (by kernel_rfl)
end Go.Proofs.YtckioocahmbhkaaGreatDoor
