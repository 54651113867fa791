/- The numbers under which this translation holds package sync's Mutex, and that it holds them; the contracts of Lock and Unlock follow from the library's. -/
import Derived.Test.YtckioocahmbhkaaGreatDoorProg
import Derived.Conc.MuLone
import Derived.KernelRfl
namespace Go.Proofs
abbrev Tryz.muLink : Go.Conc.Locks.MuLink := { lock := 21, unlock := 22, ilock := 33, iunlock := 34, lockSlow := 92, unlockSlow := 95, disable := 88, enable := 90, acquire := 91, relMerge := 93, cas32 := 89, add32 := 94, tMutex := 74, tIMutex := 72, tPMutex := 82, tPIMutex := 88, tPI32 := 90, tUP := 92, tNoCopy := 69, tU32 := 70 }
theorem Tryz.muLib : Go.Conc.Locks.MuLib Tryz.prog Tryz.muLink :=
  ⟨Tryz.func21, Tryz.func22, Tryz.func33, Tryz.func34, Tryz.func88, Tryz.func90, Tryz.func91, Tryz.func93, Tryz.func89, Tryz.func94, Tryz.underlying72, Tryz.runUnderlying72, Tryz.sizeOf72, Tryz.isAgg72, Tryz.zeroValue72, Tryz.underlying74, Tryz.runUnderlying74, Tryz.sizeOf74, Tryz.isAgg74, Tryz.zeroValue74, Tryz.underlying82, Tryz.runUnderlying82, Tryz.sizeOf82, Tryz.isAgg82, Tryz.zeroValue82, Tryz.underlying88, Tryz.runUnderlying88, Tryz.sizeOf88, Tryz.isAgg88, Tryz.zeroValue88, Tryz.underlying90, Tryz.runUnderlying90, Tryz.sizeOf90, Tryz.isAgg90, Tryz.zeroValue90, Tryz.underlying92, Tryz.runUnderlying92, Tryz.sizeOf92, Tryz.isAgg92, Tryz.zeroValue92, Tryz.underlying69, Tryz.runUnderlying69, Tryz.sizeOf69, Tryz.isAgg69, Tryz.zeroValue69, Tryz.underlying21, Tryz.runUnderlying21, Tryz.sizeOf21, Tryz.isAgg21, Tryz.zeroValue21, (by kernel_rfl)⟩
end Go.Proofs
