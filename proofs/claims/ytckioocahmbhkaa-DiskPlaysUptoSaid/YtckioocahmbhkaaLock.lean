/- The numbers under which this translation holds package sync's Mutex, and that it holds them; the contracts of Lock and Unlock follow from the library's. -/
import Derived.Test.YtckioocahmbhkaaProg
import Derived.Conc.MuLone
import Derived.KernelRfl
namespace Go.Proofs
abbrev Try.muLink : Go.Conc.Locks.MuLink := { lock := 32, unlock := 33, ilock := 51, iunlock := 52, lockSlow := 63, unlockSlow := 66, disable := 59, enable := 61, acquire := 62, relMerge := 64, cas32 := 60, add32 := 65, tMutex := 75, tIMutex := 73, tPMutex := 92, tPIMutex := 96, tPI32 := 98, tUP := 100, tNoCopy := 70, tU32 := 71 }
theorem Try.muLib : Go.Conc.Locks.MuLib Try.prog Try.muLink :=
  ⟨Try.func32, Try.func33, Try.func51, Try.func52, Try.func59, Try.func61, Try.func62, Try.func64, Try.func60, Try.func65, Try.underlying73, Try.runUnderlying73, Try.sizeOf73, Try.isAgg73, Try.zeroValue73, Try.underlying75, Try.runUnderlying75, Try.sizeOf75, Try.isAgg75, Try.zeroValue75, Try.underlying92, Try.runUnderlying92, Try.sizeOf92, Try.isAgg92, Try.zeroValue92, Try.underlying96, Try.runUnderlying96, Try.sizeOf96, Try.isAgg96, Try.zeroValue96, Try.underlying98, Try.runUnderlying98, Try.sizeOf98, Try.isAgg98, Try.zeroValue98, Try.underlying100, Try.runUnderlying100, Try.sizeOf100, Try.isAgg100, Try.zeroValue100, Try.underlying70, Try.runUnderlying70, Try.sizeOf70, Try.isAgg70, Try.zeroValue70, Try.underlying21, Try.runUnderlying21, Try.sizeOf21, Try.isAgg21, Try.zeroValue21, (by kernel_rfl)⟩
end Go.Proofs
