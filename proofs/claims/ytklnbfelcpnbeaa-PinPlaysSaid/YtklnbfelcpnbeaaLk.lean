/- The numbers under which this program holds sync.Mutex, and that it holds it. Conditions: none. -/
import Derived.Test.YtklnbfelcpnbeaaProg
import Derived.Conc.MuLone
import Derived.Conc.MuData
import Derived.KernelRfl
namespace Go.Proofs.Ytklnbfelcpnbeaa
abbrev muLink : Go.Conc.Locks.MuLink := { lock := 23, unlock := 24, ilock := 32, iunlock := 33, lockSlow := 44, unlockSlow := 47, disable := 40, enable := 42, acquire := 43, relMerge := 45, cas32 := 41, add32 := 46, tMutex := 62, tIMutex := 60, tPMutex := 84, tPIMutex := 93, tPI32 := 95, tUP := 97, tNoCopy := 57, tU32 := 58 }
theorem muLib : Go.Conc.Locks.MuLib Try.prog muLink :=
  ⟨Try.func23, Try.func24, Try.func32, Try.func33, Try.func40, Try.func42, Try.func43, Try.func45, Try.func41, Try.func46, Try.underlying60, Try.runUnderlying60, Try.sizeOf60, Try.isAgg60, Try.zeroValue60, Try.underlying62, Try.runUnderlying62, Try.sizeOf62, Try.isAgg62, Try.zeroValue62, Try.underlying84, Try.runUnderlying84, Try.sizeOf84, Try.isAgg84, Try.zeroValue84, Try.underlying93, Try.runUnderlying93, Try.sizeOf93, Try.isAgg93, Try.zeroValue93, Try.underlying95, Try.runUnderlying95, Try.sizeOf95, Try.isAgg95, Try.zeroValue95, Try.underlying97, Try.runUnderlying97, Try.sizeOf97, Try.isAgg97, Try.zeroValue97, Try.underlying57, Try.runUnderlying57, Try.sizeOf57, Try.isAgg57, Try.zeroValue57, Try.underlying21, Try.runUnderlying21, Try.sizeOf21, Try.isAgg21, Try.zeroValue21, (by kernel_rfl)⟩
end Go.Proofs.Ytklnbfelcpnbeaa
