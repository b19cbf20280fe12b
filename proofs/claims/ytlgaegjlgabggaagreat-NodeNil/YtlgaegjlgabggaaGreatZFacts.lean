/- Closed facts of the program, by the kernel. -/
import Derived.Test.YtlgaegjlgabggaaGreatProg
import Derived.Test.YtlgaegjlgabggaaGreatYH
import Derived.KernelRfl
set_option maxRecDepth 100000
namespace Go.Proofs.YtlgaegjlgabggaaGreat.nodeNil
theorem names : (Tryz.prog.funcs.toList.all fun fn => !(fn.name == "runtime.NumGoroutine")) = true := by kernel_rfl
theorem mixed : Tryz.prog.follows .mixedOrders = true := by kernel_rfl
end Go.Proofs.YtlgaegjlgabggaaGreat.nodeNil
