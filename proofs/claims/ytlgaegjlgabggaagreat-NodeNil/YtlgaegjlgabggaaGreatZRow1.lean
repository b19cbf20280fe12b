/- Closed facts of the row, one by one, by the kernel. -/
import Derived.Test.YtlgaegjlgabggaaGreatRows
import Derived.KernelRfl
import Derived.JoinedOf
set_option maxRecDepth 100000
namespace Go.Proofs.YtlgaegjlgabggaaGreat.nodeNil
theorem k10 : ((Rows.nodeNilRow.inPlace == Tryz.prog.inPlace 3)) = true := by kernel_rfl
end Go.Proofs.YtlgaegjlgabggaaGreat.nodeNil
