/- Closed facts of the row, one by one, by the kernel. -/
import Derived.Test.YtlgaegjlgabggaaGreatRows
import Derived.KernelRfl
import Derived.JoinedOf
set_option maxRecDepth 100000
namespace Go.Proofs.YtlgaegjlgabggaaGreat.nodeNil
theorem k11 : ((Rows.nodeNilRow.unfollowed == Tryz.prog.unfollowed 3)) = true := by kernel_rfl
end Go.Proofs.YtlgaegjlgabggaaGreat.nodeNil
