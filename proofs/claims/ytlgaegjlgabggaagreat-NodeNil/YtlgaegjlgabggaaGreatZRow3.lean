/- Closed facts of the row, one by one, by the kernel. -/
import Derived.Test.YtlgaegjlgabggaaGreatRows
import Derived.KernelRfl
import Derived.JoinedOf
set_option maxRecDepth 100000
namespace Go.Proofs.YtlgaegjlgabggaaGreat.nodeNil
theorem k13 : ((Rows.nodeNilRow.named == Tryz.prog.varsNamed 3)) = true := by kernel_rfl
end Go.Proofs.YtlgaegjlgabggaaGreat.nodeNil
