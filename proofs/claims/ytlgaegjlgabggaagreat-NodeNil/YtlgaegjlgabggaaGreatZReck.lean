/- The run of the law, reckoned whole by the kernel. -/
import Derived.Test.YtlgaegjlgabggaaGreatProg
import Derived.Test.YtlgaegjlgabggaaGreatYH
import Derived.KernelRfl
set_option maxRecDepth 100000
namespace Go.Proofs.YtlgaegjlgabggaaGreat.nodeNil
theorem reckoned (c : Int) : X.exCall Tryz.prog 300 3 [.v (.int .u8 c), .unk] [] = some (.v (.bool true), []) := by kernel_rfl
end Go.Proofs.YtlgaegjlgabggaaGreat.nodeNil
