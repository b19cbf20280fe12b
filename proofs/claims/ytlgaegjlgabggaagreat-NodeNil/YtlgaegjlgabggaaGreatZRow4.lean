/- Closed facts of the row, one by one, by the kernel. -/
import Derived.Test.YtlgaegjlgabggaaGreatRows
import Derived.KernelRfl
import Derived.JoinedOf
set_option maxRecDepth 100000
namespace Go.Proofs.YtlgaegjlgabggaaGreat.nodeNil
theorem k1 : (Rows.nodeNilRow.wf (OpenSpec.ofChange Rows.nodeNilSpec)) = true := by kernel_rfl
theorem k3 : (mapsRowed Tryz.prog) = true := by kernel_rfl
theorem k4 : (Tryz.f3.params.all (Tryz.prog.readableRec ·)) = true := by kernel_rfl
theorem k5 : (namedTie Tryz.prog Rows.nodeNilRow.named Rows.nodeNilSpec.vars) = true := by kernel_rfl
theorem k6 : ((Rows.nodeNilRow.stops == [])) = true := by kernel_rfl
theorem k7 : ((Tryz.prog.stops == [])) = true := by kernel_rfl
theorem k8 : ((Rows.nodeNilRow.knobs == [])) = true := by kernel_rfl
theorem k9 : ((Tryz.prog.stopKnobs == [])) = true := by kernel_rfl
theorem k12 : ((Rows.nodeNilRow.recurses == Tryz.prog.recurses 3)) = true := by kernel_rfl
theorem k14 : ((Rows.nodeNilRow.maps == (Tryz.f3.params.toList ++ Rows.nodeNilSpec.plain.varTypes Tryz.prog).any (Tryz.prog.mapsRec ·))) = true := by kernel_rfl
theorem k15 : ((Rows.nodeNilRow.ifaces == (Tryz.f3.params.toList ++ Rows.nodeNilSpec.plain.varTypes Tryz.prog).any (Tryz.prog.ifacesRec ·))) = true := by kernel_rfl
theorem k16 : ((Rows.nodeNilRow.mapsOut == Tryz.prog.mapsAmong Tryz.f3.resultTypes.toList)) = true := by kernel_rfl
theorem k17 : ((Rows.nodeNilRow.loops == (Tryz.f3.params.toList ++ Rows.nodeNilSpec.plain.varTypes Tryz.prog).any (Tryz.prog.loopsFrom ·))) = true := by kernel_rfl
theorem k18 : ((Rows.nodeNilRow.wideKeys == (Tryz.f3.params.toList ++ Rows.nodeNilSpec.plain.varTypes Tryz.prog ++ Tryz.f3.resultTypes.toList).any (Tryz.prog.wideKeysFrom ·))) = true := by kernel_rfl
end Go.Proofs.YtlgaegjlgabggaaGreat.nodeNil
