/- The row's closed facts together. -/
import Derived.Test.YtlgaegjlgabggaaGreatZLaid
import Derived.Test.YtlgaegjlgabggaaGreatZRow1
import Derived.Test.YtlgaegjlgabggaaGreatZRow2
import Derived.Test.YtlgaegjlgabggaaGreatZRow3
import Derived.Test.YtlgaegjlgabggaaGreatZRow4
import Derived.Test.YtlgaegjlgabggaaGreatZRow5
set_option maxRecDepth 100000
namespace Go.Proofs.YtlgaegjlgabggaaGreat.nodeNil
theorem closed : joinedFacts Tryz.pinned.checked.prog 3 Tryz.f3 Rows.nodeNilSpec Rows.nodeNilRow = true := by
  show joinedFacts Tryz.prog 3 Tryz.f3 Rows.nodeNilSpec Rows.nodeNilRow = true
  unfold joinedFacts
  exact Bool.and_eq_true_iff.2 ⟨Bool.and_eq_true_iff.2 ⟨Bool.and_eq_true_iff.2 ⟨Bool.and_eq_true_iff.2 ⟨Bool.and_eq_true_iff.2 ⟨Bool.and_eq_true_iff.2 ⟨Bool.and_eq_true_iff.2 ⟨Bool.and_eq_true_iff.2 ⟨Bool.and_eq_true_iff.2 ⟨Bool.and_eq_true_iff.2 ⟨Bool.and_eq_true_iff.2 ⟨Bool.and_eq_true_iff.2 ⟨Bool.and_eq_true_iff.2 ⟨Bool.and_eq_true_iff.2 ⟨Bool.and_eq_true_iff.2 ⟨Bool.and_eq_true_iff.2 ⟨Bool.and_eq_true_iff.2 ⟨Bool.and_eq_true_iff.2 ⟨Bool.and_eq_true_iff.2 ⟨Bool.and_eq_true_iff.2 ⟨Bool.and_eq_true_iff.2 ⟨Bool.and_eq_true_iff.2 ⟨Bool.and_eq_true_iff.2 ⟨Bool.and_eq_true_iff.2 ⟨Bool.and_eq_true_iff.2 ⟨Bool.and_eq_true_iff.2 ⟨Bool.and_eq_true_iff.2 ⟨Bool.and_eq_true_iff.2 ⟨Bool.and_eq_true_iff.2 ⟨Bool.and_eq_true_iff.2 ⟨Bool.and_eq_true_iff.2 ⟨k1, laidOut⟩, k3⟩, k4⟩, k5⟩, k6⟩, k7⟩, k8⟩, k9⟩, k10⟩, k11⟩, k12⟩, k13⟩, k14⟩, k15⟩, k16⟩, k17⟩, k18⟩, k19⟩, k20⟩, k21⟩, k22⟩, k23⟩, k24⟩, k25⟩, k26⟩, k27⟩, k28⟩, k29⟩, k30⟩, k31⟩, k32⟩
end Go.Proofs.YtlgaegjlgabggaaGreat.nodeNil
