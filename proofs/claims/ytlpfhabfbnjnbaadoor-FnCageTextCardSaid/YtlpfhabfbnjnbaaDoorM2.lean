/- Several of my texts in one: FactsH. -/
import Derived.Test.YtlpfhabfbnjnbaaDoorRows
import Derived.WalkKit
import Derived.ProofKit
import Derived.OpenShut
import Derived.ChangeOld
/- A fact on the whole of the translated program: its stops are heard. -/
namespace Go.Proofs.YtlpfhabfbnjnbaaDoor
open Go.RowKit

theorem fHeard : Tryd.pinned.checked.prog.stopsHeard = true := by kernel_rfl
end Go.Proofs.YtlpfhabfbnjnbaaDoor
