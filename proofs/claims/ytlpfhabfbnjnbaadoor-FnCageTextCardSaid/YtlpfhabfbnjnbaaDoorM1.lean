/- Several of my texts in one: FactsP. -/
import Derived.Test.YtlpfhabfbnjnbaaDoorRows
import Derived.WalkKit
import Derived.ProofKit
import Derived.OpenShut
import Derived.ChangeOld
/- A fact on the whole of the translated program: its keys are plain. -/
namespace Go.Proofs.YtlpfhabfbnjnbaaDoor
open Go.RowKit

theorem fPlain : (true == Tryd.pinned.checked.prog.plainKeys) = true := by kernel_rfl
end Go.Proofs.YtlpfhabfbnjnbaaDoor
