/- Several of my texts in one: FactsP. -/
import Derived.Test.YtnnblmibonnpcaaGreatDoorRows
import Derived.WalkKit
import Derived.ProofKit
import Derived.OpenShut
import Derived.ChangeOld
/- A fact on the whole of the translated program: its keys are plain. -/
namespace Go.Proofs.YtnnblmibonnpcaaGreatDoor
open Go.RowKit

theorem fPlain : (true == Tryz.pinned.checked.prog.plainKeys) = true := by kernel_rfl
end Go.Proofs.YtnnblmibonnpcaaGreatDoor
