/- Several of my texts in one: Facts. -/
import Derived.Test.YtlpfhabfbnjnbaaDoorRows
import Derived.Test.YtlpfhabfbnjnbaaDoorM1
import Derived.Test.YtlpfhabfbnjnbaaDoorM2
import Derived.Test.YtlpfhabfbnjnbaaDoorM3
import Derived.WalkKit
import Derived.ProofKit
import Derived.OpenShut
import Derived.ChangeOld
/- Facts on the whole of the translated program that every statement asks for: each proved once. -/
namespace Go.Proofs.YtlpfhabfbnjnbaaDoor
open Go.RowKit

theorem pl {a b : Bool} (ha : a = true) (hb : b = true) : (a && b) = true := by rw [ha, hb]; rfl
theorem fLaid : laidOutB Tryd.pinned.checked.prog = true := by kernel_rfl
theorem fRowed : mapsRowed Tryd.pinned.checked.prog = true := by kernel_rfl
theorem fStops : (Tryd.pinned.checked.prog.stops == []) = true := by kernel_rfl
theorem fKnobs : (Tryd.pinned.checked.prog.stopKnobs == []) = true := by kernel_rfl
theorem fOwn : ownKnob Tryd.prog.godebug = none := by kernel_rfl
end Go.Proofs.YtlpfhabfbnjnbaaDoor
