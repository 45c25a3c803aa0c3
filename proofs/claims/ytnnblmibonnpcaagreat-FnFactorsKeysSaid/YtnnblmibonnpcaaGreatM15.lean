/- Several of my texts in one: Facts. -/
import Derived.Test.YtnnblmibonnpcaaGreatRows
import Derived.Test.YtnnblmibonnpcaaGreatM12
import Derived.Test.YtnnblmibonnpcaaGreatM13
import Derived.Test.YtnnblmibonnpcaaGreatM14
import Derived.WalkKit
import Derived.ProofKit
import Derived.OpenShut
import Derived.ChangeOld
/- Facts on the whole of the translated program that every statement asks for: each proved once. -/
namespace Go.Proofs.YtnnblmibonnpcaaGreat
open Go.RowKit

theorem pl {a b : Bool} (ha : a = true) (hb : b = true) : (a && b) = true := by rw [ha, hb]; rfl
theorem fLaid : laidOutB Tryz.pinned.checked.prog = true := by kernel_rfl
theorem fRowed : mapsRowed Tryz.pinned.checked.prog = true := by kernel_rfl
theorem fStops : (Tryz.pinned.checked.prog.stops == []) = true := by kernel_rfl
theorem fKnobs : (Tryz.pinned.checked.prog.stopKnobs == []) = true := by kernel_rfl
theorem fOwn : ownKnob Tryz.prog.godebug = none := by kernel_rfl
end Go.Proofs.YtnnblmibonnpcaaGreat
