/- Several of my texts in one: Facts. -/
import Derived.Test.YtbeohccbflhdiaaRows
import Derived.WalkKit
import Derived.ProofKit
import Derived.OpenShut
import Derived.ChangeOld
/- Facts on the whole of the translated program that every statement asks for: each proved once. -/
namespace Go.Proofs.Ytbeohccbflhdiaa
open Go.RowKit

theorem pl {a b : Bool} (ha : a = true) (hb : b = true) : (a && b) = true := by rw [ha, hb]; rfl
theorem fLaid : laidOutB Try.pinned.checked.prog = true := by kernel_rfl
theorem fRowed : mapsRowed Try.pinned.checked.prog = true := by kernel_rfl
theorem fStops : (Try.pinned.checked.prog.stops == []) = true := by kernel_rfl
theorem fKnobs : (Try.pinned.checked.prog.stopKnobs == []) = true := by kernel_rfl
theorem fPlain : (true == Try.pinned.checked.prog.plainKeys) = true := by kernel_rfl
theorem fHeard : Try.pinned.checked.prog.stopsHeard = true := by kernel_rfl
theorem fEnter : Try.pinned.checked.prog.mayEnter = true := by kernel_rfl
theorem fLifts : (false == Try.pinned.checked.prog.liftsFinal) = true := by kernel_rfl
theorem fOwn : ownKnob Try.prog.godebug = none := by kernel_rfl
end Go.Proofs.Ytbeohccbflhdiaa
