/- Several of my texts in one: DrawV2. -/
import Derived.Test.YtbeohccbflhdiaaM17
/- The contracts of DrawMachineOffsets and DrawDayProducts. -/
namespace Go.Proofs.Ytbeohccbflhdiaa
open Go.RowKit

def DrawnV (w : World) (e : Ending) (w' : World) : Prop :=
  ∃ (m : Mach) (v : ByteArray) (a : Option Addr) (cap : Nat), DrawnM w m a w' ∧ v.size ≤ 300 ∧
    e = .returned (.tuple #[.agg #[.slice a m.wheels.rotors.length cap, .string m.wheels.refl, .string m.rings, .string m.plugs], .string v])
end Go.Proofs.Ytbeohccbflhdiaa
