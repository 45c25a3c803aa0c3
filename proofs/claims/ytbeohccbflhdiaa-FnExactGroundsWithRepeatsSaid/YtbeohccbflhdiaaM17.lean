/- Several of my texts in one: DrawO, DrawSeal. -/
import Derived.Test.YtbeohccbflhdiaaM10
/- The draw of a machine and two windows of it. -/
namespace Go.Proofs.Ytbeohccbflhdiaa
open Go.RowKit

theorem Tu.toMoved {R g : Nat} {a b : World} (h : Tu R g a b) (hg : a.heap.size ≤ g) : Moved R a b :=
  ⟨h.os, h.tape, h.output, h.size, fun k hk hne => h.block k hk (fun e => hne (by rw [e])) (by omega)⟩
/-- What lies apart from the reader stays when the reader moves. -/
theorem Reads.moved {R B : Nat} {w w' : World} {a : Option Addr} {xs : List Value} (h : Reads w w.heap.size a xs) (hm : Moved R w w') (ha : ∀ ad, a = some ad → ad.block ≠ R) (hB : w'.heap.size ≤ B) : Reads w' B a xs := by
  rcases h with h | ⟨b, off, he, hb, hc⟩
  · exact .inl h
  · refine .inr ⟨b, off, he, Nat.lt_of_lt_of_le (Nat.lt_of_lt_of_le hb hm.size) hB, fun i hi => ?_⟩
    rw [← hc i hi]
    exact World.cell?_of_block (w := w) (hm.block b hb (by
      have := ha _ he
      simp only at this
      simp; omega))
/-- A machine and two windows are drawn. -/
def Open9 (R c : Nat) (w : World) (e : Ending) (w' : World) : Prop :=
  ∃ (m : Mach) (s k : ByteArray) (a : Option Addr) (cap : Nat), SmallM m ∧ s.size ≤ 300 ∧ k.size ≤ 300 ∧
    e = .returned (.tuple #[.agg #[.slice a m.wheels.rotors.length cap, .string m.wheels.refl, .string m.rings, .string m.plugs], .string s, .string k]) ∧
    Reads w' w'.heap.size a (rvs m.wheels.rotors) ∧ (∀ ad, a = some ad → w.heap.size ≤ ad.block) ∧ Rd w' R c ∧ Moved R w w'
end Go.Proofs.Ytbeohccbflhdiaa

/- The contract of DrawSealMessage. -/
namespace Go.Proofs.Ytbeohccbflhdiaa
open Go.RowKit

def DrawnS (w : World) (e : Ending) (w' : World) : Prop :=
  ∃ (m : Mach) (s k u : ByteArray) (a : Option Addr) (cap : Nat), DrawnM w m a w' ∧ s.size ≤ 300 ∧ k.size ≤ 300 ∧ u.size ≤ 300 ∧
    e = .returned (.tuple #[.agg #[.slice a m.wheels.rotors.length cap, .string m.wheels.refl, .string m.rings, .string m.plugs], .string s, .string k, .string u])
end Go.Proofs.Ytbeohccbflhdiaa
