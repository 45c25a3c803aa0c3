/- Rotors, wheels and machines as values and in memory. -/
import Derived.Test.YtaplndmgbinhcaaGreatRefl
namespace Go.Proofs.YtaplndmgbinhcaaGreat
open Go.RowKit

/-- The cells of a rotor. -/
def rv (r : Rot) : List Value := [.string r.wiring, .string r.notches]
/-- The cells of some rotors. -/
def rvs : List Rot → List Value
  | [] => []
  | r :: rs => .string r.wiring :: .string r.notches :: rvs rs
theorem len_rvs : ∀ rs : List Rot, (rvs rs).length = 2 * rs.length
  | [] => rfl
  | r :: rs => by simp only [rvs, List.length_cons, len_rvs rs]; omega
theorem rvs_sub : ∀ (rs : List Rot) (i : Nat) (h : i < rs.length), ((rvs rs).drop (2 * i)).take 2 = rv rs[i]
  | r :: rs, 0, _ => by simp [rvs, rv]
  | r :: rs, i + 1, h => by
    have h' : i < rs.length := by simpa using h
    rw [show 2 * (i + 1) = 2 * i + 1 + 1 by omega]
    simp only [rvs, List.drop_succ_cons, List.getElem_cons_succ]
    exact rvs_sub rs i h'
theorem rvs_at0 (rs : List Rot) (i : Nat) (h : i < rs.length) : (rvs rs)[2 * i]? = some (.string rs[i].wiring) := by
  have := congrArg (fun l => l[0]?) (rvs_sub rs i h)
  simpa [rv] using this
theorem rvs_at1 (rs : List Rot) (i : Nat) (h : i < rs.length) : (rvs rs)[2 * i + 1]? = some (.string rs[i].notches) := by
  have := congrArg (fun l => l[1]?) (rvs_sub rs i h)
  simpa [rv] using this
theorem rvs_append : ∀ a b : List Rot, rvs (a ++ b) = rvs a ++ rvs b
  | [], _ => rfl
  | r :: a, b => by simp [rvs, rvs_append a b]

/-- The strings of a rotor are not too long. -/
def SzR (r : Rot) : Prop := r.wiring.size ≤ 4294967296 ∧ r.notches.size ≤ 4294967296
/-- Wheels in memory: the slice at a, with n rotors, below block B. -/
structure WhlAt (w : World) (B : Nat) (a : Option Addr) (n : Nat) (x : Whl) : Prop where
  reads : Reads w B a (rvs x.rotors)
  len : n = x.rotors.length
  few : x.rotors.length ≤ 1048576
  rot : ∀ r ∈ x.rotors, SzR r
  refl : x.refl.size ≤ 4294967296
theorem WhlAt.below {w w' : World} {B C : Nat} {a : Option Addr} {n : Nat} {x : Whl} (h : WhlAt w B a n x) (hb : Below C w w') (hC : B ≤ C) : WhlAt w' B a n x :=
  ⟨h.reads.below hb hC, h.len, h.few, h.rot, h.refl⟩
theorem WhlAt.keep {w w' : World} {B : Nat} {a : Option Addr} {n : Nat} {x : Whl} (h : WhlAt w B a n x) (hk : ∀ p : Addr, p.block < B → w'.cell? p = w.cell? p) : WhlAt w' B a n x :=
  ⟨h.reads.keep hk, h.len, h.few, h.rot, h.refl⟩
theorem WhlAt.more {w : World} {B C : Nat} {a : Option Addr} {n : Nat} {x : Whl} (h : WhlAt w B a n x) (hC : B ≤ C) : WhlAt w C a n x :=
  ⟨h.reads.more hC, h.len, h.few, h.rot, h.refl⟩
theorem WhlAt.alloc {w : World} {B : Nat} {a : Option Addr} {n : Nat} {x : Whl} (h : WhlAt w B a n x) (hB : B ≤ w.heap.size) (o : Obj) : WhlAt (w.alloc o) B a n x :=
  h.keep fun p hp => World.cell?_alloc_lt w o p (by omega)
/-- A machine in memory. -/
structure MachAt (w : World) (B : Nat) (a : Option Addr) (n : Nat) (m : Mach) : Prop where
  whl : WhlAt w B a n m.wheels
  rings : m.rings.size ≤ 4294967296
  plugs : m.plugs.size ≤ 4294967296
theorem MachAt.below {w w' : World} {B C : Nat} {a : Option Addr} {n : Nat} {m : Mach} (h : MachAt w B a n m) (hb : Below C w w') (hC : B ≤ C) : MachAt w' B a n m :=
  ⟨h.whl.below hb hC, h.rings, h.plugs⟩
theorem MachAt.keep {w w' : World} {B : Nat} {a : Option Addr} {n : Nat} {m : Mach} (h : MachAt w B a n m) (hk : ∀ p : Addr, p.block < B → w'.cell? p = w.cell? p) : MachAt w' B a n m :=
  ⟨h.whl.keep hk, h.rings, h.plugs⟩
theorem MachAt.more {w : World} {B C : Nat} {a : Option Addr} {n : Nat} {m : Mach} (h : MachAt w B a n m) (hC : B ≤ C) : MachAt w C a n m :=
  ⟨h.whl.more hC, h.rings, h.plugs⟩
theorem MachAt.alloc {w : World} {B : Nat} {a : Option Addr} {n : Nat} {m : Mach} (h : MachAt w B a n m) (hB : B ≤ w.heap.size) (o : Obj) : MachAt (w.alloc o) B a n m :=
  ⟨h.whl.alloc hB o, h.rings, h.plugs⟩
/-- Wheels as a value. -/
def wval (a : Option Addr) (n c : Nat) (x : Whl) : Value := .agg #[.slice a n c, .string x.refl]
/-- A machine as a value. -/
def mval (a : Option Addr) (n c : Nat) (m : Mach) : Value := .agg #[.slice a n c, .string m.wheels.refl, .string m.rings, .string m.plugs]
end Go.Proofs.YtaplndmgbinhcaaGreat
