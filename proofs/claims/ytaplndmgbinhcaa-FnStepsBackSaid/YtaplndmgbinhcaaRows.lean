/-
  No cell of these rows narrows 'for every input' (looked for: loops, veiled, ifaces, maps, wideKeys, modest, calm, conditions, laid).
  DERIVED. THE GIVEN ROWS OF THIS SEAT. 3 by the template 'for every input the law returns true; each argument reads behind the call as it read before'; 0 by the template 'total and deterministic' (their statements: YtaplndmgbinhcaaTotals.lean).
  GIVEN WITH THE SEED: the statements are not yours to turn. If you find one false, say at which input.
  Laid BY PROGRAM, IN A SANDBOX (cutbox-rows.mjs): the forced cells as the released guide's own fill.sh prints them over the translation c576c4ad200c377e… (all of the seat's roots in one cut). By AI agents, Wed Nov 11 2026. No macro, syntax, notation, axiom, sorry.
-/
import Derived.Test.YtaplndmgbinhcaaChecked
import GoSem.Claim
import GoSem.ClaimJoined
import GoSem.ClaimMapViews
import Derived.JoinedTies
import Derived.KernelRfl
namespace Go.Proofs.Ytaplndmgbinhcaa
/- THE CELL 'sum', in the pinned program and in every row, IS THE sha256 OF THE DUMP (.gsa) THAT YtaplndmgbinhcaaProg.lean LOADS. Nothing in Lean hashes anything: it is a label: what it is worth is what the hold of that sum in a sandbox is worth. -/
noncomputable def Try.pinned : Pinned := { name := "ytaplndmgbinhcaa", sum := "c576c4ad200c377e28a79a9227308b01fea6d93fcca4e09dc16e224684a5b065", checked := Try.checked }
namespace Rows
def none {H : Type} : Left H := { results := [], args := [] }

/-- 'laws.FnExactStepsBack': WHATEVER THE INPUT: true; the input reads as it did. -/
def fnExactStepsBackSpec : ChangeSpec := { name := "fnExactStepsBack", fn := fun _ => fun
  | [d1, d2] => { results := [.lit (.bool true)], args := [d1, d2] }
  | _ => none }
def fnExactStepsBackRow : OpenClaim := { program := "ytaplndmgbinhcaa", sum := "c576c4ad200c377e28a79a9227308b01fea6d93fcca4e09dc16e224684a5b065", func := "loop.example/rotorciphers/laws.FnExactStepsBack", spec := "fnExactStepsBack", inPlace := ["internal/bytealg.IndexByteString"], recurses := true, apart := false }
def FnExactStepsBackSaid : Prop := fnExactStepsBackRow.holds Try.pinned (OpenSpec.ofChange fnExactStepsBackSpec)

/-- ITS FALSE NEIGHBOUR: 'it returns false'. Refute it at one input. -/
def fnExactStepsBackWrong : ChangeSpec := { name := "fnExactStepsBack", fn := fun _ => fun
  | [d1, d2] => { results := [.lit (.bool false)], args := [d1, d2] }
  | _ => none }
def FnExactStepsBackWrongFalsely : Prop := fnExactStepsBackRow.holds Try.pinned (OpenSpec.ofChange fnExactStepsBackWrong)

/-- 'laws.FnStepsBackOf': WHATEVER THE INPUT: true; the input reads as it did. -/
def fnStepsBackOfSpec : ChangeSpec := { name := "fnStepsBackOf", fn := fun _ => fun
  | [d] => { results := [.lit (.bool true)], args := [d] }
  | _ => none }
def fnStepsBackOfRow : OpenClaim := { program := "ytaplndmgbinhcaa", sum := "c576c4ad200c377e28a79a9227308b01fea6d93fcca4e09dc16e224684a5b065", func := "loop.example/rotorciphers/laws.FnStepsBackOf", spec := "fnStepsBackOf", inPlace := ["internal/bytealg.IndexByteString"], recurses := true, apart := false }
def FnStepsBackOfSaid : Prop := fnStepsBackOfRow.holds Try.pinned (OpenSpec.ofChange fnStepsBackOfSpec)

/-- ITS FALSE NEIGHBOUR: 'it returns false'. Refute it at one input. -/
def fnStepsBackOfWrong : ChangeSpec := { name := "fnStepsBackOf", fn := fun _ => fun
  | [d] => { results := [.lit (.bool false)], args := [d] }
  | _ => none }
def FnStepsBackOfWrongFalsely : Prop := fnStepsBackOfRow.holds Try.pinned (OpenSpec.ofChange fnStepsBackOfWrong)

/-- 'laws.FnStepsBack': WHATEVER THE INPUT: true; the input reads as it did. -/
def fnStepsBackSpec : ChangeSpec := { name := "fnStepsBack", fn := fun _ => fun
  | [d] => { results := [.lit (.bool true)], args := [d] }
  | _ => none }
def fnStepsBackRow : OpenClaim := { program := "ytaplndmgbinhcaa", sum := "c576c4ad200c377e28a79a9227308b01fea6d93fcca4e09dc16e224684a5b065", func := "loop.example/rotorciphers/laws.FnStepsBack", spec := "fnStepsBack", inPlace := ["internal/bytealg.IndexByteString"], recurses := true, apart := false }
def FnStepsBackSaid : Prop := fnStepsBackRow.holds Try.pinned (OpenSpec.ofChange fnStepsBackSpec)

/-- ITS FALSE NEIGHBOUR: 'it returns false'. Refute it at one input. -/
def fnStepsBackWrong : ChangeSpec := { name := "fnStepsBack", fn := fun _ => fun
  | [d] => { results := [.lit (.bool false)], args := [d] }
  | _ => none }
def FnStepsBackWrongFalsely : Prop := fnStepsBackRow.holds Try.pinned (OpenSpec.ofChange fnStepsBackWrong)

/- THE SECOND FORM. 'bulk': how many values and letters a reading holds, each counted each time it is reached (what is shared counts as often as it is met; a slice's spare places count too). A statement '..UptoSaid' is the law's where the arguments, and the package variables that the reading takes, are together of bulk at most 1048576: NARROWER than '..Said'. Prove '..Said' where nothing that the law and all that it calls make is longer than what came in: it says more and counts as full. Else prove '..UptoSaid'. A law counts once. -/
mutual
def uptoBulk {H : Type} : DataW H → Nat
  | .lit (.string bytes) => bytes.length + 1
  | .lit _ => 1
  | .nil => 1
  | .ptr d => uptoBulk d + 1
  | .slice elems spare => uptoBulkAll elems + uptoBulkAll spare + 1
  | .agg parts => uptoBulkAll parts + 1
  | .iface _ d => uptoBulk d + 1
  | .map entries => uptoBulkEntries entries + 1
  | .held _ => 1
def uptoBulkAll {H : Type} : List (DataW H) → Nat
  | [] => 0
  | d :: r => uptoBulk d + uptoBulkAll r
def uptoBulkEntries {H : Type} : List (Lit × DataW H) → Nat
  | [] => 0
  | x :: r => uptoBulkEntry x + uptoBulkEntries r
def uptoBulkEntry {H : Type} : Lit × DataW H → Nat
  | (.string bytes, d) => bytes.length + uptoBulk d + 1
  | (_, d) => uptoBulk d + 1
 end
def uptoSmall : (H : Type) → List (DataW H) → Bool := fun _ ds => decide (uptoBulkAll ds ≤ 1048576)
def OpenSpec.upto (s : _root_.Go.ChangeSpec) : _root_.Go.OpenSpec := { _root_.Go.OpenSpec.ofChange s with cond := some uptoSmall }

/-- 'laws.FnExactStepsBack', WHERE WHAT IT READS IS OF BULK AT MOST 1048576: true; the input reads as it did. -/
def fnExactStepsBackUptoRow : OpenClaim := { program := "ytaplndmgbinhcaa", sum := "c576c4ad200c377e28a79a9227308b01fea6d93fcca4e09dc16e224684a5b065", func := "loop.example/rotorciphers/laws.FnExactStepsBack", spec := "fnExactStepsBack", inPlace := ["internal/bytealg.IndexByteString"], recurses := true, apart := false, narrowed := true }
def FnExactStepsBackUptoSaid : Prop := fnExactStepsBackUptoRow.holds Try.pinned (OpenSpec.upto fnExactStepsBackSpec)

/-- 'laws.FnStepsBackOf', WHERE WHAT IT READS IS OF BULK AT MOST 1048576: true; the input reads as it did. -/
def fnStepsBackOfUptoRow : OpenClaim := { program := "ytaplndmgbinhcaa", sum := "c576c4ad200c377e28a79a9227308b01fea6d93fcca4e09dc16e224684a5b065", func := "loop.example/rotorciphers/laws.FnStepsBackOf", spec := "fnStepsBackOf", inPlace := ["internal/bytealg.IndexByteString"], recurses := true, apart := false, narrowed := true }
def FnStepsBackOfUptoSaid : Prop := fnStepsBackOfUptoRow.holds Try.pinned (OpenSpec.upto fnStepsBackOfSpec)

/-- 'laws.FnStepsBack', WHERE WHAT IT READS IS OF BULK AT MOST 1048576: true; the input reads as it did. -/
def fnStepsBackUptoRow : OpenClaim := { program := "ytaplndmgbinhcaa", sum := "c576c4ad200c377e28a79a9227308b01fea6d93fcca4e09dc16e224684a5b065", func := "loop.example/rotorciphers/laws.FnStepsBack", spec := "fnStepsBack", inPlace := ["internal/bytealg.IndexByteString"], recurses := true, apart := false, narrowed := true }
def FnStepsBackUptoSaid : Prop := fnStepsBackUptoRow.holds Try.pinned (OpenSpec.upto fnStepsBackSpec)

end Rows
end Go.Proofs.Ytaplndmgbinhcaa
