/-
  No cell of these rows narrows 'for every input' (looked for: loops, veiled, ifaces, maps, wideKeys, modest, calm, conditions, laid).
  DERIVED. THE GIVEN ROWS OF THIS SEAT. 18 by the template 'for every input the law returns true; each argument reads behind the call as it read before'; 0 by the template 'total and deterministic' (their statements: YtdmnkcmkpjmfaaaGreatTotals.lean).
  GIVEN WITH THE SEED: the statements are not yours to turn. If you find one false, say at which input.
  Laid BY PROGRAM, IN A SANDBOX (cutbox-rows.mjs): the forced cells as the released guide's own fill.sh prints them over the translation ec89b3679dc4f31d… (all of the seat's roots in one cut). By AI agents, Wed Nov 11 2026. No macro, syntax, notation, axiom, sorry.
-/
import Derived.Test.YtdmnkcmkpjmfaaaGreatChecked
import GoSem.Claim
import GoSem.ClaimJoined
import GoSem.ClaimMapViews
import Derived.JoinedTies
import Derived.KernelRfl
namespace Go.Proofs.YtdmnkcmkpjmfaaaGreat
/- THE CELL 'sum', in the pinned program and in every row, IS THE sha256 OF THE DUMP (.gsa) THAT YtdmnkcmkpjmfaaaGreatProg.lean LOADS. Nothing in Lean hashes anything: it is a label: what it is worth is what the hold of that sum in a sandbox is worth. -/
noncomputable def Tryz.pinned : Pinned := { name := "ytdmnkcmkpjmfaaagreat", sum := "ec89b3679dc4f31d82e84165b84608a18d04b1ba0813ead99d60d22d513a43c0", checked := Tryz.checked }
namespace Rows
def none {H : Type} : Left H := { results := [], args := [] }

/-- 'laws.FnExactImpliedPairs': WHATEVER THE INPUT: true; the input reads as it did. -/
def fnExactImpliedPairsSpec : ChangeSpec := { name := "fnExactImpliedPairs", fn := fun _ => fun
  | [d1, d2, d3, d4] => { results := [.lit (.bool true)], args := [d1, d2, d3, d4] }
  | _ => none }
def fnExactImpliedPairsRow : OpenClaim := { program := "ytdmnkcmkpjmfaaagreat", sum := "ec89b3679dc4f31d82e84165b84608a18d04b1ba0813ead99d60d22d513a43c0", func := "loop.example/rotorciphers/laws.FnExactImpliedPairs", spec := "fnExactImpliedPairs", inPlace := ["internal/bytealg.IndexByteString"], unfollowed := true, recurses := true, apart := false }
def FnExactImpliedPairsSaid : Prop := fnExactImpliedPairsRow.holds Tryz.pinned (OpenSpec.ofChange fnExactImpliedPairsSpec)

/-- ITS FALSE NEIGHBOUR: 'it returns false'. Refute it at one input. -/
def fnExactImpliedPairsWrong : ChangeSpec := { name := "fnExactImpliedPairs", fn := fun _ => fun
  | [d1, d2, d3, d4] => { results := [.lit (.bool false)], args := [d1, d2, d3, d4] }
  | _ => none }
def FnExactImpliedPairsWrongFalsely : Prop := fnExactImpliedPairsRow.holds Tryz.pinned (OpenSpec.ofChange fnExactImpliedPairsWrong)

/-- 'laws.FnImpliedTrue': WHATEVER THE INPUT: true; the input reads as it did. -/
def fnImpliedTrueSpec : ChangeSpec := { name := "fnImpliedTrue", fn := fun _ => fun
  | [d] => { results := [.lit (.bool true)], args := [d] }
  | _ => none }
def fnImpliedTrueRow : OpenClaim := { program := "ytdmnkcmkpjmfaaagreat", sum := "ec89b3679dc4f31d82e84165b84608a18d04b1ba0813ead99d60d22d513a43c0", func := "loop.example/rotorciphers/laws.FnImpliedTrue", spec := "fnImpliedTrue", inPlace := ["internal/bytealg.IndexByteString"], unfollowed := true, recurses := true, apart := false }
def FnImpliedTrueSaid : Prop := fnImpliedTrueRow.holds Tryz.pinned (OpenSpec.ofChange fnImpliedTrueSpec)

/-- ITS FALSE NEIGHBOUR: 'it returns false'. Refute it at one input. -/
def fnImpliedTrueWrong : ChangeSpec := { name := "fnImpliedTrue", fn := fun _ => fun
  | [d] => { results := [.lit (.bool false)], args := [d] }
  | _ => none }
def FnImpliedTrueWrongFalsely : Prop := fnImpliedTrueRow.holds Tryz.pinned (OpenSpec.ofChange fnImpliedTrueWrong)

/-- 'laws.FnExactHypotheses': WHATEVER THE INPUT: true; the input reads as it did. -/
def fnExactHypothesesSpec : ChangeSpec := { name := "fnExactHypotheses", fn := fun _ => fun
  | [d1, d2, d3] => { results := [.lit (.bool true)], args := [d1, d2, d3] }
  | _ => none }
def fnExactHypothesesRow : OpenClaim := { program := "ytdmnkcmkpjmfaaagreat", sum := "ec89b3679dc4f31d82e84165b84608a18d04b1ba0813ead99d60d22d513a43c0", func := "loop.example/rotorciphers/laws.FnExactHypotheses", spec := "fnExactHypotheses", inPlace := ["internal/bytealg.IndexByteString"], unfollowed := true, recurses := true, apart := false }
def FnExactHypothesesSaid : Prop := fnExactHypothesesRow.holds Tryz.pinned (OpenSpec.ofChange fnExactHypothesesSpec)

/-- ITS FALSE NEIGHBOUR: 'it returns false'. Refute it at one input. -/
def fnExactHypothesesWrong : ChangeSpec := { name := "fnExactHypotheses", fn := fun _ => fun
  | [d1, d2, d3] => { results := [.lit (.bool false)], args := [d1, d2, d3] }
  | _ => none }
def FnExactHypothesesWrongFalsely : Prop := fnExactHypothesesRow.holds Tryz.pinned (OpenSpec.ofChange fnExactHypothesesWrong)

/-- 'laws.FnBombeTrue': WHATEVER THE INPUT: true; the input reads as it did. -/
def fnBombeTrueSpec : ChangeSpec := { name := "fnBombeTrue", fn := fun _ => fun
  | [d] => { results := [.lit (.bool true)], args := [d] }
  | _ => none }
def fnBombeTrueRow : OpenClaim := { program := "ytdmnkcmkpjmfaaagreat", sum := "ec89b3679dc4f31d82e84165b84608a18d04b1ba0813ead99d60d22d513a43c0", func := "loop.example/rotorciphers/laws.FnBombeTrue", spec := "fnBombeTrue", inPlace := ["internal/bytealg.IndexByteString"], unfollowed := true, recurses := true, apart := false }
def FnBombeTrueSaid : Prop := fnBombeTrueRow.holds Tryz.pinned (OpenSpec.ofChange fnBombeTrueSpec)

/-- ITS FALSE NEIGHBOUR: 'it returns false'. Refute it at one input. -/
def fnBombeTrueWrong : ChangeSpec := { name := "fnBombeTrue", fn := fun _ => fun
  | [d] => { results := [.lit (.bool false)], args := [d] }
  | _ => none }
def FnBombeTrueWrongFalsely : Prop := fnBombeTrueRow.holds Tryz.pinned (OpenSpec.ofChange fnBombeTrueWrong)

/-- 'laws.FnImpliedBack': WHATEVER THE INPUT: true; the input reads as it did. -/
def fnImpliedBackSpec : ChangeSpec := { name := "fnImpliedBack", fn := fun _ => fun
  | [d] => { results := [.lit (.bool true)], args := [d] }
  | _ => none }
def fnImpliedBackRow : OpenClaim := { program := "ytdmnkcmkpjmfaaagreat", sum := "ec89b3679dc4f31d82e84165b84608a18d04b1ba0813ead99d60d22d513a43c0", func := "loop.example/rotorciphers/laws.FnImpliedBack", spec := "fnImpliedBack", inPlace := ["internal/bytealg.IndexByteString"], unfollowed := true, recurses := true, apart := false }
def FnImpliedBackSaid : Prop := fnImpliedBackRow.holds Tryz.pinned (OpenSpec.ofChange fnImpliedBackSpec)

/-- ITS FALSE NEIGHBOUR: 'it returns false'. Refute it at one input. -/
def fnImpliedBackWrong : ChangeSpec := { name := "fnImpliedBack", fn := fun _ => fun
  | [d] => { results := [.lit (.bool false)], args := [d] }
  | _ => none }
def FnImpliedBackWrongFalsely : Prop := fnImpliedBackRow.holds Tryz.pinned (OpenSpec.ofChange fnImpliedBackWrong)

/-- 'laws.FnImpliedMore': WHATEVER THE INPUT: true; the input reads as it did. -/
def fnImpliedMoreSpec : ChangeSpec := { name := "fnImpliedMore", fn := fun _ => fun
  | [d] => { results := [.lit (.bool true)], args := [d] }
  | _ => none }
def fnImpliedMoreRow : OpenClaim := { program := "ytdmnkcmkpjmfaaagreat", sum := "ec89b3679dc4f31d82e84165b84608a18d04b1ba0813ead99d60d22d513a43c0", func := "loop.example/rotorciphers/laws.FnImpliedMore", spec := "fnImpliedMore", inPlace := ["internal/bytealg.IndexByteString"], unfollowed := true, recurses := true, apart := false }
def FnImpliedMoreSaid : Prop := fnImpliedMoreRow.holds Tryz.pinned (OpenSpec.ofChange fnImpliedMoreSpec)

/-- ITS FALSE NEIGHBOUR: 'it returns false'. Refute it at one input. -/
def fnImpliedMoreWrong : ChangeSpec := { name := "fnImpliedMore", fn := fun _ => fun
  | [d] => { results := [.lit (.bool false)], args := [d] }
  | _ => none }
def FnImpliedMoreWrongFalsely : Prop := fnImpliedMoreRow.holds Tryz.pinned (OpenSpec.ofChange fnImpliedMoreWrong)

/-- 'laws.FnImpliedPlugs': WHATEVER THE INPUT: true; the input reads as it did. -/
def fnImpliedPlugsSpec : ChangeSpec := { name := "fnImpliedPlugs", fn := fun _ => fun
  | [d] => { results := [.lit (.bool true)], args := [d] }
  | _ => none }
def fnImpliedPlugsRow : OpenClaim := { program := "ytdmnkcmkpjmfaaagreat", sum := "ec89b3679dc4f31d82e84165b84608a18d04b1ba0813ead99d60d22d513a43c0", func := "loop.example/rotorciphers/laws.FnImpliedPlugs", spec := "fnImpliedPlugs", inPlace := ["internal/bytealg.IndexByteString"], unfollowed := true, recurses := true, apart := false }
def FnImpliedPlugsSaid : Prop := fnImpliedPlugsRow.holds Tryz.pinned (OpenSpec.ofChange fnImpliedPlugsSpec)

/-- ITS FALSE NEIGHBOUR: 'it returns false'. Refute it at one input. -/
def fnImpliedPlugsWrong : ChangeSpec := { name := "fnImpliedPlugs", fn := fun _ => fun
  | [d] => { results := [.lit (.bool false)], args := [d] }
  | _ => none }
def FnImpliedPlugsWrongFalsely : Prop := fnImpliedPlugsRow.holds Tryz.pinned (OpenSpec.ofChange fnImpliedPlugsWrong)

/-- 'laws.FnMenuBoardsTrue': WHATEVER THE INPUT: true; the input reads as it did. -/
def fnMenuBoardsTrueSpec : ChangeSpec := { name := "fnMenuBoardsTrue", fn := fun _ => fun
  | [d] => { results := [.lit (.bool true)], args := [d] }
  | _ => none }
def fnMenuBoardsTrueRow : OpenClaim := { program := "ytdmnkcmkpjmfaaagreat", sum := "ec89b3679dc4f31d82e84165b84608a18d04b1ba0813ead99d60d22d513a43c0", func := "loop.example/rotorciphers/laws.FnMenuBoardsTrue", spec := "fnMenuBoardsTrue", inPlace := ["internal/bytealg.IndexByteString"], unfollowed := true, recurses := true, apart := false }
def FnMenuBoardsTrueSaid : Prop := fnMenuBoardsTrueRow.holds Tryz.pinned (OpenSpec.ofChange fnMenuBoardsTrueSpec)

/-- ITS FALSE NEIGHBOUR: 'it returns false'. Refute it at one input. -/
def fnMenuBoardsTrueWrong : ChangeSpec := { name := "fnMenuBoardsTrue", fn := fun _ => fun
  | [d] => { results := [.lit (.bool false)], args := [d] }
  | _ => none }
def FnMenuBoardsTrueWrongFalsely : Prop := fnMenuBoardsTrueRow.holds Tryz.pinned (OpenSpec.ofChange fnMenuBoardsTrueWrong)

/-- 'laws.FnHypothesesFewer': WHATEVER THE INPUT: true; the input reads as it did. -/
def fnHypothesesFewerSpec : ChangeSpec := { name := "fnHypothesesFewer", fn := fun _ => fun
  | [d] => { results := [.lit (.bool true)], args := [d] }
  | _ => none }
def fnHypothesesFewerRow : OpenClaim := { program := "ytdmnkcmkpjmfaaagreat", sum := "ec89b3679dc4f31d82e84165b84608a18d04b1ba0813ead99d60d22d513a43c0", func := "loop.example/rotorciphers/laws.FnHypothesesFewer", spec := "fnHypothesesFewer", inPlace := ["internal/bytealg.IndexByteString"], unfollowed := true, recurses := true, apart := false }
def FnHypothesesFewerSaid : Prop := fnHypothesesFewerRow.holds Tryz.pinned (OpenSpec.ofChange fnHypothesesFewerSpec)

/-- ITS FALSE NEIGHBOUR: 'it returns false'. Refute it at one input. -/
def fnHypothesesFewerWrong : ChangeSpec := { name := "fnHypothesesFewer", fn := fun _ => fun
  | [d] => { results := [.lit (.bool false)], args := [d] }
  | _ => none }
def FnHypothesesFewerWrongFalsely : Prop := fnHypothesesFewerRow.holds Tryz.pinned (OpenSpec.ofChange fnHypothesesFewerWrong)

/-- 'laws.FnExactMenuBoards': WHATEVER THE INPUT: true; the input reads as it did. -/
def fnExactMenuBoardsSpec : ChangeSpec := { name := "fnExactMenuBoards", fn := fun _ => fun
  | [d1, d2, d3] => { results := [.lit (.bool true)], args := [d1, d2, d3] }
  | _ => none }
def fnExactMenuBoardsRow : OpenClaim := { program := "ytdmnkcmkpjmfaaagreat", sum := "ec89b3679dc4f31d82e84165b84608a18d04b1ba0813ead99d60d22d513a43c0", func := "loop.example/rotorciphers/laws.FnExactMenuBoards", spec := "fnExactMenuBoards", inPlace := ["internal/bytealg.IndexByteString"], unfollowed := true, recurses := true, apart := false }
def FnExactMenuBoardsSaid : Prop := fnExactMenuBoardsRow.holds Tryz.pinned (OpenSpec.ofChange fnExactMenuBoardsSpec)

/-- ITS FALSE NEIGHBOUR: 'it returns false'. Refute it at one input. -/
def fnExactMenuBoardsWrong : ChangeSpec := { name := "fnExactMenuBoards", fn := fun _ => fun
  | [d1, d2, d3] => { results := [.lit (.bool false)], args := [d1, d2, d3] }
  | _ => none }
def FnExactMenuBoardsWrongFalsely : Prop := fnExactMenuBoardsRow.holds Tryz.pinned (OpenSpec.ofChange fnExactMenuBoardsWrong)

/-- 'laws.FnImpliedSelf': WHATEVER THE INPUT: true; the input reads as it did. -/
def fnImpliedSelfSpec : ChangeSpec := { name := "fnImpliedSelf", fn := fun _ => fun
  | [d] => { results := [.lit (.bool true)], args := [d] }
  | _ => none }
def fnImpliedSelfRow : OpenClaim := { program := "ytdmnkcmkpjmfaaagreat", sum := "ec89b3679dc4f31d82e84165b84608a18d04b1ba0813ead99d60d22d513a43c0", func := "loop.example/rotorciphers/laws.FnImpliedSelf", spec := "fnImpliedSelf", inPlace := ["internal/bytealg.IndexByteString"], unfollowed := true, recurses := true, apart := false }
def FnImpliedSelfSaid : Prop := fnImpliedSelfRow.holds Tryz.pinned (OpenSpec.ofChange fnImpliedSelfSpec)

/-- ITS FALSE NEIGHBOUR: 'it returns false'. Refute it at one input. -/
def fnImpliedSelfWrong : ChangeSpec := { name := "fnImpliedSelf", fn := fun _ => fun
  | [d] => { results := [.lit (.bool false)], args := [d] }
  | _ => none }
def FnImpliedSelfWrongFalsely : Prop := fnImpliedSelfRow.holds Tryz.pinned (OpenSpec.ofChange fnImpliedSelfWrong)

/-- 'laws.FnImpliedClosed': WHATEVER THE INPUT: true; the input reads as it did. -/
def fnImpliedClosedSpec : ChangeSpec := { name := "fnImpliedClosed", fn := fun _ => fun
  | [d] => { results := [.lit (.bool true)], args := [d] }
  | _ => none }
def fnImpliedClosedRow : OpenClaim := { program := "ytdmnkcmkpjmfaaagreat", sum := "ec89b3679dc4f31d82e84165b84608a18d04b1ba0813ead99d60d22d513a43c0", func := "loop.example/rotorciphers/laws.FnImpliedClosed", spec := "fnImpliedClosed", inPlace := ["internal/bytealg.IndexByteString"], unfollowed := true, recurses := true, apart := false }
def FnImpliedClosedSaid : Prop := fnImpliedClosedRow.holds Tryz.pinned (OpenSpec.ofChange fnImpliedClosedSpec)

/-- ITS FALSE NEIGHBOUR: 'it returns false'. Refute it at one input. -/
def fnImpliedClosedWrong : ChangeSpec := { name := "fnImpliedClosed", fn := fun _ => fun
  | [d] => { results := [.lit (.bool false)], args := [d] }
  | _ => none }
def FnImpliedClosedWrongFalsely : Prop := fnImpliedClosedRow.holds Tryz.pinned (OpenSpec.ofChange fnImpliedClosedWrong)

/-- 'laws.FnExactBombeStops': WHATEVER THE INPUT: true; the input reads as it did. -/
def fnExactBombeStopsSpec : ChangeSpec := { name := "fnExactBombeStops", fn := fun _ => fun
  | [d1, d2, d3] => { results := [.lit (.bool true)], args := [d1, d2, d3] }
  | _ => none }
def fnExactBombeStopsRow : OpenClaim := { program := "ytdmnkcmkpjmfaaagreat", sum := "ec89b3679dc4f31d82e84165b84608a18d04b1ba0813ead99d60d22d513a43c0", func := "loop.example/rotorciphers/laws.FnExactBombeStops", spec := "fnExactBombeStops", inPlace := ["internal/bytealg.IndexByteString"], unfollowed := true, recurses := true, apart := false }
def FnExactBombeStopsSaid : Prop := fnExactBombeStopsRow.holds Tryz.pinned (OpenSpec.ofChange fnExactBombeStopsSpec)

/-- ITS FALSE NEIGHBOUR: 'it returns false'. Refute it at one input. -/
def fnExactBombeStopsWrong : ChangeSpec := { name := "fnExactBombeStops", fn := fun _ => fun
  | [d1, d2, d3] => { results := [.lit (.bool false)], args := [d1, d2, d3] }
  | _ => none }
def FnExactBombeStopsWrongFalsely : Prop := fnExactBombeStopsRow.holds Tryz.pinned (OpenSpec.ofChange fnExactBombeStopsWrong)

/-- 'laws.FnHypothesesRule': WHATEVER THE INPUT: true; the input reads as it did. -/
def fnHypothesesRuleSpec : ChangeSpec := { name := "fnHypothesesRule", fn := fun _ => fun
  | [d] => { results := [.lit (.bool true)], args := [d] }
  | _ => none }
def fnHypothesesRuleRow : OpenClaim := { program := "ytdmnkcmkpjmfaaagreat", sum := "ec89b3679dc4f31d82e84165b84608a18d04b1ba0813ead99d60d22d513a43c0", func := "loop.example/rotorciphers/laws.FnHypothesesRule", spec := "fnHypothesesRule", inPlace := ["internal/bytealg.IndexByteString"], unfollowed := true, recurses := true, apart := false }
def FnHypothesesRuleSaid : Prop := fnHypothesesRuleRow.holds Tryz.pinned (OpenSpec.ofChange fnHypothesesRuleSpec)

/-- ITS FALSE NEIGHBOUR: 'it returns false'. Refute it at one input. -/
def fnHypothesesRuleWrong : ChangeSpec := { name := "fnHypothesesRule", fn := fun _ => fun
  | [d] => { results := [.lit (.bool false)], args := [d] }
  | _ => none }
def FnHypothesesRuleWrongFalsely : Prop := fnHypothesesRuleRow.holds Tryz.pinned (OpenSpec.ofChange fnHypothesesRuleWrong)

/-- 'laws.FnHypothesesTrue': WHATEVER THE INPUT: true; the input reads as it did. -/
def fnHypothesesTrueSpec : ChangeSpec := { name := "fnHypothesesTrue", fn := fun _ => fun
  | [d] => { results := [.lit (.bool true)], args := [d] }
  | _ => none }
def fnHypothesesTrueRow : OpenClaim := { program := "ytdmnkcmkpjmfaaagreat", sum := "ec89b3679dc4f31d82e84165b84608a18d04b1ba0813ead99d60d22d513a43c0", func := "loop.example/rotorciphers/laws.FnHypothesesTrue", spec := "fnHypothesesTrue", inPlace := ["internal/bytealg.IndexByteString"], unfollowed := true, recurses := true, apart := false }
def FnHypothesesTrueSaid : Prop := fnHypothesesTrueRow.holds Tryz.pinned (OpenSpec.ofChange fnHypothesesTrueSpec)

/-- ITS FALSE NEIGHBOUR: 'it returns false'. Refute it at one input. -/
def fnHypothesesTrueWrong : ChangeSpec := { name := "fnHypothesesTrue", fn := fun _ => fun
  | [d] => { results := [.lit (.bool false)], args := [d] }
  | _ => none }
def FnHypothesesTrueWrongFalsely : Prop := fnHypothesesTrueRow.holds Tryz.pinned (OpenSpec.ofChange fnHypothesesTrueWrong)

/-- 'laws.FnMenuBoards': WHATEVER THE INPUT: true; the input reads as it did. -/
def fnMenuBoardsSpec : ChangeSpec := { name := "fnMenuBoards", fn := fun _ => fun
  | [d] => { results := [.lit (.bool true)], args := [d] }
  | _ => none }
def fnMenuBoardsRow : OpenClaim := { program := "ytdmnkcmkpjmfaaagreat", sum := "ec89b3679dc4f31d82e84165b84608a18d04b1ba0813ead99d60d22d513a43c0", func := "loop.example/rotorciphers/laws.FnMenuBoards", spec := "fnMenuBoards", inPlace := ["internal/bytealg.IndexByteString"], unfollowed := true, recurses := true, apart := false }
def FnMenuBoardsSaid : Prop := fnMenuBoardsRow.holds Tryz.pinned (OpenSpec.ofChange fnMenuBoardsSpec)

/-- ITS FALSE NEIGHBOUR: 'it returns false'. Refute it at one input. -/
def fnMenuBoardsWrong : ChangeSpec := { name := "fnMenuBoards", fn := fun _ => fun
  | [d] => { results := [.lit (.bool false)], args := [d] }
  | _ => none }
def FnMenuBoardsWrongFalsely : Prop := fnMenuBoardsRow.holds Tryz.pinned (OpenSpec.ofChange fnMenuBoardsWrong)

/-- 'laws.FnBombeStops': WHATEVER THE INPUT: true; the input reads as it did. -/
def fnBombeStopsSpec : ChangeSpec := { name := "fnBombeStops", fn := fun _ => fun
  | [d] => { results := [.lit (.bool true)], args := [d] }
  | _ => none }
def fnBombeStopsRow : OpenClaim := { program := "ytdmnkcmkpjmfaaagreat", sum := "ec89b3679dc4f31d82e84165b84608a18d04b1ba0813ead99d60d22d513a43c0", func := "loop.example/rotorciphers/laws.FnBombeStops", spec := "fnBombeStops", inPlace := ["internal/bytealg.IndexByteString"], unfollowed := true, recurses := true, apart := false }
def FnBombeStopsSaid : Prop := fnBombeStopsRow.holds Tryz.pinned (OpenSpec.ofChange fnBombeStopsSpec)

/-- ITS FALSE NEIGHBOUR: 'it returns false'. Refute it at one input. -/
def fnBombeStopsWrong : ChangeSpec := { name := "fnBombeStops", fn := fun _ => fun
  | [d] => { results := [.lit (.bool false)], args := [d] }
  | _ => none }
def FnBombeStopsWrongFalsely : Prop := fnBombeStopsRow.holds Tryz.pinned (OpenSpec.ofChange fnBombeStopsWrong)

/-- 'laws.FnMenuBoardsKeep': WHATEVER THE INPUT: true; the input reads as it did. -/
def fnMenuBoardsKeepSpec : ChangeSpec := { name := "fnMenuBoardsKeep", fn := fun _ => fun
  | [d] => { results := [.lit (.bool true)], args := [d] }
  | _ => none }
def fnMenuBoardsKeepRow : OpenClaim := { program := "ytdmnkcmkpjmfaaagreat", sum := "ec89b3679dc4f31d82e84165b84608a18d04b1ba0813ead99d60d22d513a43c0", func := "loop.example/rotorciphers/laws.FnMenuBoardsKeep", spec := "fnMenuBoardsKeep", inPlace := ["internal/bytealg.IndexByteString"], unfollowed := true, recurses := true, apart := false }
def FnMenuBoardsKeepSaid : Prop := fnMenuBoardsKeepRow.holds Tryz.pinned (OpenSpec.ofChange fnMenuBoardsKeepSpec)

/-- ITS FALSE NEIGHBOUR: 'it returns false'. Refute it at one input. -/
def fnMenuBoardsKeepWrong : ChangeSpec := { name := "fnMenuBoardsKeep", fn := fun _ => fun
  | [d] => { results := [.lit (.bool false)], args := [d] }
  | _ => none }
def FnMenuBoardsKeepWrongFalsely : Prop := fnMenuBoardsKeepRow.holds Tryz.pinned (OpenSpec.ofChange fnMenuBoardsKeepWrong)

/- THE SECOND FORM. 'bulk': how many values and letters a reading holds, each counted each time it is reached (what is shared counts as often as it is met; a slice's spare places count too). A statement '..UptoSaid' is the law's where the arguments, and the package variables that the reading takes, are together of bulk at most 1048576: NARROWER than '..Said'. Prove '..Said' where nothing that the law and all that it calls make is longer than what came in: it says more and counts as full. Else prove '..UptoSaid'. A law counts once. -/
mutual
def uptoBulk {H : Type} : DataW H → Nat
  | .lit (.string bytes) => bytes.length + 1
  | .lit _ => 1
  | .nil => 1
  | .ptr d => uptoBulk d + 1
  | .slice elems spare => uptoBulkAll elems + uptoBulkAll spare + 1
  | .agg parts => uptoBulkAll parts + 1
  | .iface _ d => uptoBulk d + 1
  | .map entries => uptoBulkEntries entries + 1
  | .held _ => 1
def uptoBulkAll {H : Type} : List (DataW H) → Nat
  | [] => 0
  | d :: r => uptoBulk d + uptoBulkAll r
def uptoBulkEntries {H : Type} : List (Lit × DataW H) → Nat
  | [] => 0
  | x :: r => uptoBulkEntry x + uptoBulkEntries r
def uptoBulkEntry {H : Type} : Lit × DataW H → Nat
  | (.string bytes, d) => bytes.length + uptoBulk d + 1
  | (_, d) => uptoBulk d + 1
 end
def uptoSmall : (H : Type) → List (DataW H) → Bool := fun _ ds => decide (uptoBulkAll ds ≤ 1048576)
def OpenSpec.upto (s : _root_.Go.ChangeSpec) : _root_.Go.OpenSpec := { _root_.Go.OpenSpec.ofChange s with cond := some uptoSmall }

/-- 'laws.FnExactImpliedPairs', WHERE WHAT IT READS IS OF BULK AT MOST 1048576: true; the input reads as it did. -/
def fnExactImpliedPairsUptoRow : OpenClaim := { program := "ytdmnkcmkpjmfaaagreat", sum := "ec89b3679dc4f31d82e84165b84608a18d04b1ba0813ead99d60d22d513a43c0", func := "loop.example/rotorciphers/laws.FnExactImpliedPairs", spec := "fnExactImpliedPairs", inPlace := ["internal/bytealg.IndexByteString"], unfollowed := true, recurses := true, apart := false, narrowed := true }
def FnExactImpliedPairsUptoSaid : Prop := fnExactImpliedPairsUptoRow.holds Tryz.pinned (OpenSpec.upto fnExactImpliedPairsSpec)

/-- 'laws.FnImpliedTrue', WHERE WHAT IT READS IS OF BULK AT MOST 1048576: true; the input reads as it did. -/
def fnImpliedTrueUptoRow : OpenClaim := { program := "ytdmnkcmkpjmfaaagreat", sum := "ec89b3679dc4f31d82e84165b84608a18d04b1ba0813ead99d60d22d513a43c0", func := "loop.example/rotorciphers/laws.FnImpliedTrue", spec := "fnImpliedTrue", inPlace := ["internal/bytealg.IndexByteString"], unfollowed := true, recurses := true, apart := false, narrowed := true }
def FnImpliedTrueUptoSaid : Prop := fnImpliedTrueUptoRow.holds Tryz.pinned (OpenSpec.upto fnImpliedTrueSpec)

/-- 'laws.FnExactHypotheses', WHERE WHAT IT READS IS OF BULK AT MOST 1048576: true; the input reads as it did. -/
def fnExactHypothesesUptoRow : OpenClaim := { program := "ytdmnkcmkpjmfaaagreat", sum := "ec89b3679dc4f31d82e84165b84608a18d04b1ba0813ead99d60d22d513a43c0", func := "loop.example/rotorciphers/laws.FnExactHypotheses", spec := "fnExactHypotheses", inPlace := ["internal/bytealg.IndexByteString"], unfollowed := true, recurses := true, apart := false, narrowed := true }
def FnExactHypothesesUptoSaid : Prop := fnExactHypothesesUptoRow.holds Tryz.pinned (OpenSpec.upto fnExactHypothesesSpec)

/-- 'laws.FnBombeTrue', WHERE WHAT IT READS IS OF BULK AT MOST 1048576: true; the input reads as it did. -/
def fnBombeTrueUptoRow : OpenClaim := { program := "ytdmnkcmkpjmfaaagreat", sum := "ec89b3679dc4f31d82e84165b84608a18d04b1ba0813ead99d60d22d513a43c0", func := "loop.example/rotorciphers/laws.FnBombeTrue", spec := "fnBombeTrue", inPlace := ["internal/bytealg.IndexByteString"], unfollowed := true, recurses := true, apart := false, narrowed := true }
def FnBombeTrueUptoSaid : Prop := fnBombeTrueUptoRow.holds Tryz.pinned (OpenSpec.upto fnBombeTrueSpec)

/-- 'laws.FnImpliedBack', WHERE WHAT IT READS IS OF BULK AT MOST 1048576: true; the input reads as it did. -/
def fnImpliedBackUptoRow : OpenClaim := { program := "ytdmnkcmkpjmfaaagreat", sum := "ec89b3679dc4f31d82e84165b84608a18d04b1ba0813ead99d60d22d513a43c0", func := "loop.example/rotorciphers/laws.FnImpliedBack", spec := "fnImpliedBack", inPlace := ["internal/bytealg.IndexByteString"], unfollowed := true, recurses := true, apart := false, narrowed := true }
def FnImpliedBackUptoSaid : Prop := fnImpliedBackUptoRow.holds Tryz.pinned (OpenSpec.upto fnImpliedBackSpec)

/-- 'laws.FnImpliedMore', WHERE WHAT IT READS IS OF BULK AT MOST 1048576: true; the input reads as it did. -/
def fnImpliedMoreUptoRow : OpenClaim := { program := "ytdmnkcmkpjmfaaagreat", sum := "ec89b3679dc4f31d82e84165b84608a18d04b1ba0813ead99d60d22d513a43c0", func := "loop.example/rotorciphers/laws.FnImpliedMore", spec := "fnImpliedMore", inPlace := ["internal/bytealg.IndexByteString"], unfollowed := true, recurses := true, apart := false, narrowed := true }
def FnImpliedMoreUptoSaid : Prop := fnImpliedMoreUptoRow.holds Tryz.pinned (OpenSpec.upto fnImpliedMoreSpec)

/-- 'laws.FnImpliedPlugs', WHERE WHAT IT READS IS OF BULK AT MOST 1048576: true; the input reads as it did. -/
def fnImpliedPlugsUptoRow : OpenClaim := { program := "ytdmnkcmkpjmfaaagreat", sum := "ec89b3679dc4f31d82e84165b84608a18d04b1ba0813ead99d60d22d513a43c0", func := "loop.example/rotorciphers/laws.FnImpliedPlugs", spec := "fnImpliedPlugs", inPlace := ["internal/bytealg.IndexByteString"], unfollowed := true, recurses := true, apart := false, narrowed := true }
def FnImpliedPlugsUptoSaid : Prop := fnImpliedPlugsUptoRow.holds Tryz.pinned (OpenSpec.upto fnImpliedPlugsSpec)

/-- 'laws.FnMenuBoardsTrue', WHERE WHAT IT READS IS OF BULK AT MOST 1048576: true; the input reads as it did. -/
def fnMenuBoardsTrueUptoRow : OpenClaim := { program := "ytdmnkcmkpjmfaaagreat", sum := "ec89b3679dc4f31d82e84165b84608a18d04b1ba0813ead99d60d22d513a43c0", func := "loop.example/rotorciphers/laws.FnMenuBoardsTrue", spec := "fnMenuBoardsTrue", inPlace := ["internal/bytealg.IndexByteString"], unfollowed := true, recurses := true, apart := false, narrowed := true }
def FnMenuBoardsTrueUptoSaid : Prop := fnMenuBoardsTrueUptoRow.holds Tryz.pinned (OpenSpec.upto fnMenuBoardsTrueSpec)

/-- 'laws.FnHypothesesFewer', WHERE WHAT IT READS IS OF BULK AT MOST 1048576: true; the input reads as it did. -/
def fnHypothesesFewerUptoRow : OpenClaim := { program := "ytdmnkcmkpjmfaaagreat", sum := "ec89b3679dc4f31d82e84165b84608a18d04b1ba0813ead99d60d22d513a43c0", func := "loop.example/rotorciphers/laws.FnHypothesesFewer", spec := "fnHypothesesFewer", inPlace := ["internal/bytealg.IndexByteString"], unfollowed := true, recurses := true, apart := false, narrowed := true }
def FnHypothesesFewerUptoSaid : Prop := fnHypothesesFewerUptoRow.holds Tryz.pinned (OpenSpec.upto fnHypothesesFewerSpec)

/-- 'laws.FnExactMenuBoards', WHERE WHAT IT READS IS OF BULK AT MOST 1048576: true; the input reads as it did. -/
def fnExactMenuBoardsUptoRow : OpenClaim := { program := "ytdmnkcmkpjmfaaagreat", sum := "ec89b3679dc4f31d82e84165b84608a18d04b1ba0813ead99d60d22d513a43c0", func := "loop.example/rotorciphers/laws.FnExactMenuBoards", spec := "fnExactMenuBoards", inPlace := ["internal/bytealg.IndexByteString"], unfollowed := true, recurses := true, apart := false, narrowed := true }
def FnExactMenuBoardsUptoSaid : Prop := fnExactMenuBoardsUptoRow.holds Tryz.pinned (OpenSpec.upto fnExactMenuBoardsSpec)

/-- 'laws.FnImpliedSelf', WHERE WHAT IT READS IS OF BULK AT MOST 1048576: true; the input reads as it did. -/
def fnImpliedSelfUptoRow : OpenClaim := { program := "ytdmnkcmkpjmfaaagreat", sum := "ec89b3679dc4f31d82e84165b84608a18d04b1ba0813ead99d60d22d513a43c0", func := "loop.example/rotorciphers/laws.FnImpliedSelf", spec := "fnImpliedSelf", inPlace := ["internal/bytealg.IndexByteString"], unfollowed := true, recurses := true, apart := false, narrowed := true }
def FnImpliedSelfUptoSaid : Prop := fnImpliedSelfUptoRow.holds Tryz.pinned (OpenSpec.upto fnImpliedSelfSpec)

/-- 'laws.FnImpliedClosed', WHERE WHAT IT READS IS OF BULK AT MOST 1048576: true; the input reads as it did. -/
def fnImpliedClosedUptoRow : OpenClaim := { program := "ytdmnkcmkpjmfaaagreat", sum := "ec89b3679dc4f31d82e84165b84608a18d04b1ba0813ead99d60d22d513a43c0", func := "loop.example/rotorciphers/laws.FnImpliedClosed", spec := "fnImpliedClosed", inPlace := ["internal/bytealg.IndexByteString"], unfollowed := true, recurses := true, apart := false, narrowed := true }
def FnImpliedClosedUptoSaid : Prop := fnImpliedClosedUptoRow.holds Tryz.pinned (OpenSpec.upto fnImpliedClosedSpec)

/-- 'laws.FnExactBombeStops', WHERE WHAT IT READS IS OF BULK AT MOST 1048576: true; the input reads as it did. -/
def fnExactBombeStopsUptoRow : OpenClaim := { program := "ytdmnkcmkpjmfaaagreat", sum := "ec89b3679dc4f31d82e84165b84608a18d04b1ba0813ead99d60d22d513a43c0", func := "loop.example/rotorciphers/laws.FnExactBombeStops", spec := "fnExactBombeStops", inPlace := ["internal/bytealg.IndexByteString"], unfollowed := true, recurses := true, apart := false, narrowed := true }
def FnExactBombeStopsUptoSaid : Prop := fnExactBombeStopsUptoRow.holds Tryz.pinned (OpenSpec.upto fnExactBombeStopsSpec)

/-- 'laws.FnHypothesesRule', WHERE WHAT IT READS IS OF BULK AT MOST 1048576: true; the input reads as it did. -/
def fnHypothesesRuleUptoRow : OpenClaim := { program := "ytdmnkcmkpjmfaaagreat", sum := "ec89b3679dc4f31d82e84165b84608a18d04b1ba0813ead99d60d22d513a43c0", func := "loop.example/rotorciphers/laws.FnHypothesesRule", spec := "fnHypothesesRule", inPlace := ["internal/bytealg.IndexByteString"], unfollowed := true, recurses := true, apart := false, narrowed := true }
def FnHypothesesRuleUptoSaid : Prop := fnHypothesesRuleUptoRow.holds Tryz.pinned (OpenSpec.upto fnHypothesesRuleSpec)

/-- 'laws.FnHypothesesTrue', WHERE WHAT IT READS IS OF BULK AT MOST 1048576: true; the input reads as it did. -/
def fnHypothesesTrueUptoRow : OpenClaim := { program := "ytdmnkcmkpjmfaaagreat", sum := "ec89b3679dc4f31d82e84165b84608a18d04b1ba0813ead99d60d22d513a43c0", func := "loop.example/rotorciphers/laws.FnHypothesesTrue", spec := "fnHypothesesTrue", inPlace := ["internal/bytealg.IndexByteString"], unfollowed := true, recurses := true, apart := false, narrowed := true }
def FnHypothesesTrueUptoSaid : Prop := fnHypothesesTrueUptoRow.holds Tryz.pinned (OpenSpec.upto fnHypothesesTrueSpec)

/-- 'laws.FnMenuBoards', WHERE WHAT IT READS IS OF BULK AT MOST 1048576: true; the input reads as it did. -/
def fnMenuBoardsUptoRow : OpenClaim := { program := "ytdmnkcmkpjmfaaagreat", sum := "ec89b3679dc4f31d82e84165b84608a18d04b1ba0813ead99d60d22d513a43c0", func := "loop.example/rotorciphers/laws.FnMenuBoards", spec := "fnMenuBoards", inPlace := ["internal/bytealg.IndexByteString"], unfollowed := true, recurses := true, apart := false, narrowed := true }
def FnMenuBoardsUptoSaid : Prop := fnMenuBoardsUptoRow.holds Tryz.pinned (OpenSpec.upto fnMenuBoardsSpec)

/-- 'laws.FnBombeStops', WHERE WHAT IT READS IS OF BULK AT MOST 1048576: true; the input reads as it did. -/
def fnBombeStopsUptoRow : OpenClaim := { program := "ytdmnkcmkpjmfaaagreat", sum := "ec89b3679dc4f31d82e84165b84608a18d04b1ba0813ead99d60d22d513a43c0", func := "loop.example/rotorciphers/laws.FnBombeStops", spec := "fnBombeStops", inPlace := ["internal/bytealg.IndexByteString"], unfollowed := true, recurses := true, apart := false, narrowed := true }
def FnBombeStopsUptoSaid : Prop := fnBombeStopsUptoRow.holds Tryz.pinned (OpenSpec.upto fnBombeStopsSpec)

/-- 'laws.FnMenuBoardsKeep', WHERE WHAT IT READS IS OF BULK AT MOST 1048576: true; the input reads as it did. -/
def fnMenuBoardsKeepUptoRow : OpenClaim := { program := "ytdmnkcmkpjmfaaagreat", sum := "ec89b3679dc4f31d82e84165b84608a18d04b1ba0813ead99d60d22d513a43c0", func := "loop.example/rotorciphers/laws.FnMenuBoardsKeep", spec := "fnMenuBoardsKeep", inPlace := ["internal/bytealg.IndexByteString"], unfollowed := true, recurses := true, apart := false, narrowed := true }
def FnMenuBoardsKeepUptoSaid : Prop := fnMenuBoardsKeepUptoRow.holds Tryz.pinned (OpenSpec.upto fnMenuBoardsKeepSpec)

end Rows
end Go.Proofs.YtdmnkcmkpjmfaaaGreat
