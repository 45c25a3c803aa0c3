/-
  No cell of these rows narrows 'for every input' (looked for: loops, veiled, ifaces, maps, wideKeys, modest, calm, conditions, laid).
  DERIVED. THE GIVEN ROWS OF THIS SEAT. 15 by the template 'for every input the law returns true; each argument reads behind the call as it read before'; 0 by the template 'total and deterministic' (their statements: YtbeohccbflhdiaaGreatTotals.lean).
  GIVEN WITH THE SEED: the statements are not yours to turn. If you find one false, say at which input.
  Laid BY PROGRAM, IN A SANDBOX (cutbox-rows.mjs): the forced cells as the released guide's own fill.sh prints them over the translation c954184a3f1b2eb2… (all of the seat's roots in one cut). By AI agents, Wed Nov 11 2026. No macro, syntax, notation, axiom, sorry.
-/
import Derived.Test.YtbeohccbflhdiaaGreatChecked
import GoSem.Claim
import GoSem.ClaimJoined
import GoSem.ClaimMapViews
import Derived.JoinedTies
import Derived.KernelRfl
namespace Go.Proofs.YtbeohccbflhdiaaGreat
/- THE CELL 'sum', in the pinned program and in every row, IS THE sha256 OF THE DUMP (.gsa) THAT YtbeohccbflhdiaaGreatProg.lean LOADS. Nothing in Lean hashes anything: it is a label: what it is worth is what the hold of that sum in a sandbox is worth. -/
noncomputable def Tryz.pinned : Pinned := { name := "ytbeohccbflhdiaagreat", sum := "c954184a3f1b2eb2c6edbc31fd5aa278bc12b8e305e39763a9bcafa1fa96f027", checked := Tryz.checked }
namespace Rows
def none {H : Type} : Left H := { results := [], args := [] }

/-- 'laws.FnEncipherSelf': WHATEVER THE INPUT: true; the input reads as it did. -/
def fnEncipherSelfSpec : ChangeSpec := { name := "fnEncipherSelf", fn := fun _ => fun
  | [d] => { results := [.lit (.bool true)], args := [d] }
  | _ => none }
def fnEncipherSelfRow : OpenClaim := { program := "ytbeohccbflhdiaagreat", sum := "c954184a3f1b2eb2c6edbc31fd5aa278bc12b8e305e39763a9bcafa1fa96f027", func := "loop.example/rotorciphers/laws.FnEncipherSelf", spec := "fnEncipherSelf", inPlace := ["internal/bytealg.IndexByteString"], unfollowed := true, recurses := true, apart := false }
def FnEncipherSelfSaid : Prop := fnEncipherSelfRow.holds Tryz.pinned (OpenSpec.ofChange fnEncipherSelfSpec)

/-- ITS FALSE NEIGHBOUR: 'it returns false'. Refute it at one input. -/
def fnEncipherSelfWrong : ChangeSpec := { name := "fnEncipherSelf", fn := fun _ => fun
  | [d] => { results := [.lit (.bool false)], args := [d] }
  | _ => none }
def FnEncipherSelfWrongFalsely : Prop := fnEncipherSelfRow.holds Tryz.pinned (OpenSpec.ofChange fnEncipherSelfWrong)

/-- 'laws.FnProductsKeys': WHATEVER THE INPUT: true; the input reads as it did. -/
def fnProductsKeysSpec : ChangeSpec := { name := "fnProductsKeys", fn := fun _ => fun
  | [d] => { results := [.lit (.bool true)], args := [d] }
  | _ => none }
def fnProductsKeysRow : OpenClaim := { program := "ytbeohccbflhdiaagreat", sum := "c954184a3f1b2eb2c6edbc31fd5aa278bc12b8e305e39763a9bcafa1fa96f027", func := "loop.example/rotorciphers/laws.FnProductsKeys", spec := "fnProductsKeys", inPlace := ["internal/bytealg.IndexByteString"], unfollowed := true, recurses := true, apart := false }
def FnProductsKeysSaid : Prop := fnProductsKeysRow.holds Tryz.pinned (OpenSpec.ofChange fnProductsKeysSpec)

/-- ITS FALSE NEIGHBOUR: 'it returns false'. Refute it at one input. -/
def fnProductsKeysWrong : ChangeSpec := { name := "fnProductsKeys", fn := fun _ => fun
  | [d] => { results := [.lit (.bool false)], args := [d] }
  | _ => none }
def FnProductsKeysWrongFalsely : Prop := fnProductsKeysRow.holds Tryz.pinned (OpenSpec.ofChange fnProductsKeysWrong)

/-- 'laws.FnSealOpen': WHATEVER THE INPUT: true; the input reads as it did. -/
def fnSealOpenSpec : ChangeSpec := { name := "fnSealOpen", fn := fun _ => fun
  | [d] => { results := [.lit (.bool true)], args := [d] }
  | _ => none }
def fnSealOpenRow : OpenClaim := { program := "ytbeohccbflhdiaagreat", sum := "c954184a3f1b2eb2c6edbc31fd5aa278bc12b8e305e39763a9bcafa1fa96f027", func := "loop.example/rotorciphers/laws.FnSealOpen", spec := "fnSealOpen", inPlace := ["internal/bytealg.IndexByteString"], unfollowed := true, recurses := true, apart := false }
def FnSealOpenSaid : Prop := fnSealOpenRow.holds Tryz.pinned (OpenSpec.ofChange fnSealOpenSpec)

/-- ITS FALSE NEIGHBOUR: 'it returns false'. Refute it at one input. -/
def fnSealOpenWrong : ChangeSpec := { name := "fnSealOpen", fn := fun _ => fun
  | [d] => { results := [.lit (.bool false)], args := [d] }
  | _ => none }
def FnSealOpenWrongFalsely : Prop := fnSealOpenRow.holds Tryz.pinned (OpenSpec.ofChange fnSealOpenWrong)

/-- 'laws.FnOpenSeal': WHATEVER THE INPUT: true; the input reads as it did. -/
def fnOpenSealSpec : ChangeSpec := { name := "fnOpenSeal", fn := fun _ => fun
  | [d] => { results := [.lit (.bool true)], args := [d] }
  | _ => none }
def fnOpenSealRow : OpenClaim := { program := "ytbeohccbflhdiaagreat", sum := "c954184a3f1b2eb2c6edbc31fd5aa278bc12b8e305e39763a9bcafa1fa96f027", func := "loop.example/rotorciphers/laws.FnOpenSeal", spec := "fnOpenSeal", inPlace := ["internal/bytealg.IndexByteString"], unfollowed := true, recurses := true, apart := false }
def FnOpenSealSaid : Prop := fnOpenSealRow.holds Tryz.pinned (OpenSpec.ofChange fnOpenSealSpec)

/-- ITS FALSE NEIGHBOUR: 'it returns false'. Refute it at one input. -/
def fnOpenSealWrong : ChangeSpec := { name := "fnOpenSeal", fn := fun _ => fun
  | [d] => { results := [.lit (.bool false)], args := [d] }
  | _ => none }
def FnOpenSealWrongFalsely : Prop := fnOpenSealRow.holds Tryz.pinned (OpenSpec.ofChange fnOpenSealWrong)

/-- 'laws.FnEncipherPlugs': WHATEVER THE INPUT: true; the input reads as it did. -/
def fnEncipherPlugsSpec : ChangeSpec := { name := "fnEncipherPlugs", fn := fun _ => fun
  | [d] => { results := [.lit (.bool true)], args := [d] }
  | _ => none }
def fnEncipherPlugsRow : OpenClaim := { program := "ytbeohccbflhdiaagreat", sum := "c954184a3f1b2eb2c6edbc31fd5aa278bc12b8e305e39763a9bcafa1fa96f027", func := "loop.example/rotorciphers/laws.FnEncipherPlugs", spec := "fnEncipherPlugs", inPlace := ["internal/bytealg.IndexByteString"], unfollowed := true, recurses := true, apart := false }
def FnEncipherPlugsSaid : Prop := fnEncipherPlugsRow.holds Tryz.pinned (OpenSpec.ofChange fnEncipherPlugsSpec)

/-- ITS FALSE NEIGHBOUR: 'it returns false'. Refute it at one input. -/
def fnEncipherPlugsWrong : ChangeSpec := { name := "fnEncipherPlugs", fn := fun _ => fun
  | [d] => { results := [.lit (.bool false)], args := [d] }
  | _ => none }
def FnEncipherPlugsWrongFalsely : Prop := fnEncipherPlugsRow.holds Tryz.pinned (OpenSpec.ofChange fnEncipherPlugsWrong)

/-- 'laws.FnEncipherKeys': WHATEVER THE INPUT: true; the input reads as it did. -/
def fnEncipherKeysSpec : ChangeSpec := { name := "fnEncipherKeys", fn := fun _ => fun
  | [d] => { results := [.lit (.bool true)], args := [d] }
  | _ => none }
def fnEncipherKeysRow : OpenClaim := { program := "ytbeohccbflhdiaagreat", sum := "c954184a3f1b2eb2c6edbc31fd5aa278bc12b8e305e39763a9bcafa1fa96f027", func := "loop.example/rotorciphers/laws.FnEncipherKeys", spec := "fnEncipherKeys", inPlace := ["internal/bytealg.IndexByteString"], unfollowed := true, recurses := true, apart := false }
def FnEncipherKeysSaid : Prop := fnEncipherKeysRow.holds Tryz.pinned (OpenSpec.ofChange fnEncipherKeysSpec)

/-- ITS FALSE NEIGHBOUR: 'it returns false'. Refute it at one input. -/
def fnEncipherKeysWrong : ChangeSpec := { name := "fnEncipherKeys", fn := fun _ => fun
  | [d] => { results := [.lit (.bool false)], args := [d] }
  | _ => none }
def FnEncipherKeysWrongFalsely : Prop := fnEncipherKeysRow.holds Tryz.pinned (OpenSpec.ofChange fnEncipherKeysWrong)

/-- 'laws.FnRepeatIndicator': WHATEVER THE INPUT: true; the input reads as it did. -/
def fnRepeatIndicatorSpec : ChangeSpec := { name := "fnRepeatIndicator", fn := fun _ => fun
  | [d] => { results := [.lit (.bool true)], args := [d] }
  | _ => none }
def fnRepeatIndicatorRow : OpenClaim := { program := "ytbeohccbflhdiaagreat", sum := "c954184a3f1b2eb2c6edbc31fd5aa278bc12b8e305e39763a9bcafa1fa96f027", func := "loop.example/rotorciphers/laws.FnRepeatIndicator", spec := "fnRepeatIndicator", inPlace := ["internal/bytealg.IndexByteString"], unfollowed := true, recurses := true, apart := false }
def FnRepeatIndicatorSaid : Prop := fnRepeatIndicatorRow.holds Tryz.pinned (OpenSpec.ofChange fnRepeatIndicatorSpec)

/-- ITS FALSE NEIGHBOUR: 'it returns false'. Refute it at one input. -/
def fnRepeatIndicatorWrong : ChangeSpec := { name := "fnRepeatIndicator", fn := fun _ => fun
  | [d] => { results := [.lit (.bool false)], args := [d] }
  | _ => none }
def FnRepeatIndicatorWrongFalsely : Prop := fnRepeatIndicatorRow.holds Tryz.pinned (OpenSpec.ofChange fnRepeatIndicatorWrong)

/-- 'laws.FnGroundsRepeatsTrue': WHATEVER THE INPUT: true; the input reads as it did. -/
def fnGroundsRepeatsTrueSpec : ChangeSpec := { name := "fnGroundsRepeatsTrue", fn := fun _ => fun
  | [d] => { results := [.lit (.bool true)], args := [d] }
  | _ => none }
def fnGroundsRepeatsTrueRow : OpenClaim := { program := "ytbeohccbflhdiaagreat", sum := "c954184a3f1b2eb2c6edbc31fd5aa278bc12b8e305e39763a9bcafa1fa96f027", func := "loop.example/rotorciphers/laws.FnGroundsRepeatsTrue", spec := "fnGroundsRepeatsTrue", inPlace := ["internal/bytealg.IndexByteString"], unfollowed := true, recurses := true, apart := false }
def FnGroundsRepeatsTrueSaid : Prop := fnGroundsRepeatsTrueRow.holds Tryz.pinned (OpenSpec.ofChange fnGroundsRepeatsTrueSpec)

/-- ITS FALSE NEIGHBOUR: 'it returns false'. Refute it at one input. -/
def fnGroundsRepeatsTrueWrong : ChangeSpec := { name := "fnGroundsRepeatsTrue", fn := fun _ => fun
  | [d] => { results := [.lit (.bool false)], args := [d] }
  | _ => none }
def FnGroundsRepeatsTrueWrongFalsely : Prop := fnGroundsRepeatsTrueRow.holds Tryz.pinned (OpenSpec.ofChange fnGroundsRepeatsTrueWrong)

/-- 'laws.FnGroundsRepeatsFewer': WHATEVER THE INPUT: true; the input reads as it did. -/
def fnGroundsRepeatsFewerSpec : ChangeSpec := { name := "fnGroundsRepeatsFewer", fn := fun _ => fun
  | [d] => { results := [.lit (.bool true)], args := [d] }
  | _ => none }
def fnGroundsRepeatsFewerRow : OpenClaim := { program := "ytbeohccbflhdiaagreat", sum := "c954184a3f1b2eb2c6edbc31fd5aa278bc12b8e305e39763a9bcafa1fa96f027", func := "loop.example/rotorciphers/laws.FnGroundsRepeatsFewer", spec := "fnGroundsRepeatsFewer", inPlace := ["internal/bytealg.IndexByteString"], unfollowed := true, recurses := true, apart := false }
def FnGroundsRepeatsFewerSaid : Prop := fnGroundsRepeatsFewerRow.holds Tryz.pinned (OpenSpec.ofChange fnGroundsRepeatsFewerSpec)

/-- ITS FALSE NEIGHBOUR: 'it returns false'. Refute it at one input. -/
def fnGroundsRepeatsFewerWrong : ChangeSpec := { name := "fnGroundsRepeatsFewer", fn := fun _ => fun
  | [d] => { results := [.lit (.bool false)], args := [d] }
  | _ => none }
def FnGroundsRepeatsFewerWrongFalsely : Prop := fnGroundsRepeatsFewerRow.holds Tryz.pinned (OpenSpec.ofChange fnGroundsRepeatsFewerWrong)

/-- 'laws.FnMenuTrue': WHATEVER THE INPUT: true; the input reads as it did. -/
def fnMenuTrueSpec : ChangeSpec := { name := "fnMenuTrue", fn := fun _ => fun
  | [d] => { results := [.lit (.bool true)], args := [d] }
  | _ => none }
def fnMenuTrueRow : OpenClaim := { program := "ytbeohccbflhdiaagreat", sum := "c954184a3f1b2eb2c6edbc31fd5aa278bc12b8e305e39763a9bcafa1fa96f027", func := "loop.example/rotorciphers/laws.FnMenuTrue", spec := "fnMenuTrue", inPlace := ["internal/bytealg.IndexByteString"], unfollowed := true, recurses := true, apart := false }
def FnMenuTrueSaid : Prop := fnMenuTrueRow.holds Tryz.pinned (OpenSpec.ofChange fnMenuTrueSpec)

/-- ITS FALSE NEIGHBOUR: 'it returns false'. Refute it at one input. -/
def fnMenuTrueWrong : ChangeSpec := { name := "fnMenuTrue", fn := fun _ => fun
  | [d] => { results := [.lit (.bool false)], args := [d] }
  | _ => none }
def FnMenuTrueWrongFalsely : Prop := fnMenuTrueRow.holds Tryz.pinned (OpenSpec.ofChange fnMenuTrueWrong)

/-- 'laws.FnCheckCrib': WHATEVER THE INPUT: true; the input reads as it did. -/
def fnCheckCribSpec : ChangeSpec := { name := "fnCheckCrib", fn := fun _ => fun
  | [d1, d2] => { results := [.lit (.bool true)], args := [d1, d2] }
  | _ => none }
def fnCheckCribRow : OpenClaim := { program := "ytbeohccbflhdiaagreat", sum := "c954184a3f1b2eb2c6edbc31fd5aa278bc12b8e305e39763a9bcafa1fa96f027", func := "loop.example/rotorciphers/laws.FnCheckCrib", spec := "fnCheckCrib", inPlace := ["internal/bytealg.IndexByteString"], unfollowed := true, recurses := true, apart := false }
def FnCheckCribSaid : Prop := fnCheckCribRow.holds Tryz.pinned (OpenSpec.ofChange fnCheckCribSpec)

/-- ITS FALSE NEIGHBOUR: 'it returns false'. Refute it at one input. -/
def fnCheckCribWrong : ChangeSpec := { name := "fnCheckCrib", fn := fun _ => fun
  | [d1, d2] => { results := [.lit (.bool false)], args := [d1, d2] }
  | _ => none }
def FnCheckCribWrongFalsely : Prop := fnCheckCribRow.holds Tryz.pinned (OpenSpec.ofChange fnCheckCribWrong)

/-- 'laws.FnGroundsRepeats': WHATEVER THE INPUT: true; the input reads as it did. -/
def fnGroundsRepeatsSpec : ChangeSpec := { name := "fnGroundsRepeats", fn := fun _ => fun
  | [d] => { results := [.lit (.bool true)], args := [d] }
  | _ => none }
def fnGroundsRepeatsRow : OpenClaim := { program := "ytbeohccbflhdiaagreat", sum := "c954184a3f1b2eb2c6edbc31fd5aa278bc12b8e305e39763a9bcafa1fa96f027", func := "loop.example/rotorciphers/laws.FnGroundsRepeats", spec := "fnGroundsRepeats", inPlace := ["internal/bytealg.IndexByteString"], unfollowed := true, recurses := true, apart := false }
def FnGroundsRepeatsSaid : Prop := fnGroundsRepeatsRow.holds Tryz.pinned (OpenSpec.ofChange fnGroundsRepeatsSpec)

/-- ITS FALSE NEIGHBOUR: 'it returns false'. Refute it at one input. -/
def fnGroundsRepeatsWrong : ChangeSpec := { name := "fnGroundsRepeats", fn := fun _ => fun
  | [d] => { results := [.lit (.bool false)], args := [d] }
  | _ => none }
def FnGroundsRepeatsWrongFalsely : Prop := fnGroundsRepeatsRow.holds Tryz.pinned (OpenSpec.ofChange fnGroundsRepeatsWrong)

/-- 'laws.FnSheetRowPlugs': WHATEVER THE INPUT: true; the input reads as it did. -/
def fnSheetRowPlugsSpec : ChangeSpec := { name := "fnSheetRowPlugs", fn := fun _ => fun
  | [d] => { results := [.lit (.bool true)], args := [d] }
  | _ => none }
def fnSheetRowPlugsRow : OpenClaim := { program := "ytbeohccbflhdiaagreat", sum := "c954184a3f1b2eb2c6edbc31fd5aa278bc12b8e305e39763a9bcafa1fa96f027", func := "loop.example/rotorciphers/laws.FnSheetRowPlugs", spec := "fnSheetRowPlugs", inPlace := ["internal/bytealg.IndexByteString"], unfollowed := true, recurses := true, apart := false }
def FnSheetRowPlugsSaid : Prop := fnSheetRowPlugsRow.holds Tryz.pinned (OpenSpec.ofChange fnSheetRowPlugsSpec)

/-- ITS FALSE NEIGHBOUR: 'it returns false'. Refute it at one input. -/
def fnSheetRowPlugsWrong : ChangeSpec := { name := "fnSheetRowPlugs", fn := fun _ => fun
  | [d] => { results := [.lit (.bool false)], args := [d] }
  | _ => none }
def FnSheetRowPlugsWrongFalsely : Prop := fnSheetRowPlugsRow.holds Tryz.pinned (OpenSpec.ofChange fnSheetRowPlugsWrong)

/-- 'laws.FnProductFromDay': WHATEVER THE INPUT: true; the input reads as it did. -/
def fnProductFromDaySpec : ChangeSpec := { name := "fnProductFromDay", fn := fun _ => fun
  | [d1, d2] => { results := [.lit (.bool true)], args := [d1, d2] }
  | _ => none }
def fnProductFromDayRow : OpenClaim := { program := "ytbeohccbflhdiaagreat", sum := "c954184a3f1b2eb2c6edbc31fd5aa278bc12b8e305e39763a9bcafa1fa96f027", func := "loop.example/rotorciphers/laws.FnProductFromDay", spec := "fnProductFromDay", inPlace := ["internal/bytealg.IndexByteString"], unfollowed := true, recurses := true, apart := false }
def FnProductFromDaySaid : Prop := fnProductFromDayRow.holds Tryz.pinned (OpenSpec.ofChange fnProductFromDaySpec)

/-- ITS FALSE NEIGHBOUR: 'it returns false'. Refute it at one input. -/
def fnProductFromDayWrong : ChangeSpec := { name := "fnProductFromDay", fn := fun _ => fun
  | [d1, d2] => { results := [.lit (.bool false)], args := [d1, d2] }
  | _ => none }
def FnProductFromDayWrongFalsely : Prop := fnProductFromDayRow.holds Tryz.pinned (OpenSpec.ofChange fnProductFromDayWrong)

/-- 'laws.FnCheckMenu': WHATEVER THE INPUT: true; the input reads as it did. -/
def fnCheckMenuSpec : ChangeSpec := { name := "fnCheckMenu", fn := fun _ => fun
  | [d] => { results := [.lit (.bool true)], args := [d] }
  | _ => none }
def fnCheckMenuRow : OpenClaim := { program := "ytbeohccbflhdiaagreat", sum := "c954184a3f1b2eb2c6edbc31fd5aa278bc12b8e305e39763a9bcafa1fa96f027", func := "loop.example/rotorciphers/laws.FnCheckMenu", spec := "fnCheckMenu", inPlace := ["internal/bytealg.IndexByteString"], unfollowed := true, recurses := true, apart := false }
def FnCheckMenuSaid : Prop := fnCheckMenuRow.holds Tryz.pinned (OpenSpec.ofChange fnCheckMenuSpec)

/-- ITS FALSE NEIGHBOUR: 'it returns false'. Refute it at one input. -/
def fnCheckMenuWrong : ChangeSpec := { name := "fnCheckMenu", fn := fun _ => fun
  | [d] => { results := [.lit (.bool false)], args := [d] }
  | _ => none }
def FnCheckMenuWrongFalsely : Prop := fnCheckMenuRow.holds Tryz.pinned (OpenSpec.ofChange fnCheckMenuWrong)

/- THE SECOND FORM. 'bulk': how many values and letters a reading holds, each counted each time it is reached (what is shared counts as often as it is met; a slice's spare places count too). A statement '..UptoSaid' is the law's where the arguments, and the package variables that the reading takes, are together of bulk at most 1048576: NARROWER than '..Said'. Prove '..Said' where nothing that the law and all that it calls make is longer than what came in: it says more and counts as full. Else prove '..UptoSaid'. A law counts once. -/
mutual
def uptoBulk {H : Type} : DataW H → Nat
  | .lit (.string bytes) => bytes.length + 1
  | .lit _ => 1
  | .nil => 1
  | .ptr d => uptoBulk d + 1
  | .slice elems spare => uptoBulkAll elems + uptoBulkAll spare + 1
  | .agg parts => uptoBulkAll parts + 1
  | .iface _ d => uptoBulk d + 1
  | .map entries => uptoBulkEntries entries + 1
  | .held _ => 1
def uptoBulkAll {H : Type} : List (DataW H) → Nat
  | [] => 0
  | d :: r => uptoBulk d + uptoBulkAll r
def uptoBulkEntries {H : Type} : List (Lit × DataW H) → Nat
  | [] => 0
  | x :: r => uptoBulkEntry x + uptoBulkEntries r
def uptoBulkEntry {H : Type} : Lit × DataW H → Nat
  | (.string bytes, d) => bytes.length + uptoBulk d + 1
  | (_, d) => uptoBulk d + 1
 end
def uptoSmall : (H : Type) → List (DataW H) → Bool := fun _ ds => decide (uptoBulkAll ds ≤ 1048576)
def OpenSpec.upto (s : _root_.Go.ChangeSpec) : _root_.Go.OpenSpec := { _root_.Go.OpenSpec.ofChange s with cond := some uptoSmall }

/-- 'laws.FnEncipherSelf', WHERE WHAT IT READS IS OF BULK AT MOST 1048576: true; the input reads as it did. -/
def fnEncipherSelfUptoRow : OpenClaim := { program := "ytbeohccbflhdiaagreat", sum := "c954184a3f1b2eb2c6edbc31fd5aa278bc12b8e305e39763a9bcafa1fa96f027", func := "loop.example/rotorciphers/laws.FnEncipherSelf", spec := "fnEncipherSelf", inPlace := ["internal/bytealg.IndexByteString"], unfollowed := true, recurses := true, apart := false, narrowed := true }
def FnEncipherSelfUptoSaid : Prop := fnEncipherSelfUptoRow.holds Tryz.pinned (OpenSpec.upto fnEncipherSelfSpec)

/-- 'laws.FnProductsKeys', WHERE WHAT IT READS IS OF BULK AT MOST 1048576: true; the input reads as it did. -/
def fnProductsKeysUptoRow : OpenClaim := { program := "ytbeohccbflhdiaagreat", sum := "c954184a3f1b2eb2c6edbc31fd5aa278bc12b8e305e39763a9bcafa1fa96f027", func := "loop.example/rotorciphers/laws.FnProductsKeys", spec := "fnProductsKeys", inPlace := ["internal/bytealg.IndexByteString"], unfollowed := true, recurses := true, apart := false, narrowed := true }
def FnProductsKeysUptoSaid : Prop := fnProductsKeysUptoRow.holds Tryz.pinned (OpenSpec.upto fnProductsKeysSpec)

/-- 'laws.FnSealOpen', WHERE WHAT IT READS IS OF BULK AT MOST 1048576: true; the input reads as it did. -/
def fnSealOpenUptoRow : OpenClaim := { program := "ytbeohccbflhdiaagreat", sum := "c954184a3f1b2eb2c6edbc31fd5aa278bc12b8e305e39763a9bcafa1fa96f027", func := "loop.example/rotorciphers/laws.FnSealOpen", spec := "fnSealOpen", inPlace := ["internal/bytealg.IndexByteString"], unfollowed := true, recurses := true, apart := false, narrowed := true }
def FnSealOpenUptoSaid : Prop := fnSealOpenUptoRow.holds Tryz.pinned (OpenSpec.upto fnSealOpenSpec)

/-- 'laws.FnOpenSeal', WHERE WHAT IT READS IS OF BULK AT MOST 1048576: true; the input reads as it did. -/
def fnOpenSealUptoRow : OpenClaim := { program := "ytbeohccbflhdiaagreat", sum := "c954184a3f1b2eb2c6edbc31fd5aa278bc12b8e305e39763a9bcafa1fa96f027", func := "loop.example/rotorciphers/laws.FnOpenSeal", spec := "fnOpenSeal", inPlace := ["internal/bytealg.IndexByteString"], unfollowed := true, recurses := true, apart := false, narrowed := true }
def FnOpenSealUptoSaid : Prop := fnOpenSealUptoRow.holds Tryz.pinned (OpenSpec.upto fnOpenSealSpec)

/-- 'laws.FnEncipherPlugs', WHERE WHAT IT READS IS OF BULK AT MOST 1048576: true; the input reads as it did. -/
def fnEncipherPlugsUptoRow : OpenClaim := { program := "ytbeohccbflhdiaagreat", sum := "c954184a3f1b2eb2c6edbc31fd5aa278bc12b8e305e39763a9bcafa1fa96f027", func := "loop.example/rotorciphers/laws.FnEncipherPlugs", spec := "fnEncipherPlugs", inPlace := ["internal/bytealg.IndexByteString"], unfollowed := true, recurses := true, apart := false, narrowed := true }
def FnEncipherPlugsUptoSaid : Prop := fnEncipherPlugsUptoRow.holds Tryz.pinned (OpenSpec.upto fnEncipherPlugsSpec)

/-- 'laws.FnEncipherKeys', WHERE WHAT IT READS IS OF BULK AT MOST 1048576: true; the input reads as it did. -/
def fnEncipherKeysUptoRow : OpenClaim := { program := "ytbeohccbflhdiaagreat", sum := "c954184a3f1b2eb2c6edbc31fd5aa278bc12b8e305e39763a9bcafa1fa96f027", func := "loop.example/rotorciphers/laws.FnEncipherKeys", spec := "fnEncipherKeys", inPlace := ["internal/bytealg.IndexByteString"], unfollowed := true, recurses := true, apart := false, narrowed := true }
def FnEncipherKeysUptoSaid : Prop := fnEncipherKeysUptoRow.holds Tryz.pinned (OpenSpec.upto fnEncipherKeysSpec)

/-- 'laws.FnRepeatIndicator', WHERE WHAT IT READS IS OF BULK AT MOST 1048576: true; the input reads as it did. -/
def fnRepeatIndicatorUptoRow : OpenClaim := { program := "ytbeohccbflhdiaagreat", sum := "c954184a3f1b2eb2c6edbc31fd5aa278bc12b8e305e39763a9bcafa1fa96f027", func := "loop.example/rotorciphers/laws.FnRepeatIndicator", spec := "fnRepeatIndicator", inPlace := ["internal/bytealg.IndexByteString"], unfollowed := true, recurses := true, apart := false, narrowed := true }
def FnRepeatIndicatorUptoSaid : Prop := fnRepeatIndicatorUptoRow.holds Tryz.pinned (OpenSpec.upto fnRepeatIndicatorSpec)

/-- 'laws.FnGroundsRepeatsTrue', WHERE WHAT IT READS IS OF BULK AT MOST 1048576: true; the input reads as it did. -/
def fnGroundsRepeatsTrueUptoRow : OpenClaim := { program := "ytbeohccbflhdiaagreat", sum := "c954184a3f1b2eb2c6edbc31fd5aa278bc12b8e305e39763a9bcafa1fa96f027", func := "loop.example/rotorciphers/laws.FnGroundsRepeatsTrue", spec := "fnGroundsRepeatsTrue", inPlace := ["internal/bytealg.IndexByteString"], unfollowed := true, recurses := true, apart := false, narrowed := true }
def FnGroundsRepeatsTrueUptoSaid : Prop := fnGroundsRepeatsTrueUptoRow.holds Tryz.pinned (OpenSpec.upto fnGroundsRepeatsTrueSpec)

/-- 'laws.FnGroundsRepeatsFewer', WHERE WHAT IT READS IS OF BULK AT MOST 1048576: true; the input reads as it did. -/
def fnGroundsRepeatsFewerUptoRow : OpenClaim := { program := "ytbeohccbflhdiaagreat", sum := "c954184a3f1b2eb2c6edbc31fd5aa278bc12b8e305e39763a9bcafa1fa96f027", func := "loop.example/rotorciphers/laws.FnGroundsRepeatsFewer", spec := "fnGroundsRepeatsFewer", inPlace := ["internal/bytealg.IndexByteString"], unfollowed := true, recurses := true, apart := false, narrowed := true }
def FnGroundsRepeatsFewerUptoSaid : Prop := fnGroundsRepeatsFewerUptoRow.holds Tryz.pinned (OpenSpec.upto fnGroundsRepeatsFewerSpec)

/-- 'laws.FnMenuTrue', WHERE WHAT IT READS IS OF BULK AT MOST 1048576: true; the input reads as it did. -/
def fnMenuTrueUptoRow : OpenClaim := { program := "ytbeohccbflhdiaagreat", sum := "c954184a3f1b2eb2c6edbc31fd5aa278bc12b8e305e39763a9bcafa1fa96f027", func := "loop.example/rotorciphers/laws.FnMenuTrue", spec := "fnMenuTrue", inPlace := ["internal/bytealg.IndexByteString"], unfollowed := true, recurses := true, apart := false, narrowed := true }
def FnMenuTrueUptoSaid : Prop := fnMenuTrueUptoRow.holds Tryz.pinned (OpenSpec.upto fnMenuTrueSpec)

/-- 'laws.FnCheckCrib', WHERE WHAT IT READS IS OF BULK AT MOST 1048576: true; the input reads as it did. -/
def fnCheckCribUptoRow : OpenClaim := { program := "ytbeohccbflhdiaagreat", sum := "c954184a3f1b2eb2c6edbc31fd5aa278bc12b8e305e39763a9bcafa1fa96f027", func := "loop.example/rotorciphers/laws.FnCheckCrib", spec := "fnCheckCrib", inPlace := ["internal/bytealg.IndexByteString"], unfollowed := true, recurses := true, apart := false, narrowed := true }
def FnCheckCribUptoSaid : Prop := fnCheckCribUptoRow.holds Tryz.pinned (OpenSpec.upto fnCheckCribSpec)

/-- 'laws.FnGroundsRepeats', WHERE WHAT IT READS IS OF BULK AT MOST 1048576: true; the input reads as it did. -/
def fnGroundsRepeatsUptoRow : OpenClaim := { program := "ytbeohccbflhdiaagreat", sum := "c954184a3f1b2eb2c6edbc31fd5aa278bc12b8e305e39763a9bcafa1fa96f027", func := "loop.example/rotorciphers/laws.FnGroundsRepeats", spec := "fnGroundsRepeats", inPlace := ["internal/bytealg.IndexByteString"], unfollowed := true, recurses := true, apart := false, narrowed := true }
def FnGroundsRepeatsUptoSaid : Prop := fnGroundsRepeatsUptoRow.holds Tryz.pinned (OpenSpec.upto fnGroundsRepeatsSpec)

/-- 'laws.FnSheetRowPlugs', WHERE WHAT IT READS IS OF BULK AT MOST 1048576: true; the input reads as it did. -/
def fnSheetRowPlugsUptoRow : OpenClaim := { program := "ytbeohccbflhdiaagreat", sum := "c954184a3f1b2eb2c6edbc31fd5aa278bc12b8e305e39763a9bcafa1fa96f027", func := "loop.example/rotorciphers/laws.FnSheetRowPlugs", spec := "fnSheetRowPlugs", inPlace := ["internal/bytealg.IndexByteString"], unfollowed := true, recurses := true, apart := false, narrowed := true }
def FnSheetRowPlugsUptoSaid : Prop := fnSheetRowPlugsUptoRow.holds Tryz.pinned (OpenSpec.upto fnSheetRowPlugsSpec)

/-- 'laws.FnProductFromDay', WHERE WHAT IT READS IS OF BULK AT MOST 1048576: true; the input reads as it did. -/
def fnProductFromDayUptoRow : OpenClaim := { program := "ytbeohccbflhdiaagreat", sum := "c954184a3f1b2eb2c6edbc31fd5aa278bc12b8e305e39763a9bcafa1fa96f027", func := "loop.example/rotorciphers/laws.FnProductFromDay", spec := "fnProductFromDay", inPlace := ["internal/bytealg.IndexByteString"], unfollowed := true, recurses := true, apart := false, narrowed := true }
def FnProductFromDayUptoSaid : Prop := fnProductFromDayUptoRow.holds Tryz.pinned (OpenSpec.upto fnProductFromDaySpec)

/-- 'laws.FnCheckMenu', WHERE WHAT IT READS IS OF BULK AT MOST 1048576: true; the input reads as it did. -/
def fnCheckMenuUptoRow : OpenClaim := { program := "ytbeohccbflhdiaagreat", sum := "c954184a3f1b2eb2c6edbc31fd5aa278bc12b8e305e39763a9bcafa1fa96f027", func := "loop.example/rotorciphers/laws.FnCheckMenu", spec := "fnCheckMenu", inPlace := ["internal/bytealg.IndexByteString"], unfollowed := true, recurses := true, apart := false, narrowed := true }
def FnCheckMenuUptoSaid : Prop := fnCheckMenuUptoRow.holds Tryz.pinned (OpenSpec.upto fnCheckMenuSpec)

end Rows
end Go.Proofs.YtbeohccbflhdiaaGreat
