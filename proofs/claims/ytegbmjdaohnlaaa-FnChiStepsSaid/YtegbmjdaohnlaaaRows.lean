/-
  No cell of these rows narrows 'for every input' (looked for: loops, veiled, ifaces, maps, wideKeys, modest, calm, conditions, laid).
  DERIVED. THE GIVEN ROWS OF THIS SEAT. 11 by the template 'for every input the law returns true; each argument reads behind the call as it read before'; 0 by the template 'total and deterministic' (their statements: YtegbmjdaohnlaaaTotals.lean).
  GIVEN WITH THE SEED: the statements are not yours to turn. If you find one false, say at which input.
  Laid BY PROGRAM, IN A SANDBOX (cutbox-rows.mjs): the forced cells as the released guide's own fill.sh prints them over the translation 2be47ae8678eaec5… (all of the seat's roots in one cut). By AI agents, Wed Nov 11 2026. No macro, syntax, notation, axiom, sorry.
-/
import Derived.Test.YtegbmjdaohnlaaaChecked
import GoSem.Claim
import GoSem.ClaimJoined
import GoSem.ClaimMapViews
import Derived.JoinedTies
import Derived.KernelRfl
namespace Go.Proofs.Ytegbmjdaohnlaaa
/- THE CELL 'sum', in the pinned program and in every row, IS THE sha256 OF THE DUMP (.gsa) THAT YtegbmjdaohnlaaaProg.lean LOADS. Nothing in Lean hashes anything: it is a label: what it is worth is what the hold of that sum in a sandbox is worth. -/
noncomputable def Try.pinned : Pinned := { name := "ytegbmjdaohnlaaa", sum := "2be47ae8678eaec5046b64378db3f807981cdfa9e6e15efae79db69e34fce464", checked := Try.checked }
namespace Rows
def none {H : Type} : Left H := { results := [], args := [] }

/-- 'laws.FnExactTapeValid': WHATEVER THE INPUT: true; the input reads as it did. -/
def fnExactTapeValidSpec : ChangeSpec := { name := "fnExactTapeValid", fn := fun _ => fun
  | [d] => { results := [.lit (.bool true)], args := [d] }
  | _ => none }
def fnExactTapeValidRow : OpenClaim := { program := "ytegbmjdaohnlaaa", sum := "2be47ae8678eaec5046b64378db3f807981cdfa9e6e15efae79db69e34fce464", func := "loop.example/rotorciphers/laws.FnExactTapeValid", spec := "fnExactTapeValid", apart := false }
def FnExactTapeValidSaid : Prop := fnExactTapeValidRow.holds Try.pinned (OpenSpec.ofChange fnExactTapeValidSpec)

/-- ITS FALSE NEIGHBOUR: 'it returns false'. Refute it at one input. -/
def fnExactTapeValidWrong : ChangeSpec := { name := "fnExactTapeValid", fn := fun _ => fun
  | [d] => { results := [.lit (.bool false)], args := [d] }
  | _ => none }
def FnExactTapeValidWrongFalsely : Prop := fnExactTapeValidRow.holds Try.pinned (OpenSpec.ofChange fnExactTapeValidWrong)

/-- 'laws.FnExactDeltaTape': WHATEVER THE INPUT: true; the input reads as it did. -/
def fnExactDeltaTapeSpec : ChangeSpec := { name := "fnExactDeltaTape", fn := fun _ => fun
  | [d] => { results := [.lit (.bool true)], args := [d] }
  | _ => none }
def fnExactDeltaTapeRow : OpenClaim := { program := "ytegbmjdaohnlaaa", sum := "2be47ae8678eaec5046b64378db3f807981cdfa9e6e15efae79db69e34fce464", func := "loop.example/rotorciphers/laws.FnExactDeltaTape", spec := "fnExactDeltaTape", apart := false }
def FnExactDeltaTapeSaid : Prop := fnExactDeltaTapeRow.holds Try.pinned (OpenSpec.ofChange fnExactDeltaTapeSpec)

/-- ITS FALSE NEIGHBOUR: 'it returns false'. Refute it at one input. -/
def fnExactDeltaTapeWrong : ChangeSpec := { name := "fnExactDeltaTape", fn := fun _ => fun
  | [d] => { results := [.lit (.bool false)], args := [d] }
  | _ => none }
def FnExactDeltaTapeWrongFalsely : Prop := fnExactDeltaTapeRow.holds Try.pinned (OpenSpec.ofChange fnExactDeltaTapeWrong)

/-- 'laws.FnExactXorTapes': WHATEVER THE INPUT: true; the input reads as it did. -/
def fnExactXorTapesSpec : ChangeSpec := { name := "fnExactXorTapes", fn := fun _ => fun
  | [d1, d2] => { results := [.lit (.bool true)], args := [d1, d2] }
  | _ => none }
def fnExactXorTapesRow : OpenClaim := { program := "ytegbmjdaohnlaaa", sum := "2be47ae8678eaec5046b64378db3f807981cdfa9e6e15efae79db69e34fce464", func := "loop.example/rotorciphers/laws.FnExactXorTapes", spec := "fnExactXorTapes", apart := false }
def FnExactXorTapesSaid : Prop := fnExactXorTapesRow.holds Try.pinned (OpenSpec.ofChange fnExactXorTapesSpec)

/-- ITS FALSE NEIGHBOUR: 'it returns false'. Refute it at one input. -/
def fnExactXorTapesWrong : ChangeSpec := { name := "fnExactXorTapes", fn := fun _ => fun
  | [d1, d2] => { results := [.lit (.bool false)], args := [d1, d2] }
  | _ => none }
def FnExactXorTapesWrongFalsely : Prop := fnExactXorTapesRow.holds Try.pinned (OpenSpec.ofChange fnExactXorTapesWrong)

/-- 'laws.FnTeleValid': WHATEVER THE INPUT: true; the input reads as it did. -/
def fnTeleValidSpec : ChangeSpec := { name := "fnTeleValid", fn := fun _ => fun
  | [d] => { results := [.lit (.bool true)], args := [d] }
  | _ => none }
def fnTeleValidRow : OpenClaim := { program := "ytegbmjdaohnlaaa", sum := "2be47ae8678eaec5046b64378db3f807981cdfa9e6e15efae79db69e34fce464", func := "loop.example/rotorciphers/laws.FnTeleValid", spec := "fnTeleValid", apart := false }
def FnTeleValidSaid : Prop := fnTeleValidRow.holds Try.pinned (OpenSpec.ofChange fnTeleValidSpec)

/-- ITS FALSE NEIGHBOUR: 'it returns false'. Refute it at one input. -/
def fnTeleValidWrong : ChangeSpec := { name := "fnTeleValid", fn := fun _ => fun
  | [d] => { results := [.lit (.bool false)], args := [d] }
  | _ => none }
def FnTeleValidWrongFalsely : Prop := fnTeleValidRow.holds Try.pinned (OpenSpec.ofChange fnTeleValidWrong)

/-- 'laws.FnExactTeleValid': WHATEVER THE INPUT: true; the input reads as it did. -/
def fnExactTeleValidSpec : ChangeSpec := { name := "fnExactTeleValid", fn := fun _ => fun
  | [d] => { results := [.lit (.bool true)], args := [d] }
  | _ => none }
def fnExactTeleValidRow : OpenClaim := { program := "ytegbmjdaohnlaaa", sum := "2be47ae8678eaec5046b64378db3f807981cdfa9e6e15efae79db69e34fce464", func := "loop.example/rotorciphers/laws.FnExactTeleValid", spec := "fnExactTeleValid", apart := false }
def FnExactTeleValidSaid : Prop := fnExactTeleValidRow.holds Try.pinned (OpenSpec.ofChange fnExactTeleValidSpec)

/-- ITS FALSE NEIGHBOUR: 'it returns false'. Refute it at one input. -/
def fnExactTeleValidWrong : ChangeSpec := { name := "fnExactTeleValid", fn := fun _ => fun
  | [d] => { results := [.lit (.bool false)], args := [d] }
  | _ => none }
def FnExactTeleValidWrongFalsely : Prop := fnExactTeleValidRow.holds Try.pinned (OpenSpec.ofChange fnExactTeleValidWrong)

/-- 'laws.FnTapeValid': WHATEVER THE INPUT: true; the input reads as it did. -/
def fnTapeValidSpec : ChangeSpec := { name := "fnTapeValid", fn := fun _ => fun
  | [d] => { results := [.lit (.bool true)], args := [d] }
  | _ => none }
def fnTapeValidRow : OpenClaim := { program := "ytegbmjdaohnlaaa", sum := "2be47ae8678eaec5046b64378db3f807981cdfa9e6e15efae79db69e34fce464", func := "loop.example/rotorciphers/laws.FnTapeValid", spec := "fnTapeValid", apart := false }
def FnTapeValidSaid : Prop := fnTapeValidRow.holds Try.pinned (OpenSpec.ofChange fnTapeValidSpec)

/-- ITS FALSE NEIGHBOUR: 'it returns false'. Refute it at one input. -/
def fnTapeValidWrong : ChangeSpec := { name := "fnTapeValid", fn := fun _ => fun
  | [d] => { results := [.lit (.bool false)], args := [d] }
  | _ => none }
def FnTapeValidWrongFalsely : Prop := fnTapeValidRow.holds Try.pinned (OpenSpec.ofChange fnTapeValidWrong)

/-- 'laws.FnXorBits': WHATEVER THE INPUT: true; the input reads as it did. -/
def fnXorBitsSpec : ChangeSpec := { name := "fnXorBits", fn := fun _ => fun
  | [d] => { results := [.lit (.bool true)], args := [d] }
  | _ => none }
def fnXorBitsRow : OpenClaim := { program := "ytegbmjdaohnlaaa", sum := "2be47ae8678eaec5046b64378db3f807981cdfa9e6e15efae79db69e34fce464", func := "loop.example/rotorciphers/laws.FnXorBits", spec := "fnXorBits", apart := false }
def FnXorBitsSaid : Prop := fnXorBitsRow.holds Try.pinned (OpenSpec.ofChange fnXorBitsSpec)

/-- ITS FALSE NEIGHBOUR: 'it returns false'. Refute it at one input. -/
def fnXorBitsWrong : ChangeSpec := { name := "fnXorBits", fn := fun _ => fun
  | [d] => { results := [.lit (.bool false)], args := [d] }
  | _ => none }
def FnXorBitsWrongFalsely : Prop := fnXorBitsRow.holds Try.pinned (OpenSpec.ofChange fnXorBitsWrong)

/-- 'laws.FnXorTwice': WHATEVER THE INPUT: true; the input reads as it did. -/
def fnXorTwiceSpec : ChangeSpec := { name := "fnXorTwice", fn := fun _ => fun
  | [d] => { results := [.lit (.bool true)], args := [d] }
  | _ => none }
def fnXorTwiceRow : OpenClaim := { program := "ytegbmjdaohnlaaa", sum := "2be47ae8678eaec5046b64378db3f807981cdfa9e6e15efae79db69e34fce464", func := "loop.example/rotorciphers/laws.FnXorTwice", spec := "fnXorTwice", apart := false }
def FnXorTwiceSaid : Prop := fnXorTwiceRow.holds Try.pinned (OpenSpec.ofChange fnXorTwiceSpec)

/-- ITS FALSE NEIGHBOUR: 'it returns false'. Refute it at one input. -/
def fnXorTwiceWrong : ChangeSpec := { name := "fnXorTwice", fn := fun _ => fun
  | [d] => { results := [.lit (.bool false)], args := [d] }
  | _ => none }
def FnXorTwiceWrongFalsely : Prop := fnXorTwiceRow.holds Try.pinned (OpenSpec.ofChange fnXorTwiceWrong)

/-- 'laws.FnDeltaBack': WHATEVER THE INPUT: true; the input reads as it did. -/
def fnDeltaBackSpec : ChangeSpec := { name := "fnDeltaBack", fn := fun _ => fun
  | [d] => { results := [.lit (.bool true)], args := [d] }
  | _ => none }
def fnDeltaBackRow : OpenClaim := { program := "ytegbmjdaohnlaaa", sum := "2be47ae8678eaec5046b64378db3f807981cdfa9e6e15efae79db69e34fce464", func := "loop.example/rotorciphers/laws.FnDeltaBack", spec := "fnDeltaBack", apart := false }
def FnDeltaBackSaid : Prop := fnDeltaBackRow.holds Try.pinned (OpenSpec.ofChange fnDeltaBackSpec)

/-- ITS FALSE NEIGHBOUR: 'it returns false'. Refute it at one input. -/
def fnDeltaBackWrong : ChangeSpec := { name := "fnDeltaBack", fn := fun _ => fun
  | [d] => { results := [.lit (.bool false)], args := [d] }
  | _ => none }
def FnDeltaBackWrongFalsely : Prop := fnDeltaBackRow.holds Try.pinned (OpenSpec.ofChange fnDeltaBackWrong)

/-- 'laws.FnMotorStops': WHATEVER THE INPUT: true; the input reads as it did. -/
def fnMotorStopsSpec : ChangeSpec := { name := "fnMotorStops", fn := fun _ => fun
  | [d] => { results := [.lit (.bool true)], args := [d] }
  | _ => none }
def fnMotorStopsRow : OpenClaim := { program := "ytegbmjdaohnlaaa", sum := "2be47ae8678eaec5046b64378db3f807981cdfa9e6e15efae79db69e34fce464", func := "loop.example/rotorciphers/laws.FnMotorStops", spec := "fnMotorStops", apart := false }
def FnMotorStopsSaid : Prop := fnMotorStopsRow.holds Try.pinned (OpenSpec.ofChange fnMotorStopsSpec)

/-- ITS FALSE NEIGHBOUR: 'it returns false'. Refute it at one input. -/
def fnMotorStopsWrong : ChangeSpec := { name := "fnMotorStops", fn := fun _ => fun
  | [d] => { results := [.lit (.bool false)], args := [d] }
  | _ => none }
def FnMotorStopsWrongFalsely : Prop := fnMotorStopsRow.holds Try.pinned (OpenSpec.ofChange fnMotorStopsWrong)

/-- 'laws.FnChiSteps': WHATEVER THE INPUT: true; the input reads as it did. -/
def fnChiStepsSpec : ChangeSpec := { name := "fnChiSteps", fn := fun _ => fun
  | [d] => { results := [.lit (.bool true)], args := [d] }
  | _ => none }
def fnChiStepsRow : OpenClaim := { program := "ytegbmjdaohnlaaa", sum := "2be47ae8678eaec5046b64378db3f807981cdfa9e6e15efae79db69e34fce464", func := "loop.example/rotorciphers/laws.FnChiSteps", spec := "fnChiSteps", apart := false }
def FnChiStepsSaid : Prop := fnChiStepsRow.holds Try.pinned (OpenSpec.ofChange fnChiStepsSpec)

/-- ITS FALSE NEIGHBOUR: 'it returns false'. Refute it at one input. -/
def fnChiStepsWrong : ChangeSpec := { name := "fnChiSteps", fn := fun _ => fun
  | [d] => { results := [.lit (.bool false)], args := [d] }
  | _ => none }
def FnChiStepsWrongFalsely : Prop := fnChiStepsRow.holds Try.pinned (OpenSpec.ofChange fnChiStepsWrong)

/- THE SECOND FORM. 'bulk': how many values and letters a reading holds, each counted each time it is reached (what is shared counts as often as it is met; a slice's spare places count too). A statement '..UptoSaid' is the law's where the arguments, and the package variables that the reading takes, are together of bulk at most 1048576: NARROWER than '..Said'. Prove '..Said' where nothing that the law and all that it calls make is longer than what came in: it says more and counts as full. Else prove '..UptoSaid'. A law counts once. -/
mutual
def uptoBulk {H : Type} : DataW H → Nat
  | .lit (.string bytes) => bytes.length + 1
  | .lit _ => 1
  | .nil => 1
  | .ptr d => uptoBulk d + 1
  | .slice elems spare => uptoBulkAll elems + uptoBulkAll spare + 1
  | .agg parts => uptoBulkAll parts + 1
  | .iface _ d => uptoBulk d + 1
  | .map entries => uptoBulkEntries entries + 1
  | .held _ => 1
def uptoBulkAll {H : Type} : List (DataW H) → Nat
  | [] => 0
  | d :: r => uptoBulk d + uptoBulkAll r
def uptoBulkEntries {H : Type} : List (Lit × DataW H) → Nat
  | [] => 0
  | x :: r => uptoBulkEntry x + uptoBulkEntries r
def uptoBulkEntry {H : Type} : Lit × DataW H → Nat
  | (.string bytes, d) => bytes.length + uptoBulk d + 1
  | (_, d) => uptoBulk d + 1
 end
def uptoSmall : (H : Type) → List (DataW H) → Bool := fun _ ds => decide (uptoBulkAll ds ≤ 1048576)
def OpenSpec.upto (s : _root_.Go.ChangeSpec) : _root_.Go.OpenSpec := { _root_.Go.OpenSpec.ofChange s with cond := some uptoSmall }

/-- 'laws.FnExactTapeValid', WHERE WHAT IT READS IS OF BULK AT MOST 1048576: true; the input reads as it did. -/
def fnExactTapeValidUptoRow : OpenClaim := { program := "ytegbmjdaohnlaaa", sum := "2be47ae8678eaec5046b64378db3f807981cdfa9e6e15efae79db69e34fce464", func := "loop.example/rotorciphers/laws.FnExactTapeValid", spec := "fnExactTapeValid", apart := false, narrowed := true }
def FnExactTapeValidUptoSaid : Prop := fnExactTapeValidUptoRow.holds Try.pinned (OpenSpec.upto fnExactTapeValidSpec)

/-- 'laws.FnExactDeltaTape', WHERE WHAT IT READS IS OF BULK AT MOST 1048576: true; the input reads as it did. -/
def fnExactDeltaTapeUptoRow : OpenClaim := { program := "ytegbmjdaohnlaaa", sum := "2be47ae8678eaec5046b64378db3f807981cdfa9e6e15efae79db69e34fce464", func := "loop.example/rotorciphers/laws.FnExactDeltaTape", spec := "fnExactDeltaTape", apart := false, narrowed := true }
def FnExactDeltaTapeUptoSaid : Prop := fnExactDeltaTapeUptoRow.holds Try.pinned (OpenSpec.upto fnExactDeltaTapeSpec)

/-- 'laws.FnExactXorTapes', WHERE WHAT IT READS IS OF BULK AT MOST 1048576: true; the input reads as it did. -/
def fnExactXorTapesUptoRow : OpenClaim := { program := "ytegbmjdaohnlaaa", sum := "2be47ae8678eaec5046b64378db3f807981cdfa9e6e15efae79db69e34fce464", func := "loop.example/rotorciphers/laws.FnExactXorTapes", spec := "fnExactXorTapes", apart := false, narrowed := true }
def FnExactXorTapesUptoSaid : Prop := fnExactXorTapesUptoRow.holds Try.pinned (OpenSpec.upto fnExactXorTapesSpec)

/-- 'laws.FnTeleValid', WHERE WHAT IT READS IS OF BULK AT MOST 1048576: true; the input reads as it did. -/
def fnTeleValidUptoRow : OpenClaim := { program := "ytegbmjdaohnlaaa", sum := "2be47ae8678eaec5046b64378db3f807981cdfa9e6e15efae79db69e34fce464", func := "loop.example/rotorciphers/laws.FnTeleValid", spec := "fnTeleValid", apart := false, narrowed := true }
def FnTeleValidUptoSaid : Prop := fnTeleValidUptoRow.holds Try.pinned (OpenSpec.upto fnTeleValidSpec)

/-- 'laws.FnExactTeleValid', WHERE WHAT IT READS IS OF BULK AT MOST 1048576: true; the input reads as it did. -/
def fnExactTeleValidUptoRow : OpenClaim := { program := "ytegbmjdaohnlaaa", sum := "2be47ae8678eaec5046b64378db3f807981cdfa9e6e15efae79db69e34fce464", func := "loop.example/rotorciphers/laws.FnExactTeleValid", spec := "fnExactTeleValid", apart := false, narrowed := true }
def FnExactTeleValidUptoSaid : Prop := fnExactTeleValidUptoRow.holds Try.pinned (OpenSpec.upto fnExactTeleValidSpec)

/-- 'laws.FnTapeValid', WHERE WHAT IT READS IS OF BULK AT MOST 1048576: true; the input reads as it did. -/
def fnTapeValidUptoRow : OpenClaim := { program := "ytegbmjdaohnlaaa", sum := "2be47ae8678eaec5046b64378db3f807981cdfa9e6e15efae79db69e34fce464", func := "loop.example/rotorciphers/laws.FnTapeValid", spec := "fnTapeValid", apart := false, narrowed := true }
def FnTapeValidUptoSaid : Prop := fnTapeValidUptoRow.holds Try.pinned (OpenSpec.upto fnTapeValidSpec)

/-- 'laws.FnXorBits', WHERE WHAT IT READS IS OF BULK AT MOST 1048576: true; the input reads as it did. -/
def fnXorBitsUptoRow : OpenClaim := { program := "ytegbmjdaohnlaaa", sum := "2be47ae8678eaec5046b64378db3f807981cdfa9e6e15efae79db69e34fce464", func := "loop.example/rotorciphers/laws.FnXorBits", spec := "fnXorBits", apart := false, narrowed := true }
def FnXorBitsUptoSaid : Prop := fnXorBitsUptoRow.holds Try.pinned (OpenSpec.upto fnXorBitsSpec)

/-- 'laws.FnXorTwice', WHERE WHAT IT READS IS OF BULK AT MOST 1048576: true; the input reads as it did. -/
def fnXorTwiceUptoRow : OpenClaim := { program := "ytegbmjdaohnlaaa", sum := "2be47ae8678eaec5046b64378db3f807981cdfa9e6e15efae79db69e34fce464", func := "loop.example/rotorciphers/laws.FnXorTwice", spec := "fnXorTwice", apart := false, narrowed := true }
def FnXorTwiceUptoSaid : Prop := fnXorTwiceUptoRow.holds Try.pinned (OpenSpec.upto fnXorTwiceSpec)

/-- 'laws.FnDeltaBack', WHERE WHAT IT READS IS OF BULK AT MOST 1048576: true; the input reads as it did. -/
def fnDeltaBackUptoRow : OpenClaim := { program := "ytegbmjdaohnlaaa", sum := "2be47ae8678eaec5046b64378db3f807981cdfa9e6e15efae79db69e34fce464", func := "loop.example/rotorciphers/laws.FnDeltaBack", spec := "fnDeltaBack", apart := false, narrowed := true }
def FnDeltaBackUptoSaid : Prop := fnDeltaBackUptoRow.holds Try.pinned (OpenSpec.upto fnDeltaBackSpec)

/-- 'laws.FnMotorStops', WHERE WHAT IT READS IS OF BULK AT MOST 1048576: true; the input reads as it did. -/
def fnMotorStopsUptoRow : OpenClaim := { program := "ytegbmjdaohnlaaa", sum := "2be47ae8678eaec5046b64378db3f807981cdfa9e6e15efae79db69e34fce464", func := "loop.example/rotorciphers/laws.FnMotorStops", spec := "fnMotorStops", apart := false, narrowed := true }
def FnMotorStopsUptoSaid : Prop := fnMotorStopsUptoRow.holds Try.pinned (OpenSpec.upto fnMotorStopsSpec)

/-- 'laws.FnChiSteps', WHERE WHAT IT READS IS OF BULK AT MOST 1048576: true; the input reads as it did. -/
def fnChiStepsUptoRow : OpenClaim := { program := "ytegbmjdaohnlaaa", sum := "2be47ae8678eaec5046b64378db3f807981cdfa9e6e15efae79db69e34fce464", func := "loop.example/rotorciphers/laws.FnChiSteps", spec := "fnChiSteps", apart := false, narrowed := true }
def FnChiStepsUptoSaid : Prop := fnChiStepsUptoRow.holds Try.pinned (OpenSpec.upto fnChiStepsSpec)

end Rows
end Go.Proofs.Ytegbmjdaohnlaaa
