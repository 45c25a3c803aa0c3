/- ParseCage answers as the reference does: at each string. -/
import Derived.Test.YtlpfhabfbnjnbaaDoorCards
import Derived.Test.YtlpfhabfbnjnbaaDoorTie
import Derived.LaidMore
import Derived.Stop.Joined
import Derived.SevenTiedAt
import Derived.Test.YtlpfhabfbnjnbaaDoorM4
import Derived.Test.YtlpfhabfbnjnbaaDoorM9
import Derived.WalkKit
import Derived.ProofKit
import Derived.OpenShut
import Derived.ShutString
import Derived.ChangeOld
import Derived.Below
import Derived.Lay
import Derived.MakeChecks
namespace Go.Proofs.YtlpfhabfbnjnbaaDoor.fnExactParseCage
open Go.ChangeShapes Go.WideShapes Go.ChangeAt Go.RowKit
open Go.ChangeMaps (open_string shut_string)
set_option linter.unusedVariables false

theorem own : ownKnob Tryd.prog.godebug = none := fOwn
theorem laidOut : laidOutB Tryd.prog = true := fLaid

set_option maxRecDepth 100000 in
theorem lifted (os : Os) (started : os.Started) (H : Type) (enc : TypeId × Value → H) :
    ReturnsInHanded {} Tryd.checked os 3 .any (fun w args => (Rows.fnExactParseCageSpec.pre enc Tryd.prog Tryd.f3 [] false w args ∧ laidMetH Tryd.prog Rows.fnExactParseCageRow.laid w) ∧ sizedMet enc Tryd.prog Tryd.f3 (OpenSpec.ofChange Rows.fnExactParseCageSpec) false w args) (Rows.fnExactParseCageSpec.post enc Tryd.prog Tryd.f3 false true false false) := by
  refine returnsInHanded_and_shaped (C := Tryd.checked) (X := fun w _ => laidMetH Tryd.prog Rows.fnExactParseCageRow.laid w) (fun _ _ _ hh h => h.of_heap hh) own started (by kernel_rfl) Tryd.func3
    (ChangeSpec.witness_shaped (enc := enc) (C := Tryd.checked) (os := os) (X := fun w _ => laidMetH Tryd.prog Rows.fnExactParseCageRow.laid w) false (World.laidAll Tryd.prog os Rows.fnExactParseCageRow.laid) #[.string ByteArray.empty] 8 (World.laidAll_os _ _ _) (World.shaped_of_ZipB (by kernel_rfl) (by kernel_rfl)) (by kernel_rfl) (by kernel_rfl) (by kernel_rfl) (by rw [MakeChecks.laidMetH_plain _ _ _ (by kernel_rfl)]; exact laidMet_laidAll _ (by kernel_rfl) (by kernel_rfl))) ?_
  intro W base args ds gs before hval0 hW _ hL hsh
  have hval : ∀ (j : Nat) t v, Tryd.f3.params[j]? = some t → args[j]? = some v → Value.okWide Tryd.prog W .any base t v := hval0
  have hW' := hW
  obtain ⟨p, q, hA0, hV, rfl, hfz, hnd⟩ := hW
  have hA : DataW.TrodAll enc Tryd.prog W 0 (fun _ => true) true Tryd.f3.params.toList args.toList ds p := hA0
  rw [Tryd.params3] at hA hval
  obtain ⟨v0, vs0, d0, ds0, p0, q0, hargs, rfl, rfl, h0, r0⟩ := trodAll_cons hA
  obtain ⟨rfl, rfl, rfl⟩ := trodAll_nil r0
  obtain rfl : args = #[v0] := by cases args; simp_all
  obtain ⟨rfl, rfl⟩ := trodVars_none hV
  obtain ⟨a0, rfl, rfl, rfl, w0⟩ := open_string Tryd.underlying9 (hval 0 9 v0 rfl rfl) h0
  clear hA0 hval0
  have hG := glB_of (by kernel_rfl) hL (by simp [Rows.fnExactParseCageRow]) (by simp [Rows.fnExactParseCageRow]) hsh
  refine (exactParseCage_walk a0 W w0 hG).mono fun e W' ⟨he, bel⟩ => ?_
  subst he
  exact ⟨_, rfl, _, _, _, [], [], [], hW', trodAll_mk1 (shut_bool Tryd.underlying4 _), (trodAll_cons_mk (shut_string Tryd.underlying9 w0) trodAll_mk0), rfl, bel.frame _, fun h => by cases h⟩

set_option maxHeartbeats 20000000 in
theorem closed : joinedFacts Tryd.pinned.checked.prog 3 Tryd.f3 Rows.fnExactParseCageSpec Rows.fnExactParseCageRow = true := by
  unfold joinedFacts
  repeat' (with_reducible refine pl ?_ ?_)
  · (as_aux_lemma => kernel_rfl)
  · exact fLaid
  · exact fRowed
  · (as_aux_lemma => kernel_rfl)
  · (as_aux_lemma => kernel_rfl)
  · (as_aux_lemma => kernel_rfl)
  · exact fStops
  · (as_aux_lemma => kernel_rfl)
  · exact fKnobs
  · (as_aux_lemma => kernel_rfl)
  · (as_aux_lemma => kernel_rfl)
  · (as_aux_lemma => kernel_rfl)
  · (as_aux_lemma => kernel_rfl)
  · (as_aux_lemma => kernel_rfl)
  · (as_aux_lemma => kernel_rfl)
  · (as_aux_lemma => kernel_rfl)
  · (as_aux_lemma => kernel_rfl)
  · (as_aux_lemma => kernel_rfl)
  · (as_aux_lemma => kernel_rfl)
  · (as_aux_lemma => kernel_rfl)
  · (as_aux_lemma => kernel_rfl)
  · (as_aux_lemma => kernel_rfl)
  · exact fPlain
  · (as_aux_lemma => kernel_rfl)
  · exact fHeard
  · exact fEnter
  · exact fLifts
  · exact fMake
  · (as_aux_lemma => kernel_rfl)
  · (as_aux_lemma => kernel_rfl)
  · (as_aux_lemma => kernel_rfl)
  · (as_aux_lemma => kernel_rfl)

theorem named : Tryd.pinned.checked.prog.funcNamed Rows.fnExactParseCageRow.func = some 3 := by kernel_rfl
theorem over : Rows.fnExactParseCageRow.holds Tryd.pinned (OpenSpec.ofChange Rows.fnExactParseCageSpec) :=
  OpenClaim.holds_of_wide 3 Tryd.f3 rfl rfl rfl rfl rfl rfl rfl ⟨rfl, rfl, rfl, rfl, rfl⟩ rfl rfl rfl rfl rfl named Tryd.func3 closed
    (of_decide_eq_true (by kernel_rfl)) (by unfold Func.isWrapper; first | (rw [if_pos (by decide +kernel)]; kernel_rfl) | (rw [if_neg (by decide +kernel)]; exact ⟨rfl, rfl⟩))
    (fun os started H enc _ => lifted os started H enc)

theorem card : Claim7.holds Tryd.pinned (.plain (OpenSpec.ofChange Rows.fnExactParseCageSpec)) Rows.fnExactParseCageCard :=
  Claim7.holds_tied_plain_at .later [] [.data, .data, .data, .data, .sentinel, .sentinel, .pinned] true Rows.fnExactParseCageCard.stood.harness true
    over (fun _ h => by cases h) (by kernel_rfl) (fun _ h => by cases h) fnExactParseCage_row_tie rfl ⟨rfl, rfl⟩ (by kernel_rfl) rfl
    (fun f fn hf hfn => by
      obtain rfl : f = 3 := Option.some.inj (named.symm.trans hf) |>.symm
      obtain rfl : fn = Tryd.f3 := (Option.some.inj (Tryd.func3.symm.trans hfn)).symm
      exact ⟨by kernel_rfl, fun j t ht => by
        rw [Tryd.params3] at ht
        have hm : t ∈ [9] := by simpa using Array.mem_of_getElem? ht
        have hall : ([9].all fun u => !Tryd.prog.wantsStandIn u) = true := by kernel_rfl
        exact (show Tryd.prog.wantsStandIn t = false by simpa using List.all_eq_true.1 hall t hm)⟩)
    (by kernel_rfl)
theorem proved : Rows.FnExactParseCageCardSaid := card
#print axioms proved
end Go.Proofs.YtlpfhabfbnjnbaaDoor.fnExactParseCage
