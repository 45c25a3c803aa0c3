/- The program's GroundsWith answers what the reference's answers: at all arguments. -/
import Derived.Test.YtnnblmibonnpcaaGreatDoorCards
import Derived.Test.YtnnblmibonnpcaaGreatDoorTie
import Derived.LaidMore
import Derived.Stop.Joined
import Derived.SevenTiedAt
import Derived.Test.YtnnblmibonnpcaaGreatDoorM16
import Derived.Test.YtnnblmibonnpcaaGreatDoorM22
import Derived.Test.YtnnblmibonnpcaaGreatDoorM19
import Derived.WalkKit
import Derived.ProofKit
import Derived.OpenShut
import Derived.ShutString
import Derived.ChangeOld
import Derived.Below
namespace Go.Proofs.YtnnblmibonnpcaaGreatDoor.fnExactGroundsWith
open Go.ChangeShapes Go.WideShapes Go.ChangeAt Go.RowKit
open Go.ChangeMaps (open_string shut_string)
set_option linter.unusedVariables false

theorem own : ownKnob Tryz.prog.godebug = none := fOwn
theorem laidOut : laidOutB Tryz.prog = true := fLaid

/-- The door's own heap meets the condition. -/
theorem door_met (os : Os) (args : Array Value) : laidMetH Tryz.prog Rows.fnExactGroundsWithRow.laid ((World.doorLaid Tryz.prog 400 os).forCall (fun _ _ => 0) ⟨#[], args, []⟩).memory :=
  laidMetH_of_parts3 (fuel := 8) (laidMet_of_run' 8 (by kernel_rfl) (by kernel_rfl)) (by kernel_rfl) (by kernel_rfl)

set_option maxRecDepth 100000 in
theorem lifted (os : Os) (started : os.Started) (H : Type) (enc : TypeId × Value → H) :
    ReturnsInHanded {} Tryz.checked os 4 .any (fun w args => (Rows.fnExactGroundsWithSpec.pre enc Tryz.prog Tryz.f4 [] false w args ∧ laidMetH Tryz.prog Rows.fnExactGroundsWithRow.laid w) ∧ sizedMet enc Tryz.prog Tryz.f4 (OpenSpec.ofChange Rows.fnExactGroundsWithSpec) false w args) (Rows.fnExactGroundsWithSpec.post enc Tryz.prog Tryz.f4 false true false false) := by
  refine returnsInHanded_of_change_and (C := Tryz.checked) (X := fun w _ => laidMetH Tryz.prog Rows.fnExactGroundsWithRow.laid w) (fun _ _ _ hh h => h.of_heap hh) own started (by kernel_rfl) Tryz.func4
    (ChangeSpec.witness_shaped (enc := enc) (C := Tryz.checked) (os := os) (X := fun w _ => laidMetH Tryz.prog Rows.fnExactGroundsWithRow.laid w) false (World.doorLaid Tryz.prog 400 os) #[.agg #[.slice none 0 0, .string ByteArray.empty, .string ByteArray.empty, .string ByteArray.empty], .slice none 0 0, .slice none 0 0] 8 rfl (World.shaped_of_RefB (by kernel_rfl) (by kernel_rfl)) (by kernel_rfl) (by kernel_rfl) (by kernel_rfl) (door_met os _)) ?_
  intro W base args ds gs before hval0 hW _ _ hL _
  have hval : ∀ (j : Nat) t v, Tryz.f4.params[j]? = some t → args[j]? = some v → Value.okWide Tryz.prog W .any base t v := hval0
  have hW' := hW
  obtain ⟨p, q, hA0, hV, rfl, hfz, hnd⟩ := hW
  have hA : DataW.TrodAll enc Tryz.prog W 0 (fun _ => true) true Tryz.f4.params.toList args.toList ds p := hA0
  rw [Tryz.params4] at hA hval
  obtain ⟨v0, vs0, d0, ds0, p0, q0, hargs, rfl, rfl, h0, r0⟩ := trodAll_cons hA
  obtain ⟨v1, vs1, d1, ds1, p1, q1, rfl, rfl, rfl, h1, r1⟩ := trodAll_cons r0
  obtain ⟨v2, vs2, d2, ds2, p2, q2, rfl, rfl, rfl, h2, r2⟩ := trodAll_cons r1
  obtain ⟨rfl, rfl, rfl⟩ := trodAll_nil r2
  obtain rfl : args = #[v0, v1, v2] := by cases args; simp_all
  obtain ⟨rfl, rfl⟩ := trodVars_none hV
  have k0 := h0
  have lt0 : ∀ x ∈ p0, x.block < W.heap.size := by obtain ⟨m, hm⟩ := k0; exact DataW.trod_lt m _ _ _ hm
  obtain ⟨a0, c0, m0, rfl, hr0, hz0, hx0, hy0, ht0⟩ := mach_open (hval 0 41 v0 rfl rfl) h0
  have k1 := h1
  have lt1 : ∀ x ∈ p1, x.block < W.heap.size := by obtain ⟨m, hm⟩ := k1; exact DataW.trod_lt m _ _ _ hm
  obtain ⟨_, _, _, hv1⟩ := okWide_slice Tryz.underlying30 (hval 1 30 v1 rfl rfl)
  obtain ⟨fuel1, hf1⟩ := h1
  have hg1 : DataW.trod enc Tryz.prog W 0 (fun _ => true) true fuel1 30 [v1] = some (d1, p1) := by rw [hv1] at hf1 ⊢; simpa [Value.cells] using hf1
  obtain ⟨a1, c1, s1, rfl, hr1, hz1, hl1⟩ := strs_open hg1
  have k2 := h2
  have lt2 : ∀ x ∈ p2, x.block < W.heap.size := by obtain ⟨m, hm⟩ := k2; exact DataW.trod_lt m _ _ _ hm
  obtain ⟨_, _, _, hv2⟩ := okWide_slice Tryz.underlying30 (hval 2 30 v2 rfl rfl)
  obtain ⟨fuel2, hf2⟩ := h2
  have hg2 : DataW.trod enc Tryz.prog W 0 (fun _ => true) true fuel2 30 [v2] = some (d2, p2) := by rw [hv2] at hf2 ⊢; simpa [Value.cells] using hf2
  obtain ⟨a2, c2, s2, rfl, hr2, hz2, hl2⟩ := strs_open hg2
  clear hA0 hval0
  refine (exactGroundsWith_walk a0 c0 m0 a1 c1 s1 a2 c2 s2 W hr0 hz0 hx0 hy0 ht0 hr1 hz1 hl1 hr2 hz2 hl2).mono fun e W' ⟨he, bel⟩ => ?_
  subst he
  exact ⟨_, rfl, _, _, _, [], _, [], hW', trodAll_mk1 (shut_bool Tryz.underlying4 _), (trodAll_cons_mk (Below.trod laidOut (by kernel_rfl) (of_decide_eq_true (by kernel_rfl)) k0 bel lt0) (trodAll_cons_mk (Below.trod laidOut (by kernel_rfl) (of_decide_eq_true (by kernel_rfl)) k1 bel lt1) (trodAll_cons_mk (Below.trod laidOut (by kernel_rfl) (of_decide_eq_true (by kernel_rfl)) k2 bel lt2) trodAll_mk0))), rfl, bel.frame _, fun h => by cases h⟩

set_option maxHeartbeats 20000000 in
theorem closed : joinedFacts Tryz.pinned.checked.prog 4 Tryz.f4 Rows.fnExactGroundsWithSpec Rows.fnExactGroundsWithRow = true := by
  unfold joinedFacts
  repeat' (with_reducible refine pl ?_ ?_)
  · (as_aux_lemma => kernel_rfl)
  · exact fLaid
  · exact fRowed
  · (as_aux_lemma => kernel_rfl)
  · (as_aux_lemma => kernel_rfl)
  · (as_aux_lemma => kernel_rfl)
  · exact fStops
  · (as_aux_lemma => kernel_rfl)
  · exact fKnobs
  · (as_aux_lemma => kernel_rfl)
  · (as_aux_lemma => kernel_rfl)
  · (as_aux_lemma => kernel_rfl)
  · (as_aux_lemma => kernel_rfl)
  · (as_aux_lemma => kernel_rfl)
  · (as_aux_lemma => kernel_rfl)
  · (as_aux_lemma => kernel_rfl)
  · (as_aux_lemma => kernel_rfl)
  · (as_aux_lemma => kernel_rfl)
  · (as_aux_lemma => kernel_rfl)
  · (as_aux_lemma => kernel_rfl)
  · (as_aux_lemma => kernel_rfl)
  · (as_aux_lemma => kernel_rfl)
  · exact fPlain
  · (as_aux_lemma => kernel_rfl)
  · exact fHeard
  · exact fEnter
  · exact fLifts
  · exact fMake
  · (as_aux_lemma => kernel_rfl)
  · (as_aux_lemma => kernel_rfl)
  · (as_aux_lemma => kernel_rfl)
  · (as_aux_lemma => kernel_rfl)

theorem named : Tryz.pinned.checked.prog.funcNamed Rows.fnExactGroundsWithRow.func = some 4 := by kernel_rfl
theorem over : Rows.fnExactGroundsWithRow.holds Tryz.pinned (OpenSpec.ofChange Rows.fnExactGroundsWithSpec) :=
  OpenClaim.holds_of_wide 4 Tryz.f4 rfl rfl rfl rfl rfl rfl rfl ⟨rfl, rfl, rfl, rfl, rfl⟩ rfl rfl rfl rfl rfl named Tryz.func4 closed
    (of_decide_eq_true (by kernel_rfl)) (by unfold Func.isWrapper; first | (rw [if_pos (by decide +kernel)]; kernel_rfl) | (rw [if_neg (by decide +kernel)]; exact ⟨rfl, rfl⟩))
    (fun os started H enc _ => lifted os started H enc)

theorem card : Claim7.holds Tryz.pinned (.plain (OpenSpec.ofChange Rows.fnExactGroundsWithSpec)) Rows.fnExactGroundsWithCard :=
  Claim7.holds_tied_plain_at .later [] [.data, .data, .data] true Rows.fnExactGroundsWithCard.stood.harness false
    over (fun _ h => by cases h) (by kernel_rfl) (fun _ h => by cases h) fnExactGroundsWith_row_tie rfl ⟨rfl, rfl⟩ (by kernel_rfl) rfl
    (fun f fn hf hfn => by
      obtain rfl : f = 4 := Option.some.inj (named.symm.trans hf) |>.symm
      obtain rfl : fn = Tryz.f4 := (Option.some.inj (Tryz.func4.symm.trans hfn)).symm
      exact ⟨by kernel_rfl, fun j t ht => by
        rw [Tryz.params4] at ht
        have hm : t ∈ [41, 30, 30] := by simpa using Array.mem_of_getElem? ht
        have hall : ([41, 30, 30].all fun u => !Tryz.prog.wantsStandIn u) = true := by kernel_rfl
        exact (show Tryz.prog.wantsStandIn t = false by simpa using List.all_eq_true.1 hall t hm)⟩)
    (by kernel_rfl)
theorem proved : Rows.FnExactGroundsWithCardSaid := card
#print axioms proved
end Go.Proofs.YtnnblmibonnpcaaGreatDoor.fnExactGroundsWith
