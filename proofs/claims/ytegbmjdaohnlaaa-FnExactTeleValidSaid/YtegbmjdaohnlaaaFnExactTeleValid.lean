/- The statement FnExactTeleValid: for every machine the program's TeleValid answers as the reference's; no condition. -/
import Derived.Test.YtegbmjdaohnlaaaRows
import Derived.Test.YtegbmjdaohnlaaaTeleEx
import Derived.WalkKit
import Derived.ProofKit
import Derived.OpenShut
import Derived.ShutString
import Derived.ChangeOld
import Derived.Below
import Derived.Lib.SmallJoins
namespace Go.Proofs.Ytegbmjdaohnlaaa.fnExactTeleValid
open Go.ChangeShapes Go.WideShapes Go.ChangeAt Go.RowKit Go.Joins
open Go.ChangeMaps (open_string shut_string)
set_option linter.unusedVariables false

theorem own : ownKnob Try.prog.godebug = none := by kernel_rfl
theorem laidOut : laidOutB Try.prog = true := by kernel_rfl

/-- A field that is a list of strings, as the walk wants it. -/
theorem strs_open {H : Type} {enc : TypeId × Value → H} {w : World} {fuel : Nat} {v : Value} {x : DataW H × List MemPlace}
    (h : DataW.trod enc Try.prog w 0 (fun _ => true) true fuel 28 [v] = some x) :
    ∃ (a : Option Addr) (cap : Nat) (ss : List ByteArray), v = .slice a ss.length cap ∧ Reads w w.heap.size a (sv ss) ∧ (∀ s ∈ ss, s.size ≤ 9223372036854775807) ∧ ss.length ≤ 9223372036854775807 := by
  rcases open_strings Try.underlying28 Try.underlying9 (by kernel_rfl) h with ⟨hcs, _⟩ | ⟨a, len, cap, ss, hcs, _, hl, hm, hz, _, hcell, hws⟩
  · simp at hcs
    exact ⟨none, 0, [], by rw [hcs]; rfl, Reads.nil_, by simp, by simp⟩
  · simp at hcs
    simp at hz
    unfold maxLen at hm hws
    have hlen : (ss.take len).length = len := by simp; omega
    refine ⟨some a, cap, ss.take len, by rw [hlen]; exact hcs, ?_, fun s hs => hws s (List.mem_of_mem_take hs), by rw [hlen]; omega⟩
    by_cases h0 : len = 0
    · left; rw [h0]; rfl
    · obtain ⟨b, off, sp⟩ := a
      have h1 := hcell 0 (by omega)
      have hsp : sp = none := by simpa [Addr.add] using World.cell?_spot h1
      subst hsp
      have hb : b < w.heap.size := by
        rcases Nat.lt_or_ge b w.heap.size with hlt | hge
        · exact hlt
        · simp [Addr.add, World.cell?, Array.getElem?_eq_none hge] at h1
      refine .inr ⟨b, off, rfl, hb, fun i hi => ?_⟩
      rw [length_sv, hlen] at hi
      have h2 := hcell i (by omega)
      have hi' : i < ss.length := by omega
      rw [sv_at (by rw [hlen]; exact hi), List.getElem_take]
      have e1 : ss.getD i ByteArray.empty = ss[i] := by simp [List.getD, List.getElem?_eq_getElem hi']
      rw [e1] at h2
      rw [← h2]
      congr 1
      unfold Addr.add
      split
      · rename_i hi0; subst hi0; rfl
      · rfl

set_option maxRecDepth 100000 in
theorem lifted (os : Os) (started : os.Started) (H : Type) (enc : TypeId × Value → H) :
    ReturnsInHanded {} Try.checked os 7 .any (Rows.fnExactTeleValidSpec.pre6 enc Try.prog Try.f7 Rows.fnExactTeleValidRow.domain false) (Rows.fnExactTeleValidSpec.post enc Try.prog Try.f7 false true false false) := by
  refine returnsInHanded_of_change (C := Try.checked) own started (by kernel_rfl) Try.func7
    (ChangeSpec.witness6 (enc := enc) (C := Try.checked) false ⟨#[], #[.agg #[.slice none 0 0, .slice none 0 0, .string ByteArray.empty]], []⟩ 8 (by kernel_rfl) (by kernel_rfl) (by kernel_rfl) (by kernel_rfl)) ?_
  intro W base args ds gs before hval0 hW hcnd _
  have hval : ∀ (j : Nat) t v, Try.f7.params[j]? = some t → args[j]? = some v → Value.okWide Try.prog W .any base t v := hval0
  have hW' := hW
  obtain ⟨p, q, hA0, hV, rfl, hfz, hnd⟩ := hW
  have hA : DataW.TrodAll enc Try.prog W 0 (fun _ => true) true Try.f7.params.toList args.toList ds p := hA0
  rw [Try.params7] at hA hval
  obtain ⟨v0, vs0, d0, ds0, p0, q0, hargs, rfl, rfl, h0, r0⟩ := trodAll_cons hA
  obtain ⟨rfl, rfl, rfl⟩ := trodAll_nil r0
  obtain rfl : args = #[v0] := by cases args; simp_all
  obtain ⟨rfl, rfl⟩ := trodVars_none hV
  have k0 := h0
  have lt0 : ∀ x ∈ p0, x.block < W.heap.size := by obtain ⟨m, hm⟩ := k0; exact DataW.trod_lt m _ _ _ hm
  obtain ⟨x0, x1, x2, y0, y1, y2, n, rfl, hd, hp, t0, t1, t2⟩ := open_agg3 Try.underlying34 (by kernel_rfl) (by kernel_rfl) (hval 0 34 v0 rfl rfl) h0
  obtain ⟨a1, c1, chi, rfl, hr1, hz1, hl1⟩ := strs_open t0
  obtain ⟨a2, c2, psi, rfl, hr2, hz2, hl2⟩ := strs_open t1
  obtain ⟨m, e2, hm⟩ : ∃ m : ByteArray, x2 = .string m ∧ m.size ≤ 9223372036854775807 := by
    obtain ⟨m, e2, _, hm⟩ := DataW.trod_string Try.underlying9 t2
    simp at e2
    exact ⟨m, e2, hm⟩
  subst e2
  clear hA0 hval0
  refine (exactTeleValid_walk a1 a2 c1 c2 chi psi m W ⟨hr1, hr2⟩ hz1 hz2 hm hl1 hl2).mono fun e W' ⟨he, bel⟩ => ?_
  subst he
  exact ⟨_, rfl, _, _, _, [], _, [], hW', trodAll_mk1 (shut_bool Try.underlying4 _), (trodAll_cons_mk (Below.trod laidOut (by kernel_rfl) (of_decide_eq_true (by kernel_rfl)) k0 bel lt0) trodAll_mk0), rfl, bel.frame _, fun h => by cases h⟩

theorem over : Rows.fnExactTeleValidRow.holds Try.pinned (OpenSpec.ofChange Rows.fnExactTeleValidSpec) :=
  OpenClaim.holds_of_wide 7 Try.f7 rfl rfl rfl rfl rfl rfl rfl ⟨rfl, rfl, rfl, rfl, rfl⟩ rfl rfl rfl rfl rfl (by kernel_rfl) Try.func7 (by kernel_rfl)
    (of_decide_eq_true (by kernel_rfl)) (by unfold Func.isWrapper; first | (rw [if_pos (by decide +kernel)]; kernel_rfl) | (rw [if_neg (by decide +kernel)]; exact ⟨rfl, rfl⟩))
    (fun os started H enc _ => lifted os started H enc)

theorem proved : Rows.FnExactTeleValidSaid := over
#print axioms proved
end Go.Proofs.Ytegbmjdaohnlaaa.fnExactTeleValid
