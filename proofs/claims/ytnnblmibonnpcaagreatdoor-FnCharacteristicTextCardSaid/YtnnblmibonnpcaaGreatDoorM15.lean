/- Several of my texts in one: FactsE. -/
import Derived.Test.YtnnblmibonnpcaaGreatDoorRows
import Derived.WalkKit
import Derived.ProofKit
import Derived.OpenShut
import Derived.ChangeOld
/- A fact on the whole of the translated program: it may be entered. The head of the program is too long for one evaluation: only its first words are looked at. -/
namespace Go.Proofs.YtnnblmibonnpcaaGreatDoor
open Go.RowKit

theorem wordsSigns_one : ∀ (w r : List Char), (∀ c ∈ w, c ≠ Char.ofNat 32) → wordsSigns (w ++ Char.ofNat 32 :: r) = w :: wordsSigns r
  | [], r, _ => rfl
  | c :: w, r, h => by
    have hc : c ≠ Char.ofNat 32 := h c (by simp)
    have ih := wordsSigns_one w r (fun d hd => h d (List.mem_cons_of_mem _ hd))
    have e : wordsSigns (c :: (w ++ Char.ofNat 32 :: r)) = match wordsSigns (w ++ Char.ofNat 32 :: r) with | w :: ws => (c :: w) :: ws | [] => [[c]] := by
      rw [wordsSigns]
      · rfl
      · exact fun h => hc h
    exact e.trans (by rw [ih])
theorem sum_no_blank {s : List Char} (h : isSumSigns s = true) : ∀ c ∈ s, c ≠ Char.ofNat 32 := by
  intro c hc he
  subst he
  unfold isSumSigns at h
  rw [Bool.and_eq_true, List.all_eq_true] at h
  exact absurd (h.2 _ hc) (by decide)
theorem head_split {l : List Char} (h1 : l.take 8 = "harness ".toList) (h3 : (l.drop 72).take 5 = " cut ".toList) : l = "harness".toList ++ Char.ofNat 32 :: ((l.drop 8).take 64 ++ Char.ofNat 32 :: ("cut".toList ++ Char.ofNat 32 :: l.drop 77)) := by
  have e1 : l = l.take 8 ++ l.drop 8 := (List.take_append_drop 8 l).symm
  have e2 : l.drop 8 = (l.drop 8).take 64 ++ l.drop 72 := by
    have := (List.take_append_drop 64 (l.drop 8)).symm
    rwa [List.drop_drop] at this
  have e3 : l.drop 72 = (l.drop 72).take 5 ++ l.drop 77 := by
    have := (List.take_append_drop 5 (l.drop 72)).symm
    rwa [List.drop_drop] at this
  rw [h3] at e3
  rw [h1] at e1
  generalize (l.drop 8).take 64 = s at *
  generalize l.drop 77 = t at *
  generalize l.drop 72 = t' at *
  generalize l.drop 8 = t'' at *
  subst e3
  subst e2
  exact e1
theorem words_in {P : Program} {l s t : List Char} (h : P.initOrder = String.ofList l) (hl : l = "harness".toList ++ Char.ofNat 32 :: (s ++ Char.ofNat 32 :: ("cut".toList ++ Char.ofNat 32 :: t))) (h2 : isSumSigns s = true) : behindMainWord (wordsSigns P.initOrder.toList) = "cut".toList :: wordsSigns t := by
  rw [h, String.toList_ofList]
  have hs := sum_no_blank h2
  rw [hl, wordsSigns_one _ _ (by decide), wordsSigns_one _ _ hs, wordsSigns_one _ _ (by decide)]
  show (if (("harness".toList == "harness".toList || "harness".toList == "ownmain".toList) && isSumSigns s) = true then "cut".toList :: wordsSigns t else _) = _
  rw [h2]
  rfl
theorem strip_cut (r : List (List Char)) : stripLifts liftWords ("cut".toList :: r) = ([], "cut".toList :: r) := rfl
theorem mayEnter_of {P : Program} {r : List (List Char)} (hw : behindMainWord (wordsSigns P.initOrder.toList) = "cut".toList :: r) (h4 : P.laysLater = false) (h5 : P.bearsReflect = false) (h6 : P.doorFits [] = true) : P.mayEnter = true := by
  unfold Program.mayEnter
  rw [hw]
  simp only [strip_cut, h4, h5, h6]
  rfl
theorem headLifts_of {P : Program} {r : List (List Char)} (hw : behindMainWord (wordsSigns P.initOrder.toList) = "cut".toList :: r) : P.headLifts = [] := by
  unfold Program.headLifts
  rw [hw]
  simp only [strip_cut]
  rfl
theorem liftsFinal_of {P : Program} {r : List (List Char)} (hw : behindMainWord (wordsSigns P.initOrder.toList) = "cut".toList :: r) : P.liftsFinal = false := by
  unfold Program.liftsFinal
  rw [hw, headLifts_of hw]
  rfl
theorem make_of {P : Program} {r : List (List Char)} (hw : behindMainWord (wordsSigns P.initOrder.toList) = "cut".toList :: r) : P.make = some .cut := by
  unfold Program.make
  rw [hw]
  rfl
theorem fWords : ∃ r, behindMainWord (wordsSigns Tryz.pinned.checked.prog.initOrder.toList) = "cut".toList :: r := by
  obtain ⟨l, h, h1, h2, h3⟩ : ∃ l, Tryz.pinned.checked.prog.initOrder = String.ofList l ∧ l.take 8 = "harness ".toList ∧ isSumSigns ((l.drop 8).take 64) = true ∧ (l.drop 72).take 5 = " cut ".toList := ⟨_, by with_unfolding_all rfl, by kernel_rfl, by kernel_rfl, by kernel_rfl⟩
  exact ⟨_, words_in h (head_split h1 h3) h2⟩
theorem fEnter : Tryz.pinned.checked.prog.mayEnter = true :=
  fWords.elim fun _ h => mayEnter_of h (by kernel_rfl) (by kernel_rfl) (by kernel_rfl)
theorem fLifts : (false == Tryz.pinned.checked.prog.liftsFinal) = true := fWords.elim fun _ h => by rw [liftsFinal_of h]; rfl
theorem fMake : (Tryz.pinned.checked.prog.make == some Make.cut) = true := fWords.elim fun _ h => by rw [make_of h]; rfl
end Go.Proofs.YtnnblmibonnpcaaGreatDoor
