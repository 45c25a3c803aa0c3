/- Several of my texts in one: Msg, Apply, Seal, Dbl, Fix, Rep. -/
import Derived.Test.YtnnblmibonnpcaaGreatDoorM3
import Derived.Test.YtnnblmibonnpcaaGreatDoorM4
import Derived.Test.YtnnblmibonnpcaaGreatDoorM2
import Derived.Test.YtnnblmibonnpcaaGreatDoorM7
import Derived.Test.YtnnblmibonnpcaaGreatDoorM10
import Derived.Test.YtnnblmibonnpcaaGreatDoorM5
import Derived.Test.YtnnblmibonnpcaaGreatDoorM11
/- Messages, and MessageValid. (The walks are printed by genmsg.py.) -/
namespace Go.Proofs.YtnnblmibonnpcaaGreatDoor
open Go.RowKit

/-- A message. -/
structure Msg where
  start : ByteArray
  ind : ByteArray
  body : ByteArray
def msgB (x : Msg) : Bool := decide (1 ≤ x.start.size) && decide (x.start.size ≤ 3) && wordB x.start && decide (x.ind.size = x.start.size) && wordB x.ind && wordB x.body
end Go.Proofs.YtnnblmibonnpcaaGreatDoor

/- ApplyPerm: a word that is mapped by a permutation. -/
namespace Go.Proofs.YtnnblmibonnpcaaGreatDoor
open Go.RowKit

/-- What ApplyPerm answers. -/
def appV (p u : ByteArray) : ByteArray := if permB p = true ∧ wordB u = true then wd ((dg u).map (pAt (dg p))) else S []
theorem appV_yes {p u : ByteArray} (h : permB p = true) (h2 : wordB u = true) : appV p u = wd ((dg u).map (pAt (dg p))) := by simp only [appV, h, h2, and_self, if_true]
theorem appV_no {p u : ByteArray} (h : ¬ (permB p = true ∧ wordB u = true)) : appV p u = S [] := by simp only [appV, if_neg h]
theorem appL_at {p u : ByteArray} {k : Nat} (h : k < u.size) : (L (wd ((dg u).map (pAt (dg p)))))[k]'(by rw [size_L, size_wd, List.length_map, len_dg]; exact h) = letr (pAt (dg p) (pAt (dg u) k) : Int) := by
  have hk : k < (dg u).length := by rw [len_dg]; exact h
  simp only [wd, L_S, List.getElem_map, pAt_get hk]

end Go.Proofs.YtnnblmibonnpcaaGreatDoor

/- SealMessage and OpenMessage, the program's and the specification's. -/
namespace Go.Proofs.YtnnblmibonnpcaaGreatDoor
open Go.RowKit

def sealT (m : Mach) (s k u : ByteArray) : Msg × Bool := if setB m s = true ∧ setB m k = true ∧ wordB u = true then (⟨s, wd (encD m s (dg k)), wd (encD m k (dg u))⟩, true) else (⟨⟨#[]⟩, ⟨#[]⟩, ⟨#[]⟩⟩, false)
def keyM (m : Mach) (x : Msg) : ByteArray := wd (encD m x.start (dg x.ind))
def openT (m : Mach) (x : Msg) : ByteArray × ByteArray × Bool := if setB m x.start = true ∧ msgB x = true then (keyM m x, wd (encD m (keyM m x) (dg x.body)), true) else (⟨#[]⟩, ⟨#[]⟩, false)
theorem sealT_yes {m : Mach} {s k u : ByteArray} (h1 : setB m s = true) (h2 : setB m k = true) (h3 : wordB u = true) : sealT m s k u = (⟨s, wd (encD m s (dg k)), wd (encD m k (dg u))⟩, true) := by simp only [sealT, h1, h2, h3, and_self, if_true]
theorem sealT_no {m : Mach} {s k u : ByteArray} (h : ¬ (setB m s = true ∧ setB m k = true ∧ wordB u = true)) : sealT m s k u = (⟨⟨#[]⟩, ⟨#[]⟩, ⟨#[]⟩⟩, false) := by simp only [sealT, if_neg h]
theorem openT_yes {m : Mach} {x : Msg} (h1 : setB m x.start = true) (h2 : msgB x = true) : openT m x = (keyM m x, wd (encD m (keyM m x) (dg x.body)), true) := by simp only [openT, h1, h2, and_self, if_true]
theorem openT_no {m : Mach} {x : Msg} (h : ¬ (setB m x.start = true ∧ msgB x = true)) : openT m x = (⟨#[]⟩, ⟨#[]⟩, false) := by simp only [openT, if_neg h]
theorem msgB_word {x : Msg} (h : msgB x = true) : wordB x.ind = true ∧ wordB x.body = true ∧ x.ind.size = x.start.size ∧ wordB x.start = true := by
  simp only [msgB, Bool.and_eq_true, decide_eq_true_eq] at h
  exact ⟨h.1.2, h.2, h.1.1.2, h.1.1.1.2⟩
theorem setB_enc {m : Mach} {s k : ByteArray} (hs : setB m s = true) (hk : wordB k = true) (he : k.size = s.size) : setB m (wd (encD m s (dg k))) = true :=
  setB_mk (setB_mach hs) (by rw [size_wd, len_encD, len_dg, he]; exact setB_size hs) (word_wd (by rw [len_encD, len_dg]; exact wordB_size hk))
theorem setB_keyM {m : Mach} {x : Msg} (h1 : setB m x.start = true) (h2 : msgB x = true) : setB m (keyM m x) = true := setB_enc h1 (msgB_word h2).1 (msgB_word h2).2.2.1

set_option maxRecDepth 100000 in
theorem rcFits_any (a : Option Addr) (n c : Nat) (m : Mach) (v : ByteArray) (w : World) (h : MachAt w w.heap.size a n m) (hv : v.size ≤ 4294967296) :
    Calls Tryz.prog 28 #[.agg #[.slice a n c, .string m.wheels.refl, .string m.rings, .string m.plugs], .string v] w fun e w' => e = .returned (.bool (setB m v)) ∧ Below w.heap.size w w' := by
  have o0 := Own.new w [.slice a n c, .string m.wheels.refl, .string m.rings, .string m.plugs] 27
  have hb0 := (Below.refl w.heap.size w).alloc (Nat.le_refl _) (.cells [.slice a n c, .string m.wheels.refl, .string m.rings, .string m.plugs].toArray 27)
  have h' := h.alloc_ (.cells [.slice a n c, .string m.wheels.refl, .string m.rings, .string m.plugs].toArray 27)
  go_enter Tryz.func28, Tryz.ntmps28
  go_wp2_with fail
  refine (implMachineValid_any a n c m _ h').mono ?_
  rintro e w1 ⟨rfl, hb1⟩
  have o1 := o0.below hb1 o0.lt
  have hM := (h'.below hb1 (Nat.le_refl _)).more hb1.size
  have hb := bt hb0 hb1
  clear o0 hb0 hb1 h'
  cases hm : machB m with
  | false =>
    have HM : Hid (setB m v = false) := by show _ = _; simp [setB, hm]
    clear hm
    go_wp2
    go_ret
    exact ⟨ret_bool HM.out.symm, hb⟩
  | true =>
    have HM : Hid (setB m v = fitB m.wheels v) := by
      show _ = _
      have hm' : fitB m.wheels m.rings = true := by simp only [machB, Bool.and_eq_true] at hm; exact hm.1
      have hF := fitB_iff.1 hm'
      have hz := hF.size
      simp only [fitB, Bool.and_eq_true] at hm'
      simp only [setB, hm, Bool.true_and, fitB, hm'.1.1, hz]
    have f0 := o1.at_ (i := 0) rfl
    have f1 := o1.at_ (i := 1) rfl
    clear hm
    go_wp2_with fail
    refine (rcFit_any a n c m.wheels v _ hM.whl hv).mono ?_
    rintro e w2 ⟨rfl, hb2⟩
    go_wp2
    go_ret
    exact ⟨ret_bool HM.out.symm, bt hb hb2⟩
end Go.Proofs.YtnnblmibonnpcaaGreatDoor

/- DoubleIndicator, the program's and the specification's, and its draw. -/
namespace Go.Proofs.YtnnblmibonnpcaaGreatDoor
open Go.RowKit

def dblT (m : Mach) (g k : ByteArray) : ByteArray × Bool := if setB m g = true ∧ setB m k = true then (wd (encD m g (dg (k ++ k))), true) else (⟨#[]⟩, false)
theorem dblT_yes {m : Mach} {g k : ByteArray} (h1 : setB m g = true) (h2 : setB m k = true) : dblT m g k = (wd (encD m g (dg (k ++ k))), true) := by simp only [dblT, h1, h2, and_self, if_true]
theorem dblT_no {m : Mach} {g k : ByteArray} (h : ¬ (setB m g = true ∧ setB m k = true)) : dblT m g k = (⟨#[]⟩, false) := by simp only [dblT, if_neg h]
theorem setB_3 {m : Mach} {k : ByteArray} (h : setB m k = true) : k.size ≤ 3 := by
  rw [setB_len h]; exact (machB_fit (setB_mach h)).three
theorem setB_1 {m : Mach} {k : ByteArray} (h : setB m k = true) : 1 ≤ k.size := by
  rw [setB_len h]; exact (machB_fit (setB_mach h)).one
theorem wordB_dbl {k : ByteArray} (h : wordB k = true) (h3 : k.size ≤ 3) : wordB (k ++ k) = true := by
  simp only [wordB, Bool.and_eq_true, decide_eq_true_eq] at h ⊢
  refine ⟨by rw [ByteArray.size_append]; omega, ?_⟩
  rw [L_append, List.all_append, h.2]; rfl
end Go.Proofs.YtnnblmibonnpcaaGreatDoor

/- Whether a permutation fixes a letter; whether a word may be a double indicator. -/
namespace Go.Proofs.YtnnblmibonnpcaaGreatDoor
open Go.RowKit

/-- What HasRepeat answers. -/
def hasB (m : Mach) (g : ByteArray) (p : Int) : Bool := setB m g && (decide (0 ≤ p) && (decide (p < g.size) && fixB (prodP m g p.toNat)))
end Go.Proofs.YtnnblmibonnpcaaGreatDoor

/- The places in which a double indicator repeats its letters. -/
namespace Go.Proofs.YtnnblmibonnpcaaGreatDoor
open Go.RowKit

/-- The places below k with equal letters in both halves. -/
def repL (s : ByteArray) (n k : Nat) : List Nat := (List.range k).filter fun i => (L s)[i]? == (L s)[i + n]?
theorem repL_snoc (s : ByteArray) (n k : Nat) : repL s n (k + 1) = repL s n k ++ (if (L s)[k]? == (L s)[k + n]? then [k] else []) := by
  simp only [repL, List.range_succ, List.filter_append]
  congr 1
  by_cases h : ((L s)[k]? == (L s)[k + n]?) = true <;> simp [h]
theorem repL_len (s : ByteArray) (n k : Nat) : (repL s n k).length ≤ k := by
  have := List.length_filter_le (fun i => (L s)[i]? == (L s)[i + n]?) (List.range k)
  simpa [repL] using this
theorem repL_zero (s : ByteArray) (n : Nat) : repL s n 0 = [] := rfl
end Go.Proofs.YtnnblmibonnpcaaGreatDoor
