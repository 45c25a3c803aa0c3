/- Several of my texts in one: PlugsW. -/
import Derived.Test.YtbeohccbflhdiaaM11
import Derived.Test.YtbeohccbflhdiaaM13
/- The walk of the law that the plugboard acts before and after. -/
namespace Go.Proofs.Ytbeohccbflhdiaa
open Go.RowKit


theorem wordB_map {q u : ByteArray} (hw : wordB u = true) : wordB (wd ((dg u).map (pAt (dg q)))) = true := word_wd (by rw [List.length_map, len_dg]; exact wordB_size hw)
theorem wordB_enc (m : Mach) (v : ByteArray) {u : ByteArray} (hw : wordB u = true) : wordB (wd (encD m v (dg u))) = true := word_wd (by rw [len_encD, len_dg]; exact wordB_size hw)
theorem plugs_law {m : Mach} {v u : ByteArray} (h : setB m v = true) (hw : wordB u = true) :
    wd (encD m v (dg u)) = wd ((dg (wd (encD (bareM m) v (dg (wd ((dg u).map (pAt (dg m.plugs)))))))).map (pAt (dg m.plugs))) := by
  have hm := setB_mach h
  have hq := machB_plugP hm
  have hqi := plugB_inv (machB_plug hm)
  have hd := word_dg_lt hw
  have hd2 : ∀ x ∈ (dg u).map (pAt (dg m.plugs)), x < 10 := by
    intro x hx
    obtain ⟨y, hy, rfl⟩ := List.mem_map.1 hx
    exact hq.at_lt (hd y hy)
  rw [dg_wd hd2, dg_wd (encD_lt (machB_bare hm) v hd2)]
  congr 1
  refine List.ext_getElem (by simp [len_encD]) fun i h1 h2 => ?_
  have hi : i < (dg u).length := by rw [len_encD] at h1; exact h1
  have hx : pAt (dg u) i < 10 := by rw [pAt_get hi]; exact hd _ (List.getElem_mem _)
  have hi2 : i < ((dg u).map (pAt (dg m.plugs))).length := by rw [List.length_map]; exact hi
  have hi3 : i < (encD (bareM m) v ((dg u).map (pAt (dg m.plugs)))).length := by rw [len_encD]; exact hi2
  rw [List.getElem_map, ← pAt_get h1, ← pAt_get hi3, at_encD m v hi, at_encD (bareM m) v hi2, pAt_get hi2, List.getElem_map, ← pAt_get hi]
  show pAt (keyN m v i) _ = pAt (dg m.plugs) (pAt (keyN (bareM m) v i) _)
  rw [keyN_of_bare hm, at_conj (isP_keyN (machB_bare hm) v i) hq hx, hqi.back hq]
theorem MachAt.bare {w : World} {B : Nat} {a : Option Addr} {n : Nat} {m : Mach} (h : MachAt w B a n m) : MachAt w B a n (bareM m) := ⟨h.whl, h.rings, by show (wd idP).size ≤ _; rw [size_wd]; decide⟩

end Go.Proofs.Ytbeohccbflhdiaa
