/- Several of my texts in one: Apply. -/
import Derived.Test.YtbeohccbflhdiaaM2
import Derived.Test.YtbeohccbflhdiaaM3
import Derived.Test.YtbeohccbflhdiaaM6
/- ApplyPerm: a word that is mapped by a permutation. -/
namespace Go.Proofs.Ytbeohccbflhdiaa
open Go.RowKit

/-- What ApplyPerm answers. -/
def appV (p u : ByteArray) : ByteArray := if permB p = true ∧ wordB u = true then wd ((dg u).map (pAt (dg p))) else S []
theorem appV_yes {p u : ByteArray} (h : permB p = true) (h2 : wordB u = true) : appV p u = wd ((dg u).map (pAt (dg p))) := by simp only [appV, h, h2, and_self, if_true]
theorem appV_no {p u : ByteArray} (h : ¬ (permB p = true ∧ wordB u = true)) : appV p u = S [] := by simp only [appV, if_neg h]
theorem appL_at {p u : ByteArray} {k : Nat} (h : k < u.size) : (L (wd ((dg u).map (pAt (dg p)))))[k]'(by rw [size_L, size_wd, List.length_map, len_dg]; exact h) = letr (pAt (dg p) (pAt (dg u) k) : Int) := by
  have hk : k < (dg u).length := by rw [len_dg]; exact h
  simp only [wd, L_S, List.getElem_map, pAt_get hk]

end Go.Proofs.Ytbeohccbflhdiaa
