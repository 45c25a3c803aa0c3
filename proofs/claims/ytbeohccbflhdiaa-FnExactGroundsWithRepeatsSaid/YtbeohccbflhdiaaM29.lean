/- Several of my texts in one: RepW. -/
import Derived.Test.YtbeohccbflhdiaaM27
import Derived.Test.YtbeohccbflhdiaaM11
import Derived.Test.YtbeohccbflhdiaaM28
/- The walk of the law that an indicator repeats a letter only where it can. -/
namespace Go.Proofs.Ytbeohccbflhdiaa
open Go.RowKit

theorem letr_inj {a b : Nat} (ha : a < 10) (hb : b < 10) (h : letr (a : Int) = letr (b : Int)) : a = b := by
  have := congrArg dig h
  rw [dig_letr, dig_letr] at this
  omega
theorem rep_has {m : Mach} {g k : ByteArray} {p : Nat} (h1 : setB m g = true) (h2 : setB m k = true) (hp : p ∈ repL (wd (encD m g (dg (k ++ k)))) g.size g.size) : p < g.size ∧ hasB m g p = true := by
  have hmb := setB_mach h1
  have hk : k.size = g.size := by rw [setB_size h2, setB_size h1]
  simp only [repL, List.mem_filter, List.mem_range, beq_iff_eq] at hp
  obtain ⟨hpn, he⟩ := hp
  have hsz : (wd (encD m g (dg (k ++ k)))).size = (k ++ k).size := by rw [size_wd, len_encD, len_dg]
  have hu : (k ++ k).size = k.size + k.size := ByteArray.size_append
  have i1 : p < (k ++ k).size := by omega
  have i2 : p + g.size < (k ++ k).size := by omega
  have a1 := enc_at (m := m) g i1
  have a2 := enc_at (m := m) g i2
  have b1 : (L (wd (encD m g (dg (k ++ k)))))[p]? = some ((wd (encD m g (dg (k ++ k))))[p]'(by omega)) := by rw [getElem_L]; exact List.getElem?_eq_getElem _
  have b2 : (L (wd (encD m g (dg (k ++ k)))))[p + g.size]? = some ((wd (encD m g (dg (k ++ k))))[p + g.size]'(by omega)) := by rw [getElem_L]; exact List.getElem?_eq_getElem _
  rw [b1, b2, a1, a2] at he
  have hc : (k ++ k)[p + g.size] = (k ++ k)[p] := by
    rw [getElem_L, getElem_L]
    simp only [L_append]
    rw [List.getElem_append_right (by rw [size_L]; omega), List.getElem_append_left (by rw [size_L]; omega)]
    congr 1
    rw [size_L]; omega
  have hd : pAt (dg (k ++ k)) (p + g.size) = pAt (dg (k ++ k)) p := by
    have e1 := dg_at i1
    have e2 := dg_at i2
    rw [hc] at e2
    omega
  have hw2 := wordB_dbl (setB_word h2) (setB_3 h2)
  have hd10 : pAt (dg (k ++ k)) p < 10 := by
    rw [pAt_get (by rw [len_dg]; exact i1)]
    exact word_dg_lt hw2 _ (List.getElem_mem _)
  rw [hd] at he
  have hfx := fix_of_repeat hmb g p hd10 (letr_inj ((isP_keyN hmb g p).at_lt hd10) ((isP_keyN hmb g _).at_lt hd10) (by simpa using he))
  refine ⟨hpn, ?_⟩
  simp only [hasB, h1, Int.toNat_natCast, hfx, Bool.and_true, Bool.true_and, Bool.and_eq_true, decide_eq_true_eq]
  omega
end Go.Proofs.Ytbeohccbflhdiaa
