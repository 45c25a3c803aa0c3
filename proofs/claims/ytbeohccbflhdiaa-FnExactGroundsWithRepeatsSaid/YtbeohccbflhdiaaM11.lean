/- Several of my texts in one: DrawE, SelfW. -/
import Derived.Test.YtbeohccbflhdiaaM10
/- The contract of DrawEncipher. -/
namespace Go.Proofs.Ytbeohccbflhdiaa
open Go.RowKit

end Go.Proofs.Ytbeohccbflhdiaa

/- The walk of the law that no letter is enciphered to itself. -/
namespace Go.Proofs.Ytbeohccbflhdiaa
open Go.RowKit

theorem enc_at {m : Mach} (v : ByteArray) {u : ByteArray} {i : Nat} (hi : i < u.size) : (wd (encD m v (dg u)))[i]'(by rw [size_wd, len_encD, len_dg]; exact hi) = letr (pAt (keyN m v i) (pAt (dg u) i) : Int) := by
  rw [getElem_L]
  have hk : i < (encD m v (dg u)).length := by rw [len_encD, len_dg]; exact hi
  have h0 := at_enc m v hi
  rw [pAt_get hk] at h0
  simp only [wd, L_S, List.getElem_map, h0]
theorem enc_ne {m : Mach} (h : machB m = true) (v : ByteArray) {u : ByteArray} (hw : wordB u = true) {i : Nat} (hi : i < u.size) : (wd (encD m v (dg u)))[i]'(by rw [size_wd, len_encD, len_dg]; exact hi) ≠ u[i] := by
  rw [enc_at v hi]
  intro he
  have hd := wordB_at hw i hi
  have hu := dg_at hi
  obtain ⟨d, hdd⟩ := Int.eq_ofNat_of_zero_le hd.1
  have hx : pAt (dg u) i = d := by rw [hu]; omega
  have h1 := congrArg dig he
  rw [dig_letr, hx, hdd] at h1
  have h2 := (isP_keyN h v i).at_lt (i := d) (by omega)
  exact free_keyN h v i (d := d) (by omega) (by omega)
theorem enc_no {m : Mach} (h : machB m = true) (v : ByteArray) {u : ByteArray} (hw : wordB u = true) {c : UInt8} (hc : ∀ x ∈ L u, x = c) : ∀ x ∈ L (wd (encD m v (dg u))), x ≠ c := by
  intro x hx
  obtain ⟨j, hj, rfl⟩ := List.getElem_of_mem hx
  have hju : j < u.size := by rw [size_L, size_wd, len_encD, len_dg] at hj; exact hj
  have := enc_ne h v hw hju
  rw [getElem_L] at this
  rw [← hc u[j] (by rw [getElem_L]; exact List.getElem_mem _)]
  exact this
theorem word_rep (c : UInt8) (hc : isL c = true) (n : Nat) (hn : n ≤ 200) : wordB (S (List.replicate n (L (S [c]))).flatten) = true ∧ ∀ x ∈ L (S (List.replicate n (L (S [c]))).flatten), x = c := by
  have he : (List.replicate n (L (S [c]))).flatten = List.replicate n c := by
    rw [L_S]
    induction n with
    | zero => rfl
    | succ n ih => rw [List.replicate_succ, List.flatten_cons, ih (by omega), List.replicate_succ]; rfl
  rw [he]
  constructor
  · simp only [wordB, Bool.and_eq_true, decide_eq_true_eq]
    refine ⟨by rw [size_S]; simpa using hn, ?_⟩
    rw [L_S, List.all_eq_true]
    intro x hx
    rw [List.eq_of_mem_replicate hx]; exact hc
  · rw [L_S]
    exact fun x hx => List.eq_of_mem_replicate hx
theorem str_eq_self (s : ByteArray) : (s.toList == s.toList) = true := by simp

end Go.Proofs.Ytbeohccbflhdiaa
