/- Plain words on bytes, letters and words: nothing of the program. -/
import Derived.WalkKit
import Derived.Lib.Hide
namespace Go.Proofs.Ytegbmjdaohnlaaa
open Go.RowKit

/-- The bytes of a string. -/
def L (s : ByteArray) : List UInt8 := s.data.toList
/-- The string of some bytes. -/
def S (l : List UInt8) : ByteArray := ⟨l.toArray⟩
theorem L_S (l : List UInt8) : L (S l) = l := by simp [L, S]
theorem S_L (s : ByteArray) : S (L s) = s := by simp [L, S]
theorem size_L (s : ByteArray) : (L s).length = s.size := by simp [L]
theorem size_S (l : List UInt8) : (S l).size = l.length := by simp [S, ByteArray.size]
theorem L_inj {a b : ByteArray} (h : L a = L b) : a = b := by rw [← S_L a, ← S_L b, h]
theorem L_append (a b : ByteArray) : L (a ++ b) = L a ++ L b := by simp [L]
theorem S_append (a b : List UInt8) : S a ++ S b = S (a ++ b) := L_inj (by rw [L_append, L_S, L_S, L_S])
theorem getElem_L (s : ByteArray) (i : Nat) (h : i < s.size) : s[i] = (L s)[i]'(by rw [size_L]; exact h) := rfl
theorem byte_lt (c : UInt8) : c.toNat < 256 := c.toBitVec.isLt

/-- The number of a byte as a letter. -/
def dig (c : UInt8) : Int := (c.toNat : Int) - 97
theorem dig_bd (c : UInt8) : -97 ≤ dig c ∧ dig c ≤ 158 := by have := byte_lt c; unfold dig; omega
def isL (c : UInt8) : Bool := decide (97 ≤ c.toNat) && decide (c.toNat < 107)
def isTp (c : UInt8) : Bool := decide (97 ≤ c.toNat) && decide (c.toNat < 105)
theorem isL_iff (c : UInt8) : isL c = true ↔ 0 ≤ dig c ∧ dig c ≤ 9 := by simp [isL, dig]; omega
theorem isTp_iff (c : UInt8) : isTp c = true ↔ 0 ≤ dig c ∧ dig c ≤ 7 := by simp [isTp, dig]; omega
theorem isL_no {c : UInt8} (h : dig c < 0 ∨ 9 < dig c) : isL c = false := by
  cases e : isL c
  · rfl
  · rw [isL_iff] at e; omega
theorem isTp_no {c : UInt8} (h : dig c < 0 ∨ 7 < dig c) : isTp c = false := by
  cases e : isTp c
  · rfl
  · rw [isTp_iff] at e; omega

/-- p holds of the first k bytes. -/
def allTo (p : UInt8 → Bool) (s : ByteArray) (k : Nat) : Prop := ∀ j (h : j < s.size), j < k → p s[j] = true
theorem allTo_zero (p : UInt8 → Bool) (s : ByteArray) : allTo p s 0 := fun _ _ h => absurd h (by omega)
theorem allTo_succ {p : UInt8 → Bool} {s : ByteArray} {k : Nat} (h : allTo p s k) (hk : k < s.size) (hp : p s[k] = true) : allTo p s (k+1) := by
  intro j hj hlt
  by_cases e : j = k
  · subst e; exact hp
  · exact h j hj (by omega)
theorem allTo_all {p : UInt8 → Bool} {s : ByteArray} {k : Nat} (h : allTo p s k) (hk : s.size ≤ k) : (L s).all p = true := by
  rw [List.all_eq_true]
  intro x hx
  obtain ⟨j, hj, rfl⟩ := List.getElem_of_mem hx
  exact h j (by rw [← size_L]; exact hj) (by rw [size_L] at hj; omega)
theorem all_at {p : UInt8 → Bool} {s : ByteArray} (h : (L s).all p = true) (k : Nat) (hk : k < s.size) : p s[k] = true := by
  rw [List.all_eq_true] at h
  exact h _ (by rw [getElem_L]; exact List.getElem_mem _)
theorem not_all {p : UInt8 → Bool} {s : ByteArray} {k : Nat} (hk : k < s.size) (hp : p s[k] = false) : (L s).all p = false := by
  cases e : (L s).all p
  · rfl
  · rw [all_at e k hk] at hp; cases hp

def wordB (s : ByteArray) : Bool := decide (s.size ≤ 200) && (L s).all isL
def tapeB (s : ByteArray) : Bool := decide (s.size ≤ 200) && (L s).all isTp
theorem wordB_long {s : ByteArray} (h : 200 < s.size) : wordB s = false := by simp [wordB]; omega
theorem tapeB_long {s : ByteArray} (h : 200 < s.size) : tapeB s = false := by simp [tapeB]; omega
theorem wordB_no {s : ByteArray} {k : Nat} (hk : k < s.size) (hp : isL s[k] = false) : wordB s = false := by simp [wordB, not_all hk hp]
theorem tapeB_no {s : ByteArray} {k : Nat} (hk : k < s.size) (hp : isTp s[k] = false) : tapeB s = false := by simp [tapeB, not_all hk hp]
theorem wordB_yes {s : ByteArray} {k : Nat} (h : s.size ≤ 200) (ha : allTo isL s k) (hk : s.size ≤ k) : wordB s = true := by simp [wordB, allTo_all ha hk, h]
theorem tapeB_yes {s : ByteArray} {k : Nat} (h : s.size ≤ 200) (ha : allTo isTp s k) (hk : s.size ≤ k) : tapeB s = true := by simp [tapeB, allTo_all ha hk, h]
theorem wordB_at {s : ByteArray} (h : wordB s = true) (k : Nat) (hk : k < s.size) : 0 ≤ dig s[k] ∧ dig s[k] ≤ 9 := by
  simp only [wordB, Bool.and_eq_true] at h
  exact (isL_iff _).1 (all_at h.2 k hk)
theorem tapeB_at {s : ByteArray} (h : tapeB s = true) (k : Nat) (hk : k < s.size) : 0 ≤ dig s[k] ∧ dig s[k] ≤ 7 := by
  simp only [tapeB, Bool.and_eq_true] at h
  exact (isTp_iff _).1 (all_at h.2 k hk)
theorem wordB_size {s : ByteArray} (h : wordB s = true) : s.size ≤ 200 := by simp [wordB] at h; exact h.1
theorem tapeB_size {s : ByteArray} (h : tapeB s = true) : s.size ≤ 200 := by simp [tapeB] at h; exact h.1
theorem tapeB_word {s : ByteArray} (h : tapeB s = true) : wordB s = true := by
  refine wordB_yes (tapeB_size h) (k := s.size) (fun j hj _ => ?_) (Nat.le_refl _)
  have := tapeB_at h j hj
  rw [isL_iff]; omega

/-- A slice of integers that came in: nil, or a row of 'cap' cells that hold 'zs'. -/
def IsRow (k : IntKind) (w : World) (a : Option Addr) (len cap : Nat) (zs : List Int) : Prop :=
  (a = none ∧ len = 0 ∧ cap = 0 ∧ zs = []) ∨
  ∃ x, a = some x ∧ len ≤ cap ∧ cap ≤ maxLen ∧ zs.length = cap ∧ (∀ i, i < zs.length → w.cell? (x.add i) = some (.int k (zs.getD i 0))) ∧ ∀ n ∈ zs, (Lit.int k n).wf = true

theorem ret_int {k : IntKind} {a b : Int} (h : a = b) : Ending.returned (.int k a) = .returned (.int k b) := by rw [h]
theorem ret_bool {a b : Bool} (h : a = b) : Ending.returned (.bool a) = .returned (.bool b) := by rw [h]
theorem ret_str {a b : ByteArray} (h : a = b) : Ending.returned (.string a) = .returned (.string b) := by rw [h]
theorem ret_sb {a b : ByteArray} {c d : Bool} (h : a = b) (h' : c = d) : Ending.returned (.tuple #[.string a, .bool c]) = .returned (.tuple #[.string b, .bool d]) := by rw [h, h']
end Go.Proofs.Ytegbmjdaohnlaaa
