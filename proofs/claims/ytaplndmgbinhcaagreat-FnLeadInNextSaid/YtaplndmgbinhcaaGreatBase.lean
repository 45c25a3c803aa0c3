/- Plain words on bytes, letters and words: nothing of the program. -/
import Derived.WalkKit
import Derived.Lib.Hide
namespace Go.Proofs.YtaplndmgbinhcaaGreat
open Go.RowKit

/-- The bytes of a string. -/
def L (s : ByteArray) : List UInt8 := s.data.toList
/-- The string of some bytes. -/
def S (l : List UInt8) : ByteArray := ⟨l.toArray⟩
theorem L_S (l : List UInt8) : L (S l) = l := by simp [L, S]
theorem S_L (s : ByteArray) : S (L s) = s := by simp [L, S]
theorem size_L (s : ByteArray) : (L s).length = s.size := by simp [L]
theorem size_S (l : List UInt8) : (S l).size = l.length := by simp [S, ByteArray.size]
theorem size_nil : (⟨#[]⟩ : ByteArray).size = 0 := rfl
theorem L_inj {a b : ByteArray} (h : L a = L b) : a = b := by rw [← S_L a, ← S_L b, h]
theorem L_append (a b : ByteArray) : L (a ++ b) = L a ++ L b := by simp [L]
theorem S_append (a b : List UInt8) : S a ++ S b = S (a ++ b) := L_inj (by rw [L_append, L_S, L_S, L_S])
theorem getElem_L (s : ByteArray) (i : Nat) (h : i < s.size) : s[i] = (L s)[i]'(by rw [size_L]; exact h) := rfl
theorem L_extract (s : ByteArray) (a b : Nat) : L (s.extract a b) = ((L s).take b).drop a := by
  simp only [L, ByteArray.data_extract, Array.toList_extract, List.extract_eq_take_drop]
  rw [List.drop_take]
theorem toList_L (s : ByteArray) : s.toList = L s := ByteArray.toList_eq s
theorem ne_empty {s : ByteArray} (h : s.size ≠ 0) : s.toList.isEmpty = false ∧ ¬ s.toList = [] := by
  rw [toList_L]
  have : (L s).length ≠ 0 := by rw [size_L]; exact h
  cases e : L s
  · rw [e] at this; simp at this
  · simp
theorem is_empty {s : ByteArray} (h : s.size = 0) : s.toList.isEmpty = true ∧ s.toList = [] := by
  rw [toList_L]
  have : (L s).length = 0 := by rw [size_L]; exact h
  have := List.eq_nil_of_length_eq_zero this
  rw [this]; simp
theorem byte_lt (c : UInt8) : c.toNat < 256 := c.toBitVec.isLt

/-- The number of a byte as a letter. -/
def dig (c : UInt8) : Int := (c.toNat : Int) - 97
theorem dig_bd (c : UInt8) : -97 ≤ dig c ∧ dig c ≤ 158 := by have := byte_lt c; unfold dig; omega
def isL (c : UInt8) : Bool := decide (97 ≤ c.toNat) && decide (c.toNat < 107)
def isTp (c : UInt8) : Bool := decide (97 ≤ c.toNat) && decide (c.toNat < 105)
theorem isL_iff (c : UInt8) : isL c = true ↔ 0 ≤ dig c ∧ dig c ≤ 9 := by simp [isL, dig]; omega
theorem isTp_iff (c : UInt8) : isTp c = true ↔ 0 ≤ dig c ∧ dig c ≤ 7 := by simp [isTp, dig]; omega
theorem isL_no {c : UInt8} (h : dig c < 0 ∨ 9 < dig c) : isL c = false := by
  cases e : isL c
  · rfl
  · rw [isL_iff] at e; omega
theorem isTp_no {c : UInt8} (h : dig c < 0 ∨ 7 < dig c) : isTp c = false := by
  cases e : isTp c
  · rfl
  · rw [isTp_iff] at e; omega

/-- The letter with a number, taken modulo ten. -/
def letr (n : Int) : UInt8 := UInt8.ofNat (97 + (n % 10).toNat)
theorem letr_toNat (n : Int) : (letr n).toNat = 97 + (n % 10).toNat := by
  have h : (97 + (n % 10).toNat) < 256 := by omega
  simp [letr, UInt8.toNat_ofNat, Nat.mod_eq_of_lt h]
theorem dig_letr (n : Int) : dig (letr n) = n % 10 := by unfold dig; rw [letr_toNat]; omega

theorem tmod10 (n : Int) : -9 ≤ n.tmod 10 ∧ n.tmod 10 ≤ 9 ∧ n.tmod 10 % 10 = n % 10 := by
  rw [Int.tmod_eq_emod]; split <;> omega
/-- The bitwise sum of the numbers of two letters. -/
def xn (x y : UInt8) : Nat := (dig x).toNat ^^^ (dig y).toNat
theorem xn_lt {x y : UInt8} (hx : dig x ≤ 7) (hy : dig y ≤ 7) : xn x y < 8 :=
  Nat.xor_lt_two_pow (n := 3) (by omega) (by omega)
def xorL (a b : List UInt8) : List UInt8 := List.zipWith (fun x y => letr (xn x y : Nat)) a b
theorem length_xorL (a b : List UInt8) : (xorL a b).length = min a.length b.length := by simp [xorL]
theorem xorL_take_succ {v w : ByteArray} {k : Nat} (hv : k < v.size) (hw : k < w.size) :
    (xorL (L v) (L w)).take (k + 1) = (xorL (L v) (L w)).take k ++ [letr (xn v[k] w[k] : Nat)] := by
  have hl : k < (xorL (L v) (L w)).length := by rw [length_xorL, size_L, size_L]; omega
  rw [List.take_succ_eq_append_getElem hl]
  simp [xorL, getElem_L]

/-- p holds of the first k bytes. -/
def allTo (p : UInt8 → Bool) (s : ByteArray) (k : Nat) : Prop := ∀ j (h : j < s.size), j < k → p s[j] = true
theorem allTo_zero (p : UInt8 → Bool) (s : ByteArray) : allTo p s 0 := fun _ _ h => absurd h (by omega)
theorem allTo_succ {p : UInt8 → Bool} {s : ByteArray} {k : Nat} (h : allTo p s k) (hk : k < s.size) (hp : p s[k] = true) : allTo p s (k+1) := by
  intro j hj hlt
  by_cases e : j = k
  · subst e; exact hp
  · exact h j hj (by omega)
theorem allTo_all {p : UInt8 → Bool} {s : ByteArray} {k : Nat} (h : allTo p s k) (hk : s.size ≤ k) : (L s).all p = true := by
  rw [List.all_eq_true]
  intro x hx
  obtain ⟨j, hj, rfl⟩ := List.getElem_of_mem hx
  exact h j (by rw [← size_L]; exact hj) (by rw [size_L] at hj; omega)
theorem all_at {p : UInt8 → Bool} {s : ByteArray} (h : (L s).all p = true) (k : Nat) (hk : k < s.size) : p s[k] = true := by
  rw [List.all_eq_true] at h
  exact h _ (by rw [getElem_L]; exact List.getElem_mem _)
theorem not_all {p : UInt8 → Bool} {s : ByteArray} {k : Nat} (hk : k < s.size) (hp : p s[k] = false) : (L s).all p = false := by
  cases e : (L s).all p
  · rfl
  · rw [all_at e k hk] at hp; cases hp

def wordB (s : ByteArray) : Bool := decide (s.size ≤ 200) && (L s).all isL
def tapeB (s : ByteArray) : Bool := decide (s.size ≤ 200) && (L s).all isTp
theorem wordB_long {s : ByteArray} (h : 200 < s.size) : wordB s = false := by simp [wordB]; omega
theorem tapeB_long {s : ByteArray} (h : 200 < s.size) : tapeB s = false := by simp [tapeB]; omega
theorem wordB_no {s : ByteArray} {k : Nat} (hk : k < s.size) (hp : isL s[k] = false) : wordB s = false := by simp [wordB, not_all hk hp]
theorem tapeB_no {s : ByteArray} {k : Nat} (hk : k < s.size) (hp : isTp s[k] = false) : tapeB s = false := by simp [tapeB, not_all hk hp]
theorem wordB_yes {s : ByteArray} {k : Nat} (h : s.size ≤ 200) (ha : allTo isL s k) (hk : s.size ≤ k) : wordB s = true := by simp [wordB, allTo_all ha hk, h]
theorem tapeB_yes {s : ByteArray} {k : Nat} (h : s.size ≤ 200) (ha : allTo isTp s k) (hk : s.size ≤ k) : tapeB s = true := by simp [tapeB, allTo_all ha hk, h]
theorem wordB_at {s : ByteArray} (h : wordB s = true) (k : Nat) (hk : k < s.size) : 0 ≤ dig s[k] ∧ dig s[k] ≤ 9 := by
  simp only [wordB, Bool.and_eq_true] at h
  exact (isL_iff _).1 (all_at h.2 k hk)
theorem tapeB_at {s : ByteArray} (h : tapeB s = true) (k : Nat) (hk : k < s.size) : 0 ≤ dig s[k] ∧ dig s[k] ≤ 7 := by
  simp only [tapeB, Bool.and_eq_true] at h
  exact (isTp_iff _).1 (all_at h.2 k hk)
theorem wordB_size {s : ByteArray} (h : wordB s = true) : s.size ≤ 200 := by simp [wordB] at h; exact h.1
theorem tapeB_size {s : ByteArray} (h : tapeB s = true) : s.size ≤ 200 := by simp [tapeB] at h; exact h.1
theorem tapeB_word {s : ByteArray} (h : tapeB s = true) : wordB s = true := by
  refine wordB_yes (tapeB_size h) (k := s.size) (fun j hj _ => ?_) (Nat.le_refl _)
  have := tapeB_at h j hj
  rw [isL_iff]; omega

def isBit (c : UInt8) : Bool := c.toNat == 48 || c.toNat == 49
/-- A wheel of bits. -/
def bitsB (s : ByteArray) : Bool := decide (2 ≤ s.size) && decide (s.size ≤ 9) && (L s).all isBit
def teleB (chi psi : List ByteArray) (m : ByteArray) : Bool := (chi.length == 3 && chi.all bitsB) && (psi.length == 3 && psi.all bitsB) && bitsB m
theorem bitsB_size {s : ByteArray} (h : bitsB s = true) : 2 ≤ s.size ∧ s.size ≤ 9 := by simp [bitsB] at h; exact ⟨h.1.1, h.1.2⟩
theorem bitsB_at {s : ByteArray} (h : bitsB s = true) (k : Nat) (hk : k < s.size) : s[k].toNat = 48 ∨ s[k].toNat = 49 := by
  simp only [bitsB, Bool.and_eq_true] at h
  have := all_at h.2 k hk
  simpa [isBit] using this
theorem bitsB_no {s : ByteArray} {k : Nat} (hk : k < s.size) (hp : isBit s[k] = false) : bitsB s = false := by simp [bitsB, not_all hk hp]
theorem bitsB_yes {s : ByteArray} {k : Nat} (h : 2 ≤ s.size) (h' : s.size ≤ 9) (ha : allTo isBit s k) (hk : s.size ≤ k) : bitsB s = true := by simp [bitsB, allTo_all ha hk, h, h']

/-- A slice of integers that came in: nil, or a row of 'cap' cells that hold 'zs'. -/
def IsRow (k : IntKind) (w : World) (a : Option Addr) (len cap : Nat) (zs : List Int) : Prop :=
  (a = none ∧ len = 0 ∧ cap = 0 ∧ zs = []) ∨
  ∃ x, a = some x ∧ len ≤ cap ∧ cap ≤ maxLen ∧ zs.length = cap ∧ (∀ i, i < zs.length → w.cell? (x.add i) = some (.int k (zs.getD i 0))) ∧ ∀ n ∈ zs, (Lit.int k n).wf = true

theorem ofInt_i64 (a : Nat) (ha : a < 9223372036854775808) : (BitVec.ofInt 64 (a : Int)).toNat = a := by
  rw [BitVec.ofInt_natCast, BitVec.toNat_ofNat]; exact Nat.mod_eq_of_lt (by omega)
theorem i64_xor_nat (a b : Nat) (ha : a < 9223372036854775808) (hb : b < 9223372036854775808) : bits .xor .i64 (a : Int) (b : Int) = ((a ^^^ b : Nat) : Int) := by
  have hx : a ^^^ b < 2 ^ 63 := Nat.xor_lt_two_pow (by omega) (by omega)
  show IntKind.i64.wrap ((BitVec.ofInt 64 (a : Int) ^^^ BitVec.ofInt 64 (b : Int)).toNat : Int) = _
  rw [BitVec.toNat_xor, ofInt_i64 a ha, ofInt_i64 b hb, IntKind.wrap_i64]
  omega
theorem xor_dig {x y : UInt8} (hx : 0 ≤ dig x) (hy : 0 ≤ dig y) : bits .xor .i64 (dig x) (dig y) = (xn x y : Nat) := by
  have h1 := dig_bd x
  have h2 := dig_bd y
  have e1 : dig x = ((dig x).toNat : Int) := by omega
  have e2 : dig y = ((dig y).toNat : Int) := by omega
  rw [e1, e2, i64_xor_nat _ _ (by omega) (by omega)]
  simp [xn]

/-- 'string([]byte{v})': a block of bytes that was just made. -/
theorem run_conv_new {P : Program} (w : World) (src dst e : TypeId) (hs : P.underlying src = some (.slice e)) (he : P.underlying e = some (.int .u8)) (hd : P.underlying dst = some .string) (ns : List Int) :
    (convert src dst (.slice (some ⟨w.heap.size, 0, none⟩) ns.length ns.length)).run P (w.alloc (.cells (ns.map (Value.int .u8)).toArray e)) = .ok (.string (S (ns.map fun n => UInt8.ofNat n.toNat))) (w.alloc (.cells (ns.map (Value.int .u8)).toArray e)) := by
  rw [run_convert_bytes_string _ src dst e _ _ _ hs he hd]
  have hl := run_loadCells_list (P := P) (w.alloc (.cells (ns.map (Value.int .u8)).toArray e)) ⟨w.heap.size, 0, none⟩ (ns.map (Value.int .u8)) (fun j v hj => by
    unfold Addr.add
    split
    · rename_i h; subst h; rw [World.cell?_alloc_mark]; simpa using hj
    · rw [World.cell?_alloc_mark]; simpa using hj)
  simp only [List.length_map] at hl
  rw [run_bytesToString _ _ _ _ _ hl]
  congr 2
  apply L_inj
  have : ∀ (l : List Int) (r : ByteArray), L (l.foldl (fun r n => r.push (UInt8.ofNat n.toNat)) r) = L r ++ l.map fun n => UInt8.ofNat n.toNat := by
    intro l
    induction l with
    | nil => intro r; simp
    | cons a l ih => intro r; simp only [List.foldl_cons, ih, List.map_cons]; simp [L]
  rw [this, L_S]
  simp [L]

/-- What XorTapes answers. -/
def xorT (v u : ByteArray) : ByteArray × Bool := if tapeB v = true ∧ tapeB u = true ∧ v.size = u.size then (S (xorL (L v) (L u)), true) else (S [], false)

/-- What DeltaTape answers. -/
def deltaT (v : ByteArray) : ByteArray := if tapeB v = true then S (xorL (L v) (L v).tail) else S []
theorem deltaL_take_succ {v : ByteArray} {k : Nat} (hv : k + 1 < v.size) :
    (xorL (L v) (L v).tail).take (k + 1) = (xorL (L v) (L v).tail).take k ++ [letr (xn v[k] v[k + 1] : Nat)] := by
  have hl : k < (xorL (L v) (L v).tail).length := by rw [length_xorL, List.length_tail, size_L]; omega
  rw [List.take_succ_eq_append_getElem hl]
  simp [xorL, getElem_L]

theorem ret_int {k : IntKind} {a b : Int} (h : a = b) : Ending.returned (.int k a) = .returned (.int k b) := by rw [h]
theorem ret_bool {a b : Bool} (h : a = b) : Ending.returned (.bool a) = .returned (.bool b) := by rw [h]
theorem ret_str {a b : ByteArray} (h : a = b) : Ending.returned (.string a) = .returned (.string b) := by rw [h]
theorem ret_sb {a b : ByteArray} {c d : Bool} (h : a = b) (h' : c = d) : Ending.returned (.tuple #[.string a, .bool c]) = .returned (.tuple #[.string b, .bool d]) := by rw [h, h']
end Go.Proofs.YtaplndmgbinhcaaGreat
