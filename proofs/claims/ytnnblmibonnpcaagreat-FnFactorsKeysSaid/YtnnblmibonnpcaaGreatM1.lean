/- Several of my texts in one: Base, Words, Mem, Letters, Words2, Perm. -/
import Derived.WalkKit
import Derived.Lib.Hide
import Derived.Test.YtnnblmibonnpcaaGreatProg
import Derived.Laws.MakeOwn
import Derived.Laws.Entries
import Derived.Deep.QuietTactic
import Derived.BigQuiet
import Derived.StillTailTactics
import Derived.Deep.Draws
/- Plain words on bytes, letters and words: nothing of the program. -/
namespace Go.Proofs.YtnnblmibonnpcaaGreat
open Go.RowKit

/-- The bytes of a string. -/
def L (s : ByteArray) : List UInt8 := s.data.toList
/-- The string of some bytes. -/
def S (l : List UInt8) : ByteArray := ⟨l.toArray⟩
theorem L_S (l : List UInt8) : L (S l) = l := by simp [L, S]
theorem S_L (s : ByteArray) : S (L s) = s := by simp [L, S]
theorem size_L (s : ByteArray) : (L s).length = s.size := by simp [L]
theorem size_S (l : List UInt8) : (S l).size = l.length := by simp [S, ByteArray.size]
theorem size_nil : (⟨#[]⟩ : ByteArray).size = 0 := rfl
theorem L_inj {a b : ByteArray} (h : L a = L b) : a = b := by rw [← S_L a, ← S_L b, h]
theorem L_append (a b : ByteArray) : L (a ++ b) = L a ++ L b := by simp [L]
theorem S_append (a b : List UInt8) : S a ++ S b = S (a ++ b) := L_inj (by rw [L_append, L_S, L_S, L_S])
theorem getElem_L (s : ByteArray) (i : Nat) (h : i < s.size) : s[i] = (L s)[i]'(by rw [size_L]; exact h) := rfl
theorem L_extract (s : ByteArray) (a b : Nat) : L (s.extract a b) = ((L s).take b).drop a := by
  simp only [L, ByteArray.data_extract, Array.toList_extract, List.extract_eq_take_drop]
  rw [List.drop_take]
theorem toList_L (s : ByteArray) : s.toList = L s := ByteArray.toList_eq s
theorem ne_empty {s : ByteArray} (h : s.size ≠ 0) : s.toList.isEmpty = false ∧ ¬ s.toList = [] := by
  rw [toList_L]
  have : (L s).length ≠ 0 := by rw [size_L]; exact h
  cases e : L s
  · rw [e] at this; simp at this
  · simp
theorem is_empty {s : ByteArray} (h : s.size = 0) : s.toList.isEmpty = true ∧ s.toList = [] := by
  rw [toList_L]
  have : (L s).length = 0 := by rw [size_L]; exact h
  have := List.eq_nil_of_length_eq_zero this
  rw [this]; simp
theorem byte_lt (c : UInt8) : c.toNat < 256 := c.toBitVec.isLt

/-- The number of a byte as a letter. -/
def dig (c : UInt8) : Int := (c.toNat : Int) - 97
theorem dig_bd (c : UInt8) : -97 ≤ dig c ∧ dig c ≤ 158 := by have := byte_lt c; unfold dig; omega
def isL (c : UInt8) : Bool := decide (97 ≤ c.toNat) && decide (c.toNat < 107)
def isTp (c : UInt8) : Bool := decide (97 ≤ c.toNat) && decide (c.toNat < 105)
theorem isL_iff (c : UInt8) : isL c = true ↔ 0 ≤ dig c ∧ dig c ≤ 9 := by simp [isL, dig]; omega
theorem isTp_iff (c : UInt8) : isTp c = true ↔ 0 ≤ dig c ∧ dig c ≤ 7 := by simp [isTp, dig]; omega
theorem isL_no {c : UInt8} (h : dig c < 0 ∨ 9 < dig c) : isL c = false := by
  cases e : isL c
  · rfl
  · rw [isL_iff] at e; omega
theorem isTp_no {c : UInt8} (h : dig c < 0 ∨ 7 < dig c) : isTp c = false := by
  cases e : isTp c
  · rfl
  · rw [isTp_iff] at e; omega

/-- The letter with a number, taken modulo ten. -/
def letr (n : Int) : UInt8 := UInt8.ofNat (97 + (n % 10).toNat)
theorem letr_toNat (n : Int) : (letr n).toNat = 97 + (n % 10).toNat := by
  have h : (97 + (n % 10).toNat) < 256 := by omega
  simp [letr, UInt8.toNat_ofNat, Nat.mod_eq_of_lt h]
theorem dig_letr (n : Int) : dig (letr n) = n % 10 := by unfold dig; rw [letr_toNat]; omega

theorem tmod10 (n : Int) : -9 ≤ n.tmod 10 ∧ n.tmod 10 ≤ 9 ∧ n.tmod 10 % 10 = n % 10 := by
  rw [Int.tmod_eq_emod]; split <;> omega
/-- The bitwise sum of the numbers of two letters. -/
def xn (x y : UInt8) : Nat := (dig x).toNat ^^^ (dig y).toNat
theorem xn_lt {x y : UInt8} (hx : dig x ≤ 7) (hy : dig y ≤ 7) : xn x y < 8 :=
  Nat.xor_lt_two_pow (n := 3) (by omega) (by omega)
def xorL (a b : List UInt8) : List UInt8 := List.zipWith (fun x y => letr (xn x y : Nat)) a b
theorem length_xorL (a b : List UInt8) : (xorL a b).length = min a.length b.length := by simp [xorL]
theorem xorL_take_succ {v w : ByteArray} {k : Nat} (hv : k < v.size) (hw : k < w.size) :
    (xorL (L v) (L w)).take (k + 1) = (xorL (L v) (L w)).take k ++ [letr (xn v[k] w[k] : Nat)] := by
  have hl : k < (xorL (L v) (L w)).length := by rw [length_xorL, size_L, size_L]; omega
  rw [List.take_succ_eq_append_getElem hl]
  simp [xorL, getElem_L]

/-- p holds of the first k bytes. -/
def allTo (p : UInt8 → Bool) (s : ByteArray) (k : Nat) : Prop := ∀ j (h : j < s.size), j < k → p s[j] = true
theorem allTo_zero (p : UInt8 → Bool) (s : ByteArray) : allTo p s 0 := fun _ _ h => absurd h (by omega)
theorem allTo_succ {p : UInt8 → Bool} {s : ByteArray} {k : Nat} (h : allTo p s k) (hk : k < s.size) (hp : p s[k] = true) : allTo p s (k+1) := by
  intro j hj hlt
  by_cases e : j = k
  · subst e; exact hp
  · exact h j hj (by omega)
theorem allTo_all {p : UInt8 → Bool} {s : ByteArray} {k : Nat} (h : allTo p s k) (hk : s.size ≤ k) : (L s).all p = true := by
  rw [List.all_eq_true]
  intro x hx
  obtain ⟨j, hj, rfl⟩ := List.getElem_of_mem hx
  exact h j (by rw [← size_L]; exact hj) (by rw [size_L] at hj; omega)
theorem all_at {p : UInt8 → Bool} {s : ByteArray} (h : (L s).all p = true) (k : Nat) (hk : k < s.size) : p s[k] = true := by
  rw [List.all_eq_true] at h
  exact h _ (by rw [getElem_L]; exact List.getElem_mem _)
theorem not_all {p : UInt8 → Bool} {s : ByteArray} {k : Nat} (hk : k < s.size) (hp : p s[k] = false) : (L s).all p = false := by
  cases e : (L s).all p
  · rfl
  · rw [all_at e k hk] at hp; cases hp

def wordB (s : ByteArray) : Bool := decide (s.size ≤ 200) && (L s).all isL
def tapeB (s : ByteArray) : Bool := decide (s.size ≤ 200) && (L s).all isTp
theorem wordB_long {s : ByteArray} (h : 200 < s.size) : wordB s = false := by simp [wordB]; omega
theorem tapeB_long {s : ByteArray} (h : 200 < s.size) : tapeB s = false := by simp [tapeB]; omega
theorem wordB_no {s : ByteArray} {k : Nat} (hk : k < s.size) (hp : isL s[k] = false) : wordB s = false := by simp [wordB, not_all hk hp]
theorem tapeB_no {s : ByteArray} {k : Nat} (hk : k < s.size) (hp : isTp s[k] = false) : tapeB s = false := by simp [tapeB, not_all hk hp]
theorem wordB_yes {s : ByteArray} {k : Nat} (h : s.size ≤ 200) (ha : allTo isL s k) (hk : s.size ≤ k) : wordB s = true := by simp [wordB, allTo_all ha hk, h]
theorem tapeB_yes {s : ByteArray} {k : Nat} (h : s.size ≤ 200) (ha : allTo isTp s k) (hk : s.size ≤ k) : tapeB s = true := by simp [tapeB, allTo_all ha hk, h]
theorem wordB_at {s : ByteArray} (h : wordB s = true) (k : Nat) (hk : k < s.size) : 0 ≤ dig s[k] ∧ dig s[k] ≤ 9 := by
  simp only [wordB, Bool.and_eq_true] at h
  exact (isL_iff _).1 (all_at h.2 k hk)
theorem tapeB_at {s : ByteArray} (h : tapeB s = true) (k : Nat) (hk : k < s.size) : 0 ≤ dig s[k] ∧ dig s[k] ≤ 7 := by
  simp only [tapeB, Bool.and_eq_true] at h
  exact (isTp_iff _).1 (all_at h.2 k hk)
theorem wordB_size {s : ByteArray} (h : wordB s = true) : s.size ≤ 200 := by simp [wordB] at h; exact h.1
theorem tapeB_size {s : ByteArray} (h : tapeB s = true) : s.size ≤ 200 := by simp [tapeB] at h; exact h.1
theorem tapeB_word {s : ByteArray} (h : tapeB s = true) : wordB s = true := by
  refine wordB_yes (tapeB_size h) (k := s.size) (fun j hj _ => ?_) (Nat.le_refl _)
  have := tapeB_at h j hj
  rw [isL_iff]; omega

def isBit (c : UInt8) : Bool := c.toNat == 48 || c.toNat == 49
/-- A wheel of bits. -/
def bitsB (s : ByteArray) : Bool := decide (2 ≤ s.size) && decide (s.size ≤ 9) && (L s).all isBit
def teleB (chi psi : List ByteArray) (m : ByteArray) : Bool := (chi.length == 3 && chi.all bitsB) && (psi.length == 3 && psi.all bitsB) && bitsB m
theorem bitsB_size {s : ByteArray} (h : bitsB s = true) : 2 ≤ s.size ∧ s.size ≤ 9 := by simp [bitsB] at h; exact ⟨h.1.1, h.1.2⟩
theorem bitsB_at {s : ByteArray} (h : bitsB s = true) (k : Nat) (hk : k < s.size) : s[k].toNat = 48 ∨ s[k].toNat = 49 := by
  simp only [bitsB, Bool.and_eq_true] at h
  have := all_at h.2 k hk
  simpa [isBit] using this
theorem bitsB_no {s : ByteArray} {k : Nat} (hk : k < s.size) (hp : isBit s[k] = false) : bitsB s = false := by simp [bitsB, not_all hk hp]
theorem bitsB_yes {s : ByteArray} {k : Nat} (h : 2 ≤ s.size) (h' : s.size ≤ 9) (ha : allTo isBit s k) (hk : s.size ≤ k) : bitsB s = true := by simp [bitsB, allTo_all ha hk, h, h']

/-- A slice of integers that came in: nil, or a row of 'cap' cells that hold 'zs'. -/
def IsRow (k : IntKind) (w : World) (a : Option Addr) (len cap : Nat) (zs : List Int) : Prop :=
  (a = none ∧ len = 0 ∧ cap = 0 ∧ zs = []) ∨
  ∃ x, a = some x ∧ len ≤ cap ∧ cap ≤ maxLen ∧ zs.length = cap ∧ (∀ i, i < zs.length → w.cell? (x.add i) = some (.int k (zs.getD i 0))) ∧ ∀ n ∈ zs, (Lit.int k n).wf = true

theorem ofInt_i64 (a : Nat) (ha : a < 9223372036854775808) : (BitVec.ofInt 64 (a : Int)).toNat = a := by
  rw [BitVec.ofInt_natCast, BitVec.toNat_ofNat]; exact Nat.mod_eq_of_lt (by omega)
theorem i64_xor_nat (a b : Nat) (ha : a < 9223372036854775808) (hb : b < 9223372036854775808) : bits .xor .i64 (a : Int) (b : Int) = ((a ^^^ b : Nat) : Int) := by
  have hx : a ^^^ b < 2 ^ 63 := Nat.xor_lt_two_pow (by omega) (by omega)
  show IntKind.i64.wrap ((BitVec.ofInt 64 (a : Int) ^^^ BitVec.ofInt 64 (b : Int)).toNat : Int) = _
  rw [BitVec.toNat_xor, ofInt_i64 a ha, ofInt_i64 b hb, IntKind.wrap_i64]
  omega
theorem xor_dig {x y : UInt8} (hx : 0 ≤ dig x) (hy : 0 ≤ dig y) : bits .xor .i64 (dig x) (dig y) = (xn x y : Nat) := by
  have h1 := dig_bd x
  have h2 := dig_bd y
  have e1 : dig x = ((dig x).toNat : Int) := by omega
  have e2 : dig y = ((dig y).toNat : Int) := by omega
  rw [e1, e2, i64_xor_nat _ _ (by omega) (by omega)]
  simp [xn]

/-- 'string([]byte{v})': a block of bytes that was just made. -/
theorem run_conv_new {P : Program} (w : World) (src dst e : TypeId) (hs : P.underlying src = some (.slice e)) (he : P.underlying e = some (.int .u8)) (hd : P.underlying dst = some .string) (ns : List Int) :
    (convert src dst (.slice (some ⟨w.heap.size, 0, none⟩) ns.length ns.length)).run P (w.alloc (.cells (ns.map (Value.int .u8)).toArray e)) = .ok (.string (S (ns.map fun n => UInt8.ofNat n.toNat))) (w.alloc (.cells (ns.map (Value.int .u8)).toArray e)) := by
  rw [run_convert_bytes_string _ src dst e _ _ _ hs he hd]
  have hl := run_loadCells_list (P := P) (w.alloc (.cells (ns.map (Value.int .u8)).toArray e)) ⟨w.heap.size, 0, none⟩ (ns.map (Value.int .u8)) (fun j v hj => by
    unfold Addr.add
    split
    · rename_i h; subst h; rw [World.cell?_alloc_mark]; simpa using hj
    · rw [World.cell?_alloc_mark]; simpa using hj)
  simp only [List.length_map] at hl
  rw [run_bytesToString _ _ _ _ _ hl]
  congr 2
  apply L_inj
  have : ∀ (l : List Int) (r : ByteArray), L (l.foldl (fun r n => r.push (UInt8.ofNat n.toNat)) r) = L r ++ l.map fun n => UInt8.ofNat n.toNat := by
    intro l
    induction l with
    | nil => intro r; simp
    | cons a l ih => intro r; simp only [List.foldl_cons, ih, List.map_cons]; simp [L]
  rw [this, L_S]
  simp [L]

/-- What XorTapes answers. -/
def xorT (v u : ByteArray) : ByteArray × Bool := if tapeB v = true ∧ tapeB u = true ∧ v.size = u.size then (S (xorL (L v) (L u)), true) else (S [], false)

/-- What DeltaTape answers. -/
def deltaT (v : ByteArray) : ByteArray := if tapeB v = true then S (xorL (L v) (L v).tail) else S []
theorem deltaL_take_succ {v : ByteArray} {k : Nat} (hv : k + 1 < v.size) :
    (xorL (L v) (L v).tail).take (k + 1) = (xorL (L v) (L v).tail).take k ++ [letr (xn v[k] v[k + 1] : Nat)] := by
  have hl : k < (xorL (L v) (L v).tail).length := by rw [length_xorL, List.length_tail, size_L]; omega
  rw [List.take_succ_eq_append_getElem hl]
  simp [xorL, getElem_L]

theorem ret_int {k : IntKind} {a b : Int} (h : a = b) : Ending.returned (.int k a) = .returned (.int k b) := by rw [h]
theorem ret_bool {a b : Bool} (h : a = b) : Ending.returned (.bool a) = .returned (.bool b) := by rw [h]
theorem ret_str {a b : ByteArray} (h : a = b) : Ending.returned (.string a) = .returned (.string b) := by rw [h]
theorem ret_sb {a b : ByteArray} {c d : Bool} (h : a = b) (h' : c = d) : Ending.returned (.tuple #[.string a, .bool c]) = .returned (.tuple #[.string b, .bool d]) := by rw [h, h']
end Go.Proofs.YtnnblmibonnpcaaGreat

/- Contracts of the functions on letters, words and tapes that only compute. -/
namespace Go.Proofs.YtnnblmibonnpcaaGreat
open Go.RowKit

theorem l1Digit_any (s : ByteArray) (i : Int) (w : World) (h0 : 0 ≤ i) (hi : i < s.size) (hs : s.size ≤ 4294967296) :
    Calls Tryz.prog 66 #[.string s, .int .i64 i] w fun e w' => e = .returned (.int .i64 (dig (s[i.toNat]'(by omega)))) ∧ w = w' := by
  obtain ⟨n, rfl⟩ := Int.eq_ofNat_of_zero_le h0
  have hb := byte_lt (s[n]'(by omega))
  go_enter Tryz.func66, Tryz.ntmps66
  go_wp2
  go_ret
  exact ⟨rfl, rfl⟩

theorem l1In_any (n lo hi : Int) (w : World) :
    Calls Tryz.prog 65 #[.int .i64 n, .int .i64 lo, .int .i64 hi] w fun e w' => e = .returned (.bool (decide (lo ≤ n) && decide (n ≤ hi))) ∧ w = w' := by
  by_cases h1 : lo ≤ n <;> by_cases h2 : n ≤ hi
  all_goals
    go_enter Tryz.func65, Tryz.ntmps65
    go_wp2
    go_ret
    exact ⟨ret_bool (by simp [h1, h2]), rfl⟩

theorem specWordValid_any (s : ByteArray) (w : World) (hs : s.size ≤ 4294967296) :
    Calls Tryz.prog 38 #[.string s] w fun e w' => e = .returned (.bool (wordB s)) ∧ w = w' := by
  by_cases h : 200 < s.size
  · go_enter Tryz.func38, Tryz.ntmps38
    go_wp2
    go_ret
    exact ⟨ret_bool (wordB_long h).symm, rfl⟩
  · go_enter Tryz.func38, Tryz.ntmps38
    go_wp2
    go_loop [3] (fun i => ∃ k : Nat, k ≤ s.size ∧ i = .int .i64 k ∧ allTo isL s k) (fun i => s.size - (intOf i).toNat)
    case atStart => exact ⟨0, Nat.zero_le _, rfl, allTo_zero _ _⟩
    case round =>
      obtain ⟨k, hk, rfl, ha⟩ := hrel
      by_cases hlt : k < s.size
      · by_cases hd : 0 ≤ dig s[k] ∧ dig s[k] ≤ 9
        · obtain ⟨hd0, hd1⟩ := hd
          go_wp2_with (first | (go_at_call 66; ((with_reducible refine (l1Digit_any _ _ _ (by omega) (by omega) (by omega)).mono ?_); rintro e w' ⟨rfl, rfl⟩)) | (go_at_call 65; ((with_reducible refine (l1In_any _ _ _ _).mono ?_); rintro e w' ⟨rfl, rfl⟩)))
          go_round
          case rel => exact ⟨k + 1, by omega, by go_num, allTo_succ ha hlt ((isL_iff _).2 ⟨hd0, hd1⟩)⟩
          case measure => simp [intOf]; omega
        · go_wp2_with (first | (go_at_call 66; ((with_reducible refine (l1Digit_any _ _ _ (by omega) (by omega) (by omega)).mono ?_); rintro e w' ⟨rfl, rfl⟩)) | (go_at_call 65; ((with_reducible refine (l1In_any _ _ _ _).mono ?_); rintro e w' ⟨rfl, rfl⟩)))
          all_goals first | (go_ret; exact ⟨ret_bool (wordB_no hlt (isL_no (by omega))).symm, rfl⟩) | (exfalso; simp at *; omega)
      · go_wp2
        go_ret
        exact ⟨ret_bool (wordB_yes (by omega) ha (by omega)).symm, rfl⟩

end Go.Proofs.YtnnblmibonnpcaaGreat

/- Words for memory: a row of the call's own, known cell by cell; making it, storing into it, reading it as a string. -/
namespace Go.Proofs.YtnnblmibonnpcaaGreat
open Go.RowKit

/-- Block g begins with the cells cs, none of them frozen. -/
structure Own (w : World) (g : Nat) (cs : List Value) : Prop where
  lt : g < w.heap.size
  cell : ∀ i, i < cs.length → w.cell? ⟨g, i, none⟩ = cs[i]?
  free : ∀ i, i < cs.length → w.frozen? ⟨g, i, none⟩ = false

section
variable {w w' : World} {g : Nat} {cs : List Value}
theorem Own.keep (h : Own w g cs) (hs : g < w'.heap.size) (hb : w'.heap[g]? = w.heap[g]?) : Own w' g cs :=
  ⟨hs, fun i hi => by rw [← h.cell i hi]; exact World.cell?_of_block (w := w) hb, fun i hi => by rw [← h.free i hi]; exact World.frozen?_of_block (w := w) hb⟩
theorem Own.drew (h : Own w g cs) : Own w.drew g cs := h.keep h.lt rfl
theorem Own.drewN (h : Own w g cs) (n : Nat) : Own (w.drewN n) g cs := h.keep h.lt rfl
theorem Own.below {B : Nat} (h : Own w g cs) (hb : Below B w w') (hg : g < B) : Own w' g cs := h.keep (Nat.lt_of_lt_of_le h.lt hb.size) (hb.block g hg)
theorem Own.grown {row : Option Nat} (h : Own w g cs) (hb : w.grownBy w' row) (hg : some g ≠ row) : Own w' g cs := h.keep (Nat.lt_of_lt_of_le h.lt hb.size) (hb.block g h.lt hg)
theorem Own.alloc (h : Own w g cs) (o : Obj) : Own (w.alloc o) g cs := h.keep (Nat.lt_of_lt_of_le h.lt (by simp)) (Below.heap_alloc w o g h.lt)
theorem Own.far (h : Own w g cs) {p : Addr} (hp : g ≠ p.block) (u : Value) : Own (w.setCell p u) g cs := h.keep (by simpa [World.setCell] using h.lt) (Below.heap_setCell w p u g hp)
theorem Own.at_ (h : Own w g cs) {i : Nat} {u : Value} (hu : cs[i]? = some u) : w.cell? ⟨g, i, none⟩ = some u := by
  have hi : i < cs.length := by
    rcases Nat.lt_or_ge i cs.length with h1 | h1
    · exact h1
    · rw [List.getElem?_eq_none h1] at hu; cases hu
  rw [h.cell i hi, hu]
theorem Own.some_ (h : Own w g cs) {i : Nat} (hi : i < cs.length) : ∃ x, w.cell? ⟨g, i, none⟩ = some x := ⟨_, by rw [h.cell i hi, List.getElem?_eq_getElem hi]⟩
theorem Own.set_ (h : Own w g cs) {i : Nat} (hi : i < cs.length) (u : Value) : Own (w.setCell ⟨g, i, none⟩ u) g (cs.set i u) := by
  have hc := h.cell
  have hf := h.free
  have hlt := h.lt
  obtain ⟨o, ho⟩ : ∃ o, w.heap[g]? = some o := ⟨_, Array.getElem?_eq_getElem hlt⟩
  have h0 := hc i hi
  rw [List.getElem?_eq_getElem hi] at h0
  cases o with
  | cells C t fr =>
    refine ⟨by simpa [World.setCell] using hlt, fun j hj => ?_, fun j hj => ?_⟩
    · rw [List.length_set] at hj
      by_cases e : j = i
      · subst e
        rw [World.cell?_setCell_same w ⟨g, j, none⟩ u h0]
        simp [hi]
      · rw [World.cell?_setCell_other w ⟨g, i, none⟩ ⟨g, j, none⟩ u (by simp), hc j hj, List.getElem?_set_ne (by omega)]
    · rw [List.length_set] at hj
      rw [World.frozen?_setCell]
      exact hf j hj
  | _ => simp [World.cell?, ho] at h0
end

/-- The slice at address a begins with the cells xs; it lies below block B. -/
def Reads (w : World) (B : Nat) (a : Option Addr) (xs : List Value) : Prop :=
  xs = [] ∨ ∃ b off, a = some ⟨b, off, none⟩ ∧ b < B ∧ ∀ i, i < xs.length → w.cell? ⟨b, off + i, none⟩ = xs[i]?
section
variable {w w' : World} {B B' : Nat} {a : Option Addr} {xs : List Value}
theorem Reads.nil_ : Reads w B a [] := .inl rfl
theorem Reads.keep (h : Reads w B a xs) (hk : ∀ p : Addr, p.block < B → w'.cell? p = w.cell? p) : Reads w' B a xs := by
  rcases h with h | ⟨b, off, ha, hb, hc⟩
  · exact .inl h
  · exact .inr ⟨b, off, ha, hb, fun i hi => by rw [hk _ hb]; exact hc i hi⟩
theorem Reads.more (h : Reads w B a xs) (hB : B ≤ B') : Reads w B' a xs := by
  rcases h with h | ⟨b, off, ha, hb, hc⟩
  · exact .inl h
  · exact .inr ⟨b, off, ha, by omega, hc⟩
theorem Reads.below (h : Reads w B a xs) {C : Nat} (hb : Below C w w') (hC : B ≤ C) : Reads w' B a xs := h.keep fun _ hp => hb.cell (by omega)
theorem Reads.grown (h : Reads w B a xs) {g : Nat} (hg : w.grownBy w' (some g)) (hB : B ≤ w.heap.size) (hr : B ≤ g) : Reads w' B a xs :=
  h.keep fun p hp => World.cell?_of_block (hg.block p.block (by omega) (by simp; omega))
theorem Reads.open_ (h : Reads w B a xs) (hn : 0 < xs.length) : ∃ b off, a = some ⟨b, off, none⟩ ∧ b < B ∧ ∀ i, i < xs.length → w.cell? ⟨b, off + i, none⟩ = xs[i]? := by
  rcases h with h | h
  · subst h; simp at hn
  · exact h
theorem Reads.of_own {g : Nat} {cs : List Value} (h : Own w g cs) (hg : g < B) : Reads w B (some ⟨g, 0, none⟩) cs :=
  .inr ⟨g, 0, rfl, hg, fun i hi => by rw [Nat.zero_add]; exact h.cell i hi⟩
end
/-- The cells of some strings. -/
def sv (ss : List ByteArray) : List Value := ss.map .string
theorem length_sv (ss : List ByteArray) : (sv ss).length = ss.length := by simp [sv]
theorem sv_at {ss : List ByteArray} {i : Nat} (h : i < ss.length) : (sv ss)[i]? = some (.string ss[i]) := by simp [sv, List.getElem?_eq_getElem h]

/-- The cells of some bytes. -/
def bv (l : List UInt8) : List Value := l.map fun b => .int .u8 (b.toNat : Int)
theorem length_bv (l : List UInt8) : (bv l).length = l.length := by simp [bv]
theorem bv_at {l : List UInt8} {i : Nat} (h : i < l.length) : (bv l)[i]? = some (.int .u8 (l[i].toNat : Int)) := by simp [bv, List.getElem?_eq_getElem h]
theorem bv_set (l : List UInt8) (i : Nat) (c : UInt8) : (bv l).set i (.int .u8 (c.toNat : Int)) = bv (l.set i c) := by simp [bv, List.map_set]

/-- A row that is filled from the left: one more. -/
theorem fill_set {α : Type} {A R : List α} {k : Nat} (hA : k < A.length) (hR : R.length = A.length) :
    (A.take k ++ R.drop k).set k A[k] = A.take (k + 1) ++ R.drop (k + 1) := by
  have hl : (A.take k).length = k := by simp; omega
  rw [List.set_append_right _ _ (by omega), hl, Nat.sub_self, List.take_succ_eq_append_getElem hA, List.append_assoc]
  congr 1
  rw [List.drop_eq_getElem_cons (by omega)]
  rfl
theorem fill_len {α : Type} {A R : List α} {k : Nat} (hR : R.length = A.length) (hk : k ≤ A.length) : (A.take k ++ R.drop k).length = A.length := by simp; omega

/-- 'string(b)' of a row of the call's own. -/
theorem Own.conv {P : Program} {w : World} {g : Nat} {l : List UInt8} (h : Own w g (bv l)) (src dst e : TypeId) (hs : P.underlying src = some (.slice e)) (he : P.underlying e = some (.int .u8)) (hd : P.underlying dst = some .string) {n : Nat} (hn : n = l.length) (cap : Nat) :
    (convert src dst (.slice (some ⟨g, 0, none⟩) n cap)).run P w = .ok (.string (S l)) w := by
  subst hn
  exact run_convert_bytes_back w src dst e ⟨g, 0, none⟩ cap l hs he hd (fun j hj => by
    have : w.cell? ⟨g, j, none⟩ = some (.int .u8 (l[j].toNat : Int)) := h.at_ (bv_at hj)
    unfold Addr.add
    split
    · rename_i h0; subst h0; exact this
    · simpa using this)

/-- 'make([]T, n)' of one-cell elements. -/
theorem run_make1 {P : Program} {t e : TypeId} {z : Value} {bytes : Nat} (ht : P.underlying t = some (.slice e)) (hz : (P.info? e).map (fun i => (i.zero, i.size, i.bytes)) = some (some z, 1, bytes)) (hc : z.cells = #[z])
    (n c : Nat) (hnc : n ≤ c) (hb : bytes * c ≤ 281474976710656) (h63 : c ≤ 9223372036854775807) (w : World) :
    (Instr.makeSlice t (.int .i64 (n : Int)) (.int .i64 (c : Int))).run P w = .ok (.slice (some ⟨w.heap.size, 0, none⟩) n c) (w.alloc (.cells (List.replicate c z).toArray e)) := by
  obtain ⟨i, hi, h1, h2, h3⟩ := info_parts hz
  have hbb : (i.bytes : Int) * (c : Int) ≤ 281474976710656 := by
    rw [h3]
    have h : ((bytes * c : Nat) : Int) ≤ 281474976710656 := by omega
    rwa [Int.natCast_mul] at h
  have hr := run_make (P := P) w t e i z ht hi h1 .i64 .i64 n c (by omega) (by omega) hbb (by omega)
  simp only [Int.toNat_natCast, h2, Nat.mul_one, hc] at hr
  rw [hr]
  congr 3
  rw [← toList_madeCells_one z c]

theorem Own.new (w : World) (cs : List Value) (t : TypeId) : Own (w.alloc (.cells cs.toArray t)) w.heap.size cs :=
  ⟨by simp, fun i hi => by rw [World.cell?_alloc_mark]; simp, fun i hi => by rw [World.frozen?_alloc_mark]; simp⟩

/-- The quiet walk at the class of one world is the still walk. -/
theorem wpStill_of_quiet {P : Program} {ops : Array Oper} {w1 : World} {Q : Act → Prop} : ∀ (l : List Oper) (a : Act), wpQuiet P ops (fun w' => w' = w1) Q l a → wpStill P ops w1 Q l a
  | [], _, h => h
  | o :: rest, a, h => by
    unfold wpQuiet at h
    unfold wpStill
    split
    · rename_i hw
      rw [if_pos hw] at h
      obtain ⟨v, hv, hn⟩ := h
      have hv := hv w1 rfl
      have hn' := wpStill_of_quiet rest _ hn
      unfold Oper.still
      unfold Oper.quietAt at hv
      generalize (execOp a.eval o).run P w1 = r at hv ⊢
      cases r with
      | ok n w' =>
        cases n <;> simp only [Oper.quietUpon] at hv <;> simp only [Oper.stillUpon]
        case value u => obtain ⟨h1, h2⟩ := hv; subst h2; exact ⟨h1, hn'⟩
        case skip => obtain ⟨h1, h2⟩ := hv; subst h2; exact ⟨h1, hn'⟩
        case enter f args => exact ⟨hv.1, v, hv.2, hn'⟩
      | halt x w' => simp only [Oper.quietUpon] at hv
    · rename_i hw
      rw [if_neg hw] at h
      exact wpStill_of_quiet rest _ h

/-- A region that draws, whose operations but the last ones read and call quietly. -/
theorem wp_region_tail {P : Program} {id : Nat} {Q : Exit → Act → World → Prop} {a : Act} {w : World} {l : List Oper} (n : Nat) (hm : P.follows .mixedOrders = true) (hB : Region.lexTailB .any l.toArray n = true)
    (h : wpQuiet P l.toArray (fun w' => w' = w.drew) (fun a' => wpList P l.toArray Q (l.drop n) a' w.drew) (l.take n) a) : (Code.region id l.toArray true).wp P Q a w :=
  wp_region_still_tail n hm hB (wpStill_of_quiet _ _ h)

/-- The worlds that are below B as w is. -/
def Cls (B : Nat) (w : World) : Type := { x : World // Below B w x }
def Cls.w {B : Nat} {w : World} (c : Cls B w) : World := c.1
theorem Cls.bel {B : Nat} {w : World} (c : Cls B w) : Below B w c.w := c.2
instance {B : Nat} {w : World} : Nonempty (Cls B w) := ⟨⟨w, Below.refl _ _⟩⟩
theorem Cls.cell {B : Nat} {w : World} (c : Cls B w) (b o : Nat) (h : b < B) : c.w.cell? ⟨b, o, none⟩ = w.cell? ⟨b, o, none⟩ := c.2.cell (p := ⟨b, o, none⟩) h

/-- A region that draws, whose operations read and whose calls may make memory: one walk in the text's order. -/
theorem wp_region_cls {P : Program} {id : Nat} {Q : Exit → Act → World → Prop} {a : Act} {w : World} {l : List Oper} (hm : P.follows .mixedOrders = true) (hB : Region.lexB .any l.toArray = true)
    (h : wpQuiet P l.toArray (fun w' => ∃ c : Cls w.heap.size w, w' = c.w) (fun a' => ∀ w', Below w.heap.size w w' → Q .normal a' w') l a) : (Code.region id l.toArray true).wp P Q a w := by
  refine wp_region_quiet (C := fun w' => ∃ c : Cls w.heap.size w, w' = c.w) hm hB ⟨⟨{ w with drawn := w.drawn + 1 }, (Below.refl _ _).drew⟩, rfl⟩ ?_
  have hq : ∀ (l' : List Oper) (a : Act), wpQuiet P l.toArray (fun w' => ∃ c : Cls w.heap.size w, w' = c.w) (fun a' => ∀ w', Below w.heap.size w w' → Q .normal a' w') l' a →
      wpQuiet P l.toArray (fun w' => ∃ c : Cls w.heap.size w, w' = c.w) (fun a' => ∀ w', (∃ c : Cls w.heap.size w, w' = c.w) → Q .normal a' w') l' a := by
    intro l'
    induction l' with
    | nil => intro a h w' ⟨c, hc⟩; exact h w' (hc ▸ c.2)
    | cons o rest ih =>
      intro a h
      unfold wpQuiet at h ⊢
      split
      · rename_i hw
        rw [if_pos hw] at h
        obtain ⟨v, hv, hn⟩ := h
        exact ⟨v, hv, ih _ hn⟩
      · rename_i hw
        rw [if_neg hw] at h
        exact ih _ h
  exact hq _ _ h
/-- A contract that makes memory, met in such a world. -/
theorem cls_of {P : Program} {f : FuncId} {args : Array Value} {B : Nat} {w : World} {c : Cls B w} {v : Value} (hB : B ≤ w.heap.size) (h : Calls P f args c.w fun e w' => e = .returned v ∧ Below c.w.heap.size c.w w') :
    Calls P f args c.w fun e w' => e = .returned v ∧ ∃ c' : Cls B w, w' = c'.w :=
  h.mono fun _ w' ⟨a, b⟩ => ⟨a, ⟨w', c.2.trans (b.mono (Nat.le_trans hB c.2.size))⟩, rfl⟩
theorem cls_same {P : Program} {f : FuncId} {args : Array Value} {B : Nat} {w : World} {c : Cls B w} {v : Value} (h : Calls P f args c.w fun e w' => e = .returned v ∧ c.w = w') :
    Calls P f args c.w fun e w' => e = .returned v ∧ ∃ c' : Cls B w, w' = c'.w :=
  h.mono fun _ _ ⟨a, b⟩ => ⟨a, c, b.symm⟩

/-- Two steps, each of which makes memory. -/
theorem bt {a b c : World} (h : Below a.heap.size a b) (k : Below b.heap.size b c) : Below a.heap.size a c := h.trans (k.mono h.size)

/-- A contract that leaves the world alone, as the still walk wants it. -/
theorem still_of {P : Program} {f : FuncId} {args : Array Value} {w : World} {v : Value} (h : Calls P f args w fun e w' => e = .returned v ∧ w = w') :
    Calls P f args w fun e w' => e = .returned v ∧ w' = w := h.mono fun _ _ ⟨a, b⟩ => ⟨a, b.symm⟩
end Go.Proofs.YtnnblmibonnpcaaGreat

/- Contracts of the functions that make letters and words. -/
namespace Go.Proofs.YtnnblmibonnpcaaGreat
open Go.RowKit

theorem l1Letter_any (n : Int) (w : World) :
    Calls Tryz.prog 69 #[.int .i64 n] w fun e w' => e = .returned (.string (S [letr n])) ∧ Below w.heap.size w w' := by
  obtain ⟨hl, hr, he⟩ := tmod10 n
  have He := Lib.hid he
  clear he
  have hc := fun (v : Int) => run_conv_new (P := Tryz.prog) w 22 9 5 Tryz.underlying22 Tryz.underlying5 Tryz.underlying9 [v]
  simp only [List.map_cons, List.map_nil, List.length_cons, List.length_nil, Nat.zero_add] at hc
  go_enter Tryz.func69, Tryz.ntmps69
  go_wp2
  go_ret
  refine ⟨ret_str ?_, (Below.refl _ _).alloc (Nat.le_refl _) _⟩
  rw [He.out]
  simp only [letr]
  congr 3
  omega
theorem implNumber_any (b : UInt8) (w : World) (h0 : 97 ≤ b.toNat) :
    Calls Tryz.prog 42 #[.int .u8 (b.toNat : Int)] w fun e w' => e = .returned (.int .i64 (dig b)) ∧ w = w' := by
  have hb := byte_lt b
  go_enter Tryz.func42, Tryz.ntmps42
  go_wp2
  go_ret
  exact ⟨rfl, rfl⟩
theorem implLetter_any (n : Int) (w : World) (h0 : 0 ≤ n) (h1 : n ≤ 9) :
    Calls Tryz.prog 36 #[.int .i64 n] w fun e w' => e = .returned (.int .u8 ((letr n).toNat : Int)) ∧ w = w' := by
  go_enter Tryz.func36, Tryz.ntmps36
  go_wp2
  go_ret
  exact ⟨ret_int (by rw [letr_toNat]; omega), rfl⟩
theorem implIsLetter_any (b : UInt8) (w : World) :
    Calls Tryz.prog 41 #[.int .u8 (b.toNat : Int)] w fun e w' => e = .returned (.bool (isL b)) ∧ w = w' := by
  have hb := byte_lt b
  by_cases h1 : (97 : Int) ≤ b.toNat <;> by_cases h2 : (b.toNat : Int) < 107
  all_goals
    go_enter Tryz.func41, Tryz.ntmps41
    go_wp2
    go_ret
    exact ⟨ret_bool (by simp [isL]; omega), rfl⟩

end Go.Proofs.YtnnblmibonnpcaaGreat

/- Contracts of the program's WordValid and LetterCounts. -/
namespace Go.Proofs.YtnnblmibonnpcaaGreat
open Go.RowKit

theorem implWordValid_any (s : ByteArray) (w : World) (hs : s.size ≤ 4294967296) :
    Calls Tryz.prog 35 #[.string s] w fun e w' => e = .returned (.bool (wordB s)) ∧ w = w' := by
  by_cases h : 200 < s.size
  · go_enter Tryz.func35, Tryz.ntmps35
    go_wp2
    go_ret
    exact ⟨ret_bool (wordB_long h).symm, rfl⟩
  · go_enter Tryz.func35, Tryz.ntmps35
    go_wp2
    go_loop [9] (fun i => ∃ k : Nat, k ≤ s.size ∧ i = .int .i64 k ∧ allTo isL s k) (fun i => s.size - (intOf i).toNat)
    case atStart => exact ⟨0, Nat.zero_le _, rfl, allTo_zero _ _⟩
    case round =>
      obtain ⟨k, hk, rfl, ha⟩ := hrel
      by_cases hlt : k < s.size
      · cases hd : isL s[k]
        · go_wp2_with (go_at_call 41; ((with_reducible refine (implIsLetter_any _ _).mono ?_); rintro e w' ⟨rfl, rfl⟩))
          go_ret
          exact ⟨ret_bool (wordB_no hlt hd).symm, rfl⟩
        · go_wp2_with (go_at_call 41; ((with_reducible refine (implIsLetter_any _ _).mono ?_); rintro e w' ⟨rfl, rfl⟩))
          go_round
          case rel => exact ⟨k + 1, by omega, by go_num, allTo_succ ha hlt hd⟩
          case measure => simp [intOf]; omega
      · go_wp2
        go_ret
        exact ⟨ret_bool (wordB_yes (by omega) ha (by omega)).symm, rfl⟩

/-- How often each of the ten letters occurs. -/
def cnts (l : List UInt8) : List Int := (List.range 10).map fun d : Nat => ((l.countP fun c => dig c == (d : Int)) : Int)
theorem length_cnts (l : List UInt8) : (cnts l).length = 10 := by simp [cnts]
theorem cnts_at (l : List UInt8) (d : Nat) (h : d < 10) : (cnts l)[d]'(by rw [length_cnts]; exact h) = ((l.countP fun c => dig c == (d : Int)) : Int) := by simp [cnts]
theorem cnts_snoc (l : List UInt8) (c : UInt8) (d : Nat) (_hd : d < 10) (he : dig c = d) : cnts (l ++ [c]) = (cnts l).set d (((l.countP fun c => dig c == (d : Int)) : Int) + 1) := by
  apply List.ext_getElem
  · simp [cnts]
  · intro i h1 h2
    rw [length_cnts] at h1
    rw [cnts_at _ _ h1, List.getElem_set]
    by_cases e : d = i
    · subst e; simp [he]
    · rw [if_neg e, cnts_at _ _ h1]
      have : ¬ (d : Int) = i := by omega
      simp [he, this]

theorem info_int : (Tryz.prog.info? 3).map (fun i => (i.zero, i.size, i.bytes)) = some (some (.int .i64 0), 1, 8) := by kernel_rfl

/-- What LetterCounts answers of a word. -/
def CountsPost (s : ByteArray) (w : World) (e : Ending) (w' : World) : Prop :=
  ∃ g, e = .returned (.slice (some ⟨g, 0, none⟩) 10 10) ∧ Own w' g ((cnts (L s)).map (.int .i64)) ∧ Below w.heap.size w w'
end Go.Proofs.YtnnblmibonnpcaaGreat

/- Plain laws on permutations of ten letters, as lists of ten numbers. -/
namespace Go.Proofs.YtnnblmibonnpcaaGreat

def pAt (p : List Nat) (i : Nat) : Nat := p.getD i 0
structure IsP (p : List Nat) : Prop where
  len : p.length = 10
  lt : ∀ x ∈ p, x < 10
  nd : p.Nodup
/-- First p, then q. -/
def thenP (p q : List Nat) : List Nat := p.map (pAt q)
def idP : List Nat := List.range 10
def rotP (n : Nat) : List Nat := (List.range 10).map fun i => (i + n) % 10
def backP (p : List Nat) : List Nat := (List.range 10).map fun x => p.idxOf x

theorem pAt_get {p : List Nat} {i : Nat} (h : i < p.length) : pAt p i = p[i] := by simp [pAt, List.getD, List.getElem?_eq_getElem h]
theorem ext10 {p q : List Nat} (hp : p.length = 10) (hq : q.length = 10) (h : ∀ i, i < 10 → pAt p i = pAt q i) : p = q :=
  List.ext_getElem (by omega) fun i h1 h2 => by rw [← pAt_get h1, ← pAt_get h2]; exact h i (by omega)
theorem IsP.at_lt {p : List Nat} (h : IsP p) {i : Nat} (hi : i < 10) : pAt p i < 10 := by
  rw [pAt_get (by rw [h.len]; exact hi)]; exact h.lt _ (List.getElem_mem _)
theorem IsP.inj {p : List Nat} (h : IsP p) {i j : Nat} (hi : i < 10) (hj : j < 10) (e : pAt p i = pAt p j) : i = j := by
  rw [pAt_get (by rw [h.len]; exact hi), pAt_get (by rw [h.len]; exact hj)] at e
  have hn := List.pairwise_iff_getElem.1 (List.nodup_iff_pairwise_ne.1 h.nd)
  rcases Nat.lt_trichotomy i j with hl | hl | hl
  · exact absurd e (hn i j _ _ hl)
  · exact hl
  · exact absurd e.symm (hn j i _ _ hl)
theorem nodup_le : ∀ (n : Nat) (l : List Nat), l.Nodup → (∀ x ∈ l, x < n) → l.length ≤ n
  | 0, l, _, h => by
    cases l with
    | nil => simp
    | cons a l => exact absurd (h a (by simp)) (by omega)
  | n + 1, l, hn, h => by
    have h1 := nodup_le n (l.erase n) (hn.erase n) (fun x hx => by
      have h2 := (List.Nodup.mem_erase_iff hn).1 hx
      have h3 := h x h2.2
      omega)
    have h4 : l.length ≤ (l.erase n).length + 1 := by
      by_cases hm : n ∈ l
      · rw [List.length_erase_of_mem hm]; omega
      · rw [List.erase_of_not_mem hm]; omega
    omega
theorem IsP.mem {p : List Nat} (h : IsP p) {x : Nat} (hx : x < 10) : x ∈ p := by
  apply Classical.byContradiction
  intro hm
  have := nodup_le 10 (x :: p) (List.nodup_cons.2 ⟨hm, h.nd⟩) (fun y hy => by
    rcases List.mem_cons.1 hy with rfl | hy
    · exact hx
    · exact h.lt y hy)
  simp [h.len] at this
theorem isP_mk {p : List Nat} (hl : p.length = 10) (h1 : ∀ i, i < 10 → pAt p i < 10) (h2 : ∀ i j, i < 10 → j < 10 → pAt p i = pAt p j → i = j) : IsP p := by
  refine ⟨hl, fun x hx => ?_, ?_⟩
  · obtain ⟨i, hi, rfl⟩ := List.getElem_of_mem hx
    rw [← pAt_get hi]; exact h1 i (by omega)
  · rw [List.nodup_iff_pairwise_ne, List.pairwise_iff_getElem]
    intro i j hi hj hlt e
    have := h2 i j (by omega) (by omega) (by rw [pAt_get hi, pAt_get hj]; exact e)
    omega

theorem len_then (p q : List Nat) : (thenP p q).length = p.length := by simp [thenP]
theorem at_then {p : List Nat} (q : List Nat) {i : Nat} (h : i < p.length) : pAt (thenP p q) i = pAt q (pAt p i) := by
  rw [pAt_get (by rw [len_then]; exact h), pAt_get h]; simp [thenP]
theorem len_id : idP.length = 10 := by simp [idP]
theorem at_id {i : Nat} (h : i < 10) : pAt idP i = i := by rw [pAt_get (by rw [len_id]; exact h)]; simp [idP]
theorem len_rot (n : Nat) : (rotP n).length = 10 := by simp [rotP]
theorem at_rot (n : Nat) {i : Nat} (h : i < 10) : pAt (rotP n) i = (i + n) % 10 := by rw [pAt_get (by rw [len_rot]; exact h)]; simp [rotP]
theorem len_back (p : List Nat) : (backP p).length = 10 := by simp [backP]
theorem at_back (p : List Nat) {i : Nat} (h : i < 10) : pAt (backP p) i = p.idxOf i := by rw [pAt_get (by rw [len_back]; exact h)]; simp [backP]
theorem isP_id : IsP idP := isP_mk len_id (fun i h => by rw [at_id h]; exact h) (fun i j hi hj e => by rw [at_id hi, at_id hj] at e; exact e)
theorem isP_rot (n : Nat) : IsP (rotP n) := isP_mk (len_rot n) (fun i h => by rw [at_rot n h]; omega) (fun i j hi hj e => by rw [at_rot n hi, at_rot n hj] at e; omega)
theorem IsP.then {p q : List Nat} (h : IsP p) (k : IsP q) : IsP (thenP p q) := by
  refine isP_mk (by rw [len_then]; exact h.len) (fun i hi => ?_) (fun i j hi hj e => ?_)
  · rw [at_then q (by rw [h.len]; exact hi)]; exact k.at_lt (h.at_lt hi)
  · rw [at_then q (by rw [h.len]; exact hi), at_then q (by rw [h.len]; exact hj)] at e
    exact h.inj hi hj (k.inj (h.at_lt hi) (h.at_lt hj) e)
theorem IsP.idx_lt {p : List Nat} (h : IsP p) {x : Nat} (hx : x < 10) : p.idxOf x < 10 := by
  have := List.idxOf_lt_length_of_mem (h.mem hx)
  rw [h.len] at this; exact this
theorem IsP.at_idx {p : List Nat} (h : IsP p) {x : Nat} (hx : x < 10) : pAt p (pAt (backP p) x) = x := by
  rw [at_back p hx, pAt_get (by rw [h.len]; exact h.idx_lt hx)]
  exact List.getElem_idxOf _
theorem IsP.back_at {p : List Nat} (h : IsP p) {i : Nat} (hi : i < 10) : pAt (backP p) (pAt p i) = i := by
  have h1 := h.at_lt hi
  have h2 := h.at_idx h1
  have h3 : pAt (backP p) (pAt p i) < 10 := by rw [at_back p h1]; exact h.idx_lt h1
  exact h.inj h3 hi h2
theorem IsP.back {p : List Nat} (h : IsP p) : IsP (backP p) :=
  isP_mk (len_back p) (fun i hi => by rw [at_back p hi]; exact h.idx_lt hi) (fun i j hi hj e => by
    have := congrArg (pAt p) e
    rw [h.at_idx hi, h.at_idx hj] at this; exact this)
theorem then_back {p : List Nat} (h : IsP p) : thenP p (backP p) = idP :=
  ext10 (by rw [len_then]; exact h.len) len_id fun i hi => by rw [at_then _ (by rw [h.len]; exact hi), h.back_at hi, at_id hi]
theorem back_then {p : List Nat} (h : IsP p) : thenP (backP p) p = idP :=
  ext10 (by rw [len_then]; exact len_back p) len_id fun i hi => by rw [at_then _ (by rw [len_back]; exact hi), h.at_idx hi, at_id hi]
theorem then_assoc {p q r : List Nat} (h : IsP p) (k : IsP q) : thenP (thenP p q) r = thenP p (thenP q r) :=
  ext10 (by rw [len_then, len_then]; exact h.len) (by rw [len_then]; exact h.len) fun i hi => by
    rw [at_then r (by rw [len_then, h.len]; exact hi), at_then q (by rw [h.len]; exact hi), at_then _ (by rw [h.len]; exact hi), at_then r (by rw [k.len]; exact h.at_lt hi)]
theorem id_then {p : List Nat} (h : IsP p) : thenP idP p = p :=
  ext10 (by rw [len_then]; exact len_id) h.len fun i hi => by rw [at_then p (by rw [len_id]; exact hi), at_id hi]
theorem then_id {p : List Nat} (h : IsP p) : thenP p idP = p :=
  ext10 (by rw [len_then]; exact h.len) h.len fun i hi => by rw [at_then _ (by rw [h.len]; exact hi), at_id (h.at_lt hi)]
theorem back_unique {p q : List Nat} (h : IsP p) (k : IsP q) (e : thenP p q = idP) : q = backP p := by
  have : thenP (backP p) (thenP p q) = thenP (backP p) idP := by rw [e]
  rw [← then_assoc h.back h, back_then h, id_then k, then_id h.back] at this
  exact this
theorem back_back {p : List Nat} (h : IsP p) : backP (backP p) = p := (back_unique h.back h (back_then h)).symm
theorem back_of_then {p q : List Nat} (h : IsP p) (k : IsP q) : backP (thenP p q) = thenP (backP q) (backP p) := by
  refine (back_unique (h.then k) (k.back.then h.back) ?_).symm
  rw [then_assoc h k, ← then_assoc (r := backP p) k k.back, then_back k, id_then h.back, then_back h]

/-- p with its letters renamed by q. -/
def conjP (p q : List Nat) : List Nat := thenP (thenP (backP q) p) q
theorem IsP.conj {p q : List Nat} (h : IsP p) (k : IsP q) : IsP (conjP p q) := (k.back.then h).then k
/-- p is its own inverse. -/
def Inv (p : List Nat) : Prop := thenP p p = idP
/-- p fixes no letter. -/
def Free (p : List Nat) : Prop := ∀ i, i < 10 → pAt p i ≠ i
theorem Inv.at {p : List Nat} (h : IsP p) (k : Inv p) {i : Nat} (hi : i < 10) : pAt p (pAt p i) = i := by
  have : pAt (thenP p p) i = pAt idP i := congrArg (fun l => pAt l i) k
  rw [at_then p (by rw [h.len]; exact hi), at_id hi] at this
  exact this
theorem Inv.of_at {p : List Nat} (h : IsP p) (k : ∀ i, i < 10 → pAt p (pAt p i) = i) : Inv p :=
  ext10 (by rw [len_then]; exact h.len) len_id fun i hi => by rw [at_then p (by rw [h.len]; exact hi), at_id hi]; exact k i hi
theorem Inv.back {p : List Nat} (h : IsP p) (k : Inv p) : backP p = p := (back_unique h h k).symm
theorem inv_iff_back {p : List Nat} (h : IsP p) : Inv p ↔ backP p = p := ⟨fun k => k.back h, fun e => by have := then_back h; rw [e] at this; exact this⟩
theorem at_conj {p q : List Nat} (_h : IsP p) (_k : IsP q) {i : Nat} (hi : i < 10) : pAt (conjP p q) i = pAt q (pAt p (pAt (backP q) i)) := by
  unfold conjP
  rw [at_then q (by rw [len_then, len_back]; exact hi), at_then p (by rw [len_back]; exact hi)]
theorem Inv.conj {p q : List Nat} (h : IsP p) (k : IsP q) (e : Inv p) : Inv (conjP p q) :=
  Inv.of_at (h.conj k) fun i hi => by
    have hb := k.back.at_lt hi
    have h1 := h.at_lt hb
    rw [at_conj h k hi, at_conj h k (k.at_lt h1), k.back_at h1, e.at h hb, k.at_idx hi]
theorem Free.conj {p q : List Nat} (h : IsP p) (k : IsP q) (e : Free p) : Free (conjP p q) := fun i hi he => by
  have hb := k.back.at_lt hi
  rw [at_conj h k hi] at he
  have := congrArg (pAt (backP q)) he
  rw [k.back_at (h.at_lt hb)] at this
  exact e _ hb this

/-- The permutation of a wiring that is turned by an offset. -/
def turnP (p : List Nat) (o : Nat) : List Nat := thenP (thenP (rotP o) p) (rotP ((10 - o) % 10))
theorem IsP.turn {p : List Nat} (h : IsP p) (o : Nat) : IsP (turnP p o) := ((isP_rot o).then h).then (isP_rot _)
theorem at_turn {p : List Nat} (h : IsP p) (o : Nat) {i : Nat} (hi : i < 10) : pAt (turnP p o) i = (pAt p ((i + o) % 10) + (10 - o) % 10) % 10 := by
  unfold turnP
  have h1 : (i + o) % 10 < 10 := by omega
  rw [at_then _ (by rw [len_then, len_rot]; exact hi), at_then p (by rw [len_rot]; exact hi), at_rot o hi, at_rot _ (h.at_lt h1)]

/-- The numbers of the letters of a string. -/
def dg (s : ByteArray) : List Nat := (L s).map fun c => (dig c).toNat
/-- The word of some numbers. -/
def wd (l : List Nat) : ByteArray := S (l.map fun n : Nat => letr (n : Int))
theorem len_dg (s : ByteArray) : (dg s).length = s.size := by simp [dg, size_L]
theorem size_wd (l : List Nat) : (wd l).size = l.length := by simp [wd, size_S]
theorem dg_at {s : ByteArray} {i : Nat} (h : i < s.size) : pAt (dg s) i = (dig s[i]).toNat := by
  rw [pAt_get (by rw [len_dg]; exact h)]; simp [dg, getElem_L]
theorem dg_wd {l : List Nat} (h : ∀ x ∈ l, x < 10) : dg (wd l) = l := by
  unfold dg wd
  rw [L_S, List.map_map]
  conv => rhs; rw [← List.map_id l]
  apply List.map_congr_left
  intro x hx
  have := h x hx
  simp only [Function.comp, id]
  rw [dig_letr]; omega
theorem letr_of_dig {c : UInt8} (h : isL c = true) : letr (((dig c).toNat : Nat) : Int) = c := by
  have h1 := (isL_iff c).1 h
  apply UInt8.toNat.inj
  rw [letr_toNat]
  unfold dig at *
  omega
theorem wd_dg {s : ByteArray} (h : wordB s = true) : wd (dg s) = s := by
  simp only [wordB, Bool.and_eq_true] at h
  apply L_inj
  unfold wd dg
  rw [L_S, List.map_map]
  conv => rhs; rw [← List.map_id (L s)]
  apply List.map_congr_left
  intro c hc
  exact letr_of_dig (List.all_eq_true.1 h.2 c hc)
theorem word_wd {l : List Nat} (h : l.length ≤ 200) : wordB (wd l) = true := by
  simp only [wordB, Bool.and_eq_true, decide_eq_true_eq]
  refine ⟨by rw [size_wd]; exact h, ?_⟩
  unfold wd
  rw [L_S, List.all_eq_true]
  intro c hc
  obtain ⟨n, _, rfl⟩ := List.mem_map.1 hc
  rw [isL_iff, dig_letr]; omega
theorem wd_inj {p q : List Nat} (hp : ∀ x ∈ p, x < 10) (hq : ∀ x ∈ q, x < 10) (e : wd p = wd q) : p = q := by
  rw [← dg_wd hp, ← dg_wd hq, e]
theorem word_dg_lt {s : ByteArray} (h : wordB s = true) : ∀ x ∈ dg s, x < 10 := by
  simp only [wordB, Bool.and_eq_true] at h
  intro x hx
  obtain ⟨c, hc, rfl⟩ := List.mem_map.1 hx
  have := (isL_iff c).1 (List.all_eq_true.1 h.2 c hc)
  omega

/-- A string is a permutation. -/
def permB (s : ByteArray) : Bool := decide (s.size = 10) && wordB s && decide (dg s).Nodup
theorem permB_isP {s : ByteArray} (h : permB s = true) : IsP (dg s) := by
  simp only [permB, Bool.and_eq_true, decide_eq_true_eq] at h
  exact ⟨by rw [len_dg]; exact h.1.1, word_dg_lt h.1.2, h.2⟩
theorem permB_word {s : ByteArray} (h : permB s = true) : wordB s = true := by
  simp only [permB, Bool.and_eq_true] at h; exact h.1.2
theorem permB_size {s : ByteArray} (h : permB s = true) : s.size = 10 := by
  simp only [permB, Bool.and_eq_true, decide_eq_true_eq] at h; exact h.1.1
theorem permB_wd {p : List Nat} (h : IsP p) : permB (wd p) = true := by
  simp only [permB, Bool.and_eq_true, decide_eq_true_eq]
  exact ⟨⟨by rw [size_wd]; exact h.len, word_wd (by rw [h.len]; omega)⟩, by rw [dg_wd h.lt]; exact h.nd⟩
/-- A string is a plugboard. -/
def plugB (s : ByteArray) : Bool := permB s && decide (thenP (dg s) (dg s) = idP)
theorem plugB_perm {s : ByteArray} (h : plugB s = true) : permB s = true := by simp only [plugB, Bool.and_eq_true] at h; exact h.1
theorem plugB_inv {s : ByteArray} (h : plugB s = true) : Inv (dg s) := by simp only [plugB, Bool.and_eq_true, decide_eq_true_eq] at h; exact h.2
/-- How many letters are not fixed. -/
def movedN (p : List Nat) : Nat := (List.range 10).countP fun i => pAt p i != i
/-- A string is a reflector. -/
def reflB (s : ByteArray) : Bool := plugB s && decide (movedN (dg s) / 2 = 5)
theorem reflB_plug {s : ByteArray} (h : reflB s = true) : plugB s = true := by simp only [reflB, Bool.and_eq_true] at h; exact h.1
theorem reflB_free {s : ByteArray} (h : reflB s = true) : Free (dg s) := by
  simp only [reflB, Bool.and_eq_true, decide_eq_true_eq] at h
  have h1 : movedN (dg s) ≤ 10 := by
    unfold movedN
    have := List.countP_le_length (p := fun i => pAt (dg s) i != i) (l := List.range 10)
    simpa using this
  have h2 : movedN (dg s) = (List.range 10).length := by simp; omega
  unfold movedN at h2
  rw [List.countP_eq_length] at h2
  intro i hi
  have := h2 i (by simpa using hi)
  simpa using this
end Go.Proofs.YtnnblmibonnpcaaGreat
