/- Several of my texts in one: Base, CgP, Words, Mem, Letters, Wheels. -/
import Derived.WalkKit
import Derived.Lib.Hide
import Derived.Lib.Join
import Derived.Lib.Split
import Derived.Lib.ItoaNum
import Derived.Lib.AtoiAll
import Derived.Test.YtlpfhabfbnjnbaaDoorProg
import Derived.Laws.MakeOwn
import Derived.Laws.Entries
import Derived.Deep.QuietTactic
import Derived.BigQuiet
import Derived.StillTailTactics
import Derived.Deep.Draws
import Derived.Deep.RegionWith
/- Plain words on bytes, letters and words: nothing of the program. -/
namespace Go.Proofs.YtlpfhabfbnjnbaaDoor
open Go.RowKit

/-- The bytes of a string. -/
def L (s : ByteArray) : List UInt8 := s.data.toList
/-- The string of some bytes. -/
def S (l : List UInt8) : ByteArray := ⟨l.toArray⟩
theorem L_S (l : List UInt8) : L (S l) = l := by simp [L, S]
theorem S_L (s : ByteArray) : S (L s) = s := by simp [L, S]
theorem size_L (s : ByteArray) : (L s).length = s.size := by simp [L]
theorem size_S (l : List UInt8) : (S l).size = l.length := by simp [S, ByteArray.size]
theorem size_nil : (⟨#[]⟩ : ByteArray).size = 0 := rfl
theorem L_inj {a b : ByteArray} (h : L a = L b) : a = b := by rw [← S_L a, ← S_L b, h]
theorem L_append (a b : ByteArray) : L (a ++ b) = L a ++ L b := by simp [L]
theorem S_append (a b : List UInt8) : S a ++ S b = S (a ++ b) := L_inj (by rw [L_append, L_S, L_S, L_S])
theorem getElem_L (s : ByteArray) (i : Nat) (h : i < s.size) : s[i] = (L s)[i]'(by rw [size_L]; exact h) := rfl
theorem L_extract (s : ByteArray) (a b : Nat) : L (s.extract a b) = ((L s).take b).drop a := by
  simp only [L, ByteArray.data_extract, Array.toList_extract, List.extract_eq_take_drop]
  rw [List.drop_take]
theorem toList_L (s : ByteArray) : s.toList = L s := ByteArray.toList_eq s
theorem ne_empty {s : ByteArray} (h : s.size ≠ 0) : s.toList.isEmpty = false ∧ ¬ s.toList = [] := by
  rw [toList_L]
  have : (L s).length ≠ 0 := by rw [size_L]; exact h
  cases e : L s
  · rw [e] at this; simp at this
  · simp
theorem is_empty {s : ByteArray} (h : s.size = 0) : s.toList.isEmpty = true ∧ s.toList = [] := by
  rw [toList_L]
  have : (L s).length = 0 := by rw [size_L]; exact h
  have := List.eq_nil_of_length_eq_zero this
  rw [this]; simp
theorem byte_lt (c : UInt8) : c.toNat < 256 := c.toBitVec.isLt

/-- The number of a byte as a letter. -/
def dig (c : UInt8) : Int := (c.toNat : Int) - 97
theorem dig_bd (c : UInt8) : -97 ≤ dig c ∧ dig c ≤ 158 := by have := byte_lt c; unfold dig; omega
def isL (c : UInt8) : Bool := decide (97 ≤ c.toNat) && decide (c.toNat < 107)
def isTp (c : UInt8) : Bool := decide (97 ≤ c.toNat) && decide (c.toNat < 105)
theorem isL_iff (c : UInt8) : isL c = true ↔ 0 ≤ dig c ∧ dig c ≤ 9 := by simp [isL, dig]; omega
theorem isTp_iff (c : UInt8) : isTp c = true ↔ 0 ≤ dig c ∧ dig c ≤ 7 := by simp [isTp, dig]; omega
theorem isL_no {c : UInt8} (h : dig c < 0 ∨ 9 < dig c) : isL c = false := by
  cases e : isL c
  · rfl
  · rw [isL_iff] at e; omega
theorem isTp_no {c : UInt8} (h : dig c < 0 ∨ 7 < dig c) : isTp c = false := by
  cases e : isTp c
  · rfl
  · rw [isTp_iff] at e; omega

/-- The letter with a number, taken modulo ten. -/
def letr (n : Int) : UInt8 := UInt8.ofNat (97 + (n % 10).toNat)
theorem letr_toNat (n : Int) : (letr n).toNat = 97 + (n % 10).toNat := by
  have h : (97 + (n % 10).toNat) < 256 := by omega
  simp [letr, UInt8.toNat_ofNat, Nat.mod_eq_of_lt h]
theorem dig_letr (n : Int) : dig (letr n) = n % 10 := by unfold dig; rw [letr_toNat]; omega

theorem tmod10 (n : Int) : -9 ≤ n.tmod 10 ∧ n.tmod 10 ≤ 9 ∧ n.tmod 10 % 10 = n % 10 := by
  rw [Int.tmod_eq_emod]; split <;> omega
/-- The bitwise sum of the numbers of two letters. -/
def xn (x y : UInt8) : Nat := (dig x).toNat ^^^ (dig y).toNat
theorem xn_lt {x y : UInt8} (hx : dig x ≤ 7) (hy : dig y ≤ 7) : xn x y < 8 :=
  Nat.xor_lt_two_pow (n := 3) (by omega) (by omega)
def xorL (a b : List UInt8) : List UInt8 := List.zipWith (fun x y => letr (xn x y : Nat)) a b
theorem length_xorL (a b : List UInt8) : (xorL a b).length = min a.length b.length := by simp [xorL]
theorem xorL_take_succ {v w : ByteArray} {k : Nat} (hv : k < v.size) (hw : k < w.size) :
    (xorL (L v) (L w)).take (k + 1) = (xorL (L v) (L w)).take k ++ [letr (xn v[k] w[k] : Nat)] := by
  have hl : k < (xorL (L v) (L w)).length := by rw [length_xorL, size_L, size_L]; omega
  rw [List.take_succ_eq_append_getElem hl]
  simp [xorL, getElem_L]

/-- p holds of the first k bytes. -/
def allTo (p : UInt8 → Bool) (s : ByteArray) (k : Nat) : Prop := ∀ j (h : j < s.size), j < k → p s[j] = true
theorem allTo_zero (p : UInt8 → Bool) (s : ByteArray) : allTo p s 0 := fun _ _ h => absurd h (by omega)
theorem allTo_succ {p : UInt8 → Bool} {s : ByteArray} {k : Nat} (h : allTo p s k) (hk : k < s.size) (hp : p s[k] = true) : allTo p s (k+1) := by
  intro j hj hlt
  by_cases e : j = k
  · subst e; exact hp
  · exact h j hj (by omega)
theorem allTo_all {p : UInt8 → Bool} {s : ByteArray} {k : Nat} (h : allTo p s k) (hk : s.size ≤ k) : (L s).all p = true := by
  rw [List.all_eq_true]
  intro x hx
  obtain ⟨j, hj, rfl⟩ := List.getElem_of_mem hx
  exact h j (by rw [← size_L]; exact hj) (by rw [size_L] at hj; omega)
theorem all_at {p : UInt8 → Bool} {s : ByteArray} (h : (L s).all p = true) (k : Nat) (hk : k < s.size) : p s[k] = true := by
  rw [List.all_eq_true] at h
  exact h _ (by rw [getElem_L]; exact List.getElem_mem _)
theorem not_all {p : UInt8 → Bool} {s : ByteArray} {k : Nat} (hk : k < s.size) (hp : p s[k] = false) : (L s).all p = false := by
  cases e : (L s).all p
  · rfl
  · rw [all_at e k hk] at hp; cases hp

def wordB (s : ByteArray) : Bool := decide (s.size ≤ 200) && (L s).all isL
def tapeB (s : ByteArray) : Bool := decide (s.size ≤ 200) && (L s).all isTp
theorem wordB_long {s : ByteArray} (h : 200 < s.size) : wordB s = false := by simp [wordB]; omega
theorem tapeB_long {s : ByteArray} (h : 200 < s.size) : tapeB s = false := by simp [tapeB]; omega
theorem wordB_no {s : ByteArray} {k : Nat} (hk : k < s.size) (hp : isL s[k] = false) : wordB s = false := by simp [wordB, not_all hk hp]
theorem tapeB_no {s : ByteArray} {k : Nat} (hk : k < s.size) (hp : isTp s[k] = false) : tapeB s = false := by simp [tapeB, not_all hk hp]
theorem wordB_yes {s : ByteArray} {k : Nat} (h : s.size ≤ 200) (ha : allTo isL s k) (hk : s.size ≤ k) : wordB s = true := by simp [wordB, allTo_all ha hk, h]
theorem tapeB_yes {s : ByteArray} {k : Nat} (h : s.size ≤ 200) (ha : allTo isTp s k) (hk : s.size ≤ k) : tapeB s = true := by simp [tapeB, allTo_all ha hk, h]
theorem wordB_at {s : ByteArray} (h : wordB s = true) (k : Nat) (hk : k < s.size) : 0 ≤ dig s[k] ∧ dig s[k] ≤ 9 := by
  simp only [wordB, Bool.and_eq_true] at h
  exact (isL_iff _).1 (all_at h.2 k hk)
theorem tapeB_at {s : ByteArray} (h : tapeB s = true) (k : Nat) (hk : k < s.size) : 0 ≤ dig s[k] ∧ dig s[k] ≤ 7 := by
  simp only [tapeB, Bool.and_eq_true] at h
  exact (isTp_iff _).1 (all_at h.2 k hk)
theorem wordB_size {s : ByteArray} (h : wordB s = true) : s.size ≤ 200 := by simp [wordB] at h; exact h.1
theorem tapeB_size {s : ByteArray} (h : tapeB s = true) : s.size ≤ 200 := by simp [tapeB] at h; exact h.1
theorem tapeB_word {s : ByteArray} (h : tapeB s = true) : wordB s = true := by
  refine wordB_yes (tapeB_size h) (k := s.size) (fun j hj _ => ?_) (Nat.le_refl _)
  have := tapeB_at h j hj
  rw [isL_iff]; omega

def isBit (c : UInt8) : Bool := c.toNat == 48 || c.toNat == 49
/-- A wheel of bits. -/
def bitsB (s : ByteArray) : Bool := decide (2 ≤ s.size) && decide (s.size ≤ 9) && (L s).all isBit
def teleB (chi psi : List ByteArray) (m : ByteArray) : Bool := (chi.length == 3 && chi.all bitsB) && (psi.length == 3 && psi.all bitsB) && bitsB m
theorem bitsB_size {s : ByteArray} (h : bitsB s = true) : 2 ≤ s.size ∧ s.size ≤ 9 := by simp [bitsB] at h; exact ⟨h.1.1, h.1.2⟩
theorem bitsB_at {s : ByteArray} (h : bitsB s = true) (k : Nat) (hk : k < s.size) : s[k].toNat = 48 ∨ s[k].toNat = 49 := by
  simp only [bitsB, Bool.and_eq_true] at h
  have := all_at h.2 k hk
  simpa [isBit] using this
theorem bitsB_no {s : ByteArray} {k : Nat} (hk : k < s.size) (hp : isBit s[k] = false) : bitsB s = false := by simp [bitsB, not_all hk hp]
theorem bitsB_yes {s : ByteArray} {k : Nat} (h : 2 ≤ s.size) (h' : s.size ≤ 9) (ha : allTo isBit s k) (hk : s.size ≤ k) : bitsB s = true := by simp [bitsB, allTo_all ha hk, h, h']

/-- A slice of integers that came in: nil, or a row of 'cap' cells that hold 'zs'. -/
def IsRow (k : IntKind) (w : World) (a : Option Addr) (len cap : Nat) (zs : List Int) : Prop :=
  (a = none ∧ len = 0 ∧ cap = 0 ∧ zs = []) ∨
  ∃ x, a = some x ∧ len ≤ cap ∧ cap ≤ maxLen ∧ zs.length = cap ∧ (∀ i, i < zs.length → w.cell? (x.add i) = some (.int k (zs.getD i 0))) ∧ ∀ n ∈ zs, (Lit.int k n).wf = true

theorem ofInt_i64 (a : Nat) (ha : a < 9223372036854775808) : (BitVec.ofInt 64 (a : Int)).toNat = a := by
  rw [BitVec.ofInt_natCast, BitVec.toNat_ofNat]; exact Nat.mod_eq_of_lt (by omega)
theorem i64_xor_nat (a b : Nat) (ha : a < 9223372036854775808) (hb : b < 9223372036854775808) : bits .xor .i64 (a : Int) (b : Int) = ((a ^^^ b : Nat) : Int) := by
  have hx : a ^^^ b < 2 ^ 63 := Nat.xor_lt_two_pow (by omega) (by omega)
  show IntKind.i64.wrap ((BitVec.ofInt 64 (a : Int) ^^^ BitVec.ofInt 64 (b : Int)).toNat : Int) = _
  rw [BitVec.toNat_xor, ofInt_i64 a ha, ofInt_i64 b hb, IntKind.wrap_i64]
  omega
theorem xor_dig {x y : UInt8} (hx : 0 ≤ dig x) (hy : 0 ≤ dig y) : bits .xor .i64 (dig x) (dig y) = (xn x y : Nat) := by
  have h1 := dig_bd x
  have h2 := dig_bd y
  have e1 : dig x = ((dig x).toNat : Int) := by omega
  have e2 : dig y = ((dig y).toNat : Int) := by omega
  rw [e1, e2, i64_xor_nat _ _ (by omega) (by omega)]
  simp [xn]

/-- 'string([]byte{v})': a block of bytes that was just made. -/
theorem run_conv_new {P : Program} (w : World) (src dst e : TypeId) (hs : P.underlying src = some (.slice e)) (he : P.underlying e = some (.int .u8)) (hd : P.underlying dst = some .string) (ns : List Int) :
    (convert src dst (.slice (some ⟨w.heap.size, 0, none⟩) ns.length ns.length)).run P (w.alloc (.cells (ns.map (Value.int .u8)).toArray e)) = .ok (.string (S (ns.map fun n => UInt8.ofNat n.toNat))) (w.alloc (.cells (ns.map (Value.int .u8)).toArray e)) := by
  rw [run_convert_bytes_string _ src dst e _ _ _ hs he hd]
  have hl := run_loadCells_list (P := P) (w.alloc (.cells (ns.map (Value.int .u8)).toArray e)) ⟨w.heap.size, 0, none⟩ (ns.map (Value.int .u8)) (fun j v hj => by
    unfold Addr.add
    split
    · rename_i h; subst h; rw [World.cell?_alloc_mark]; simpa using hj
    · rw [World.cell?_alloc_mark]; simpa using hj)
  simp only [List.length_map] at hl
  rw [run_bytesToString _ _ _ _ _ hl]
  congr 2
  apply L_inj
  have : ∀ (l : List Int) (r : ByteArray), L (l.foldl (fun r n => r.push (UInt8.ofNat n.toNat)) r) = L r ++ l.map fun n => UInt8.ofNat n.toNat := by
    intro l
    induction l with
    | nil => intro r; simp
    | cons a l ih => intro r; simp only [List.foldl_cons, ih, List.map_cons]; simp [L]
  rw [this, L_S]
  simp [L]

/-- What XorTapes answers. -/
def xorT (v u : ByteArray) : ByteArray × Bool := if tapeB v = true ∧ tapeB u = true ∧ v.size = u.size then (S (xorL (L v) (L u)), true) else (S [], false)

/-- What DeltaTape answers. -/
def deltaT (v : ByteArray) : ByteArray := if tapeB v = true then S (xorL (L v) (L v).tail) else S []
theorem deltaL_take_succ {v : ByteArray} {k : Nat} (hv : k + 1 < v.size) :
    (xorL (L v) (L v).tail).take (k + 1) = (xorL (L v) (L v).tail).take k ++ [letr (xn v[k] v[k + 1] : Nat)] := by
  have hl : k < (xorL (L v) (L v).tail).length := by rw [length_xorL, List.length_tail, size_L]; omega
  rw [List.take_succ_eq_append_getElem hl]
  simp [xorL, getElem_L]

theorem ret_int {k : IntKind} {a b : Int} (h : a = b) : Ending.returned (.int k a) = .returned (.int k b) := by rw [h]
theorem ret_bool {a b : Bool} (h : a = b) : Ending.returned (.bool a) = .returned (.bool b) := by rw [h]
theorem ret_str {a b : ByteArray} (h : a = b) : Ending.returned (.string a) = .returned (.string b) := by rw [h]
theorem ret_sb {a b : ByteArray} {c d : Bool} (h : a = b) (h' : c = d) : Ending.returned (.tuple #[.string a, .bool c]) = .returned (.tuple #[.string b, .bool d]) := by rw [h, h']
end Go.Proofs.YtlpfhabfbnjnbaaDoor

/- Cages, plain: texts cut at a byte, decimal numbers, what the text of a cage says. -/
namespace Go.Proofs.YtlpfhabfbnjnbaaDoor
open Go.RowKit

/-- A text cut at every byte c. -/
def spl (c : UInt8) : List UInt8 → List (List UInt8)
  | [] => [[]]
  | b :: l => if b = c then [] :: spl c l else
    match spl c l with
    | [] => [[b]]
    | x :: r => (b :: x) :: r
theorem spl_ne (c : UInt8) : ∀ l, spl c l ≠ []
  | [] => by simp [spl]
  | b :: l => by
    unfold spl
    split
    · simp
    · split <;> simp
theorem spl_free {c : UInt8} : ∀ {a : List UInt8}, c ∉ a → spl c a = [a]
  | [], _ => rfl
  | b :: a, h => by
    have h1 : ¬ b = c := fun e => h (by simp [e])
    have h2 := spl_free (c := c) (a := a) (fun m => h (by simp [m]))
    rw [spl, if_neg h1, h2]
theorem spl_at {c : UInt8} : ∀ {a b : List UInt8}, c ∉ a → spl c (a ++ c :: b) = a :: spl c b
  | [], b, _ => by simp [spl]
  | x :: a, b, h => by
    have h1 : ¬ x = c := fun e => h (by simp [e])
    have h2 := spl_at (c := c) (a := a) (b := b) (fun m => h (by simp [m]))
    rw [List.cons_append, spl, if_neg h1, h2]
/-- A text either has no byte c, or has a first one. -/
theorem first_of (c : UInt8) : ∀ l : List UInt8, c ∉ l ∨ ∃ a b, l = a ++ c :: b ∧ c ∉ a
  | [] => .inl (by simp)
  | x :: l => by
    by_cases h : x = c
    · exact .inr ⟨[], l, by rw [h]; rfl, by simp⟩
    · rcases first_of c l with h1 | ⟨a, b, rfl, h1⟩
      · exact .inl (by simp [h1, Ne.symm h])
      · exact .inr ⟨x :: a, b, rfl, by simp [h1, Ne.symm h]⟩
theorem first_len {c : UInt8} {l a b : List UInt8} (h : l = a ++ c :: b) : b.length < l.length := by rw [h]; simp; omega
theorem spl_clean (c : UInt8) (l : List UInt8) : ∀ p ∈ spl c l, c ∉ p := by
  rcases first_of c l with h | ⟨a, b, e, ha⟩
  · rw [spl_free h]; simp [h]
  · have ih := spl_clean c b
    rw [e, spl_at ha]
    intro p hp
    rcases List.mem_cons.1 hp with rfl | hp
    · exact ha
    · exact ih p hp
termination_by l.length
decreasing_by exact first_len e
theorem spl_count (c : UInt8) (l : List UInt8) : (spl c l).length = l.count c + 1 := by
  rcases first_of c l with h | ⟨a, b, e, ha⟩
  · rw [spl_free h, List.count_eq_zero.2 h]; rfl
  · have ih := spl_count c b
    rw [e, spl_at ha, List.count_append, List.count_eq_zero.2 ha, List.length_cons, ih]
    simp
termination_by l.length
decreasing_by exact first_len e
theorem join_two (x y : List UInt8) (r : List (List UInt8)) (sep : List UInt8) : Lib.join (x :: y :: r) sep = x ++ (sep ++ Lib.join (y :: r) sep) := by
  rw [Lib.join_cons, Lib.join_cons]
  simp [Lib.joinTail]
theorem join_spl (c : UInt8) (l : List UInt8) : Lib.join (spl c l) [c] = l := by
  rcases first_of c l with h | ⟨a, b, e, ha⟩
  · rw [spl_free h, Lib.join_one]
  · have ih := join_spl c b
    rw [e, spl_at ha]
    cases hs : spl c b with
    | nil => exact absurd hs (spl_ne c b)
    | cons y r =>
      rw [join_two, ← hs, ih]
      rfl
termination_by l.length
decreasing_by exact first_len e
theorem spl_join {c : UInt8} : ∀ {ps : List (List UInt8)}, ps ≠ [] → (∀ p ∈ ps, c ∉ p) → spl c (Lib.join ps [c]) = ps
  | [], h, _ => absurd rfl h
  | [x], _, h => by rw [Lib.join_one, spl_free (h x (by simp))]
  | x :: y :: r, _, h => by
    rw [join_two, List.singleton_append, spl_at (h x (by simp)), spl_join (ps := y :: r) (by simp) (fun p hp => h p (by simp [List.mem_cons.1 hp]))]

/-- What the library's Index says of one byte. -/
theorem index_free {c : UInt8} : ∀ {l : List UInt8}, c ∉ l → Lib.index l [c] = -1
  | [], _ => rfl
  | b :: l, h => by
    have h1 : ¬ c = b := fun e => h (by simp [e])
    have h2 := index_free (c := c) (l := l) (fun m => h (by simp [m]))
    unfold Lib.index
    rw [h2]
    simp [List.isPrefixOf, h1]
theorem index_at {c : UInt8} : ∀ {a b : List UInt8}, c ∉ a → Lib.index (a ++ c :: b) [c] = (a.length : Int)
  | [], b, _ => by
    show Lib.index (c :: b) [c] = _
    unfold Lib.index
    simp [List.isPrefixOf]
  | x :: a, b, h => by
    have h1 : ¬ c = x := fun e => h (by simp [e])
    have h2 := index_at (c := c) (a := a) (b := b) (fun m => h (by simp [m]))
    rw [List.cons_append]
    unfold Lib.index
    rw [h2]
    have h3 : ¬ (a.length : Int) = -1 := by omega
    simp [List.isPrefixOf, h1, h3]
theorem countFrom_one (c : UInt8) : ∀ (fuel : Nat) (l : List UInt8), l.length < fuel → Lib.countFrom [c] fuel l = l.count c
  | 0, l, h => by omega
  | fuel + 1, l, h => by
    unfold Lib.countFrom
    rcases first_of c l with h1 | ⟨a, b, e, ha⟩
    · rw [index_free h1, List.count_eq_zero.2 h1]; rfl
    · have hl := first_len e
      have ih := countFrom_one c fuel b (by omega)
      rw [e, index_at ha]
      have hn : ¬ (((a.length : Int) == -1) = true) := by rw [beq_iff_eq]; omega
      rw [if_neg hn]
      have hd : (a ++ c :: b).drop ((a.length : Int).toNat + [c].length) = b := by simp
      rw [hd, ih, List.count_append, List.count_eq_zero.2 ha]
      simp; omega
theorem count_one (c : UInt8) (l : List UInt8) : Lib.count l [c] = l.count c := countFrom_one c _ l (by omega)
theorem splitK_one (c : UInt8) : ∀ (k : Nat) (l : List UInt8), l.count c ≤ k → Lib.splitK [c] 0 k l = spl c l
  | 0, l, h => by
    have h1 : c ∉ l := List.count_eq_zero.1 (by omega)
    rw [spl_free h1]; rfl
  | k + 1, l, h => by
    unfold Lib.splitK
    rcases first_of c l with h1 | ⟨a, b, e, ha⟩
    · rw [index_free h1, spl_free h1]; rfl
    · rw [e, List.count_append, List.count_eq_zero.2 ha] at h
      have ih := splitK_one c k b (by simp at h; omega)
      rw [e, index_at ha]
      have hn : ¬ (((a.length : Int) == -1) = true) := by rw [beq_iff_eq]; omega
      rw [if_neg hn]
      have hd : (a ++ c :: b).drop ((a.length : Int).toNat + [c].length) = b := by simp
      have ht : (a ++ c :: b).take ((a.length : Int).toNat + 0) = a := by simp
      rw [hd, ht, ih, spl_at ha]
/-- The pieces as strings. -/
theorem splitB_one (c : UInt8) (s : ByteArray) : Lib.splitB ⟨#[c]⟩ 0 (Lib.countB s ⟨#[c]⟩) s = (spl c (L s)).map S := by
  have h := Lib.splitB_data ⟨#[c]⟩ 0 (Lib.countB s ⟨#[c]⟩) s
  have hk : Lib.splitK ([c] : List UInt8) 0 (Lib.countB s ⟨#[c]⟩) (L s) = spl c (L s) := splitK_one c _ _ (by
    show _ ≤ Lib.count (L s) [c]
    rw [count_one]; exact Nat.le_refl _)
  have h' : (Lib.splitB ⟨#[c]⟩ 0 (Lib.countB s ⟨#[c]⟩) s).map L = spl c (L s) := h.trans hk
  rw [← h', List.map_map]
  have : (S ∘ L) = id := funext fun x => S_L x
  rw [this, List.map_id]
theorem countB_one (c : UInt8) (s : ByteArray) : Lib.countB s ⟨#[c]⟩ + 1 = (spl c (L s)).length := by
  rw [spl_count]
  show Lib.count (L s) [c] + 1 = _
  rw [count_one]

/-- The digits of a small number. -/
theorem dec_lt {n : Nat} (h : n < 100) : Lib.decDigits n = if n < 10 then [UInt8.ofNat (48 + n)] else [UInt8.ofNat (48 + n / 10), UInt8.ofNat (48 + n % 10)] := by
  split
  · exact Lib.decDigits_one ‹_›
  · exact Lib.decDigits_two ‹_› h
theorem atoi_fin : ∀ p : Fin 100, Lib.atoiAll (if p.val < 10 then [UInt8.ofNat (48 + p.val)] else [UInt8.ofNat (48 + p.val / 10), UInt8.ofNat (48 + p.val % 10)]) = .ok (p.val : Int) := by decide +kernel
theorem atoi_dec {n : Nat} (h : n < 100) : Lib.atoiAll (Lib.decDigits n) = .ok (n : Int) := by
  rw [dec_lt h]; exact atoi_fin ⟨n, h⟩
theorem dec_inj {a b : Nat} (ha : a < 100) (hb : b < 100) (h : Lib.decDigits a = Lib.decDigits b) : a = b := by
  have h1 := atoi_dec ha
  rw [h, atoi_dec hb] at h1
  injection h1 with h1
  omega
theorem dig_fin : ∀ p : Fin 100, ((if p.val < 10 then [UInt8.ofNat (48 + p.val)] else [UInt8.ofNat (48 + p.val / 10), UInt8.ofNat (48 + p.val % 10)]) : List UInt8).all (fun c => decide (48 ≤ c.toNat) && decide (c.toNat ≤ 57)) = true := by decide +kernel
theorem dec_dig {n : Nat} (h : n < 100) : ∀ c ∈ Lib.decDigits n, 48 ≤ c.toNat ∧ c.toNat ≤ 57 := by
  rw [dec_lt h]
  intro c hc
  have := List.all_eq_true.1 (dig_fin ⟨n, h⟩) c hc
  simpa using this
theorem dec_len {n : Nat} (h : n < 100) : 1 ≤ (Lib.decDigits n).length ∧ (Lib.decDigits n).length ≤ 2 := by
  rw [dec_lt h]; split <;> simp

/-- Whether a number is a bar for n wheels. -/
def barB (n : Nat) (b : Int) : Bool := decide (0 ≤ b) && decide (b < 2 ^ n)
/-- Whether a cage is valid. -/
def cageB (ws : List ByteArray) (bs : List Int) : Bool := (decide (1 ≤ ws.length) && decide (ws.length ≤ 4) && decide (1 ≤ bs.length) && decide (bs.length ≤ 9)) && (ws.all bitsB && bs.all (barB ws.length))
/-- A bar's digits. -/
def dcB (b : Int) : List UInt8 := Lib.decDigits b.toNat
def fmtL (ws : List ByteArray) (bs : List Int) : List UInt8 := Lib.join (ws.map L) [32] ++ 47 :: Lib.join (bs.map dcB) [32]
/-- The text of a cage. -/
def fmtC (ws : List ByteArray) (bs : List Int) : ByteArray := if cageB ws bs = true then S (fmtL ws bs) else S []
/-- The text s is that of this cage. -/
def ansIs (s : ByteArray) (ws : List ByteArray) (bs : List Int) : Prop := cageB ws bs = true ∧ fmtC ws bs = s
theorem cage_iff {ws : List ByteArray} {bs : List Int} : cageB ws bs = true ↔ (1 ≤ ws.length ∧ ws.length ≤ 4 ∧ 1 ≤ bs.length ∧ bs.length ≤ 9) ∧ (∀ s ∈ ws, bitsB s = true) ∧ ∀ b ∈ bs, 0 ≤ b ∧ b < 2 ^ ws.length := by
  simp [cageB, barB, List.all_eq_true, and_assoc]
theorem cage_bar {ws : List ByteArray} {bs : List Int} (h : cageB ws bs = true) : ∀ b ∈ bs, 0 ≤ b ∧ b < 16 := by
  obtain ⟨⟨-, h1, -⟩, -, h2⟩ := cage_iff.1 h
  intro b hb
  have := h2 b hb
  have h3 : (2 : Int) ^ ws.length ≤ 2 ^ 4 := by
    have : (2 : Nat) ^ ws.length ≤ 2 ^ 4 := Nat.pow_le_pow_right (by omega) h1
    exact_mod_cast this
  omega
theorem whl_bytes {s : ByteArray} (h : bitsB s = true) : ∀ c ∈ L s, c = 48 ∨ c = 49 := by
  simp only [bitsB, Bool.and_eq_true, List.all_eq_true] at h
  intro c hc
  have := h.2 c hc
  simp only [isBit, Bool.or_eq_true, beq_iff_eq] at this
  exact this.imp (fun e => UInt8.toNat_inj.1 e) (fun e => UInt8.toNat_inj.1 e)
theorem join_free {c d : UInt8} (hne : c ≠ d) : ∀ {ps : List (List UInt8)}, (∀ p ∈ ps, c ∉ p) → c ∉ Lib.join ps [d]
  | [], _ => by simp [Lib.join_nil]
  | [x], h => by rw [Lib.join_one]; exact h x (by simp)
  | x :: y :: r, h => by
    rw [join_two]
    have h2 := join_free hne (ps := y :: r) (fun p hp => h p (by simp [List.mem_cons.1 hp]))
    have h1 := h x (by simp)
    simp [h1, h2, hne]
theorem dcB_free {b : Int} (h : 0 ≤ b ∧ b < 16) : (32 : UInt8) ∉ dcB b := fun hc => by
  have h2 := (dec_dig (n := b.toNat) (by omega) _ hc).1
  have e : (32 : UInt8).toNat = 32 := rfl
  omega
/-- What the text of a valid cage says. -/
theorem ans_iff {s : ByteArray} {ws : List ByteArray} {bs : List Int} (hc : cageB ws bs = true) {A B : List UInt8} (hs : L s = A ++ 47 :: B) (hA : (47 : UInt8) ∉ A) : ansIs s ws bs ↔ ws.map L = spl 32 A ∧ bs.map dcB = spl 32 B := by
  have hb := cage_bar hc
  obtain ⟨⟨h1, h2, h3, h4⟩, hw, -⟩ := cage_iff.1 hc
  have e : ansIs s ws bs ↔ fmtL ws bs = L s := by
    unfold ansIs fmtC
    rw [if_pos hc]
    exact ⟨fun h => by rw [← h.2, L_S], fun h => ⟨hc, by rw [h, S_L]⟩⟩
  have hf : ∀ p ∈ ws.map L, ∀ c, c ∈ p → c = 48 ∨ c = 49 := by
    intro p hp
    obtain ⟨t, ht, rfl⟩ := List.mem_map.1 hp
    exact whl_bytes (hw t ht)
  have hf32 : ∀ p ∈ ws.map L, (32 : UInt8) ∉ p := fun p hp hcp => by rcases hf p hp _ hcp with h | h <;> exact absurd h (by decide)
  have hf47 : ∀ p ∈ ws.map L, (47 : UInt8) ∉ p := fun p hp hcp => by rcases hf p hp _ hcp with h | h <;> exact absurd h (by decide)
  have hd32 : ∀ p ∈ bs.map dcB, (32 : UInt8) ∉ p := by
    intro p hp
    obtain ⟨t, ht, rfl⟩ := List.mem_map.1 hp
    exact dcB_free (hb t ht)
  have hwn : ws.map L ≠ [] := fun h => by rw [List.map_eq_nil_iff] at h; rw [h] at h1; simp at h1
  have hbn : bs.map dcB ≠ [] := fun h => by rw [List.map_eq_nil_iff] at h; rw [h] at h3; simp at h3
  rw [e, hs]
  constructor
  · intro h
    have hj : (47 : UInt8) ∉ Lib.join (ws.map L) [32] := join_free (by decide) hf47
    have h' := congrArg (spl 47) h
    unfold fmtL at h'
    rw [spl_at hj, spl_at hA] at h'
    injection h' with e1 e2
    have e3 : Lib.join (bs.map dcB) [32] = B := by rw [← join_spl 47 B, ← e2, join_spl]
    exact ⟨by rw [← e1, spl_join hwn hf32], by rw [← e3, spl_join hbn hd32]⟩
  · rintro ⟨e1, e2⟩
    unfold fmtL
    rw [e1, e2, join_spl, join_spl]
theorem map_L_inj {a b : List ByteArray} (h : a.map L = b.map L) : a = b := by
  have := congrArg (List.map S) h
  rw [List.map_map, List.map_map] at this
  have e : (S ∘ L) = id := funext fun x => S_L x
  rw [e, List.map_id, List.map_id] at this
  exact this
theorem dcB_inj : ∀ {a b : List Int}, (∀ x ∈ a, 0 ≤ x ∧ x < 100) → (∀ x ∈ b, 0 ≤ x ∧ x < 100) → a.map dcB = b.map dcB → a = b
  | [], [], _, _, _ => rfl
  | [], _ :: _, _, _, h => by simp at h
  | _ :: _, [], _, _, h => by simp at h
  | x :: a, y :: b, ha, hb, h => by
    simp only [List.map_cons, List.cons.injEq] at h
    have h1 := ha x (by simp)
    have h2 := hb y (by simp)
    have e1 := dec_inj (by omega) (by omega) h.1
    rw [dcB_inj (fun z hz => ha z (by simp [hz])) (fun z hz => hb z (by simp [hz])) h.2]
    congr 1
    omega
/-- The text of a cage has a byte '/'. -/
theorem ans_cut {s : ByteArray} {ws : List ByteArray} {bs : List Int} (h : ansIs s ws bs) : (47 : UInt8) ∈ L s := by
  have h2 := h.2
  unfold fmtC at h2
  rw [if_pos h.1] at h2
  rw [← h2, L_S]
  simp [fmtL]
theorem ans_size {s : ByteArray} {ws : List ByteArray} {bs : List Int} (h : ansIs s ws bs) : 0 < s.size := by
  have := ans_cut h
  rw [← size_L]
  exact List.length_pos_of_mem this
/-- A text is that of one cage at most. -/
theorem ans_one {s : ByteArray} {ws ws' : List ByteArray} {bs bs' : List Int} (h : ansIs s ws bs) (h' : ansIs s ws' bs') : ws = ws' ∧ bs = bs' := by
  rcases first_of 47 (L s) with h1 | ⟨A, B, e, hA⟩
  · exact absurd (ans_cut h) h1
  · obtain ⟨a1, a2⟩ := (ans_iff h.1 e hA).1 h
    obtain ⟨b1, b2⟩ := (ans_iff h'.1 e hA).1 h'
    refine ⟨map_L_inj (a1.trans b1.symm), dcB_inj (fun x hx => ?_) (fun x hx => ?_) (a2.trans b2.symm)⟩
    · have := cage_bar h.1 x hx; omega
    · have := cage_bar h'.1 x hx; omega
/-- The spaces in the text of a cage. -/
theorem ans_spaces {s : ByteArray} {ws : List ByteArray} {bs : List Int} (h : ansIs s ws bs) : (L s).count 32 ≤ 11 := by
  rcases first_of 47 (L s) with h1 | ⟨A, B, e, hA⟩
  · exact absurd (ans_cut h) h1
  · obtain ⟨a1, a2⟩ := (ans_iff h.1 e hA).1 h
    obtain ⟨⟨h1, h2, h3, h4⟩, -, -⟩ := cage_iff.1 h.1
    have c1 := congrArg List.length a1
    have c2 := congrArg List.length a2
    rw [List.length_map, spl_count] at c1 c2
    rw [e, List.count_append, List.count_cons]
    simp
    omega
/-- Numbers that a text's pieces say: right where the piece is a small number's digits. -/
def saysN (ts : List (List UInt8)) (vs : List Int) : Prop := vs.length ≤ ts.length ∧ ∀ i (h : i < vs.length) (h' : i < ts.length) (n : Nat), n < 100 → ts[i] = Lib.decDigits n → vs[i] = (n : Int)
theorem says_nil (ts : List (List UInt8)) : saysN ts [] := ⟨Nat.zero_le _, fun i h => absurd h (by simp)⟩
theorem says_snoc {ts : List (List UInt8)} {vs : List Int} {v : Int} (h : saysN ts vs) (hl : vs.length < ts.length) (hv : ∀ n : Nat, n < 100 → ts[vs.length] = Lib.decDigits n → v = (n : Int)) : saysN ts (vs ++ [v]) := by
  refine ⟨by simp; omega, fun i h1 h2 n hn e => ?_⟩
  simp only [List.length_append, List.length_cons, List.length_nil] at h1
  by_cases hi : i < vs.length
  · rw [List.getElem_append_left hi]; exact h.2 i hi h2 n hn e
  · have : i = vs.length := by omega
    subst this
    rw [List.getElem_append_right (by omega)]
    simpa using hv n hn e
theorem says_all {ts : List (List UInt8)} {vs bs : List Int} (h : saysN ts vs) (hl : vs.length = bs.length) (hb : ∀ b ∈ bs, 0 ≤ b ∧ b < 16) (e : bs.map dcB = ts) : vs = bs := by
  subst e
  refine List.ext_getElem hl fun i h1 h2 => ?_
  have hb' := hb _ (List.getElem_mem h2)
  have := h.2 i h1 (by simp; exact h2) bs[i].toNat (by omega) (by simp [dcB])
  omega
/-- What is read of a text is its cage, if it has one. -/
theorem ans_read {s : ByteArray} {A B : List UInt8} (e : L s = A ++ 47 :: B) (hA : (47 : UInt8) ∉ A) {vs : List Int} (hv : saysN (spl 32 B) vs) (hl : min 10 (spl 32 B).length ≤ vs.length) {ws : List ByteArray} {bs : List Int} (h : ansIs s ws bs) : ws = (spl 32 A).map S ∧ bs = vs := by
  obtain ⟨a1, a2⟩ := (ans_iff h.1 e hA).1 h
  obtain ⟨⟨h1, h2, h3, h4⟩, -, -⟩ := cage_iff.1 h.1
  have c2 := congrArg List.length a2
  rw [List.length_map] at c2
  have hvl := hv.1
  refine ⟨map_L_inj ?_, (says_all hv (by omega) (cage_bar h.1) a2).symm⟩
  rw [a1, List.map_map]
  have e2 : (L ∘ S) = id := funext fun x => L_S x
  rw [e2, List.map_id]
theorem fmt_ne {ws : List ByteArray} {bs : List Int} {s : ByteArray} (hs : 0 < s.size) (h : fmtC ws bs = s) : ansIs s ws bs := by
  by_cases hc : cageB ws bs = true
  · exact ⟨hc, h⟩
  · unfold fmtC at h
    rw [if_neg hc] at h
    rw [← h, size_S] at hs
    simp at hs
theorem ans_atoi {s : ByteArray} {A B : List UInt8} (e : L s = A ++ 47 :: B) (hA : (47 : UInt8) ∉ A) {ws : List ByteArray} {bs : List Int} (h : ansIs s ws bs) : ∀ t ∈ spl 32 B, ∃ n : Nat, n < 16 ∧ t = Lib.decDigits n ∧ Lib.atoiAll t = .ok (n : Int) := by
  obtain ⟨-, a2⟩ := (ans_iff h.1 e hA).1 h
  intro t ht
  rw [← a2] at ht
  obtain ⟨b, hb, rfl⟩ := List.mem_map.1 ht
  have hb' := cage_bar h.1 b hb
  exact ⟨b.toNat, by omega, rfl, atoi_dec (n := b.toNat) (by omega)⟩
end Go.Proofs.YtlpfhabfbnjnbaaDoor

/- Contracts of the functions on letters, words and tapes that only compute. -/
namespace Go.Proofs.YtlpfhabfbnjnbaaDoor
open Go.RowKit

theorem l1In_any (n lo hi : Int) (w : World) :
    Calls Tryd.prog 54 #[.int .i64 n, .int .i64 lo, .int .i64 hi] w fun e w' => e = .returned (.bool (decide (lo ≤ n) && decide (n ≤ hi))) ∧ w = w' := by
  by_cases h1 : lo ≤ n <;> by_cases h2 : n ≤ hi
  all_goals
    go_enter Tryd.func54, Tryd.ntmps54
    go_wp2
    go_ret
    exact ⟨ret_bool (by simp [h1, h2]), rfl⟩

end Go.Proofs.YtlpfhabfbnjnbaaDoor

/- Words for memory: a row of the call's own, known cell by cell; making it, storing into it, reading it as a string. -/
namespace Go.Proofs.YtlpfhabfbnjnbaaDoor
open Go.RowKit

/-- Block g begins with the cells cs, none of them frozen. -/
structure Own (w : World) (g : Nat) (cs : List Value) : Prop where
  lt : g < w.heap.size
  cell : ∀ i, i < cs.length → w.cell? ⟨g, i, none⟩ = cs[i]?
  free : ∀ i, i < cs.length → w.frozen? ⟨g, i, none⟩ = false

section
variable {w w' : World} {g : Nat} {cs : List Value}
theorem Own.keep (h : Own w g cs) (hs : g < w'.heap.size) (hb : w'.heap[g]? = w.heap[g]?) : Own w' g cs :=
  ⟨hs, fun i hi => by rw [← h.cell i hi]; exact World.cell?_of_block (w := w) hb, fun i hi => by rw [← h.free i hi]; exact World.frozen?_of_block (w := w) hb⟩
theorem Own.drew (h : Own w g cs) : Own w.drew g cs := h.keep h.lt rfl
theorem Own.drewN (h : Own w g cs) (n : Nat) : Own (w.drewN n) g cs := h.keep h.lt rfl
theorem Own.below {B : Nat} (h : Own w g cs) (hb : Below B w w') (hg : g < B) : Own w' g cs := h.keep (Nat.lt_of_lt_of_le h.lt hb.size) (hb.block g hg)
theorem Own.grown {row : Option Nat} (h : Own w g cs) (hb : w.grownBy w' row) (hg : some g ≠ row) : Own w' g cs := h.keep (Nat.lt_of_lt_of_le h.lt hb.size) (hb.block g h.lt hg)
theorem Own.alloc (h : Own w g cs) (o : Obj) : Own (w.alloc o) g cs := h.keep (Nat.lt_of_lt_of_le h.lt (by simp)) (Below.heap_alloc w o g h.lt)
theorem Own.far (h : Own w g cs) {p : Addr} (hp : g ≠ p.block) (u : Value) : Own (w.setCell p u) g cs := h.keep (by simpa [World.setCell] using h.lt) (Below.heap_setCell w p u g hp)
theorem Own.at_ (h : Own w g cs) {i : Nat} {u : Value} (hu : cs[i]? = some u) : w.cell? ⟨g, i, none⟩ = some u := by
  have hi : i < cs.length := by
    rcases Nat.lt_or_ge i cs.length with h1 | h1
    · exact h1
    · rw [List.getElem?_eq_none h1] at hu; cases hu
  rw [h.cell i hi, hu]
theorem Own.some_ (h : Own w g cs) {i : Nat} (hi : i < cs.length) : ∃ x, w.cell? ⟨g, i, none⟩ = some x := ⟨_, by rw [h.cell i hi, List.getElem?_eq_getElem hi]⟩
theorem Own.set_ (h : Own w g cs) {i : Nat} (hi : i < cs.length) (u : Value) : Own (w.setCell ⟨g, i, none⟩ u) g (cs.set i u) := by
  have hc := h.cell
  have hf := h.free
  have hlt := h.lt
  obtain ⟨o, ho⟩ : ∃ o, w.heap[g]? = some o := ⟨_, Array.getElem?_eq_getElem hlt⟩
  have h0 := hc i hi
  rw [List.getElem?_eq_getElem hi] at h0
  cases o with
  | cells C t fr =>
    refine ⟨by simpa [World.setCell] using hlt, fun j hj => ?_, fun j hj => ?_⟩
    · rw [List.length_set] at hj
      by_cases e : j = i
      · subst e
        rw [World.cell?_setCell_same w ⟨g, j, none⟩ u h0]
        simp [hi]
      · rw [World.cell?_setCell_other w ⟨g, i, none⟩ ⟨g, j, none⟩ u (by simp), hc j hj, List.getElem?_set_ne (by omega)]
    · rw [List.length_set] at hj
      rw [World.frozen?_setCell]
      exact hf j hj
  | _ => simp [World.cell?, ho] at h0
end

/-- The slice at address a begins with the cells xs; it lies below block B. -/
def Reads (w : World) (B : Nat) (a : Option Addr) (xs : List Value) : Prop :=
  xs = [] ∨ ∃ b off, a = some ⟨b, off, none⟩ ∧ b < B ∧ ∀ i, i < xs.length → w.cell? ⟨b, off + i, none⟩ = xs[i]?
section
variable {w w' : World} {B B' : Nat} {a : Option Addr} {xs : List Value}
theorem Reads.nil_ : Reads w B a [] := .inl rfl
theorem Reads.keep (h : Reads w B a xs) (hk : ∀ p : Addr, p.block < B → w'.cell? p = w.cell? p) : Reads w' B a xs := by
  rcases h with h | ⟨b, off, ha, hb, hc⟩
  · exact .inl h
  · exact .inr ⟨b, off, ha, hb, fun i hi => by rw [hk _ hb]; exact hc i hi⟩
theorem Reads.more (h : Reads w B a xs) (hB : B ≤ B') : Reads w B' a xs := by
  rcases h with h | ⟨b, off, ha, hb, hc⟩
  · exact .inl h
  · exact .inr ⟨b, off, ha, by omega, hc⟩
theorem Reads.below (h : Reads w B a xs) {C : Nat} (hb : Below C w w') (hC : B ≤ C) : Reads w' B a xs := h.keep fun _ hp => hb.cell (by omega)
theorem Reads.grown (h : Reads w B a xs) {g : Nat} (hg : w.grownBy w' (some g)) (hB : B ≤ w.heap.size) (hr : B ≤ g) : Reads w' B a xs :=
  h.keep fun p hp => World.cell?_of_block (hg.block p.block (by omega) (by simp; omega))
theorem Reads.open_ (h : Reads w B a xs) (hn : 0 < xs.length) : ∃ b off, a = some ⟨b, off, none⟩ ∧ b < B ∧ ∀ i, i < xs.length → w.cell? ⟨b, off + i, none⟩ = xs[i]? := by
  rcases h with h | h
  · subst h; simp at hn
  · exact h
theorem Reads.of_own {g : Nat} {cs : List Value} (h : Own w g cs) (hg : g < B) : Reads w B (some ⟨g, 0, none⟩) cs :=
  .inr ⟨g, 0, rfl, hg, fun i hi => by rw [Nat.zero_add]; exact h.cell i hi⟩
end
/-- The cells of some strings. -/
def sv (ss : List ByteArray) : List Value := ss.map .string
theorem length_sv (ss : List ByteArray) : (sv ss).length = ss.length := by simp [sv]
theorem sv_at {ss : List ByteArray} {i : Nat} (h : i < ss.length) : (sv ss)[i]? = some (.string ss[i]) := by simp [sv, List.getElem?_eq_getElem h]

/-- The cells of some bytes. -/
def bv (l : List UInt8) : List Value := l.map fun b => .int .u8 (b.toNat : Int)
theorem length_bv (l : List UInt8) : (bv l).length = l.length := by simp [bv]
theorem bv_at {l : List UInt8} {i : Nat} (h : i < l.length) : (bv l)[i]? = some (.int .u8 (l[i].toNat : Int)) := by simp [bv, List.getElem?_eq_getElem h]
theorem bv_set (l : List UInt8) (i : Nat) (c : UInt8) : (bv l).set i (.int .u8 (c.toNat : Int)) = bv (l.set i c) := by simp [bv, List.map_set]

/-- A row that is filled from the left: one more. -/
theorem fill_set {α : Type} {A R : List α} {k : Nat} (hA : k < A.length) (hR : R.length = A.length) :
    (A.take k ++ R.drop k).set k A[k] = A.take (k + 1) ++ R.drop (k + 1) := by
  have hl : (A.take k).length = k := by simp; omega
  rw [List.set_append_right _ _ (by omega), hl, Nat.sub_self, List.take_succ_eq_append_getElem hA, List.append_assoc]
  congr 1
  rw [List.drop_eq_getElem_cons (by omega)]
  rfl
theorem fill_len {α : Type} {A R : List α} {k : Nat} (hR : R.length = A.length) (hk : k ≤ A.length) : (A.take k ++ R.drop k).length = A.length := by simp; omega

/-- 'string(b)' of a row of the call's own. -/
theorem Own.conv {P : Program} {w : World} {g : Nat} {l : List UInt8} (h : Own w g (bv l)) (src dst e : TypeId) (hs : P.underlying src = some (.slice e)) (he : P.underlying e = some (.int .u8)) (hd : P.underlying dst = some .string) {n : Nat} (hn : n = l.length) (cap : Nat) :
    (convert src dst (.slice (some ⟨g, 0, none⟩) n cap)).run P w = .ok (.string (S l)) w := by
  subst hn
  exact run_convert_bytes_back w src dst e ⟨g, 0, none⟩ cap l hs he hd (fun j hj => by
    have : w.cell? ⟨g, j, none⟩ = some (.int .u8 (l[j].toNat : Int)) := h.at_ (bv_at hj)
    unfold Addr.add
    split
    · rename_i h0; subst h0; exact this
    · simpa using this)

/-- 'make([]T, n)' of one-cell elements. -/
theorem run_make1 {P : Program} {t e : TypeId} {z : Value} {bytes : Nat} (ht : P.underlying t = some (.slice e)) (hz : (P.info? e).map (fun i => (i.zero, i.size, i.bytes)) = some (some z, 1, bytes)) (hc : z.cells = #[z])
    (n c : Nat) (hnc : n ≤ c) (hb : bytes * c ≤ 281474976710656) (h63 : c ≤ 9223372036854775807) (w : World) :
    (Instr.makeSlice t (.int .i64 (n : Int)) (.int .i64 (c : Int))).run P w = .ok (.slice (some ⟨w.heap.size, 0, none⟩) n c) (w.alloc (.cells (List.replicate c z).toArray e)) := by
  obtain ⟨i, hi, h1, h2, h3⟩ := info_parts hz
  have hbb : (i.bytes : Int) * (c : Int) ≤ 281474976710656 := by
    rw [h3]
    have h : ((bytes * c : Nat) : Int) ≤ 281474976710656 := by omega
    rwa [Int.natCast_mul] at h
  have hr := run_make (P := P) w t e i z ht hi h1 .i64 .i64 n c (by omega) (by omega) hbb (by omega)
  simp only [Int.toNat_natCast, h2, Nat.mul_one, hc] at hr
  rw [hr]
  congr 3
  rw [← toList_madeCells_one z c]

theorem Own.new (w : World) (cs : List Value) (t : TypeId) : Own (w.alloc (.cells cs.toArray t)) w.heap.size cs :=
  ⟨by simp, fun i hi => by rw [World.cell?_alloc_mark]; simp, fun i hi => by rw [World.frozen?_alloc_mark]; simp⟩

/-- The quiet walk at the class of one world is the still walk. -/
theorem wpStill_of_quiet {P : Program} {ops : Array Oper} {w1 : World} {Q : Act → Prop} : ∀ (l : List Oper) (a : Act), wpQuiet P ops (fun w' => w' = w1) Q l a → wpStill P ops w1 Q l a
  | [], _, h => h
  | o :: rest, a, h => by
    unfold wpQuiet at h
    unfold wpStill
    split
    · rename_i hw
      rw [if_pos hw] at h
      obtain ⟨v, hv, hn⟩ := h
      have hv := hv w1 rfl
      have hn' := wpStill_of_quiet rest _ hn
      unfold Oper.still
      unfold Oper.quietAt at hv
      generalize (execOp a.eval o).run P w1 = r at hv ⊢
      cases r with
      | ok n w' =>
        cases n <;> simp only [Oper.quietUpon] at hv <;> simp only [Oper.stillUpon]
        case value u => obtain ⟨h1, h2⟩ := hv; subst h2; exact ⟨h1, hn'⟩
        case skip => obtain ⟨h1, h2⟩ := hv; subst h2; exact ⟨h1, hn'⟩
        case enter f args => exact ⟨hv.1, v, hv.2, hn'⟩
      | halt x w' => simp only [Oper.quietUpon] at hv
    · rename_i hw
      rw [if_neg hw] at h
      exact wpStill_of_quiet rest _ h

/-- A region that draws, whose operations but the last ones read and call quietly. -/
theorem wp_region_tail {P : Program} {id : Nat} {Q : Exit → Act → World → Prop} {a : Act} {w : World} {l : List Oper} (n : Nat) (hm : P.follows .mixedOrders = true) (hB : Region.lexTailB .any l.toArray n = true)
    (h : wpQuiet P l.toArray (fun w' => w' = w.drew) (fun a' => wpList P l.toArray Q (l.drop n) a' w.drew) (l.take n) a) : (Code.region id l.toArray true).wp P Q a w :=
  wp_region_still_tail n hm hB (wpStill_of_quiet _ _ h)

/-- The worlds that are below B as w is. -/
def Cls (B : Nat) (w : World) : Type := { x : World // Below B w x }
def Cls.w {B : Nat} {w : World} (c : Cls B w) : World := c.1
theorem Cls.bel {B : Nat} {w : World} (c : Cls B w) : Below B w c.w := c.2
instance {B : Nat} {w : World} : Nonempty (Cls B w) := ⟨⟨w, Below.refl _ _⟩⟩
theorem Cls.cell {B : Nat} {w : World} (c : Cls B w) (b o : Nat) (h : b < B) : c.w.cell? ⟨b, o, none⟩ = w.cell? ⟨b, o, none⟩ := c.2.cell (p := ⟨b, o, none⟩) h

/-- A region that draws, whose operations read and whose calls may make memory: one walk in the text's order. -/
theorem wp_region_cls {P : Program} {id : Nat} {Q : Exit → Act → World → Prop} {a : Act} {w : World} {l : List Oper} (hm : P.follows .mixedOrders = true) (hB : Region.lexB .any l.toArray = true)
    (h : wpQuiet P l.toArray (fun w' => ∃ c : Cls w.heap.size w, w' = c.w) (fun a' => ∀ w', Below w.heap.size w w' → Q .normal a' w') l a) : (Code.region id l.toArray true).wp P Q a w := by
  refine wp_region_quiet (C := fun w' => ∃ c : Cls w.heap.size w, w' = c.w) hm hB ⟨⟨{ w with drawn := w.drawn + 1 }, (Below.refl _ _).drew⟩, rfl⟩ ?_
  have hq : ∀ (l' : List Oper) (a : Act), wpQuiet P l.toArray (fun w' => ∃ c : Cls w.heap.size w, w' = c.w) (fun a' => ∀ w', Below w.heap.size w w' → Q .normal a' w') l' a →
      wpQuiet P l.toArray (fun w' => ∃ c : Cls w.heap.size w, w' = c.w) (fun a' => ∀ w', (∃ c : Cls w.heap.size w, w' = c.w) → Q .normal a' w') l' a := by
    intro l'
    induction l' with
    | nil => intro a h w' ⟨c, hc⟩; exact h w' (hc ▸ c.2)
    | cons o rest ih =>
      intro a h
      unfold wpQuiet at h ⊢
      split
      · rename_i hw
        rw [if_pos hw] at h
        obtain ⟨v, hv, hn⟩ := h
        exact ⟨v, hv, ih _ hn⟩
      · rename_i hw
        rw [if_neg hw] at h
        exact ih _ h
  exact hq _ _ h
/-- A contract that makes memory, met in such a world. -/
theorem cls_of {P : Program} {f : FuncId} {args : Array Value} {B : Nat} {w : World} {c : Cls B w} {v : Value} (hB : B ≤ w.heap.size) (h : Calls P f args c.w fun e w' => e = .returned v ∧ Below c.w.heap.size c.w w') :
    Calls P f args c.w fun e w' => e = .returned v ∧ ∃ c' : Cls B w, w' = c'.w :=
  h.mono fun _ w' ⟨a, b⟩ => ⟨a, ⟨w', c.2.trans (b.mono (Nat.le_trans hB c.2.size))⟩, rfl⟩
theorem cls_same {P : Program} {f : FuncId} {args : Array Value} {B : Nat} {w : World} {c : Cls B w} {v : Value} (h : Calls P f args c.w fun e w' => e = .returned v ∧ c.w = w') :
    Calls P f args c.w fun e w' => e = .returned v ∧ ∃ c' : Cls B w, w' = c'.w :=
  h.mono fun _ _ ⟨a, b⟩ => ⟨a, c, b.symm⟩

/-- Two steps, each of which makes memory. -/
theorem bt {a b c : World} (h : Below a.heap.size a b) (k : Below b.heap.size b c) : Below a.heap.size a c := h.trans (k.mono h.size)

/-- A contract that leaves the world alone, as the still walk wants it. -/
theorem still_of {P : Program} {f : FuncId} {args : Array Value} {w : World} {v : Value} (h : Calls P f args w fun e w' => e = .returned v ∧ w = w') :
    Calls P f args w fun e w' => e = .returned v ∧ w' = w := h.mono fun _ _ ⟨a, b⟩ => ⟨a, b.symm⟩
end Go.Proofs.YtlpfhabfbnjnbaaDoor

/- Contracts of the functions that make letters and words. -/
namespace Go.Proofs.YtlpfhabfbnjnbaaDoor
open Go.RowKit

end Go.Proofs.YtlpfhabfbnjnbaaDoor

/- Contracts of the functions that look at wheels of bits and at teleprinter machines. -/
namespace Go.Proofs.YtlpfhabfbnjnbaaDoor
open Go.RowKit

theorem l15Bits_any (s : ByteArray) (w : World) (hs : s.size ≤ 4294967296) :
    Calls Tryd.prog 55 #[.string s] w fun e w' => e = .returned (.bool (bitsB s)) ∧ w = w' := by
  go_enter Tryd.func55, Tryd.ntmps55
  go_wp2
  go_loop [3] (fun i => ∃ k : Nat, k ≤ s.size ∧ i = .int .i64 k ∧ allTo isBit s k) (fun i => s.size - (intOf i).toNat)
  case atStart => exact ⟨0, Nat.zero_le _, rfl, allTo_zero _ _⟩
  case round =>
    obtain ⟨k, hk, rfl, ha⟩ := hrel
    by_cases hlt : k < s.size
    · have hb := byte_lt s[k]
      by_cases h0 : s[k].toNat = 48
      · have t0 : ((s[k].toNat : Int) != 48) = false := by simp [h0]
        have H0 := Lib.hid h0
        clear h0
        go_wp2
        go_round
        case rel => exact ⟨k + 1, by omega, by go_num, allTo_succ ha hlt (by simp [isBit, H0.out])⟩
        case measure => simp [intOf]; omega
      · have t0 : ((s[k].toNat : Int) != 48) = true := by rw [bne_iff_ne]; omega
        by_cases h1 : s[k].toNat = 49
        · have t1 : ((s[k].toNat : Int) != 49) = false := by simp [h1]
          have H1 := Lib.hid h1
          clear h1
          go_wp2
          go_round
          case rel => exact ⟨k + 1, by omega, by go_num, allTo_succ ha hlt (by simp [isBit, H1.out])⟩
          case measure => simp [intOf]; omega
        · have t1 : ((s[k].toNat : Int) != 49) = true := by rw [bne_iff_ne]; omega
          go_wp2
          go_ret
          exact ⟨ret_bool (bitsB_no hlt (by simp [isBit, h0, h1])).symm, rfl⟩
    · go_wp2_with (go_at_call 54; ((with_reducible refine (l1In_any _ _ _ _).mono ?_); rintro e w' ⟨rfl, rfl⟩))
      go_ret
      exact ⟨ret_bool (by
        by_cases h2 : 2 ≤ s.size
        · by_cases h9 : s.size ≤ 9
          · rw [bitsB_yes h2 h9 ha (by omega)]; simp; omega
          · simp [bitsB, h9]; omega
        · simp [bitsB, h2]; omega), rfl⟩

theorem wheelValid_any (s : ByteArray) (w : World) (hs : s.size ≤ 4294967296) :
    Calls Tryd.prog 34 #[.string s] w fun e w' => e = .returned (.bool (bitsB s)) ∧ w = w' := by
  by_cases h2 : 2 ≤ s.size
  · by_cases h9 : s.size ≤ 9
    · go_enter Tryd.func34, Tryd.ntmps34
      go_wp2
      go_loop [14] (fun i => ∃ k : Nat, k ≤ s.size ∧ i = .int .i64 k ∧ allTo isBit s k) (fun i => s.size - (intOf i).toNat)
      case atStart => exact ⟨0, Nat.zero_le _, rfl, allTo_zero _ _⟩
      case round =>
        obtain ⟨k, hk, rfl, ha⟩ := hrel
        by_cases hlt : k < s.size
        · have hb := byte_lt s[k]
          by_cases h0 : s[k].toNat = 48
          · have t0 : ((s[k].toNat : Int) != 48) = false := by simp [h0]
            have H0 := Lib.hid h0
            clear h0
            go_wp2
            go_round
            case rel => exact ⟨k + 1, by omega, by go_num, allTo_succ ha hlt (by simp [isBit, H0.out])⟩
            case measure => simp [intOf]; omega
          · have t0 : ((s[k].toNat : Int) != 48) = true := by rw [bne_iff_ne]; omega
            by_cases h1 : s[k].toNat = 49
            · have t1 : ((s[k].toNat : Int) != 49) = false := by simp [h1]
              have H1 := Lib.hid h1
              clear h1
              go_wp2
              go_round
              case rel => exact ⟨k + 1, by omega, by go_num, allTo_succ ha hlt (by simp [isBit, H1.out])⟩
              case measure => simp [intOf]; omega
            · have t1 : ((s[k].toNat : Int) != 49) = true := by rw [bne_iff_ne]; omega
              go_wp2
              go_ret
              exact ⟨ret_bool (bitsB_no hlt (by simp [isBit, h0, h1])).symm, rfl⟩
        · go_wp2
          go_ret
          exact ⟨ret_bool (bitsB_yes h2 h9 ha (by omega)).symm, rfl⟩
    · go_enter Tryd.func34, Tryd.ntmps34
      go_wp2
      go_ret
      exact ⟨ret_bool (by simp [bitsB, h9]), rfl⟩
  · go_enter Tryd.func34, Tryd.ntmps34
    go_wp2
    go_ret
    exact ⟨ret_bool (by simp [bitsB, h2]), rfl⟩

theorem Reads.alloc_ {w : World} {a : Option Addr} {xs : List Value} (h : Reads w w.heap.size a xs) (o : Obj) : Reads (w.alloc o) (w.alloc o).heap.size a xs :=
  (h.keep fun p hp => World.cell?_alloc_lt w o p hp).more (by simp)

/-- The first k wheels of both lists are wheels. -/
def wheelsTo (chi psi : List ByteArray) (k : Nat) : Prop := ∀ j (h1 : j < chi.length) (h2 : j < psi.length), j < k → bitsB chi[j] = true ∧ bitsB psi[j] = true
theorem wheelsTo_succ {chi psi : List ByteArray} {k : Nat} (h : wheelsTo chi psi k) (h1 : k < chi.length) (h2 : k < psi.length) (b1 : bitsB chi[k] = true) (b2 : bitsB psi[k] = true) : wheelsTo chi psi (k + 1) := by
  intro j hj1 hj2 hlt
  by_cases e : j = k
  · subst e; exact ⟨b1, b2⟩
  · exact h j hj1 hj2 (by omega)
theorem teleB_yes {chi psi : List ByteArray} {m : ByteArray} {k : Nat} (h : wheelsTo chi psi k) (l1 : chi.length = 3) (l2 : psi.length = 3) (hk : 3 ≤ k) (hm : bitsB m = true) : teleB chi psi m = true := by
  have a1 : chi.all bitsB = true := by
    rw [List.all_eq_true]; intro x hx
    obtain ⟨j, hj, rfl⟩ := List.getElem_of_mem hx
    exact (h j hj (by omega) (by omega)).1
  have a2 : psi.all bitsB = true := by
    rw [List.all_eq_true]; intro x hx
    obtain ⟨j, hj, rfl⟩ := List.getElem_of_mem hx
    exact (h j (by omega) hj (by omega)).2
  simp [teleB, l1, l2, a1, a2, hm]
theorem teleB_no1 {chi psi : List ByteArray} {m : ByteArray} {k : Nat} (h1 : k < chi.length) (b : bitsB chi[k] = false) : teleB chi psi m = false := by
  have : chi.all bitsB = false := by
    rw [List.all_eq_false]; exact ⟨chi[k], List.getElem_mem _, by simp [b]⟩
  simp [teleB, this]
theorem teleB_no2 {chi psi : List ByteArray} {m : ByteArray} {k : Nat} (h1 : k < psi.length) (b : bitsB psi[k] = false) : teleB chi psi m = false := by
  have : psi.all bitsB = false := by
    rw [List.all_eq_false]; exact ⟨psi[k], List.getElem_mem _, by simp [b]⟩
  simp [teleB, this]

end Go.Proofs.YtlpfhabfbnjnbaaDoor
