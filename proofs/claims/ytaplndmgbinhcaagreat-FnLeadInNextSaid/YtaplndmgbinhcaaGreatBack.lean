/- Plain laws on the windows from which a step leads to given ones. -/
import Derived.Test.YtaplndmgbinhcaaGreatMach
namespace Go.Proofs.YtaplndmgbinhcaaGreat

/-- The k last digits of a number. -/
def vwL : Nat → Nat → List Nat
  | 0, _ => []
  | k + 1, n => vwL k (n / 10) ++ [n % 10]
theorem len_vwL : ∀ k n, (vwL k n).length = k
  | 0, _ => rfl
  | k + 1, n => by simp [vwL, len_vwL k]
theorem vwL_lt : ∀ k n, ∀ x ∈ vwL k n, x < 10
  | 0, _, x, h => by simp [vwL] at h
  | k + 1, n, x, h => by
    simp only [vwL, List.mem_append, List.mem_singleton] at h
    rcases h with h | h
    · exact vwL_lt k _ x h
    · omega
theorem lex_left {a b : List UInt8} (c d : List UInt8) : a.length = b.length → a < b → a ++ c < b ++ d := by
  induction a generalizing b with
  | nil => intro hl h; cases b with
    | nil => exact absurd h (List.lt_irrefl [])
    | cons _ _ => simp at hl
  | cons x a ih => intro hl h; cases b with
    | nil => simp at hl
    | cons y b =>
      rw [List.cons_lt_cons_iff] at h
      simp only [List.cons_append, List.cons_lt_cons_iff]
      rcases h with h | ⟨rfl, h⟩
      · exact .inl h
      · exact .inr ⟨rfl, ih (by simpa using hl) h⟩
theorem lex_right (a : List UInt8) {c d : List UInt8} (h : c < d) : a ++ c < a ++ d := by
  induction a with
  | nil => exact h
  | cons x a ih => simp only [List.cons_append, List.cons_lt_cons_iff]; exact .inr ⟨trivial, ih⟩
theorem L_wd (l : List Nat) : L (wd l) = l.map fun n : Nat => letr (n : Int) := by unfold wd; rw [L_S]
theorem vwL_mono : ∀ k m n, m < n → n < 10 ^ k → L (wd (vwL k m)) < L (wd (vwL k n))
  | 0, m, n, h, hn => by simp at hn; omega
  | k + 1, m, n, h, hn => by
    rw [L_wd, L_wd]
    simp only [vwL, List.map_append]
    by_cases hq : m / 10 < n / 10
    · have := vwL_mono k (m / 10) (n / 10) hq (by rw [Nat.pow_succ] at hn; omega)
      rw [L_wd, L_wd] at this
      exact lex_left _ _ (by simp [len_vwL]) this
    · have he : m / 10 = n / 10 := by omega
      rw [he]
      refine lex_right _ ?_
      simp only [List.map_cons, List.map_nil, List.cons_lt_cons_iff]
      refine .inl (UInt8.lt_iff_toNat_lt.2 ?_)
      rw [letr_toNat, letr_toNat]; omega
theorem vwL_all : ∀ (k : Nat) (l : List Nat), l.length = k → (∀ x ∈ l, x < 10) → ∃ n, n < 10 ^ k ∧ vwL k n = l
  | 0, l, hl, _ => ⟨0, by simp, by simp [vwL, List.eq_nil_of_length_eq_zero hl]⟩
  | k + 1, l, hl, h => by
    obtain ⟨l', x, rfl⟩ : ∃ l' x, l = l' ++ [x] := ⟨l.dropLast, l.getLast (by intro e; simp [e] at hl), (List.dropLast_concat_getLast _).symm⟩
    obtain ⟨n, hn, e⟩ := vwL_all k l' (by simpa using hl) (fun y hy => h y (by simp [hy]))
    have hx := h x (by simp)
    refine ⟨n * 10 + x, by rw [Nat.pow_succ]; omega, ?_⟩
    simp only [vwL]
    rw [show (n * 10 + x) / 10 = n by omega, show (n * 10 + x) % 10 = x by omega, e]

/-- The first N words of a length, those that a step leads to v. -/
def backTo (x : Whl) (v : ByteArray) (N : Nat) : List ByteArray := ((List.range N).map fun k => wd (vwL v.size k)).filter fun u => decide (stepW x u = v)
theorem backTo_yes {x : Whl} {v : ByteArray} {k : Nat} (h : stepW x (wd (vwL v.size k)) = v) : backTo x v (k + 1) = backTo x v k ++ [wd (vwL v.size k)] := by
  simp [backTo, List.range_succ, List.filter_append, h]
theorem backTo_no {x : Whl} {v : ByteArray} {k : Nat} (h : stepW x (wd (vwL v.size k)) ≠ v) : backTo x v (k + 1) = backTo x v k := by
  simp [backTo, List.range_succ, List.filter_append, h]
theorem backTo_len (x : Whl) (v : ByteArray) (N : Nat) : (backTo x v N).length ≤ N := by
  have := List.length_filter_le (fun u => decide (stepW x u = v)) ((List.range N).map fun k => wd (vwL v.size k))
  simpa [backTo] using this
/-- What StepsBack answers. -/
def backS (x : Whl) (v : ByteArray) : List ByteArray := if fitB x v = true then backTo x v (10 ^ v.size) else []
theorem mem_backTo {x : Whl} {v u : ByteArray} (hs : v.size ≤ 200) : u ∈ backTo x v (10 ^ v.size) ↔ wordB u = true ∧ u.size = v.size ∧ stepW x u = v := by
  simp only [backTo, List.mem_filter, List.mem_map, List.mem_range, decide_eq_true_eq]
  constructor
  · rintro ⟨⟨k, hk, rfl⟩, h⟩
    exact ⟨word_wd (by rw [len_vwL]; exact hs), by rw [size_wd, len_vwL], h⟩
  · rintro ⟨h1, h2, h3⟩
    obtain ⟨n, hn, e⟩ := vwL_all v.size (dg u) (by rw [len_dg, h2]) (word_dg_lt h1)
    exact ⟨⟨n, hn, by rw [e, wd_dg h1]⟩, h3⟩
theorem backTo_asc (x : Whl) (v : ByteArray) : (backTo x v (10 ^ v.size)).Pairwise fun a b => L a < L b := by
  refine List.Pairwise.filter _ (List.pairwise_map.2 ?_)
  refine (List.pairwise_lt_range).imp_of_mem fun {a b} ha hb hab => ?_
  exact vwL_mono _ _ _ hab (by simpa using hb)

/-- The windows before a step that has moved the last rotor and those that m tells. -/
def befW (v : ByteArray) (m : Nat) : ByteArray := S ((List.range v.size).map fun i => if i + 1 = v.size ∨ m.testBit i = true then letr (dig (byteAt v i) + 9) else byteAt v i)
theorem size_befW (v : ByteArray) (m : Nat) : (befW v m).size = v.size := by simp [befW, size_S]
theorem byteAt_befW {v : ByteArray} {m i : Nat} (h : i < v.size) : byteAt (befW v m) i = if i + 1 = v.size ∨ m.testBit i = true then letr (dig (byteAt v i) + 9) else byteAt v i := by
  simp [byteAt, befW, L_S, List.getD, h]
theorem word_befW {v : ByteArray} (h : wordB v = true) (m : Nat) : wordB (befW v m) = true := by
  simp only [wordB, Bool.and_eq_true, decide_eq_true_eq] at h ⊢
  refine ⟨by rw [size_befW]; exact h.1, ?_⟩
  unfold befW
  rw [L_S, List.all_eq_true]
  intro c hc
  obtain ⟨i, hi, rfl⟩ := List.mem_map.1 hc
  have hi : i < v.size := by simpa using hi
  split
  · exact isL_letr _
  · rw [byteAt_get hi]; exact all_at h.2 i hi
theorem byteAt_word {v : ByteArray} (h : wordB v = true) {i : Nat} (hi : i < v.size) : 0 ≤ dig (byteAt v i) ∧ dig (byteAt v i) ≤ 9 := by rw [byteAt_get hi]; exact wordB_at h i hi
theorem bytes_ext {a b : ByteArray} (hs : a.size = b.size) (h : ∀ i, i < a.size → byteAt a i = byteAt b i) : a = b := by
  apply L_inj
  refine List.ext_getElem (by rw [size_L, size_L, hs]) fun i h1 h2 => ?_
  have h1' : i < a.size := by rw [size_L] at h1; exact h1
  have := h i h1'
  rwa [byteAt_get h1', byteAt_get (by omega)] at this
theorem letr_dig {c : UInt8} (h : 0 ≤ dig c ∧ dig c ≤ 9) : letr (dig c) = c := by
  have := letr_of_dig ((isL_iff c).2 h)
  rwa [Int.toNat_of_nonneg h.1] at this
theorem letr_eq {m n : Int} : letr m = letr n ↔ m % 10 = n % 10 := by
  constructor
  · intro h; have := congrArg dig h; rwa [dig_letr, dig_letr] at this
  · intro h; apply UInt8.toNat.inj; rw [letr_toNat, letr_toNat, h]
theorem befW_inj {v : ByteArray} (h : wordB v = true) {m n : Nat} (hm : m < 2 ^ (v.size - 1)) (hn : n < 2 ^ (v.size - 1)) (e : befW v m = befW v n) : m = n := by
  refine Nat.eq_of_testBit_eq fun i => ?_
  by_cases hi : i < v.size - 1
  · have h1 := congrArg (fun s => byteAt s i) e
    simp only [byteAt_befW (show i < v.size by omega)] at h1
    have hw := byteAt_word h (show i < v.size by omega)
    have hd := letr_dig hw
    have hne : letr (dig (byteAt v i) + 9) ≠ byteAt v i := fun he => by
      rw [← hd, letr_eq, dig_letr] at he; omega
    have hl : ¬ i + 1 = v.size := by omega
    simp only [hl, false_or] at h1
    cases h2 : m.testBit i <;> cases h3 : n.testBit i
    · rfl
    · rw [h2, h3] at h1; simp at h1; exact absurd h1.symm hne
    · rw [h2, h3] at h1; simp at h1; exact absurd h1 hne
    · rfl
  · have hp : 2 ^ (v.size - 1) ≤ 2 ^ i := Nat.pow_le_pow_right (by omega) (by omega)
    rw [Nat.testBit_lt_two_pow (by omega), Nat.testBit_lt_two_pow (by omega)]
/-- Where a step leads to v it has come from one of these. -/
theorem befW_all {x : Whl} {v u : ByteArray} (h1 : 1 ≤ v.size) (h3 : v.size ≤ 3) (hu : wordB u = true) (hs : u.size = v.size) (e : stepW x u = v) : ∃ m, m < 2 ^ (v.size - 1) ∧ befW v m = u := by
  obtain ⟨m, hm, hb⟩ : ∃ m, m < 2 ^ (v.size - 1) ∧ ∀ i, i < v.size - 1 → m.testBit i = mvB x u i := by
    have : v.size = 1 ∨ v.size = 2 ∨ v.size = 3 := by omega
    rcases this with h | h | h
    · exact ⟨0, by rw [h]; decide, fun i hi => absurd hi (by omega)⟩
    · refine ⟨if mvB x u 0 then 1 else 0, by rw [h]; split <;> decide, fun i hi => ?_⟩
      obtain rfl : i = 0 := by omega
      cases mvB x u 0 <;> rfl
    · refine ⟨(if mvB x u 0 then 1 else 0) + (if mvB x u 1 then 2 else 0), by rw [h]; split <;> split <;> decide, fun i hi => ?_⟩
      have : i = 0 ∨ i = 1 := by omega
      rcases this with rfl | rfl <;> cases mvB x u 0 <;> cases mvB x u 1 <;> rfl
  refine ⟨m, hm, bytes_ext (by rw [size_befW, hs]) fun i hi => ?_⟩
  rw [size_befW] at hi
  have hw := byteAt_word hu (show i < u.size by omega)
  have hd := letr_dig hw
  have hst := byteAt_stepW (w := x) (v := u) (show i < u.size by omega)
  rw [e] at hst
  rw [byteAt_befW hi]
  by_cases hl : i + 1 = v.size
  · have hmv : mvB x u i = true := by simp [mvB, hs, hl]
    rw [hmv] at hst
    rw [if_pos (.inl hl), hst]
    simp only [if_true]
    conv => rhs; rw [← hd]
    rw [letr_eq, dig_letr]; omega
  · rw [hst, hb i (by omega)]
    cases hmv : mvB x u i
    · simp [hl]
    · simp only [hl, false_or, if_true]
      conv => rhs; rw [← hd]
      rw [letr_eq, dig_letr]; omega

/-- What the program collects, before it sorts. -/
def befTo (x : Whl) (v : ByteArray) (M : Nat) : List ByteArray := ((List.range M).map (befW v)).filter fun u => decide (stepW x u = v)
theorem befTo_yes {x : Whl} {v : ByteArray} {k : Nat} (h : stepW x (befW v k) = v) : befTo x v (k + 1) = befTo x v k ++ [befW v k] := by
  simp [befTo, List.range_succ, List.filter_append, h]
theorem befTo_no {x : Whl} {v : ByteArray} {k : Nat} (h : stepW x (befW v k) ≠ v) : befTo x v (k + 1) = befTo x v k := by
  simp [befTo, List.range_succ, List.filter_append, h]
theorem befTo_len (x : Whl) (v : ByteArray) (M : Nat) : (befTo x v M).length ≤ M := by
  have := List.length_filter_le (fun u => decide (stepW x u = v)) ((List.range M).map (befW v))
  simpa [befTo] using this
theorem perm_nodup {α : Type} [DecidableEq α] {a b : List α} (n1 : a.Nodup) (n2 : b.Nodup) (hm : ∀ u, u ∈ a ↔ u ∈ b) : a.Perm b := by
  rw [List.perm_iff_count]
  intro u
  have c1 := List.nodup_iff_count.1 n1 u
  have c2 := List.nodup_iff_count.1 n2 u
  by_cases hu : u ∈ a
  · have h1 := List.count_pos_iff.2 hu
    have h2 := List.count_pos_iff.2 ((hm u).1 hu)
    omega
  · rw [List.count_eq_zero_of_not_mem hu, List.count_eq_zero_of_not_mem fun h => hu ((hm u).2 h)]
theorem perm_back {x : Whl} {v : ByteArray} (h : FitB x v) : (befTo x v (2 ^ (v.size - 1))).Perm (backTo x v (10 ^ v.size)) := by
  have h1 : 1 ≤ v.size := by rw [h.size]; exact h.one
  have h3 : v.size ≤ 3 := by rw [h.size]; exact h.three
  have n1 : (befTo x v (2 ^ (v.size - 1))).Nodup := by
    refine List.Pairwise.filter _ (List.pairwise_map.2 ?_)
    refine (List.pairwise_lt_range).imp_of_mem fun {a b} ha hb hab e => ?_
    have := befW_inj h.word (by simpa using ha) (by simpa using hb) e
    omega
  have n2 : (backTo x v (10 ^ v.size)).Nodup := (backTo_asc x v).imp fun {a b} hab e => by
    subst e; exact absurd hab (List.lt_irrefl _)
  have hm : ∀ u, u ∈ befTo x v (2 ^ (v.size - 1)) ↔ u ∈ backTo x v (10 ^ v.size) := fun u => by
    rw [mem_backTo (by omega)]
    simp only [befTo, List.mem_filter, List.mem_map, List.mem_range, decide_eq_true_eq]
    constructor
    · rintro ⟨⟨m, hm, rfl⟩, e⟩
      exact ⟨word_befW h.word m, size_befW v m, e⟩
    · rintro ⟨hu, hs, e⟩
      obtain ⟨m, hm, rfl⟩ := befW_all h1 h3 hu hs e
      exact ⟨⟨m, hm, rfl⟩, e⟩
  exact perm_nodup n1 n2 hm
/-- Sorted, both are the same. -/
theorem sort_back {x : Whl} {v : ByteArray} (h : FitB x v) : ((befTo x v (2 ^ (v.size - 1))).map L).mergeSort (fun a b => decide (a ≤ b)) = (backTo x v (10 ^ v.size)).map L := by
  refine List.Perm.eq_of_pairwise (le := fun a b => decide (a ≤ b) = true) (fun a b _ _ h1 h2 => ?_) ?_ ?_ ?_
  · exact List.le_antisymm (by simpa using h1) (by simpa using h2)
  · refine List.pairwise_mergeSort (fun a b c h1 h2 => ?_) (fun a b => ?_) _
    · simp only [decide_eq_true_eq] at *; exact List.le_trans h1 h2
    · simp only [Bool.or_eq_true, decide_eq_true_eq]; exact List.le_total a b
  · refine List.pairwise_map.2 ((backTo_asc x v).imp fun {a b} hab => ?_)
    simpa using List.le_of_lt hab
  · exact (List.mergeSort_perm _ _).trans ((perm_back h).map L)
theorem backS_few (x : Whl) (v : ByteArray) : (backS x v).length ≤ 4 ∧ ∀ s ∈ backS x v, s.size ≤ 200 := by
  unfold backS
  split
  · rename_i h
    have hf := fitB_iff.1 h
    have h3 : v.size ≤ 3 := by rw [hf.size]; exact hf.three
    refine ⟨?_, fun s hs => ?_⟩
    · rw [← (perm_back hf).length_eq]
      refine Nat.le_trans (befTo_len _ _ _) ?_
      exact Nat.pow_le_pow_right (n := 2) (by omega) (show v.size - 1 ≤ 2 by omega)
    · have := (mem_backTo (by omega)).1 hs
      omega
  · simp
end Go.Proofs.YtaplndmgbinhcaaGreat
