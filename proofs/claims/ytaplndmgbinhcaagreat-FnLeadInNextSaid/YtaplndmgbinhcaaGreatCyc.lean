/- Plain laws on the cycles of a permutation of ten letters. -/
import Derived.Test.YtaplndmgbinhcaaGreatPerm
namespace Go.Proofs.YtaplndmgbinhcaaGreat

/-- p applied n times. -/
def itP (p : List Nat) : Nat → Nat → Nat
  | 0, a => a
  | n + 1, a => pAt p (itP p n a)
theorem itP_lt {p : List Nat} (h : IsP p) {a : Nat} (ha : a < 10) : ∀ n, itP p n a < 10
  | 0 => ha
  | n + 1 => h.at_lt (itP_lt h ha n)
theorem itP_add (p : List Nat) (m : Nat) (a : Nat) : ∀ n, itP p (n + m) a = itP p n (itP p m a)
  | 0 => by simp [itP]
  | n + 1 => by rw [show n + 1 + m = (n + m) + 1 by omega]; simp only [itP]; rw [itP_add p m a n]
theorem itP_inj {p : List Nat} (h : IsP p) {a b : Nat} (ha : a < 10) (hb : b < 10) : ∀ n, itP p n a = itP p n b → a = b
  | 0, e => e
  | n + 1, e => itP_inj h ha hb n (h.inj (itP_lt h ha n) (itP_lt h hb n) e)
theorem itP_back {p : List Nat} (h : IsP p) {a : Nat} (ha : a < 10) : ∃ k, 1 ≤ k ∧ k ≤ 10 ∧ itP p k a = a := by
  have hn : ¬ ((List.range 11).map fun n => itP p n a).Nodup := fun hd => by
    have := nodup_le 10 _ hd (fun x hx => by
      obtain ⟨n, _, rfl⟩ := List.mem_map.1 hx
      exact itP_lt h ha n)
    simp at this
  rw [List.nodup_iff_pairwise_ne, List.pairwise_iff_getElem] at hn
  apply Classical.byContradiction
  intro hno
  apply hn
  intro i j hi hj hlt e
  simp only [List.length_map, List.length_range] at hi hj
  simp only [List.getElem_map, List.getElem_range] at e
  refine hno ⟨j - i, by omega, by omega, ?_⟩
  have e2 : itP p i (itP p (j - i) a) = itP p i a := by rw [← itP_add, show i + (j - i) = j by omega]; exact e.symm
  exact itP_inj h (itP_lt h ha _) ha i e2
/-- The length of the cycle of a letter. -/
def ordP (p : List Nat) (a : Nat) : Nat := ((List.range 10).findIdx fun k => itP p (k + 1) a == a) + 1
theorem ordP_pos (p : List Nat) (a : Nat) : 1 ≤ ordP p a := by unfold ordP; omega
theorem ordP_lt {p : List Nat} (h : IsP p) {a : Nat} (ha : a < 10) : (List.range 10).findIdx (fun k => itP p (k + 1) a == a) < (List.range 10).length := by
  obtain ⟨k, h1, h2, e⟩ := itP_back h ha
  rw [List.findIdx_lt_length]
  exact ⟨k - 1, by simp; omega, by rw [show k - 1 + 1 = k by omega, e]; simp⟩
theorem ordP_le {p : List Nat} (h : IsP p) {a : Nat} (ha : a < 10) : ordP p a ≤ 10 := by
  have := ordP_lt h ha
  simp only [List.length_range] at this
  unfold ordP; omega
theorem ordP_spec {p : List Nat} (h : IsP p) {a : Nat} (ha : a < 10) : itP p (ordP p a) a = a := by
  have := List.findIdx_getElem (w := ordP_lt h ha)
  simpa [ordP] using this
theorem ordP_min {p : List Nat} (a : Nat) {k : Nat} (h1 : 1 ≤ k) (hk : k < ordP p a) : itP p k a ≠ a := by
  unfold ordP at hk
  have := List.not_of_lt_findIdx (p := fun k => itP p (k + 1) a == a) (xs := List.range 10) (i := k - 1) (by omega)
  simp only [List.getElem_range] at this
  rw [show k - 1 + 1 = k by omega] at this
  simpa using this
theorem ordP_eq {p : List Nat} {a : Nat} {k : Nat} (h1 : 1 ≤ k) (hk : k ≤ ordP p a) (e : itP p k a = a) : k = ordP p a := by
  rcases Nat.lt_or_ge k (ordP p a) with h | h
  · exact absurd e (ordP_min a h1 h)
  · omega
theorem ordP_one {p : List Nat} (h : IsP p) {a : Nat} (ha : a < 10) : ordP p a = 1 ↔ pAt p a = a := by
  constructor
  · intro e; have := ordP_spec h ha; rw [e] at this; exact this
  · intro e
    have := ordP_eq (p := p) (a := a) (k := 1) (by omega) (ordP_pos p a) e
    omega
/-- The cycle of a letter. -/
def cycL (p : List Nat) (a : Nat) : List Nat := (List.range (ordP p a)).map fun k => itP p k a
theorem len_cycL (p : List Nat) (a : Nat) : (cycL p a).length = ordP p a := by simp [cycL]
theorem cycL_lt {p : List Nat} (h : IsP p) {a : Nat} (ha : a < 10) : ∀ x ∈ cycL p a, x < 10 := by
  intro x hx
  obtain ⟨k, _, rfl⟩ := List.mem_map.1 hx
  exact itP_lt h ha k
theorem self_cycL (p : List Nat) (a : Nat) : a ∈ cycL p a := List.mem_map.2 ⟨0, by simp [ordP], rfl⟩
/-- The cycles that begin with one of the first k letters. -/
def cycsTo (p : List Nat) : Nat → List (List Nat)
  | 0 => []
  | k + 1 => if k ∈ (cycsTo p k).flatten then cycsTo p k else cycsTo p k ++ [cycL p k]
/-- All cycles. -/
def cycs (p : List Nat) : List (List Nat) := cycsTo p 10
theorem cycsTo_yes {p : List Nat} {k : Nat} (h : k ∈ (cycsTo p k).flatten) : cycsTo p (k + 1) = cycsTo p k := by simp only [cycsTo, if_pos h]
theorem cycsTo_no {p : List Nat} {k : Nat} (h : ¬ k ∈ (cycsTo p k).flatten) : cycsTo p (k + 1) = cycsTo p k ++ [cycL p k] := by simp only [cycsTo, if_neg h]
theorem cycsTo_len (p : List Nat) : ∀ k, (cycsTo p k).length ≤ k
  | 0 => by simp [cycsTo]
  | k + 1 => by
    have := cycsTo_len p k
    by_cases h : k ∈ (cycsTo p k).flatten
    · rw [cycsTo_yes h]; omega
    · rw [cycsTo_no h]; simp; omega
theorem cycsTo_mem {p : List Nat} : ∀ (k : Nat) (c : List Nat), c ∈ cycsTo p k → ∃ a, a < k ∧ c = cycL p a
  | 0, c, h => by simp [cycsTo] at h
  | k + 1, c, h => by
    by_cases hk : k ∈ (cycsTo p k).flatten
    · rw [cycsTo_yes hk] at h
      obtain ⟨a, ha, e⟩ := cycsTo_mem k c h
      exact ⟨a, by omega, e⟩
    · rw [cycsTo_no hk, List.mem_append] at h
      rcases h with h | h
      · obtain ⟨a, ha, e⟩ := cycsTo_mem k c h
        exact ⟨a, by omega, e⟩
      · exact ⟨k, by omega, by simpa using h⟩
theorem cycsTo_flat_lt {p : List Nat} (h : IsP p) {k : Nat} (hk : k ≤ 10) : ∀ x ∈ (cycsTo p k).flatten, x < 10 := by
  intro x hx
  obtain ⟨c, hc, hxc⟩ := List.mem_flatten.1 hx
  obtain ⟨a, ha, rfl⟩ := cycsTo_mem k c hc
  exact cycL_lt h (by omega) x hxc
theorem cycsTo_size {p : List Nat} (h : IsP p) {k : Nat} (hk : k ≤ 10) : ∀ c ∈ cycsTo p k, 1 ≤ c.length ∧ c.length ≤ 10 := by
  intro c hc
  obtain ⟨a, ha, rfl⟩ := cycsTo_mem k c hc
  rw [len_cycL]
  exact ⟨ordP_pos p a, ordP_le h (by omega)⟩
/-- A fixed letter lies in no other letter's cycle. -/
theorem fixed_alone {p : List Nat} (h : IsP p) {a b : Nat} (ha : a < 10) (hb : b < 10) (hf : pAt p b = b) (hm : b ∈ cycL p a) : a = b := by
  obtain ⟨k, _, e⟩ := List.mem_map.1 hm
  have hk : ∀ n, itP p n b = b := fun n => by
    induction n with
    | zero => rfl
    | succ n ih => simp only [itP, ih, hf]
  exact itP_inj h ha hb k (e.trans (hk k).symm)
/-- The fixed letters among the first k. -/
def fixTo (p : List Nat) (k : Nat) : List Nat := (List.range k).filter fun i => pAt p i == i
theorem fixTo_succ (p : List Nat) (k : Nat) : fixTo p (k + 1) = fixTo p k ++ if pAt p k == k then [k] else [] := by
  simp only [fixTo, List.range_succ, List.filter_append, List.filter_cons, List.filter_nil]
theorem fix_cycs {p : List Nat} (h : IsP p) : ∀ k, k ≤ 10 → ((cycsTo p k).filter fun c => c.length == 1).flatten = fixTo p k
  | 0, _ => by simp [cycsTo, fixTo]
  | k + 1, hk => by
    have ih := fix_cycs h k (by omega)
    rw [fixTo_succ]
    by_cases hf : pAt p k = k
    · have hn : ¬ k ∈ (cycsTo p k).flatten := fun hm => by
        obtain ⟨c, hc, hxc⟩ := List.mem_flatten.1 hm
        obtain ⟨a, ha, rfl⟩ := cycsTo_mem k c hc
        have := fixed_alone h (by omega) (by omega) hf hxc
        omega
      have h1 : ordP p k = 1 := (ordP_one h (by omega)).2 hf
      have hc : cycL p k = [k] := by simp [cycL, h1, itP]
      rw [cycsTo_no hn, List.filter_append, List.flatten_append, ih, hc, hf]
      simp
    · have h1 : ¬ ordP p k = 1 := fun e => hf ((ordP_one h (by omega)).1 e)
      rw [if_neg (by simpa using hf), List.append_nil]
      by_cases hm : k ∈ (cycsTo p k).flatten
      · rw [cycsTo_yes hm, ih]
      · rw [cycsTo_no hm, List.filter_append, List.flatten_append, ih]
        simp [len_cycL, h1]
/-- The fixed letters. -/
def fixL (p : List Nat) : List Nat := fixTo p 10
theorem fixL_lt (p : List Nat) : ∀ x ∈ fixL p, x < 10 := by
  intro x hx
  simp only [fixL, fixTo, List.mem_filter, List.mem_range] at hx
  exact hx.1
theorem len_fixL (p : List Nat) : (fixL p).length + movedN p = 10 := by
  unfold fixL fixTo movedN
  have := List.length_eq_countP_add_countP (fun i => pAt p i == i) (l := List.range 10)
  rw [List.countP_eq_length_filter] at this
  simp only [List.length_range] at this
  have e : (List.range 10).countP (fun i => decide ¬(pAt p i == i) = true) = (List.range 10).countP (fun i => pAt p i != i) := by
    refine List.countP_congr fun i _ => ?_
    simp
  rw [e] at this
  exact this.symm
theorem fixL_nil_iff (p : List Nat) : fixL p = [] ↔ Free p := by
  simp only [fixL, fixTo, List.filter_eq_nil_iff, List.mem_range, beq_iff_eq, Free, ne_eq]
end Go.Proofs.YtaplndmgbinhcaaGreat
