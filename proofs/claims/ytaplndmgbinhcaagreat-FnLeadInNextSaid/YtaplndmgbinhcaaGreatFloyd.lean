/- Plain laws on sequences that come back: two walkers, the way in, the period. -/
import Derived.Test.YtaplndmgbinhcaaGreatMach
namespace Go.Proofs.YtaplndmgbinhcaaGreat

/-- x is the sequence of a function: equal members have equal next members. -/
def Seqs {α : Type} (x : Nat → α) : Prop := ∀ i j, x i = x j → x (i + 1) = x (j + 1)
theorem Seqs.add {α : Type} {x : Nat → α} (h : Seqs x) {i j : Nat} (e : x i = x j) : ∀ k, x (i + k) = x (j + k)
  | 0 => e
  | k + 1 => h _ _ (h.add e k)
/-- From i on it comes again after each multiple of p. -/
theorem Seqs.mul {α : Type} {x : Nat → α} (h : Seqs x) {i p : Nat} (e : x (i + p) = x i) : ∀ k j, i ≤ j → x (j + k * p) = x j
  | 0, j, _ => by simp
  | k + 1, j, hj => by
    have h1 := h.mul e k j hj
    have h2 := h.add e (j - i + k * p)
    rw [show i + p + (j - i + k * p) = j + (k + 1) * p by rw [Nat.succ_mul]; omega, show i + (j - i + k * p) = j + k * p by omega] at h2
    rw [h2, h1]
theorem find_rep {α : Type} {x : Nat → α} {c : α → Nat} {M : Nat} (hc : ∀ i, c (x i) < M) (hi : ∀ i j, c (x i) = c (x j) → x i = x j) : ∃ i j, i < j ∧ j ≤ M ∧ x i = x j := by
  apply Classical.byContradiction
  intro hn
  have hnd : ((List.range (M + 1)).map fun i => c (x i)).Nodup := by
    rw [List.nodup_iff_pairwise_ne, List.pairwise_iff_getElem]
    intro i j h1 h2 hlt e
    simp at h1 h2
    simp only [List.getElem_map, List.getElem_range] at e
    exact hn ⟨i, j, hlt, by omega, hi _ _ e⟩
  have := nodup_le M _ hnd (fun y hy => by
    obtain ⟨i, _, rfl⟩ := List.mem_map.1 hy
    exact hc i)
  simp at this
  omega
/-- Two walkers meet. -/
theorem meet {α : Type} {x : Nat → α} (h : Seqs x) {M : Nat} (hr : ∃ i j, i < j ∧ j ≤ M ∧ x i = x j) : ∃ n, 1 ≤ n ∧ n ≤ M ∧ x n = x (2 * n) := by
  obtain ⟨i, j, hlt, hj, e⟩ := hr
  have hp : 0 < j - i := by omega
  have e' : x (i + (j - i)) = x i := by rw [show i + (j - i) = j by omega]; exact e.symm
  by_cases h0 : i = 0
  · refine ⟨j - i, by omega, by omega, ?_⟩
    have := h.mul e' 1 (j - i) (by omega)
    rw [show 2 * (j - i) = j - i + 1 * (j - i) by omega]; exact this.symm
  · -- the least multiple of the period from i on
    refine ⟨(i + (j - i) - 1) / (j - i) * (j - i), ?_, ?_, ?_⟩
    · have : 1 ≤ (i + (j - i) - 1) / (j - i) := (Nat.le_div_iff_mul_le hp).2 (by omega)
      have := Nat.mul_le_mul this (Nat.le_refl (j - i))
      omega
    · have := Nat.div_mul_le_self (i + (j - i) - 1) (j - i)
      omega
    · have hge : i ≤ (i + (j - i) - 1) / (j - i) * (j - i) := by
        have h1 := Nat.div_add_mod (i + (j - i) - 1) (j - i)
        have h2 := Nat.mod_lt (i + (j - i) - 1) hp
        rw [Nat.mul_comm] at h1
        omega
      have := h.mul e' ((i + (j - i) - 1) / (j - i)) _ hge
      rw [show 2 * ((i + (j - i) - 1) / (j - i) * (j - i)) = (i + (j - i) - 1) / (j - i) * (j - i) + (i + (j - i) - 1) / (j - i) * (j - i) by omega]
      exact this.symm
/-- What the two walkers tell: n where they met, l the way in, p the period. -/
structure Cyc {α : Type} (x : Nat → α) (l p : Nat) : Prop where
  pos : 1 ≤ p
  back : x (l + p) = x l
  least : ∀ q, 1 ≤ q → q < p → x (l + q) ≠ x l
  first : ∀ k q, k < l → 1 ≤ q → x (k + q) ≠ x k
/-- The way in, as the program finds it, is the way in. -/
theorem cyc_of {α : Type} {x : Nat → α} (h : Seqs x) {n l p : Nat} (hn : 1 ≤ n) (hm : x n = x (2 * n)) (_hl : x l = x (n + l)) (hmin : ∀ k, k < l → x k ≠ x (n + k))
    (hp : 1 ≤ p) (hb : x (l + p) = x l) (hlp : ∀ q, 1 ≤ q → q < p → x (l + q) ≠ x l) : Cyc x l p := by
  refine ⟨hp, hb, hlp, fun k q hk hq e => hmin k hk ?_⟩
  -- from k on it comes again after q, and far out after n: so from k on after n
  have hnn : x (n + n) = x n := by rw [show n + n = 2 * n by omega]; exact hm.symm
  have h1 := h.mul e n (k + n) (by omega)
  have h2 := h.mul e n k (Nat.le_refl _)
  have h3 : x (k + n * q + n) = x (k + n * q) := by
    have hge : n ≤ k + n * q := by have := Nat.mul_le_mul (Nat.le_refl n) hq; omega
    have := h.mul hnn 1 (k + n * q) hge
    rw [Nat.one_mul] at this; exact this
  rw [show n + k = k + n by omega, ← h1, show k + n + n * q = k + n * q + n by omega, h3, h2]
theorem Cyc.uniq {α : Type} {x : Nat → α} {l p l' p' : Nat} (a : Cyc x l p) (b : Cyc x l' p') : l = l' ∧ p = p' := by
  have hl : l = l' := by
    rcases Nat.lt_trichotomy l l' with h | h | h
    · exact absurd a.back (b.first l p h a.pos)
    · exact h
    · exact absurd b.back (a.first l' p' h b.pos)
  subst hl
  refine ⟨rfl, ?_⟩
  rcases Nat.lt_trichotomy p p' with h | h | h
  · exact absurd a.back (b.least p a.pos h)
  · exact h
  · exact absurd b.back (a.least p' b.pos h)

/-- The number of some windows. -/
def winN (s : ByteArray) : Nat := (dg s).foldl (fun n d => n * 10 + d) 0
theorem seqs_step (w : Whl) (v : ByteArray) : Seqs fun n => stepN w n v := fun i j e => by
  show stepN w (i + 1) v = stepN w (j + 1) v
  rw [stepN_succ, stepN_succ]
  exact congrArg _ e
theorem winN_lt {s : ByteArray} (h : wordB s = true) (h3 : s.size ≤ 3) : winN s < 1000 := by
  have hl := len_dg s
  have hd := word_dg_lt h
  unfold winN
  match hs : dg s with
  | [] => simp
  | [a] => rw [hs] at hd; have := hd a (by simp); simp; omega
  | [a, b] => rw [hs] at hd; have := hd a (by simp); have := hd b (by simp); simp; omega
  | [a, b, c] => rw [hs] at hd; have := hd a (by simp); have := hd b (by simp); have := hd c (by simp); simp; omega
  | a :: b :: c :: d :: r => rw [hs] at hl; simp at hl; omega
theorem winN_inj {s t : ByteArray} (h : wordB s = true) (k : wordB t = true) (h3 : s.size ≤ 3) (hst : s.size = t.size) (e : winN s = winN t) : s = t := by
  rw [← wd_dg h, ← wd_dg k]
  congr 1
  have hl := len_dg s
  have hl' := len_dg t
  have hd := word_dg_lt h
  have hd' := word_dg_lt k
  unfold winN at e
  match hs : dg s, ht : dg t with
  | [], [] => rfl
  | [a], [a'] =>
    rw [hs] at hd e; rw [ht] at hd' e
    have := hd a (by simp); have := hd' a' (by simp); simp at e; simp; omega
  | [a, b], [a', b'] =>
    rw [hs] at hd e; rw [ht] at hd' e
    have := hd a (by simp); have := hd b (by simp); have := hd' a' (by simp); have := hd' b' (by simp); simp at e; simp; omega
  | [a, b, c], [a', b', c'] =>
    rw [hs] at hd e; rw [ht] at hd' e
    have := hd a (by simp); have := hd b (by simp); have := hd c (by simp); have := hd' a' (by simp); have := hd' b' (by simp); have := hd' c' (by simp); simp at e; simp; omega
  | a :: b :: c :: d :: r, _ => rw [hs] at hl; simp at hl; omega
  | [], _ :: _ => rw [hs] at hl; rw [ht] at hl'; simp at hl hl'; omega
  | _ :: _, [] => rw [hs] at hl; rw [ht] at hl'; simp at hl hl'; omega
  | [_], _ :: _ :: _ => rw [hs] at hl; rw [ht] at hl'; simp at hl hl'; omega
  | [_, _], [_] => rw [hs] at hl; rw [ht] at hl'; simp at hl hl'; omega
  | [_, _], _ :: _ :: _ :: _ => rw [hs] at hl; rw [ht] at hl'; simp at hl hl'; omega
  | [_, _, _], [_] => rw [hs] at hl; rw [ht] at hl'; simp at hl hl'; omega
  | [_, _, _], [_, _] => rw [hs] at hl; rw [ht] at hl'; simp at hl hl'; omega
  | [_, _, _], _ :: _ :: _ :: _ :: _ => rw [hs] at hl; rw [ht] at hl'; simp at hl hl'; omega
theorem step_meet {w : Whl} {v : ByteArray} (h : FitB w v) : ∃ n, 1 ≤ n ∧ n ≤ 1000 ∧ stepN w n v = stepN w (2 * n) v := by
  have h3 : ∀ i, (stepN w i v).size ≤ 3 := fun i => by rw [size_stepN, h.size]; exact h.three
  exact meet (seqs_step w v) (find_rep (c := winN) (M := 1000) (fun i => winN_lt (word_stepN i h.word) (h3 i)) (fun i j e => winN_inj (word_stepN i h.word) (word_stepN j h.word) (h3 i) (by rw [size_stepN, size_stepN]) e))
end Go.Proofs.YtaplndmgbinhcaaGreat
