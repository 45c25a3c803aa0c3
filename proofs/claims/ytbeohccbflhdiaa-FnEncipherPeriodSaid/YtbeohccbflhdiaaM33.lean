/- Several of my texts in one: Floyd, CycF, DrawKP, PerW. -/
import Derived.Test.YtbeohccbflhdiaaM2
import Derived.Test.YtbeohccbflhdiaaM16
import Derived.Deep.LoopGhost
import Derived.Test.YtbeohccbflhdiaaM23
import Derived.Test.YtbeohccbflhdiaaM10
import Derived.Test.YtbeohccbflhdiaaM9
import Derived.Test.YtbeohccbflhdiaaM8
import Derived.Test.YtbeohccbflhdiaaM25
/- Plain laws on sequences that come back: two walkers, the way in, the period. -/
namespace Go.Proofs.Ytbeohccbflhdiaa

/-- x is the sequence of a function: equal members have equal next members. -/
def Seqs {α : Type} (x : Nat → α) : Prop := ∀ i j, x i = x j → x (i + 1) = x (j + 1)
theorem Seqs.add {α : Type} {x : Nat → α} (h : Seqs x) {i j : Nat} (e : x i = x j) : ∀ k, x (i + k) = x (j + k)
  | 0 => e
  | k + 1 => h _ _ (h.add e k)
/-- From i on it comes again after each multiple of p. -/
theorem Seqs.mul {α : Type} {x : Nat → α} (h : Seqs x) {i p : Nat} (e : x (i + p) = x i) : ∀ k j, i ≤ j → x (j + k * p) = x j
  | 0, j, _ => by simp
  | k + 1, j, hj => by
    have h1 := h.mul e k j hj
    have h2 := h.add e (j - i + k * p)
    rw [show i + p + (j - i + k * p) = j + (k + 1) * p by rw [Nat.succ_mul]; omega, show i + (j - i + k * p) = j + k * p by omega] at h2
    rw [h2, h1]
theorem find_rep {α : Type} {x : Nat → α} {c : α → Nat} {M : Nat} (hc : ∀ i, c (x i) < M) (hi : ∀ i j, c (x i) = c (x j) → x i = x j) : ∃ i j, i < j ∧ j ≤ M ∧ x i = x j := by
  apply Classical.byContradiction
  intro hn
  have hnd : ((List.range (M + 1)).map fun i => c (x i)).Nodup := by
    rw [List.nodup_iff_pairwise_ne, List.pairwise_iff_getElem]
    intro i j h1 h2 hlt e
    simp at h1 h2
    simp only [List.getElem_map, List.getElem_range] at e
    exact hn ⟨i, j, hlt, by omega, hi _ _ e⟩
  have := nodup_le M _ hnd (fun y hy => by
    obtain ⟨i, _, rfl⟩ := List.mem_map.1 hy
    exact hc i)
  simp at this
  omega
/-- Two walkers meet. -/
theorem meet {α : Type} {x : Nat → α} (h : Seqs x) {M : Nat} (hr : ∃ i j, i < j ∧ j ≤ M ∧ x i = x j) : ∃ n, 1 ≤ n ∧ n ≤ M ∧ x n = x (2 * n) := by
  obtain ⟨i, j, hlt, hj, e⟩ := hr
  have hp : 0 < j - i := by omega
  have e' : x (i + (j - i)) = x i := by rw [show i + (j - i) = j by omega]; exact e.symm
  by_cases h0 : i = 0
  · refine ⟨j - i, by omega, by omega, ?_⟩
    have := h.mul e' 1 (j - i) (by omega)
    rw [show 2 * (j - i) = j - i + 1 * (j - i) by omega]; exact this.symm
  · -- the least multiple of the period from i on
    refine ⟨(i + (j - i) - 1) / (j - i) * (j - i), ?_, ?_, ?_⟩
    · have : 1 ≤ (i + (j - i) - 1) / (j - i) := (Nat.le_div_iff_mul_le hp).2 (by omega)
      have := Nat.mul_le_mul this (Nat.le_refl (j - i))
      omega
    · have := Nat.div_mul_le_self (i + (j - i) - 1) (j - i)
      omega
    · have hge : i ≤ (i + (j - i) - 1) / (j - i) * (j - i) := by
        have h1 := Nat.div_add_mod (i + (j - i) - 1) (j - i)
        have h2 := Nat.mod_lt (i + (j - i) - 1) hp
        rw [Nat.mul_comm] at h1
        omega
      have := h.mul e' ((i + (j - i) - 1) / (j - i)) _ hge
      rw [show 2 * ((i + (j - i) - 1) / (j - i) * (j - i)) = (i + (j - i) - 1) / (j - i) * (j - i) + (i + (j - i) - 1) / (j - i) * (j - i) by omega]
      exact this.symm
/-- What the two walkers tell: n where they met, l the way in, p the period. -/
structure Cyc {α : Type} (x : Nat → α) (l p : Nat) : Prop where
  pos : 1 ≤ p
  back : x (l + p) = x l
  least : ∀ q, 1 ≤ q → q < p → x (l + q) ≠ x l
  first : ∀ k q, k < l → 1 ≤ q → x (k + q) ≠ x k
/-- The way in, as the program finds it, is the way in. -/
theorem cyc_of {α : Type} {x : Nat → α} (h : Seqs x) {n l p : Nat} (hn : 1 ≤ n) (hm : x n = x (2 * n)) (_hl : x l = x (n + l)) (hmin : ∀ k, k < l → x k ≠ x (n + k))
    (hp : 1 ≤ p) (hb : x (l + p) = x l) (hlp : ∀ q, 1 ≤ q → q < p → x (l + q) ≠ x l) : Cyc x l p := by
  refine ⟨hp, hb, hlp, fun k q hk hq e => hmin k hk ?_⟩
  -- from k on it comes again after q, and far out after n: so from k on after n
  have hnn : x (n + n) = x n := by rw [show n + n = 2 * n by omega]; exact hm.symm
  have h1 := h.mul e n (k + n) (by omega)
  have h2 := h.mul e n k (Nat.le_refl _)
  have h3 : x (k + n * q + n) = x (k + n * q) := by
    have hge : n ≤ k + n * q := by have := Nat.mul_le_mul (Nat.le_refl n) hq; omega
    have := h.mul hnn 1 (k + n * q) hge
    rw [Nat.one_mul] at this; exact this
  rw [show n + k = k + n by omega, ← h1, show k + n + n * q = k + n * q + n by omega, h3, h2]
theorem Cyc.uniq {α : Type} {x : Nat → α} {l p l' p' : Nat} (a : Cyc x l p) (b : Cyc x l' p') : l = l' ∧ p = p' := by
  have hl : l = l' := by
    rcases Nat.lt_trichotomy l l' with h | h | h
    · exact absurd a.back (b.first l p h a.pos)
    · exact h
    · exact absurd b.back (a.first l' p' h b.pos)
  subst hl
  refine ⟨rfl, ?_⟩
  rcases Nat.lt_trichotomy p p' with h | h | h
  · exact absurd a.back (b.least p a.pos h)
  · exact h
  · exact absurd b.back (a.least p' b.pos h)

/-- The number of some windows. -/
def winN (s : ByteArray) : Nat := (dg s).foldl (fun n d => n * 10 + d) 0
theorem seqs_step (w : Whl) (v : ByteArray) : Seqs fun n => stepN w n v := fun i j e => by
  show stepN w (i + 1) v = stepN w (j + 1) v
  rw [stepN_succ, stepN_succ]
  exact congrArg _ e
theorem winN_lt {s : ByteArray} (h : wordB s = true) (h3 : s.size ≤ 3) : winN s < 1000 := by
  have hl := len_dg s
  have hd := word_dg_lt h
  unfold winN
  match hs : dg s with
  | [] => simp
  | [a] => rw [hs] at hd; have := hd a (by simp); simp; omega
  | [a, b] => rw [hs] at hd; have := hd a (by simp); have := hd b (by simp); simp; omega
  | [a, b, c] => rw [hs] at hd; have := hd a (by simp); have := hd b (by simp); have := hd c (by simp); simp; omega
  | a :: b :: c :: d :: r => rw [hs] at hl; simp at hl; omega
theorem winN_inj {s t : ByteArray} (h : wordB s = true) (k : wordB t = true) (h3 : s.size ≤ 3) (hst : s.size = t.size) (e : winN s = winN t) : s = t := by
  rw [← wd_dg h, ← wd_dg k]
  congr 1
  have hl := len_dg s
  have hl' := len_dg t
  have hd := word_dg_lt h
  have hd' := word_dg_lt k
  unfold winN at e
  match hs : dg s, ht : dg t with
  | [], [] => rfl
  | [a], [a'] =>
    rw [hs] at hd e; rw [ht] at hd' e
    have := hd a (by simp); have := hd' a' (by simp); simp at e; simp; omega
  | [a, b], [a', b'] =>
    rw [hs] at hd e; rw [ht] at hd' e
    have := hd a (by simp); have := hd b (by simp); have := hd' a' (by simp); have := hd' b' (by simp); simp at e; simp; omega
  | [a, b, c], [a', b', c'] =>
    rw [hs] at hd e; rw [ht] at hd' e
    have := hd a (by simp); have := hd b (by simp); have := hd c (by simp); have := hd' a' (by simp); have := hd' b' (by simp); have := hd' c' (by simp); simp at e; simp; omega
  | a :: b :: c :: d :: r, _ => rw [hs] at hl; simp at hl; omega
  | [], _ :: _ => rw [hs] at hl; rw [ht] at hl'; simp at hl hl'; omega
  | _ :: _, [] => rw [hs] at hl; rw [ht] at hl'; simp at hl hl'; omega
  | [_], _ :: _ :: _ => rw [hs] at hl; rw [ht] at hl'; simp at hl hl'; omega
  | [_, _], [_] => rw [hs] at hl; rw [ht] at hl'; simp at hl hl'; omega
  | [_, _], _ :: _ :: _ :: _ => rw [hs] at hl; rw [ht] at hl'; simp at hl hl'; omega
  | [_, _, _], [_] => rw [hs] at hl; rw [ht] at hl'; simp at hl hl'; omega
  | [_, _, _], [_, _] => rw [hs] at hl; rw [ht] at hl'; simp at hl hl'; omega
  | [_, _, _], _ :: _ :: _ :: _ :: _ => rw [hs] at hl; rw [ht] at hl'; simp at hl hl'; omega
theorem step_meet {w : Whl} {v : ByteArray} (h : FitB w v) : ∃ n, 1 ≤ n ∧ n ≤ 1000 ∧ stepN w n v = stepN w (2 * n) v := by
  have h3 : ∀ i, (stepN w i v).size ≤ 3 := fun i => by rw [size_stepN, h.size]; exact h.three
  exact meet (seqs_step w v) (find_rep (c := winN) (M := 1000) (fun i => winN_lt (word_stepN i h.word) (h3 i)) (fun i j e => winN_inj (word_stepN i h.word) (word_stepN j h.word) (h3 i) (by rw [size_stepN, size_stepN]) e))
end Go.Proofs.Ytbeohccbflhdiaa

/- The contract of cycleFrom, and of the program's LeadIn and PeriodOf. -/
namespace Go.Proofs.Ytbeohccbflhdiaa
open Go.RowKit

theorem least_of {P : Nat → Prop} : ∀ M, P M → ∃ n, n ≤ M ∧ P n ∧ ∀ m, m < n → ¬ P m
  | M, h => by
    apply Classical.byContradiction
    intro hn
    have : ∀ n, n ≤ M → ∀ m, m < n → ¬ P m := fun n => by
      induction n with
      | zero => intro _ m hm; omega
      | succ n ih =>
        intro hle m hm hp
        by_cases e : m = n
        · subst e
          exact hn ⟨m, by omega, hp, ih (by omega)⟩
        · exact ih (by omega) m (by omega) hp
    exact hn ⟨M, Nat.le_refl _, h, this M (Nat.le_refl _)⟩
/-- Steps come back. -/
theorem exists_cyc {x : Whl} {v : ByteArray} (hF : FitB x v) : ∃ l p, Cyc (fun n => stepN x n v) l p ∧ l ≤ 1000 ∧ p ≤ 1000 := by
  obtain ⟨n, h1, h2, h3⟩ := step_meet hF
  obtain ⟨l, hl, hl1, hl2⟩ := least_of (P := fun k => stepN x k v = stepN x (n + k) v) n (by show stepN x n v = stepN x (n + n) v; rw [h3]; congr 1; omega)
  obtain ⟨q, hq, hq1, hq2⟩ := least_of (P := fun q => stepN x (l + (q + 1)) v = stepN x l v) (n - 1) (by show stepN x (l + (n - 1 + 1)) v = stepN x l v; rw [show l + (n - 1 + 1) = n + l by omega]; exact hl1.symm)
  refine ⟨l, q + 1, cyc_of (seqs_step x v) h1 h3 hl1 (fun k hk => hl2 k hk) (by omega) hq1 (fun r hr1 hr2 => ?_), by omega, by omega⟩
  have := hq2 (r - 1) (by omega)
  rw [show l + (r - 1 + 1) = l + r by omega] at this
  exact this

theorem bne_of {a b : ByteArray} (h : a ≠ b) : (a.toList == b.toList) = false := by
  rw [toList_L, toList_L, beq_eq_false_iff_ne]
  exact fun e => h (L_inj e)
theorem bne_no {a b : ByteArray} (h : a = b) : (a.toList == b.toList) = true := by rw [h]; simp

set_option maxHeartbeats 2000000 in
theorem cycleFrom_any (a : Option Addr) (n c : Nat) (x : Whl) (v : ByteArray) (l p : Nat) (w : World) (h : WhlAt w w.heap.size a n x) (hF : FitB x v) (hC : Cyc (fun n => stepN x n v) l p) :
    Calls Try.prog 41 #[.agg #[.slice a n c, .string x.refl], .string v] w fun e w' => e = .returned (.tuple #[.int .i64 (l : Int), .int .i64 (p : Int)]) ∧ Below w.heap.size w w' := by
  obtain ⟨n0, hn1, hn2, hn3⟩ := step_meet hF
  have HN := Lib.hid hn3
  have HC := Lib.hid hC
  have HFIT := Lib.hid hF
  clear hn3 hC
  have o0 := Own.new w [.slice a n c, .string x.refl] 25
  have hb0 := (Below.refl w.heap.size w).alloc (Nat.le_refl _) (.cells [.slice a n c, .string x.refl].toArray 25)
  have hst := Lib.hid (fun (W : World) (hb : Below w.heap.size w W) (m : Nat) (cc : Cls W.heap.size W) => step_any a n c x (stepN x m v) cc.w (((h.below hb (Nat.le_refl _)).below (C := w.heap.size) (cc.bel.mono hb.size) (Nat.le_refl _)).more (Nat.le_trans hb.size cc.bel.size)) (hF.stepN_ m))
  have hs1 := Lib.hid (fun (W : World) (hb : Below w.heap.size w W) (m : Nat) => step_any a n c x (stepN x m v) W ((h.below hb (Nat.le_refl _)).more hb.size) (hF.stepN_ m))
  clear hF
  go_enter Try.func41, Try.ntmps41
  go_wp2_with fail
  generalize (w.alloc (.cells [.slice a n c, .string x.refl].toArray 25)) = W0 at *
  have c0 := o0.at_ (i := 0) rfl
  have c1 := o0.at_ (i := 1) rfl
  have l0 := o0.lt
  have g1 := hst.out W0 hb0 0
  have g2 := hst.out W0 hb0 1
  have d0 := fun (cc : Cls W0.heap.size W0) => (cc.cell w.heap.size 0 l0).trans c0
  have d1 := fun (cc : Cls W0.heap.size W0) => (cc.cell w.heap.size 1 l0).trans c1
  rw [show stepW x (stepN x 0 v) = stepN x 1 v from rfl, show stepN x 0 v = v from rfl] at g1
  rw [← stepN_succ] at g2
  have HA1 := Lib.hid (show stepN x 1 v = stepN x 1 v from rfl)
  obtain ⟨A1, hA1⟩ : ∃ A1, A1 = stepN x 1 v := ⟨_, rfl⟩
  obtain ⟨A2, hA2⟩ : ∃ A2, A2 = stepN x (1 + 1) v := ⟨_, rfl⟩
  rw [← hA1] at g1 g2
  rw [← hA2] at g2
  have H1 := Lib.hid hA1
  have H2 := Lib.hid hA2
  clear hA1 hA2 HA1
  refine wp_region_cls (by kernel_rfl) (by kernel_rfl) ?_
  repeat (go_big_quiet_step (first | (go_at_call 62; with_reducible exact cls_of (Nat.le_refl _) (g1 _)) | (go_at_call 62; with_reducible exact cls_of (Nat.le_refl _) (g2 _))))
  refine wpQuiet_nil ?_
  intro wc hbc
  have o1 := o0.below hbc o0.lt
  have hb1 := bt hb0 hbc
  clear o0 hb0 hbc c0 c1 l0 g1 g2 d0 d1
  go_wp2_with fail
  go_loopg [6, 7] (n0 - 1) (fun g s f wr => ∃ i : Nat, 1 ≤ i ∧ i ≤ n0 ∧ g = n0 - i ∧ s = .string (stepN x i v) ∧ f = .string (stepN x (2 * i) v) ∧ Own wr w.heap.size [.slice a n c, .string x.refl] ∧ Below w.heap.size w wr)
  case atStart => exact ⟨1, by omega, hn1, rfl, by rw [H1.out], by rw [H2.out], o1, hb1⟩
  case round =>
    clear o1 hb1 H1 H2
    obtain ⟨i, hi1, hi2, hg, rfl, rfl, o2, hb⟩ := hrel
    have HG := Lib.hid hg
    clear hg
    have c0 := o2.at_ (i := 0) rfl
    have c1 := o2.at_ (i := 1) rfl
    have l0 := o2.lt
    by_cases he : stepN x i v = stepN x (2 * i) v
    · have HE := Lib.hid he
      have te := bne_no he
      have hEq : stepN x (2 * i) v = stepN x (i + 0) v := he.symm
      clear he
      rw [hEq] at te ⊢
      clear hEq
      go_wp2_with fail
      go_loopg [6, 7, 8] i (fun g s f ld wr => ∃ k : Nat, k ≤ i ∧ g = i - k ∧ s = .string (stepN x k v) ∧ f = .string (stepN x (i + k) v) ∧ ld = .int .i64 k ∧ (∀ j, j < k → stepN x j v ≠ stepN x (i + j) v) ∧ Own wr w.heap.size [.slice a n c, .string x.refl] ∧ Below w.heap.size w wr)
      case atStart => exact ⟨0, Nat.zero_le _, rfl, rfl, rfl, rfl, fun j hj => absurd hj (by omega), o2, hb⟩
      case round =>
        clear o2 hb te c0 c1 l0
        obtain ⟨k, hk, hg, rfl, rfl, rfl, hmin, o2, hb⟩ := hrel
        have HG2 := Lib.hid hg
        have HMIN := Lib.hid hmin
        clear hg hmin
        have c0 := o2.at_ (i := 0) rfl
        have c1 := o2.at_ (i := 1) rfl
        have l0 := o2.lt
        by_cases he : stepN x k v = stepN x (i + k) v
        · have HE2 := Lib.hid he
          have te := bne_no he
          clear he
          have g1 := hs1.out _ hb k
          rw [← stepN_succ] at g1
          have HX : Hid (stepN x (k + i) v = stepN x k v) := by show _ = _; rw [Nat.add_comm]; exact HE2.out.symm
          obtain ⟨A, hA⟩ : ∃ A, A = stepN x k v := ⟨_, rfl⟩
          obtain ⟨A1, hA1⟩ : ∃ A1, A1 = stepN x (k + 1) v := ⟨_, rfl⟩
          obtain ⟨F1, hF1⟩ : ∃ F1, F1 = stepN x (i + k) v := ⟨_, rfl⟩
          rw [← hA1] at g1
          rw [← hA] at g1 te ⊢
          rw [← hF1] at te ⊢
          have H1 := Lib.hid hA
          have H2 := Lib.hid hA1
          clear hA hA1 hF1
          go_wp2_with fail
          refine g1.mono ?_
          rintro e w5 ⟨rfl, hb5⟩
          have o5 := o2.below hb5 o2.lt
          have hbw5 := bt hb hb5
          clear te g1 c0 c1 l0 o2 hb hb5
          go_wp2_with fail
          go_loopg [7, 9] (i - 1) (fun g f q wr => ∃ r : Nat, 1 ≤ r ∧ r ≤ i ∧ g = i - r ∧ f = .string (stepN x (k + r) v) ∧ q = .int .i64 r ∧ (∀ j, 1 ≤ j → j < r → stepN x (k + j) v ≠ stepN x k v) ∧ Own wr w.heap.size [.slice a n c, .string x.refl] ∧ Below w.heap.size w wr)
          case atStart => exact ⟨1, by omega, hi1, rfl, by rw [H2.out], rfl, fun j h1 h2 => absurd h2 (by omega), o5, hbw5⟩
          case round =>
            clear o5 hbw5
            obtain ⟨r, hr1, hr2, hg, rfl, rfl, hmin, o2, hb⟩ := hrel
            have HG3 := Lib.hid hg
            have HMIN2 := Lib.hid hmin
            clear hg hmin
            have c0 := o2.at_ (i := 0) rfl
            have c1 := o2.at_ (i := 1) rfl
            have l0 := o2.lt
            by_cases he : stepN x (k + r) v = A
            · have te := bne_no he
              have HE3 := Lib.hid he
              clear he
              have HFIN : Hid (k = l ∧ r = p) := by
                show _ ∧ _
                refine (cyc_of (seqs_step x v) hi1 ?_ HE2.out HMIN.out hr1 ?_ ?_).uniq HC.out
                · rw [HE.out]
                · show stepN x (k + r) v = stepN x k v
                  rw [HE3.out, H1.out]
                · exact HMIN2.out
              go_wp2
              go_ret2
              refine ⟨?_, hb⟩
              rw [← HFIN.out.1, ← HFIN.out.2]; rfl
            · have te := bne_of he
              have HE3 := Lib.hid he
              have hri : r < i := by
                rcases Nat.lt_or_ge r i with h1 | h1
                · exact h1
                · obtain rfl : r = i := by omega
                  exact absurd (HX.out.trans H1.out.symm) he
              clear he
              have g1 := hs1.out _ hb (k + r)
              rw [← stepN_succ] at g1
              obtain ⟨B, hB⟩ : ∃ B, B = stepN x (k + r) v := ⟨_, rfl⟩
              obtain ⟨B1, hB1⟩ : ∃ B1, B1 = stepN x (k + r + 1) v := ⟨_, rfl⟩
              rw [← hB1] at g1
              rw [← hB] at g1 te ⊢
              have K1 := Lib.hid hB
              have K2 := Lib.hid hB1
              clear hB hB1
              go_wp2_with fail
              refine g1.mono ?_
              rintro e w6 ⟨rfl, hb6⟩
              have o6 := o2.below hb6 o2.lt
              go_wp2
              go_roundg (i - (r + 1))
              case measure => rw [HG3.out]; omega
              case rel =>
                refine ⟨r + 1, by omega, by omega, rfl, ?_, by go_num, fun j h1 h2 => ?_, o6, bt hb hb6⟩
                · rw [K2.out]; rfl
                · by_cases e : j = r
                  · subst e; rw [← H1.out]; exact HE3.out
                  · exact HMIN2.out j h1 (by omega)
        · have te := bne_of he
          have HE2 := Lib.hid he
          have hki : k < i := by
            rcases Nat.lt_or_ge k i with h1 | h1
            · exact h1
            · obtain rfl : k = i := by omega
              exact absurd (by rw [HE.out]; congr 1; omega) he
          clear he
          have g1 := hst.out _ hb k
          have g2 := hst.out _ hb (i + k)
          simp only [← stepN_succ] at g1 g2
          have d0 := fun (cc : Cls wr.heap.size wr) => (cc.cell w.heap.size 0 l0).trans c0
          have d1 := fun (cc : Cls wr.heap.size wr) => (cc.cell w.heap.size 1 l0).trans c1
          obtain ⟨A, hA⟩ : ∃ A, A = stepN x k v := ⟨_, rfl⟩
          obtain ⟨A1, hA1⟩ : ∃ A1, A1 = stepN x (k + 1) v := ⟨_, rfl⟩
          obtain ⟨F, hF⟩ : ∃ F, F = stepN x (i + k) v := ⟨_, rfl⟩
          obtain ⟨F1, hF1⟩ : ∃ F1, F1 = stepN x (i + k + 1) v := ⟨_, rfl⟩
          rw [← hA, ← hA1] at g1
          rw [← hF, ← hF1] at g2
          rw [← hA, ← hF] at te ⊢
          have H2 := Lib.hid hA1
          have H4 := Lib.hid hF1
          clear hA hA1 hF hF1
          go_wp2_with fail
          refine wp_region_cls (by kernel_rfl) (by kernel_rfl) ?_
          repeat (go_big_quiet_step (first | (go_at_call 62; with_reducible exact cls_of (Nat.le_refl _) (g1 _)) | (go_at_call 62; with_reducible exact cls_of (Nat.le_refl _) (g2 _))))
          refine wpQuiet_nil ?_
          intro wc hbc
          have o3 := o2.below hbc o2.lt
          have hb3 := bt hb hbc
          go_wp2
          go_roundg (i - (k + 1))
          case measure => rw [HG2.out]; omega
          case rel =>
            refine ⟨k + 1, by omega, rfl, by rw [H2.out], by rw [H4.out]; rfl, by go_num, fun j hj => ?_, o3, hb3⟩
            by_cases e : j = k
            · subst e; exact HE2.out
            · exact HMIN.out j (by omega)
    · have te := bne_of he
      have hin : i < n0 := by
        rcases Nat.lt_or_ge i n0 with h1 | h1
        · exact h1
        · obtain rfl : i = n0 := by omega
          exact absurd HN.out he
      clear he
      have g1 := hst.out _ hb i
      have g2 := hst.out _ hb (2 * i)
      have g3 := hst.out _ hb (2 * i + 1)
      simp only [← stepN_succ] at g1 g2 g3
      have d0 := fun (cc : Cls wr.heap.size wr) => (cc.cell w.heap.size 0 l0).trans c0
      have d1 := fun (cc : Cls wr.heap.size wr) => (cc.cell w.heap.size 1 l0).trans c1
      obtain ⟨A, hA⟩ : ∃ A, A = stepN x i v := ⟨_, rfl⟩
      obtain ⟨A1, hA1⟩ : ∃ A1, A1 = stepN x (i + 1) v := ⟨_, rfl⟩
      obtain ⟨F, hF⟩ : ∃ F, F = stepN x (2 * i) v := ⟨_, rfl⟩
      obtain ⟨F1, hF1⟩ : ∃ F1, F1 = stepN x (2 * i + 1) v := ⟨_, rfl⟩
      obtain ⟨F2, hF2⟩ : ∃ F2, F2 = stepN x (2 * i + 1 + 1) v := ⟨_, rfl⟩
      rw [← hA, ← hA1] at g1
      rw [← hF, ← hF1] at g2
      rw [← hF1, ← hF2] at g3
      rw [← hA, ← hF] at te ⊢
      have H2 := Lib.hid hA1
      have H4 := Lib.hid hF2
      clear hA hA1 hF hF1 hF2
      go_wp2_with fail
      refine wp_region_cls (by kernel_rfl) (by kernel_rfl) ?_
      repeat (go_big_quiet_step (first | (go_at_call 62; with_reducible exact cls_of (Nat.le_refl _) (g1 _)) | (go_at_call 62; with_reducible exact cls_of (Nat.le_refl _) (g2 _)) | (go_at_call 62; with_reducible exact cls_of (Nat.le_refl _) (g3 _))))
      refine wpQuiet_nil ?_
      intro wc hbc
      have o3 := o2.below hbc o2.lt
      have hb3 := bt hb hbc
      go_wp2
      go_roundg (n0 - (i + 1))
      case measure => rw [HG.out]; omega
      case rel => exact ⟨i + 1, by omega, by omega, rfl, by rw [H2.out], by rw [H4.out, show 2 * (i + 1) = 2 * i + 1 + 1 by omega], o3, hb3⟩
end Go.Proofs.Ytbeohccbflhdiaa

/- Keys drawn; the keys of the reference. -/
namespace Go.Proofs.Ytbeohccbflhdiaa
open Go.RowKit

/-- A machine, windows and a number are drawn. -/
def DrawnN (w : World) (e : Ending) (w' : World) : Prop :=
  ∃ (m : Mach) (v : ByteArray) (N : Int) (a : Option Addr) (cap : Nat), DrawnM w m a w' ∧ v.size ≤ 300 ∧ -1 ≤ N ∧ N ≤ 9223372036854775807 ∧
    e = .returned (.tuple #[.agg #[.slice a m.wheels.rotors.length cap, .string m.wheels.refl, .string m.rings, .string m.plugs], .string v, .int .i64 N])
set_option maxRecDepth 100000 in
set_option maxHeartbeats 2000000 in
theorem DrawKeyPerms_any (a0 : Option Addr) (len cap : Nat) (zs : List Int) (w : World) (h : IsRow .u8 w a0 len cap zs) (hl : len ≤ 1048576) :
    Calls Try.prog 5 #[.slice a0 len cap] w (DrawnN w) := by
  have o0 := Own.new w [.slice none 0 0, .string ⟨#[]⟩, .string ⟨#[]⟩, .string ⟨#[]⟩] 27
  have hb0 := (Below.refl w.heap.size w).alloc (Nat.le_refl _) (.cells #[.slice none 0 0, .string ⟨#[]⟩, .string ⟨#[]⟩, .string ⟨#[]⟩] 27)
  go_enter Try.func5, Try.ntmps5
  go_wp2_with fail
  refine (l21Open_any a0 len cap zs _ (h.alloc_ _) hl).mono ?_
  rintro e w1 ⟨rfl, hr1, hb1⟩
  have o1 := o0.below hb1 o0.lt
  have hbw1 := bt hb0 hb1
  rw [World.size_alloc] at hr1
  clear o0 hb0 hb1 h
  go_wp2_with fail
  generalize hB0 : w.heap.size = B0 at *
  have HB0 := Lib.hid hB0
  clear hB0
  refine (l8Any_any (B0 + 1) 0 _ hr1 (by omega)).mono ?_
  rintro e w2 ⟨m, v, g, cp, hx, hset, rfl, hown2, hg, hr2, hm2⟩
  have l1 := hr1.lt
  have o2 := o1.grown hm2 (by simp)
  have hbw2 : Below B0 w w2 := hbw1.trans (hm2.toBelow (by omega) (by omega))
  have hv3 : v.size ≤ 3 := by rw [setB_len hset]; exact hx.2.1
  have hv1 : 1 ≤ v.size := by rw [setB_len hset]; exact hx.1
  clear o1 hr1 hbw1 hm2
  have p2 := Own.new w2 [.slice (some ⟨g, 0, none⟩) m.wheels.rotors.length cp, .string m.wheels.refl, .string m.rings, .string m.plugs] 27
  have o2' := o2.alloc (.cells [.slice (some ⟨g, 0, none⟩) m.wheels.rotors.length cp, .string m.wheels.refl, .string m.rings, .string m.plugs].toArray 27)
  have hr2' := hr2.alloc (.cells [.slice (some ⟨g, 0, none⟩) m.wheels.rotors.length cp, .string m.wheels.refl, .string m.rings, .string m.plugs].toArray 27)
  have hown2' := World.ownsRow.alloc hown2 (.cells [.slice (some ⟨g, 0, none⟩) m.wheels.rotors.length cp, .string m.wheels.refl, .string m.rings, .string m.plugs].toArray 27)
  have hbw2' := hbw2.alloc (by have := o2.lt; omega) (.cells [.slice (some ⟨g, 0, none⟩) m.wheels.rotors.length cp, .string m.wheels.refl, .string m.rings, .string m.plugs].toArray 27)
  have l2 := o2.lt
  have lr2 := hr2.lt
  have lg := (World.ownsRow.lt hown2 g rfl).2
  go_wp2_with fail
  generalize (w2.alloc (.cells [.slice (some ⟨g, 0, none⟩) m.wheels.rotors.length cp, .string m.wheels.refl, .string m.rings, .string m.plugs].toArray 27)) = W2 at *
  generalize w2.heap.size = B2 at *
  clear o2 hr2 hown2 hbw2
  refine (pick_any (B0 + 1) _ _ _ hr2' (by omega) (by omega) (by omega)).mono ?_
  rintro e w3 ⟨x, rfl, hx0, hx1, _, hr3, hm3⟩
  have hx13 := hx1 (by omega)
  have o3 := o2'.grown hm3 (by simp)
  have p3 := p2.grown hm3 (by simp; omega)
  have hown3 := OwR.movedR hown2' hm3 (by simp [Value.ownBlock]; omega)
  have hbw3 := hbw2'.trans (hm3.toBelow (by omega) (by have := o2'.lt; omega))
  clear o2' p2 hown2' hbw2' hm3 hr2'
  go_wp2_with fail
  refine (pick_any (B0 + 1) _ _ _ hr3 (by omega) (by omega) (by omega)).mono ?_
  rintro e w4 ⟨y, rfl, _, _, _, hr4, hm4⟩
  have l3 := p3.lt
  have o4 := o3.grown hm4 (by simp)
  have p4 := p3.grown hm4 (by simp; omega)
  have hown4 := OwR.movedR hown3 hm4 (by simp [Value.ownBlock]; omega)
  have hbw4 := hbw3.trans (hm4.toBelow (by omega) (by omega))
  clear o3 p3 hown3 hbw3 hm4 hr3
  go_upto_if 20 with (fail)
  go_cut [8] (fun u wr => ∃ N : Int, u = .int .i64 N ∧ -1 ≤ N ∧ N ≤ 9223372036854775807 ∧ Own wr B0 [.slice none 0 0, .string ⟨#[]⟩, .string ⟨#[]⟩, .string ⟨#[]⟩] ∧ Own wr B2 [.slice (some ⟨g, 0, none⟩) m.wheels.rotors.length cp, .string m.wheels.refl, .string m.rings, .string m.plugs] ∧ OwR wr w1.heap.size 99 2 (.slice (some ⟨g, 0, none⟩) m.wheels.rotors.length cp) m.wheels.rotors.length (rvs m.wheels.rotors) ∧ Rd wr (B0 + 1) 720 ∧ Below B0 w wr)
  case first =>
    by_cases e0 : y = 0
    · have t0 : (y == 0) = true := by simp [e0]
      clear e0
      have l4 := p4.lt
      have o5 := o4.alloc (.cells [.int .i64 60, .int .i64 61, .int .i64 (-1), .int .i64 9223372036854775807].toArray 3)
      have p5 := p4.alloc (.cells [.int .i64 60, .int .i64 61, .int .i64 (-1), .int .i64 9223372036854775807].toArray 3)
      have hr5 := hr4.alloc (.cells [.int .i64 60, .int .i64 61, .int .i64 (-1), .int .i64 9223372036854775807].toArray 3)
      have hown5 := World.ownsRow.alloc hown4 (.cells [.int .i64 60, .int .i64 61, .int .i64 (-1), .int .i64 9223372036854775807].toArray 3)
      have hbw5 := hbw4.alloc (by omega) (.cells [.int .i64 60, .int .i64 61, .int .i64 (-1), .int .i64 9223372036854775807].toArray 3)
      go_wp2_with fail
      refine (num_any (B0 + 1) _ _ _ [60, 61, -1, 9223372036854775807] _ _ rfl (Own.new _ _ _) (by simp) (by omega) hr5 (by omega) (by simp)).mono ?_
      rintro e w6 ⟨z, hz, rfl, hr6, hm6⟩
      have hzb : -1 ≤ z ∧ z ≤ 9223372036854775807 := by
        simp only [List.mem_cons, List.not_mem_nil, or_false] at hz
        rcases hz with rfl | rfl | rfl | rfl <;> omega
      have o6 := o5.grown hm6 (by simp)
      have p6 := p5.grown hm6 (by simp; omega)
      have hown6 := OwR.movedR hown5 hm6 (by simp [Value.ownBlock]; omega)
      have hbw6 := hbw5.trans (hm6.toBelow (by omega) (by simp; omega))
      go_wp2_with fail
      go_meet
      exact ⟨z, rfl, hzb.1, hzb.2, o6, p6, hown6, hr6.more (by omega), hbw6⟩
    · have t0 : (y == 0) = false := by simp [e0]
      clear e0
      go_wp2_with fail
      go_meet
      exact ⟨x, rfl, by omega, by omega, o4, p4, hown4, hr4.more (by omega), hbw4⟩
  case rest =>
  clear o4 p4 hown4 hr4 hbw4 l3
  obtain ⟨N, rfl, hN1, hN2, o2', p2, hown2', hr2', hbw2'⟩ := hcut
  have HNB : Hid (-1 ≤ N ∧ N ≤ 9223372036854775807) := Lib.hid ⟨hN1, hN2⟩
  clear hN1 hN2
  have lw := p2.lt
  have f0 := p2.at_ (i := 0) rfl
  have f1 := p2.at_ (i := 1) rfl
  have f2 := p2.at_ (i := 2) rfl
  have f3 := p2.at_ (i := 3) rfl
  go_wp2_with fail
  refine (l8Bad_any (B0 + 1) g cp _ m v _ _ hr2' (by omega) hx hset hown2' (by omega)).mono ?_
  rintro e w6 ⟨m6, a6, cap6, hm6, rfl, hrd6, hbl6, hr6, ht6⟩
  have o6 := o2'.tu ht6 (by omega) (by omega)
  have hbw6 := hbw2'.trans (ht6.toBelow (by omega) (by omega) (by omega))
  have hbl : ∀ ad, a6 = some ad → B0 + 1 < ad.block := fun ad h => by
    have h1 := hbl6 ad h
    omega
  have HBL := Lib.hid hbl
  have HM := Lib.hid hm6
  clear f0 f1 f2 f3 p2 o2' hr2' hown2' hbw2' ht6 hm6 hbl6 hbl
  go_wp2_with fail
  refine (l8Off_any (B0 + 1) v _ _ hr6 (by omega) hv1 (by omega)).mono ?_
  rintro e w9 ⟨v9, hv9, rfl, hr9, hm9⟩
  have z6 := o6.lt
  have o9 := o6.grown hm9 (by simp)
  have hbw9 := hbw6.trans (hm9.toBelow (by omega) (by omega))
  have hrd9 := Reads.moved hrd6 hm9 (fun ad h => by have := HBL.out ad h; omega) (Nat.le_refl _)
  clear o6 hrd6 hr6 hbw6 hm9
  have HRD := Lib.hid hrd9
  clear hrd9
  have c0 := o9.at_ (i := 0) rfl
  have c1 := o9.at_ (i := 1) rfl
  have c2 := o9.at_ (i := 2) rfl
  have c3 := o9.at_ (i := 3) rfl
  have b0 := o9.free 0 (by simp)
  have b1 := o9.free 1 (by simp)
  have b2 := o9.free 2 (by simp)
  have b3 := o9.free 3 (by simp)
  go_wp2
  have oz := o9.set4 (.slice a6 m6.wheels.rotors.length cap6) (.string m6.wheels.refl) (.string m6.rings) (.string m6.plugs)
  have k0 := oz.at_ (i := 0) rfl
  have k1 := oz.at_ (i := 1) rfl
  have k2 := oz.at_ (i := 2) rfl
  have k3 := oz.at_ (i := 3) rfl
  refine bodyPost_ret (v := .tuple #[.agg #[.slice a6 m6.wheels.rotors.length cap6, .string m6.wheels.refl, .string m6.rings, .string m6.plugs], .string v9, .int .i64 N]) (by unfold set4 at *; simp [results, Try.results5, go_sem, k0, k1, k2, k3]) rfl ?_
  refine ⟨m6, v9, N, a6, cap6, ⟨HM.out, ?_, ?_, ?_⟩, hv9, HNB.out.1, HNB.out.2, rfl⟩
  · show Reads (set4 w9 B0 _ _ _ _) (set4 w9 B0 _ _ _ _).heap.size _ _
    rw [size_set4]
    exact HRD.out.set4 (fun ad h => by have := HBL.out ad h; omega) _ _ _ _
  · intro ad h
    rw [HB0.out]
    have := HBL.out ad h; omega
  · rw [HB0.out]
    exact bel_set4 hbw9 (Nat.le_refl _) _ _ _ _
set_option maxRecDepth 100000 in
theorem specKeyPerms_any (a : Option Addr) (n c : Nat) (m : Mach) (v : ByteArray) (N : Int) (w : World) (h : MachAt w w.heap.size a n m) (hv : v.size ≤ 4294967296) :
    Calls Try.prog 8 #[.agg #[.slice a n c, .string m.wheels.refl, .string m.rings, .string m.plugs], .string v, .int .i64 N] w (RowPost 9 1 (keyT m v N).length (sv (keyT m v N)) w) := by
  have o0 := Own.new w [.slice a n c, .string m.wheels.refl, .string m.rings, .string m.plugs] 27
  have hb0 := (Below.refl w.heap.size w).alloc (Nat.le_refl _) (.cells [.slice a n c, .string m.wheels.refl, .string m.rings, .string m.plugs].toArray 27)
  have h' := h.alloc_ (.cells [.slice a n c, .string m.wheels.refl, .string m.rings, .string m.plugs].toArray 27)
  have hin := fun W => l1In_any N 0 60 W
  go_enter Try.func8, Try.ntmps8
  go_wp2_with fail
  refine (l8Fits_any _ _ _ _ _ _ h' hv).mono ?_
  rintro e w1 ⟨rfl, hb1⟩
  have o1 := o0.below hb1 o0.lt
  have hM := (h'.below hb1 (Nat.le_refl _)).more hb1.size
  have hb := bt hb0 hb1
  clear o0 h' hb0 hb1
  by_cases hyes : setB m v = true ∧ 0 ≤ N ∧ N ≤ 60
  · obtain ⟨h1, h2, h3⟩ := hyes
    obtain ⟨k, rfl⟩ := Int.eq_ofNat_of_zero_le h2
    have HE := Lib.hid (keyT_yes h1 (show k ≤ 60 by omega))
    rw [show (decide ((0 : Int) ≤ (k : Int)) && decide ((k : Int) ≤ 60)) = true by rw [Bool.and_eq_true, decide_eq_true_eq, decide_eq_true_eq]; omega] at hin
    have f0 := o1.at_ (i := 0) rfl
    have f1 := o1.at_ (i := 1) rfl
    have f2 := o1.at_ (i := 2) rfl
    have f3 := o1.at_ (i := 3) rfl
    go_wp2_with (go_at_call 37; ((with_reducible refine (hin _).mono ?_); rintro e w' ⟨rfl, rfl⟩))
    refine (l8Perms_any _ _ _ _ _ _ _ hM h1 (by omega)).mono ?_
    rintro e w2 ⟨lv, rfl, hol, hb2⟩
    go_wp2
    go_ret
    refine ⟨_, rfl, ?_, bt hb hb2⟩
    rw [HE.out]
    exact World.ownsRow.mono hol hb.size
  · have HE := Lib.hid (keyT_no hyes)
    have z1 : OwR (w1.alloc (.cells #[] 9)) w.heap.size 9 1 (.slice (some ⟨w1.heap.size, 0, none⟩) 0 0) 0 (sv []) :=
      World.ownsRow_lit (base := w.heap.size) (e := 9) (size := 1) w1 #[] 0 hb.size (by unfold maxLen; omega) (by simp)
    have hb3 := hb.alloc hb.size (.cells #[] 9)
    cases h1 : setB m v with
    | false =>
      clear h1 hyes
      go_wp2
      go_ret
      refine ⟨_, rfl, ?_, hb3⟩
      rw [HE.out]
      exact z1
    | true =>
      rw [show (decide ((0 : Int) ≤ N) && decide (N ≤ 60)) = false by rw [Bool.eq_false_iff]; intro e; rw [Bool.and_eq_true, decide_eq_true_eq, decide_eq_true_eq] at e; exact hyes ⟨h1, e⟩] at hin
      clear h1 hyes
      go_wp2_with (go_at_call 37; ((with_reducible refine (hin _).mono ?_); rintro e w' ⟨rfl, rfl⟩))
      go_ret
      refine ⟨_, rfl, ?_, hb3⟩
      rw [HE.out]
      exact z1
end Go.Proofs.Ytbeohccbflhdiaa

/- The walk of the law that keys come again after the period. -/
namespace Go.Proofs.Ytbeohccbflhdiaa
open Go.RowKit
attribute [local go_sem] Oper.semAt_some

theorem implLeadInP_any (a : Option Addr) (n c : Nat) (x : Whl) (v : ByteArray) (r : Int) (w : World) (h : WhlAt w w.heap.size a n x) (hv : v.size ≤ 4294967296) (hr : (fitB x v = false ∧ r = -1) ∨ (fitB x v = true ∧ ∃ l p : Nat, Cyc (fun n => stepN x n v) l p ∧ r = l)) :
    Calls Try.prog 10 #[.agg #[.slice a n c, .string x.refl], .string v] w fun e w' => e = .returned (.int .i64 r) ∧ Below w.heap.size w w' := by
  have o0 := Own.new w [.slice a n c, .string x.refl] 25
  have hb0 := (Below.refl w.heap.size w).alloc (Nat.le_refl _) (.cells [.slice a n c, .string x.refl].toArray 25)
  have h' := h.alloc_ (.cells [.slice a n c, .string x.refl].toArray 25)
  have hc := windowsValid_any a n c x v _ h' hv
  rcases hr with ⟨hf, rfl⟩ | ⟨hf, l, p, hC, rfl⟩
  · rw [hf] at hc
    go_enter Try.func10, Try.ntmps10
    go_wp2_with fail
    refine hc.mono ?_
    rintro e w1 ⟨rfl, hb1⟩
    go_wp2
    go_ret
    exact ⟨rfl, bt hb0 hb1⟩
  · rw [hf] at hc
    have hF := fitB_iff.1 hf
    clear hf
    go_enter Try.func10, Try.ntmps10
    go_wp2_with fail
    refine hc.mono ?_
    rintro e w1 ⟨rfl, hb1⟩
    have o1 := o0.below hb1 o0.lt
    have c0 := o1.at_ (i := 0) rfl
    have c1 := o1.at_ (i := 1) rfl
    have h1 := (h'.below hb1 (Nat.le_refl _)).more hb1.size
    clear hc h'
    go_wp2_with fail
    refine (cycleFrom_any a n c x v l p _ h1 hF hC).mono ?_
    rintro e w2 ⟨rfl, hb2⟩
    go_wp2
    go_ret
    exact ⟨rfl, bt (bt hb0 hb1) hb2⟩
theorem implPeriodOfP_any (a : Option Addr) (n c : Nat) (x : Whl) (v : ByteArray) (l p : Nat) (w : World) (h : WhlAt w w.heap.size a n x) (hv : v.size ≤ 4294967296) (hf : fitB x v = true) (hC : Cyc (fun n => stepN x n v) l p) :
    Calls Try.prog 11 #[.agg #[.slice a n c, .string x.refl], .string v] w fun e w' => e = .returned (.int .i64 (p : Int)) ∧ Below w.heap.size w w' := by
  have o0 := Own.new w [.slice a n c, .string x.refl] 25
  have hb0 := (Below.refl w.heap.size w).alloc (Nat.le_refl _) (.cells [.slice a n c, .string x.refl].toArray 25)
  have h' := h.alloc_ (.cells [.slice a n c, .string x.refl].toArray 25)
  have hc := windowsValid_any a n c x v _ h' hv
  rw [hf] at hc
  have hF := fitB_iff.1 hf
  clear hf
  go_enter Try.func11, Try.ntmps11
  go_wp2_with fail
  refine hc.mono ?_
  rintro e w1 ⟨rfl, hb1⟩
  have o1 := o0.below hb1 o0.lt
  have c0 := o1.at_ (i := 0) rfl
  have c1 := o1.at_ (i := 1) rfl
  have h1 := (h'.below hb1 (Nat.le_refl _)).more hb1.size
  clear hc h'
  go_wp2_with fail
  refine (cycleFrom_any a n c x v l p _ h1 hF hC).mono ?_
  rintro e w2 ⟨rfl, hb2⟩
  go_wp2
  go_ret
  exact ⟨rfl, bt (bt hb0 hb1) hb2⟩

theorem rcStepsP_any (a : Option Addr) (n c : Nat) (x : Whl) (u : ByteArray) (N : Int) (w : World) (h : WhlAt w w.heap.size a n x) (hu : u.size ≤ 4294967296) :
    Calls Try.prog 9 #[.agg #[.slice a n c, .string x.refl], .string u, .int .i64 N] w fun e w' => e = .returned (.string (stepT x u N).1) ∧ Below w.heap.size w w' := by
  have hb0 := (Below.refl w.heap.size w).alloc (Nat.le_refl _) (.cells [.slice a n c, .string x.refl].toArray 25)
  have h' := h.alloc_ (.cells [.slice a n c, .string x.refl].toArray 25)
  go_enter Try.func9, Try.ntmps9
  go_wp2_with fail
  refine (implStepMany_any a n c x u N _ h' hu).mono ?_
  rintro e w1 ⟨rfl, hb1⟩
  go_wp2
  go_ret
  exact ⟨rfl, bt hb0 hb1⟩
theorem stepN_plus (x : Whl) (a : Nat) (v : ByteArray) : ∀ b, stepN x b (stepN x a v) = stepN x (a + b) v
  | 0 => rfl
  | b + 1 => by rw [stepN_succ, stepN_plus x a v b, show a + (b + 1) = (a + b) + 1 by omega, stepN_succ]
theorem cyc_start {x : Whl} {v : ByteArray} {l p : Nat} (h : Cyc (fun n => stepN x n v) l p) : Cyc (fun n => stepN x n (stepN x l v)) 0 p := by
  refine ⟨h.pos, ?_, fun q h1 h2 => ?_, fun k q hk => absurd hk (by omega)⟩
  · show stepN x (0 + p) (stepN x l v) = stepN x 0 (stepN x l v)
    rw [stepN_plus, stepN_plus, Nat.zero_add, Nat.add_zero]; exact h.back
  · show stepN x (0 + q) (stepN x l v) ≠ stepN x 0 (stepN x l v)
    rw [stepN_plus, stepN_plus, Nat.zero_add, Nat.add_zero]; exact h.least q h1 h2
section
variable {P : Program} {ops : Array Oper} {Q : Exit → Act → World → Prop} {md : Region.Mode} {S : World → Prop} {kp : Nat → Bool}
/-- A call whose answer is one of many. -/
theorem kr_callP (i d : Nat) {o : Oper} {f : FuncId} {args : Array Value} {T : Value → World → Prop} {fuel : Nat} {listed : Array Bool} {a : Act} {w : World} (hr : Region.ready md ops listed = [i]) (hi : ops[i]? = some o) (hw : Region.wanted o (yielded ops a.tmps) = true)
    (hd : o.dst = some d) (he : ∀ w, (execOp a.eval o).run P w = .ok (.enter f args) w) (hc : Calls P f args w fun e w' => ∃ v, e = .returned v ∧ T v w')
    (h : ∀ v w', T v w' → S w' ∧ wpAnyK P md ops Q S kp fuel (listed.setIfInBounds i true) (a.put (some d) v) w') : wpAnyK P md ops Q S kp (fuel + 1) listed a w := by
  refine kr_one i hr hi hw ?_
  simp only [Oper.wp, he, Oper.upon]
  refine hc.mono ?_
  rintro e w' ⟨v, rfl, hT⟩
  rw [hd]
  exact ⟨fun _ => (h v w' hT).1, (h v w' hT).2⟩
end
theorem up1P {w w' : World} {a : Option Addr} {xs : List Value} (h : Reads w w.heap.size a xs) (hb : Below w.heap.size w w') : Reads w' w'.heap.size a xs := (h.below hb (Nat.le_refl _)).more hb.size
set_option maxRecDepth 100000 in
set_option maxHeartbeats 4000000 in
theorem encipherPeriod_walk (a : Option Addr) (len cap : Nat) (zs : List Int) (w : World) (h : IsRow .u8 w a len cap zs) :
    Calls Try.prog 3 #[.slice a len cap] w fun e w' => e = .returned (.bool true) ∧ Below w.heap.size w w' := by
  have hlen : len ≤ 9223372036854775807 := by
    rcases h with ⟨_, rfl, _⟩ | ⟨x, _, hl, hm, _⟩
    · omega
    · unfold maxLen at hm; omega
  by_cases hl : 1048576 < len
  · go_enter Try.func3, Try.ntmps3
    go_wp2
    go_ret
    exact ⟨rfl, Below.refl _ _⟩
  · go_enter Try.func3, Try.ntmps3
    go_wp2_with fail
    refine (DrawKeyPerms_any a len cap zs _ h (by omega)).mono ?_
    rintro e w1 ⟨m, v, N, a1, cap1, ⟨hsm, hrd, -, hb1⟩, hv, hN1, hN2, rfl⟩
    have o1 := Own.new w1 [.slice a1 m.wheels.rotors.length cap1, .string m.wheels.refl, .string m.rings, .string m.plugs] 27
    have hb1' := hb1.alloc hb1.size (.cells [.slice a1 m.wheels.rotors.length cap1, .string m.wheels.refl, .string m.rings, .string m.plugs].toArray 27)
    have hat := (hsm.at_ hrd).alloc_ (.cells [.slice a1 m.wheels.rotors.length cap1, .string m.wheels.refl, .string m.rings, .string m.plugs].toArray 27)
    clear hrd hb1 h hsm
    go_wp2_with fail
    generalize (w1.alloc (.cells [.slice a1 m.wheels.rotors.length cap1, .string m.wheels.refl, .string m.rings, .string m.plugs].toArray 27)) = W1 at *
    generalize w1.heap.size = B1 at *
    refine (implKeyPerms_any a1 _ cap1 m v N _ hat (by omega)).mono ?_
    rintro e w2 ⟨lv, rfl, hol, hb2⟩
    obtain ⟨al, cl, rfl, hlc, hrl, -⟩ := hol.val
    have o2 := o1.below hb2 o1.lt
    have hbw2 := bt hb1' hb2
    have hat2 := (hat.below hb2 (Nat.le_refl _)).more hb2.size
    clear o1 hb1' hat hb2 hol
    have HKN := Lib.hid (fun h => keyT_no (m := m) (v := v) (n := N) h)
    have hsp := fun W h => specKeyPerms_any a1 m.wheels.rotors.length cap1 m v N W h (by omega)
    have hkl : (keyT m v N).length ≤ 60 := by
      by_cases hy : setB m v = true ∧ 0 ≤ N ∧ N ≤ 60
      · obtain ⟨k, rfl⟩ := Int.eq_ofNat_of_zero_le hy.2.1
        rw [keyT_yes hy.1 (by omega), len_keyS]; omega
      · rw [keyT_no hy]; simp
    generalize keyT m v N = K at *
    have f0 := o2.at_ (i := 0) rfl
    have f1 := o2.at_ (i := 1) rfl
    have f2 := o2.at_ (i := 2) rfl
    have f3 := o2.at_ (i := 3) rfl
    go_wp2_with fail
    refine (hsp _ hat2).mono ?_
    rintro e w3 ⟨lv, rfl, hol, hb3⟩
    obtain ⟨al3, cl3, rfl, hlc3, hrl3, -⟩ := hol.val
    have o3 := o2.below hb3 o2.lt
    have hbw3 := bt hbw2 hb3
    have hat3 := (hat2.below hb3 (Nat.le_refl _)).more hb3.size
    have hrlb := up1P hrl hb3
    clear o2 hbw2 hat2 hrl f0 f1 f2 f3 hol hb3
    go_wp2_with fail
    have hrt := rcTexts_any al al3 cl cl3 K K w3 hrlb hrl3 (by omega)
    rw [decide_eq_true rfl] at hrt
    refine hrt.mono ?_
    rintro e w' ⟨rfl, n4, rfl⟩
    have hb4 : Below w3.heap.size w3 (w3.drewN n4) := bel_drewN (Below.refl _ _) n4
    have o4 := o3.below hb4 o3.lt
    have hbw4 := bt hbw3 hb4
    have hat4 := (hat3.below hb4 (Nat.le_refl _)).more hb4.size
    have hrl4 := up1P hrlb hb4
    clear o3 hbw3 hat3 hrlb hb4 hrl3 hrt
    generalize w3.drewN n4 = w4 at *
    by_cases hk0 : K.length = 0
    · have t0 : ((K.length : Int) == 0) = true := by simp [hk0]
      clear hk0
      have f0 := o4.at_ (i := 0) rfl
      have f1 := o4.at_ (i := 1) rfl
      have f2 := o4.at_ (i := 2) rfl
      have f3 := o4.at_ (i := 3) rfl
      go_wp2_with fail
      refine (hsp _ hat4).mono ?_
      rintro e w5 ⟨lv, rfl, hol, hb5⟩
      obtain ⟨al5, cl5, rfl, hlc5, hrl5, -⟩ := hol.val
      have hbw5 := bt hbw4 hb5
      have hrlb := up1P hrl4 hb5
      clear o4 hbw4 hat4 hrl4 f0 f1 f2 f3 hol hb5
      go_wp2_with fail
      have hrt := rcTexts_any al al5 cl cl5 K K w5 hrlb hrl5 (by omega)
      rw [decide_eq_true rfl] at hrt
      refine hrt.mono ?_
      rintro e w' ⟨rfl, n6, rfl⟩
      go_wp2
      go_ret
      exact ⟨rfl, bel_drewN hbw5 n6⟩
    · have t0 : ((K.length : Int) == 0) = false := by rw [beq_eq_false_iff_ne]; omega
      have hyes : setB m v = true ∧ 0 ≤ N ∧ N ≤ 60 := by
        apply Classical.byContradiction
        intro hn
        rw [HKN.out hn] at hk0
        exact hk0 rfl
      obtain ⟨hsb, hN3, hN4⟩ := hyes
      have hF := setB_fit hsb
      obtain ⟨l, p, hC, hl1, hp1⟩ := exists_cyc hF
      have hfit := fitB_iff.2 hF
      have hF2 := hF.stepN_ l
      have hfit2 := fitB_iff.2 hF2
      have hC2 := cyc_start hC
      have hback : stepN m.wheels p (stepN m.wheels l v) = stepN m.wheels l v := by rw [stepN_plus]; exact hC.back
      have hsl : (stepN m.wheels l v).size ≤ 4294967296 := by rw [size_stepN]; omega
      have n1 := fun (cc : Cls w4.heap.size w4) => implLeadInP_any a1 m.wheels.rotors.length cap1 m.wheels v l cc.w ((hat4.whl.below cc.bel (Nat.le_refl _)).more cc.bel.size) (by omega) (.inr ⟨hfit, l, p, hC, rfl⟩)
      have n2 := fun (cc : Cls w4.heap.size w4) => rcStepsP_any a1 m.wheels.rotors.length cap1 m.wheels v l cc.w ((hat4.whl.below cc.bel (Nat.le_refl _)).more cc.bel.size) (by omega)
      rw [stepT_yes hfit (by omega)] at n2
      have lo := o4.lt
      have d0 := fun (cc : Cls w4.heap.size w4) => (cc.cell B1 0 lo).trans (o4.at_ (i := 0) rfl)
      have d1 := fun (cc : Cls w4.heap.size w4) => (cc.cell B1 1 lo).trans (o4.at_ (i := 1) rfl)
      clear hC hF hk0 hsp
      have HC2 := Lib.hid hC2
      clear hC2
      generalize stepN m.wheels l v = y at *
      go_wp2_with fail
      refine wp_region_cls (by kernel_rfl) (by kernel_rfl) ?_
      repeat (go_big_quiet_step (first | (go_at_call 10; with_reducible exact cls_of (Nat.le_refl _) (n1 _)) | (go_at_call 9; with_reducible exact cls_of (Nat.le_refl _) (n2 _))))
      refine wpQuiet_nil ?_
      intro wc hbc
      have o5 := o4.below hbc lo
      have hbw5 := bt hbw4 hbc
      have hat5 := (hat4.below hbc (Nat.le_refl _)).more hbc.size
      clear o4 hbw4 hat4 hrl4 d0 d1 n1 n2
      have lo := o5.lt
      have n1 := fun (cc : Cls wc.heap.size wc) => implPeriodOfP_any a1 m.wheels.rotors.length cap1 m.wheels y 0 p cc.w ((hat5.whl.below cc.bel (Nat.le_refl _)).more cc.bel.size) hsl hfit2 HC2.out
      have n2 := fun (cc : Cls wc.heap.size wc) => rcStepsP_any a1 m.wheels.rotors.length cap1 m.wheels y p cc.w ((hat5.whl.below cc.bel (Nat.le_refl _)).more cc.bel.size) hsl
      rw [stepT_yes hfit2 (by omega), hback] at n2
      have d0 := fun (cc : Cls wc.heap.size wc) => (cc.cell B1 0 lo).trans (o5.at_ (i := 0) rfl)
      have d1 := fun (cc : Cls wc.heap.size wc) => (cc.cell B1 1 lo).trans (o5.at_ (i := 1) rfl)
      generalize wc = w5 at *
      clear hbc hback
      go_wp2_with fail
      refine wp_region_cls (by kernel_rfl) (by kernel_rfl) ?_
      repeat (go_big_quiet_step (first | (go_at_call 11; with_reducible exact cls_of (Nat.le_refl _) (n1 _)) | (go_at_call 9; with_reducible exact cls_of (Nat.le_refl _) (n2 _))))
      refine wpQuiet_nil ?_
      intro wc hbc
      have o6 := o5.below hbc lo
      have hbw6 := bt hbw5 hbc
      have hat6 := (hat5.below hbc (Nat.le_refl _)).more hbc.size
      clear o5 hbw5 hat5 d0 d1 n1 n2
      generalize wc = w6 at *
      clear hbc
      have te : (y.toList == y.toList) = true := by simp
      go_wp2_with fail
      refine wp_onlyN ?_
      refine wp_region_any (by kernel_rfl) ?_
      refine wpAny_of_K (S := fun w' => w'.rangeAt B1 0 [.slice a1 m.wheels.rotors.length cap1, .string m.wheels.refl, .string m.rings, .string m.plugs]) (kp := fun _ => true) _ _ _ _ ?_
      have hbd : Below w6.heap.size w6 w6.drew := (Below.refl _ _).drew
      have hS : w6.drew.rangeAt B1 0 [.slice a1 m.wheels.rotors.length cap1, .string m.wheels.refl, .string m.rings, .string m.plugs] := (o6.below hbd o6.lt).cells.range
      refine kr_take 0 56 (v := .string y) rfl (by kernel_rfl) (by kernel_rfl) (by kernel_rfl) (by kernel_rfl) (fun _ _ _ h => by cases h.1) rfl hS (Or.inl ⟨by rfl, fun _ _ => rfl⟩) ?_
      simp only [Act.put, List.setIfInBounds_toArray, List.set_cons_succ, List.set_cons_zero]
      refine kr_take 1 57 (v := .string y) rfl (by kernel_rfl) (by kernel_rfl) (by kernel_rfl) (by kernel_rfl) (fun _ _ _ h => by cases h.1) rfl hS (Or.inl ⟨by rfl, fun _ _ => rfl⟩) ?_
      simp only [Act.put, List.setIfInBounds_toArray, List.set_cons_succ, List.set_cons_zero]
      refine kr_take 2 58 (v := .bool true) rfl (by kernel_rfl) (by kernel_rfl) (by kernel_rfl) (by kernel_rfl) (fun _ _ _ h => by cases h.1) rfl hS (Or.inl ⟨by rfl, fun w' _ => by simp [go_sem]⟩) ?_
      simp only [Act.put, List.setIfInBounds_toArray, List.set_cons_succ, List.set_cons_zero]
      refine kr_take 3 59 (v := .bool true) rfl (by kernel_rfl) (by kernel_rfl) (by kernel_rfl) (by kernel_rfl) (fun _ _ _ h => by cases h.1) rfl hS (Or.inl ⟨by rfl, fun _ _ => rfl⟩) ?_
      simp only [Act.put, List.setIfInBounds_toArray, List.set_cons_succ, List.set_cons_zero]
      refine kr_take 4 60 (v := .agg #[.slice a1 m.wheels.rotors.length cap1, .string m.wheels.refl, .string m.rings, .string m.plugs]) rfl (by kernel_rfl) (by kernel_rfl) (by kernel_rfl) (by kernel_rfl) (fun _ _ _ h => by cases h.1) rfl hS (yieldsIf_load_mid (by rfl) _ _ rfl _ _ rfl _ _ (fun _ h => h) Try.underlying27 rfl (by kernel_rfl)) ?_
      simp only [Act.put, List.setIfInBounds_toArray, List.set_cons_succ, List.set_cons_zero]
      refine kr_take 5 61 (v := .string y) rfl (by kernel_rfl) (by kernel_rfl) (by kernel_rfl) (by kernel_rfl) (fun _ _ _ h => by cases h.1) rfl hS (Or.inl ⟨by rfl, fun _ _ => rfl⟩) ?_
      simp only [Act.put, List.setIfInBounds_toArray, List.set_cons_succ, List.set_cons_zero]
      refine kr_take 6 62 (v := .int .i64 N) rfl (by kernel_rfl) (by kernel_rfl) (by kernel_rfl) (by kernel_rfl) (fun _ _ _ h => by cases h.1) rfl hS (Or.inl ⟨by rfl, fun _ _ => rfl⟩) ?_
      simp only [Act.put, List.setIfInBounds_toArray, List.set_cons_succ, List.set_cons_zero]
      refine kr_take 8 64 (v := .agg #[.slice a1 m.wheels.rotors.length cap1, .string m.wheels.refl, .string m.rings, .string m.plugs]) rfl (by kernel_rfl) (by kernel_rfl) (by kernel_rfl) (by kernel_rfl) (fun _ _ _ h => by cases h.1) rfl hS (yieldsIf_load_mid (by rfl) _ _ rfl _ _ rfl _ _ (fun _ h => h) Try.underlying27 rfl (by kernel_rfl)) ?_
      simp only [Act.put, List.setIfInBounds_toArray, List.set_cons_succ, List.set_cons_zero]
      refine kr_take 9 65 (v := .string y) rfl (by kernel_rfl) (by kernel_rfl) (by kernel_rfl) (by kernel_rfl) (fun _ _ _ h => by cases h.1) rfl hS (Or.inl ⟨by rfl, fun _ _ => rfl⟩) ?_
      simp only [Act.put, List.setIfInBounds_toArray, List.set_cons_succ, List.set_cons_zero]
      refine kr_take 10 66 (v := .int .i64 N) rfl (by kernel_rfl) (by kernel_rfl) (by kernel_rfl) (by kernel_rfl) (fun _ _ _ h => by cases h.1) rfl hS (Or.inl ⟨by rfl, fun _ _ => rfl⟩) ?_
      simp only [Act.put, List.setIfInBounds_toArray, List.set_cons_succ, List.set_cons_zero]
      have hatd := (hat6.below hbd (Nat.le_refl _)).more hbd.size
      have hk2 : (keyT m y N).length ≤ 60 := by
        by_cases hy : setB m y = true ∧ 0 ≤ N ∧ N ≤ 60
        · obtain ⟨k, rfl⟩ := Int.eq_ofNat_of_zero_le hy.2.1
          rw [keyT_yes hy.1 (by omega), len_keyS]; omega
        · rw [keyT_no hy]; simp
      refine kr_callP 7 63 (by kernel_rfl) rfl (by rfl) rfl (fun w => by simp [go_sem]) (implKeyPerms_any a1 m.wheels.rotors.length cap1 m y N w6.drew hatd hsl) (fun v7 w7 hT7 => ?_)
      obtain ⟨hol7, hb7⟩ := hT7
      have hb67 := bt hbd hb7
      have o7 := o6.below hb67 o6.lt
      have hat7 := (hat6.below hb67 (Nat.le_refl _)).more hb67.size
      refine ⟨o7.cells.range, ?_⟩
      simp only [Act.put, List.setIfInBounds_toArray, List.set_cons_succ, List.set_cons_zero]
      refine kr_callP 11 67 (by kernel_rfl) rfl (by rfl) rfl (fun w => by simp [go_sem]) (implKeyPerms_any a1 m.wheels.rotors.length cap1 m y N w7 hat7 hsl) (fun v8 w8 hT8 => ?_)
      obtain ⟨hol8, hb8⟩ := hT8
      have hb68 := bt hb67 hb8
      have o8 := o6.below hb68 o6.lt
      refine ⟨o8.cells.range, ?_⟩
      simp only [Act.put, List.setIfInBounds_toArray, List.set_cons_succ, List.set_cons_zero]
      obtain ⟨a7, c7, rfl, -, hr7, -⟩ := OwR.val hol7
      obtain ⟨a8, c8, rfl, -, hr8, -⟩ := OwR.val hol8
      have hrt := rcTexts_any a7 a8 c7 c8 (keyT m y N) (keyT m y N) w8 (up1P hr7 hb8) hr8 (by omega)
      rw [decide_eq_true rfl] at hrt
      refine kr_call 12 68 (by kernel_rfl) rfl (by rfl) rfl (fun w => by simp [go_sem]) hrt (fun w9 hT9 => ?_)
      obtain ⟨n9, rfl⟩ := hT9
      have hb9 : Below w8.heap.size w8 (w8.drewN n9) := bel_drewN (Below.refl _ _) n9
      have hS9 : (w8.drewN n9).rangeAt B1 0 [.slice a1 m.wheels.rotors.length cap1, .string m.wheels.refl, .string m.rings, .string m.plugs] := (o8.below hb9 o8.lt).cells.range
      refine ⟨hS9, ?_⟩
      simp only [Act.put, List.setIfInBounds_toArray, List.set_cons_succ, List.set_cons_zero]
      refine kr_take 13 69 (v := .bool true) rfl (by kernel_rfl) (by kernel_rfl) (by kernel_rfl) (by kernel_rfl) (fun _ _ _ h => by cases h.1) rfl hS9 (Or.inl ⟨by rfl, fun w' _ => by simp [go_sem]⟩) ?_
      simp only [Act.put, List.setIfInBounds_toArray, List.set_cons_succ, List.set_cons_zero]
      refine kr_take 14 2 (v := .bool true) rfl (by kernel_rfl) (by kernel_rfl) (by kernel_rfl) (by kernel_rfl) (fun _ _ _ h => by cases h.1) rfl hS9 (Or.inl ⟨by rfl, fun _ _ => rfl⟩) ?_
      simp only [Act.put]
      refine ⟨by kernel_rfl, onlyN_mk ?_⟩
      go_wp2
      go_ret
      exact ⟨rfl, bt hbw6 (bt hb68 hb9)⟩
end Go.Proofs.Ytbeohccbflhdiaa
