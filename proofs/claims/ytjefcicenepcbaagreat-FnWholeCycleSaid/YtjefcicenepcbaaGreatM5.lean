/- Several of my texts in one: StepT, Floyd, CycF, Draw, DrawP. -/
import Derived.Test.YtjefcicenepcbaaGreatM4
import Derived.Test.YtjefcicenepcbaaGreatM2
import Derived.Deep.LoopGhost
import Derived.Test.YtjefcicenepcbaaGreatM1
import Derived.Deep.RegionWith
import Derived.OpenShut
import Derived.Deep.RegionLaw
import Derived.Deep.RegionHeld3
import Derived.Deep.DeepCutAuto
import Derived.Laws.Strings2
/- Contracts of StepMany and StepWindows, and of the laws' own comparisons. -/
namespace Go.Proofs.YtjefcicenepcbaaGreat
open Go.RowKit

/-- What StepMany answers. -/
def stepT (x : Whl) (u : ByteArray) (n : Int) : ByteArray × Bool := if fitB x u = true ∧ 0 ≤ n ∧ n ≤ 2000 then (stepN x n.toNat u, true) else (S [], false)
theorem stepT_no {x : Whl} {u : ByteArray} {n : Int} (h : ¬ (fitB x u = true ∧ 0 ≤ n ∧ n ≤ 2000)) : stepT x u n = (S [], false) := by simp only [stepT, if_neg h]
theorem stepT_yes {x : Whl} {u : ByteArray} {n : Nat} (h : fitB x u = true) (hn : n ≤ 2000) : stepT x u (n : Int) = (stepN x n u, true) := by
  unfold stepT
  rw [if_pos ⟨h, by omega, by omega⟩]; rfl
theorem FitB.step_ {x : Whl} {v : ByteArray} (h : FitB x v) : FitB x (stepW x v) := ⟨h.one, h.three, h.rot, h.refl, by rw [size_stepW]; exact h.size, word_stepW h.word⟩
theorem FitB.stepN_ {x : Whl} : ∀ (n : Nat) {v : ByteArray}, FitB x v → FitB x (Go.Proofs.YtjefcicenepcbaaGreat.stepN x n v)
  | 0, _, h => h
  | n + 1, _, h => FitB.stepN_ n h.step_
theorem implStepMany_any (a : Option Addr) (n c : Nat) (x : Whl) (u : ByteArray) (N : Int) (w : World) (h : WhlAt w w.heap.size a n x) (hu : u.size ≤ 4294967296) :
    Calls Tryz.prog 17 #[.agg #[.slice a n c, .string x.refl], .string u, .int .i64 N] w fun e w' => e = .returned (.tuple #[.string (stepT x u N).1, .bool (stepT x u N).2]) ∧ Below w.heap.size w w' := by
  have o0 := Own.new w [.slice a n c, .string x.refl] 25
  have hb0 := (Below.refl w.heap.size w).alloc (Nat.le_refl _) (.cells [.slice a n c, .string x.refl].toArray 25)
  have h' := h.alloc_ (.cells [.slice a n c, .string x.refl].toArray 25)
  have hc := windowsValid_any a n c x u _ h' hu
  cases hf : fitB x u with
  | false =>
    have HT := Lib.hid (stepT_no (x := x) (u := u) (n := N) (by simp [hf]))
    rw [hf] at hc
    go_enter Tryz.func17, Tryz.ntmps17
    go_wp2_with fail
    refine hc.mono ?_
    rintro e w1 ⟨rfl, hb1⟩
    go_wp2
    go_ret2
    exact ⟨by rw [HT.out]; rfl, bt hb0 hb1⟩
  | true =>
    have hF := fitB_iff.1 hf
    rw [hf] at hc
    by_cases h0 : N < 0
    · have HT := Lib.hid (stepT_no (x := x) (u := u) (n := N) (by omega))
      have t0 : decide (N < 0) = true := by simp; omega
      clear hf
      go_enter Tryz.func17, Tryz.ntmps17
      go_wp2_with fail
      refine hc.mono ?_
      rintro e w1 ⟨rfl, hb1⟩
      go_wp2
      go_ret2
      exact ⟨by rw [HT.out]; rfl, bt hb0 hb1⟩
    · have t0 : decide (N < 0) = false := by simp; omega
      by_cases h2 : 2000 < N
      · have HT := Lib.hid (stepT_no (x := x) (u := u) (n := N) (by omega))
        have t1 : decide (2000 < N) = true := by simp; omega
        clear hf
        go_enter Tryz.func17, Tryz.ntmps17
        go_wp2_with fail
        refine hc.mono ?_
        rintro e w1 ⟨rfl, hb1⟩
        go_wp2
        go_ret2
        exact ⟨by rw [HT.out]; rfl, bt hb0 hb1⟩
      · have t1 : decide (2000 < N) = false := by simp; omega
        obtain ⟨M, rfl⟩ := Int.eq_ofNat_of_zero_le (show 0 ≤ N by omega)
        have hM : M ≤ 2000 := by omega
        have HT := Lib.hid (stepT_yes (x := x) hf hM)
        clear hf
        go_enter Tryz.func17, Tryz.ntmps17
        go_wp2_with fail
        refine hc.mono ?_
        rintro e w1 ⟨rfl, hb1⟩
        have o1 := o0.below hb1 o0.lt
        have hbw := bt hb0 hb1
        clear o0 hb0 hb1 hc h'
        go_wp2_with fail
        go_loopw [1, 21] (fun s i wr => ∃ k : Nat, k ≤ M ∧ i = .int .i64 k ∧ s = .string (stepN x k u) ∧ Own wr w.heap.size [.slice a n c, .string x.refl] ∧ Below w.heap.size w wr) (fun _ i _ => M - (intOf i).toNat)
        case atStart => exact ⟨0, Nat.zero_le _, rfl, rfl, o1, hbw⟩
        case round =>
          clear o1 hbw
          obtain ⟨k, hk, rfl, rfl, o1, hb⟩ := hrel
          have c0 := o1.at_ (i := 0) rfl
          have c1 := o1.at_ (i := 1) rfl
          by_cases hlt : k < M
          · go_wp2_with fail
            refine (step_any a n c x (stepN x k u) _ ((h.below hb (Nat.le_refl _)).more hb.size) (hF.stepN_ k)).mono ?_
            rintro e w2 ⟨rfl, hb2⟩
            have o2 := o1.below hb2 o1.lt
            go_wp2
            go_roundw
            case rel => exact ⟨k + 1, by omega, by go_num, by rw [stepN_succ], o2, bt hb hb2⟩
            case measure => simp [intOf]; omega
          · have hk' : k = M := by omega
            subst hk'
            go_wp2
            go_ret2
            exact ⟨by rw [HT.out]; rfl, hb⟩
end Go.Proofs.YtjefcicenepcbaaGreat

/- Plain laws on sequences that come back: two walkers, the way in, the period. -/
namespace Go.Proofs.YtjefcicenepcbaaGreat

/-- x is the sequence of a function: equal members have equal next members. -/
def Seqs {α : Type} (x : Nat → α) : Prop := ∀ i j, x i = x j → x (i + 1) = x (j + 1)
theorem Seqs.add {α : Type} {x : Nat → α} (h : Seqs x) {i j : Nat} (e : x i = x j) : ∀ k, x (i + k) = x (j + k)
  | 0 => e
  | k + 1 => h _ _ (h.add e k)
/-- From i on it comes again after each multiple of p. -/
theorem Seqs.mul {α : Type} {x : Nat → α} (h : Seqs x) {i p : Nat} (e : x (i + p) = x i) : ∀ k j, i ≤ j → x (j + k * p) = x j
  | 0, j, _ => by simp
  | k + 1, j, hj => by
    have h1 := h.mul e k j hj
    have h2 := h.add e (j - i + k * p)
    rw [show i + p + (j - i + k * p) = j + (k + 1) * p by rw [Nat.succ_mul]; omega, show i + (j - i + k * p) = j + k * p by omega] at h2
    rw [h2, h1]
theorem find_rep {α : Type} {x : Nat → α} {c : α → Nat} {M : Nat} (hc : ∀ i, c (x i) < M) (hi : ∀ i j, c (x i) = c (x j) → x i = x j) : ∃ i j, i < j ∧ j ≤ M ∧ x i = x j := by
  apply Classical.byContradiction
  intro hn
  have hnd : ((List.range (M + 1)).map fun i => c (x i)).Nodup := by
    rw [List.nodup_iff_pairwise_ne, List.pairwise_iff_getElem]
    intro i j h1 h2 hlt e
    simp at h1 h2
    simp only [List.getElem_map, List.getElem_range] at e
    exact hn ⟨i, j, hlt, by omega, hi _ _ e⟩
  have := nodup_le M _ hnd (fun y hy => by
    obtain ⟨i, _, rfl⟩ := List.mem_map.1 hy
    exact hc i)
  simp at this
  omega
/-- Two walkers meet. -/
theorem meet {α : Type} {x : Nat → α} (h : Seqs x) {M : Nat} (hr : ∃ i j, i < j ∧ j ≤ M ∧ x i = x j) : ∃ n, 1 ≤ n ∧ n ≤ M ∧ x n = x (2 * n) := by
  obtain ⟨i, j, hlt, hj, e⟩ := hr
  have hp : 0 < j - i := by omega
  have e' : x (i + (j - i)) = x i := by rw [show i + (j - i) = j by omega]; exact e.symm
  by_cases h0 : i = 0
  · refine ⟨j - i, by omega, by omega, ?_⟩
    have := h.mul e' 1 (j - i) (by omega)
    rw [show 2 * (j - i) = j - i + 1 * (j - i) by omega]; exact this.symm
  · -- the least multiple of the period from i on
    refine ⟨(i + (j - i) - 1) / (j - i) * (j - i), ?_, ?_, ?_⟩
    · have : 1 ≤ (i + (j - i) - 1) / (j - i) := (Nat.le_div_iff_mul_le hp).2 (by omega)
      have := Nat.mul_le_mul this (Nat.le_refl (j - i))
      omega
    · have := Nat.div_mul_le_self (i + (j - i) - 1) (j - i)
      omega
    · have hge : i ≤ (i + (j - i) - 1) / (j - i) * (j - i) := by
        have h1 := Nat.div_add_mod (i + (j - i) - 1) (j - i)
        have h2 := Nat.mod_lt (i + (j - i) - 1) hp
        rw [Nat.mul_comm] at h1
        omega
      have := h.mul e' ((i + (j - i) - 1) / (j - i)) _ hge
      rw [show 2 * ((i + (j - i) - 1) / (j - i) * (j - i)) = (i + (j - i) - 1) / (j - i) * (j - i) + (i + (j - i) - 1) / (j - i) * (j - i) by omega]
      exact this.symm
/-- What the two walkers tell: n where they met, l the way in, p the period. -/
structure Cyc {α : Type} (x : Nat → α) (l p : Nat) : Prop where
  pos : 1 ≤ p
  back : x (l + p) = x l
  least : ∀ q, 1 ≤ q → q < p → x (l + q) ≠ x l
  first : ∀ k q, k < l → 1 ≤ q → x (k + q) ≠ x k
/-- The way in, as the program finds it, is the way in. -/
theorem cyc_of {α : Type} {x : Nat → α} (h : Seqs x) {n l p : Nat} (hn : 1 ≤ n) (hm : x n = x (2 * n)) (_hl : x l = x (n + l)) (hmin : ∀ k, k < l → x k ≠ x (n + k))
    (hp : 1 ≤ p) (hb : x (l + p) = x l) (hlp : ∀ q, 1 ≤ q → q < p → x (l + q) ≠ x l) : Cyc x l p := by
  refine ⟨hp, hb, hlp, fun k q hk hq e => hmin k hk ?_⟩
  -- from k on it comes again after q, and far out after n: so from k on after n
  have hnn : x (n + n) = x n := by rw [show n + n = 2 * n by omega]; exact hm.symm
  have h1 := h.mul e n (k + n) (by omega)
  have h2 := h.mul e n k (Nat.le_refl _)
  have h3 : x (k + n * q + n) = x (k + n * q) := by
    have hge : n ≤ k + n * q := by have := Nat.mul_le_mul (Nat.le_refl n) hq; omega
    have := h.mul hnn 1 (k + n * q) hge
    rw [Nat.one_mul] at this; exact this
  rw [show n + k = k + n by omega, ← h1, show k + n + n * q = k + n * q + n by omega, h3, h2]
theorem Cyc.uniq {α : Type} {x : Nat → α} {l p l' p' : Nat} (a : Cyc x l p) (b : Cyc x l' p') : l = l' ∧ p = p' := by
  have hl : l = l' := by
    rcases Nat.lt_trichotomy l l' with h | h | h
    · exact absurd a.back (b.first l p h a.pos)
    · exact h
    · exact absurd b.back (a.first l' p' h b.pos)
  subst hl
  refine ⟨rfl, ?_⟩
  rcases Nat.lt_trichotomy p p' with h | h | h
  · exact absurd a.back (b.least p a.pos h)
  · exact h
  · exact absurd b.back (a.least p' b.pos h)

/-- The number of some windows. -/
def winN (s : ByteArray) : Nat := (dg s).foldl (fun n d => n * 10 + d) 0
theorem seqs_step (w : Whl) (v : ByteArray) : Seqs fun n => stepN w n v := fun i j e => by
  show stepN w (i + 1) v = stepN w (j + 1) v
  rw [stepN_succ, stepN_succ]
  exact congrArg _ e
theorem winN_lt {s : ByteArray} (h : wordB s = true) (h3 : s.size ≤ 3) : winN s < 1000 := by
  have hl := len_dg s
  have hd := word_dg_lt h
  unfold winN
  match hs : dg s with
  | [] => simp
  | [a] => rw [hs] at hd; have := hd a (by simp); simp; omega
  | [a, b] => rw [hs] at hd; have := hd a (by simp); have := hd b (by simp); simp; omega
  | [a, b, c] => rw [hs] at hd; have := hd a (by simp); have := hd b (by simp); have := hd c (by simp); simp; omega
  | a :: b :: c :: d :: r => rw [hs] at hl; simp at hl; omega
theorem winN_inj {s t : ByteArray} (h : wordB s = true) (k : wordB t = true) (h3 : s.size ≤ 3) (hst : s.size = t.size) (e : winN s = winN t) : s = t := by
  rw [← wd_dg h, ← wd_dg k]
  congr 1
  have hl := len_dg s
  have hl' := len_dg t
  have hd := word_dg_lt h
  have hd' := word_dg_lt k
  unfold winN at e
  match hs : dg s, ht : dg t with
  | [], [] => rfl
  | [a], [a'] =>
    rw [hs] at hd e; rw [ht] at hd' e
    have := hd a (by simp); have := hd' a' (by simp); simp at e; simp; omega
  | [a, b], [a', b'] =>
    rw [hs] at hd e; rw [ht] at hd' e
    have := hd a (by simp); have := hd b (by simp); have := hd' a' (by simp); have := hd' b' (by simp); simp at e; simp; omega
  | [a, b, c], [a', b', c'] =>
    rw [hs] at hd e; rw [ht] at hd' e
    have := hd a (by simp); have := hd b (by simp); have := hd c (by simp); have := hd' a' (by simp); have := hd' b' (by simp); have := hd' c' (by simp); simp at e; simp; omega
  | a :: b :: c :: d :: r, _ => rw [hs] at hl; simp at hl; omega
  | [], _ :: _ => rw [hs] at hl; rw [ht] at hl'; simp at hl hl'; omega
  | _ :: _, [] => rw [hs] at hl; rw [ht] at hl'; simp at hl hl'; omega
  | [_], _ :: _ :: _ => rw [hs] at hl; rw [ht] at hl'; simp at hl hl'; omega
  | [_, _], [_] => rw [hs] at hl; rw [ht] at hl'; simp at hl hl'; omega
  | [_, _], _ :: _ :: _ :: _ => rw [hs] at hl; rw [ht] at hl'; simp at hl hl'; omega
  | [_, _, _], [_] => rw [hs] at hl; rw [ht] at hl'; simp at hl hl'; omega
  | [_, _, _], [_, _] => rw [hs] at hl; rw [ht] at hl'; simp at hl hl'; omega
  | [_, _, _], _ :: _ :: _ :: _ :: _ => rw [hs] at hl; rw [ht] at hl'; simp at hl hl'; omega
theorem step_meet {w : Whl} {v : ByteArray} (h : FitB w v) : ∃ n, 1 ≤ n ∧ n ≤ 1000 ∧ stepN w n v = stepN w (2 * n) v := by
  have h3 : ∀ i, (stepN w i v).size ≤ 3 := fun i => by rw [size_stepN, h.size]; exact h.three
  exact meet (seqs_step w v) (find_rep (c := winN) (M := 1000) (fun i => winN_lt (word_stepN i h.word) (h3 i)) (fun i j e => winN_inj (word_stepN i h.word) (word_stepN j h.word) (h3 i) (by rw [size_stepN, size_stepN]) e))
end Go.Proofs.YtjefcicenepcbaaGreat

/- The contract of cycleFrom, and of the program's LeadIn and PeriodOf. -/
namespace Go.Proofs.YtjefcicenepcbaaGreat
open Go.RowKit

theorem least_of {P : Nat → Prop} : ∀ M, P M → ∃ n, n ≤ M ∧ P n ∧ ∀ m, m < n → ¬ P m
  | M, h => by
    apply Classical.byContradiction
    intro hn
    have : ∀ n, n ≤ M → ∀ m, m < n → ¬ P m := fun n => by
      induction n with
      | zero => intro _ m hm; omega
      | succ n ih =>
        intro hle m hm hp
        by_cases e : m = n
        · subst e
          exact hn ⟨m, by omega, hp, ih (by omega)⟩
        · exact ih (by omega) m (by omega) hp
    exact hn ⟨M, Nat.le_refl _, h, this M (Nat.le_refl _)⟩
/-- Steps come back. -/
theorem exists_cyc {x : Whl} {v : ByteArray} (hF : FitB x v) : ∃ l p, Cyc (fun n => stepN x n v) l p ∧ l ≤ 1000 ∧ p ≤ 1000 := by
  obtain ⟨n, h1, h2, h3⟩ := step_meet hF
  obtain ⟨l, hl, hl1, hl2⟩ := least_of (P := fun k => stepN x k v = stepN x (n + k) v) n (by show stepN x n v = stepN x (n + n) v; rw [h3]; congr 1; omega)
  obtain ⟨q, hq, hq1, hq2⟩ := least_of (P := fun q => stepN x (l + (q + 1)) v = stepN x l v) (n - 1) (by show stepN x (l + (n - 1 + 1)) v = stepN x l v; rw [show l + (n - 1 + 1) = n + l by omega]; exact hl1.symm)
  refine ⟨l, q + 1, cyc_of (seqs_step x v) h1 h3 hl1 (fun k hk => hl2 k hk) (by omega) hq1 (fun r hr1 hr2 => ?_), by omega, by omega⟩
  have := hq2 (r - 1) (by omega)
  rw [show l + (r - 1 + 1) = l + r by omega] at this
  exact this

theorem bne_of {a b : ByteArray} (h : a ≠ b) : (a.toList == b.toList) = false := by
  rw [toList_L, toList_L, beq_eq_false_iff_ne]
  exact fun e => h (L_inj e)
theorem bne_no {a b : ByteArray} (h : a = b) : (a.toList == b.toList) = true := by rw [h]; simp

set_option maxHeartbeats 2000000 in
theorem cycleFrom_any (a : Option Addr) (n c : Nat) (x : Whl) (v : ByteArray) (l p : Nat) (w : World) (h : WhlAt w w.heap.size a n x) (hF : FitB x v) (hC : Cyc (fun n => stepN x n v) l p) :
    Calls Tryz.prog 14 #[.agg #[.slice a n c, .string x.refl], .string v] w fun e w' => e = .returned (.tuple #[.int .i64 (l : Int), .int .i64 (p : Int)]) ∧ Below w.heap.size w w' := by
  obtain ⟨n0, hn1, hn2, hn3⟩ := step_meet hF
  have HN := Lib.hid hn3
  have HC := Lib.hid hC
  have HFIT := Lib.hid hF
  clear hn3 hC
  have o0 := Own.new w [.slice a n c, .string x.refl] 25
  have hb0 := (Below.refl w.heap.size w).alloc (Nat.le_refl _) (.cells [.slice a n c, .string x.refl].toArray 25)
  have hst := Lib.hid (fun (W : World) (hb : Below w.heap.size w W) (m : Nat) (cc : Cls W.heap.size W) => step_any a n c x (stepN x m v) cc.w (((h.below hb (Nat.le_refl _)).below (C := w.heap.size) (cc.bel.mono hb.size) (Nat.le_refl _)).more (Nat.le_trans hb.size cc.bel.size)) (hF.stepN_ m))
  have hs1 := Lib.hid (fun (W : World) (hb : Below w.heap.size w W) (m : Nat) => step_any a n c x (stepN x m v) W ((h.below hb (Nat.le_refl _)).more hb.size) (hF.stepN_ m))
  clear hF
  go_enter Tryz.func14, Tryz.ntmps14
  go_wp2_with fail
  generalize (w.alloc (.cells [.slice a n c, .string x.refl].toArray 25)) = W0 at *
  have c0 := o0.at_ (i := 0) rfl
  have c1 := o0.at_ (i := 1) rfl
  have l0 := o0.lt
  have g1 := hst.out W0 hb0 0
  have g2 := hst.out W0 hb0 1
  have d0 := fun (cc : Cls W0.heap.size W0) => (cc.cell w.heap.size 0 l0).trans c0
  have d1 := fun (cc : Cls W0.heap.size W0) => (cc.cell w.heap.size 1 l0).trans c1
  rw [show stepW x (stepN x 0 v) = stepN x 1 v from rfl, show stepN x 0 v = v from rfl] at g1
  rw [← stepN_succ] at g2
  have HA1 := Lib.hid (show stepN x 1 v = stepN x 1 v from rfl)
  obtain ⟨A1, hA1⟩ : ∃ A1, A1 = stepN x 1 v := ⟨_, rfl⟩
  obtain ⟨A2, hA2⟩ : ∃ A2, A2 = stepN x (1 + 1) v := ⟨_, rfl⟩
  rw [← hA1] at g1 g2
  rw [← hA2] at g2
  have H1 := Lib.hid hA1
  have H2 := Lib.hid hA2
  clear hA1 hA2 HA1
  refine wp_region_cls (by kernel_rfl) (by kernel_rfl) ?_
  repeat (go_big_quiet_step (first | (go_at_call 20; with_reducible exact cls_of (Nat.le_refl _) (g1 _)) | (go_at_call 20; with_reducible exact cls_of (Nat.le_refl _) (g2 _))))
  refine wpQuiet_nil ?_
  intro wc hbc
  have o1 := o0.below hbc o0.lt
  have hb1 := bt hb0 hbc
  clear o0 hb0 hbc c0 c1 l0 g1 g2 d0 d1
  go_wp2_with fail
  go_loopg [6, 7] (n0 - 1) (fun g s f wr => ∃ i : Nat, 1 ≤ i ∧ i ≤ n0 ∧ g = n0 - i ∧ s = .string (stepN x i v) ∧ f = .string (stepN x (2 * i) v) ∧ Own wr w.heap.size [.slice a n c, .string x.refl] ∧ Below w.heap.size w wr)
  case atStart => exact ⟨1, by omega, hn1, rfl, by rw [H1.out], by rw [H2.out], o1, hb1⟩
  case round =>
    clear o1 hb1 H1 H2
    obtain ⟨i, hi1, hi2, hg, rfl, rfl, o2, hb⟩ := hrel
    have HG := Lib.hid hg
    clear hg
    have c0 := o2.at_ (i := 0) rfl
    have c1 := o2.at_ (i := 1) rfl
    have l0 := o2.lt
    by_cases he : stepN x i v = stepN x (2 * i) v
    · have HE := Lib.hid he
      have te := bne_no he
      have hEq : stepN x (2 * i) v = stepN x (i + 0) v := he.symm
      clear he
      rw [hEq] at te ⊢
      clear hEq
      go_wp2_with fail
      go_loopg [6, 7, 8] i (fun g s f ld wr => ∃ k : Nat, k ≤ i ∧ g = i - k ∧ s = .string (stepN x k v) ∧ f = .string (stepN x (i + k) v) ∧ ld = .int .i64 k ∧ (∀ j, j < k → stepN x j v ≠ stepN x (i + j) v) ∧ Own wr w.heap.size [.slice a n c, .string x.refl] ∧ Below w.heap.size w wr)
      case atStart => exact ⟨0, Nat.zero_le _, rfl, rfl, rfl, rfl, fun j hj => absurd hj (by omega), o2, hb⟩
      case round =>
        clear o2 hb te c0 c1 l0
        obtain ⟨k, hk, hg, rfl, rfl, rfl, hmin, o2, hb⟩ := hrel
        have HG2 := Lib.hid hg
        have HMIN := Lib.hid hmin
        clear hg hmin
        have c0 := o2.at_ (i := 0) rfl
        have c1 := o2.at_ (i := 1) rfl
        have l0 := o2.lt
        by_cases he : stepN x k v = stepN x (i + k) v
        · have HE2 := Lib.hid he
          have te := bne_no he
          clear he
          have g1 := hs1.out _ hb k
          rw [← stepN_succ] at g1
          have HX : Hid (stepN x (k + i) v = stepN x k v) := by show _ = _; rw [Nat.add_comm]; exact HE2.out.symm
          obtain ⟨A, hA⟩ : ∃ A, A = stepN x k v := ⟨_, rfl⟩
          obtain ⟨A1, hA1⟩ : ∃ A1, A1 = stepN x (k + 1) v := ⟨_, rfl⟩
          obtain ⟨F1, hF1⟩ : ∃ F1, F1 = stepN x (i + k) v := ⟨_, rfl⟩
          rw [← hA1] at g1
          rw [← hA] at g1 te ⊢
          rw [← hF1] at te ⊢
          have H1 := Lib.hid hA
          have H2 := Lib.hid hA1
          clear hA hA1 hF1
          go_wp2_with fail
          refine g1.mono ?_
          rintro e w5 ⟨rfl, hb5⟩
          have o5 := o2.below hb5 o2.lt
          have hbw5 := bt hb hb5
          clear te g1 c0 c1 l0 o2 hb hb5
          go_wp2_with fail
          go_loopg [7, 9] (i - 1) (fun g f q wr => ∃ r : Nat, 1 ≤ r ∧ r ≤ i ∧ g = i - r ∧ f = .string (stepN x (k + r) v) ∧ q = .int .i64 r ∧ (∀ j, 1 ≤ j → j < r → stepN x (k + j) v ≠ stepN x k v) ∧ Own wr w.heap.size [.slice a n c, .string x.refl] ∧ Below w.heap.size w wr)
          case atStart => exact ⟨1, by omega, hi1, rfl, by rw [H2.out], rfl, fun j h1 h2 => absurd h2 (by omega), o5, hbw5⟩
          case round =>
            clear o5 hbw5
            obtain ⟨r, hr1, hr2, hg, rfl, rfl, hmin, o2, hb⟩ := hrel
            have HG3 := Lib.hid hg
            have HMIN2 := Lib.hid hmin
            clear hg hmin
            have c0 := o2.at_ (i := 0) rfl
            have c1 := o2.at_ (i := 1) rfl
            have l0 := o2.lt
            by_cases he : stepN x (k + r) v = A
            · have te := bne_no he
              have HE3 := Lib.hid he
              clear he
              have HFIN : Hid (k = l ∧ r = p) := by
                show _ ∧ _
                refine (cyc_of (seqs_step x v) hi1 ?_ HE2.out HMIN.out hr1 ?_ ?_).uniq HC.out
                · rw [HE.out]
                · show stepN x (k + r) v = stepN x k v
                  rw [HE3.out, H1.out]
                · exact HMIN2.out
              go_wp2
              go_ret2
              refine ⟨?_, hb⟩
              rw [← HFIN.out.1, ← HFIN.out.2]; rfl
            · have te := bne_of he
              have HE3 := Lib.hid he
              have hri : r < i := by
                rcases Nat.lt_or_ge r i with h1 | h1
                · exact h1
                · obtain rfl : r = i := by omega
                  exact absurd (HX.out.trans H1.out.symm) he
              clear he
              have g1 := hs1.out _ hb (k + r)
              rw [← stepN_succ] at g1
              obtain ⟨B, hB⟩ : ∃ B, B = stepN x (k + r) v := ⟨_, rfl⟩
              obtain ⟨B1, hB1⟩ : ∃ B1, B1 = stepN x (k + r + 1) v := ⟨_, rfl⟩
              rw [← hB1] at g1
              rw [← hB] at g1 te ⊢
              have K1 := Lib.hid hB
              have K2 := Lib.hid hB1
              clear hB hB1
              go_wp2_with fail
              refine g1.mono ?_
              rintro e w6 ⟨rfl, hb6⟩
              have o6 := o2.below hb6 o2.lt
              go_wp2
              go_roundg (i - (r + 1))
              case measure => rw [HG3.out]; omega
              case rel =>
                refine ⟨r + 1, by omega, by omega, rfl, ?_, by go_num, fun j h1 h2 => ?_, o6, bt hb hb6⟩
                · rw [K2.out]; rfl
                · by_cases e : j = r
                  · subst e; rw [← H1.out]; exact HE3.out
                  · exact HMIN2.out j h1 (by omega)
        · have te := bne_of he
          have HE2 := Lib.hid he
          have hki : k < i := by
            rcases Nat.lt_or_ge k i with h1 | h1
            · exact h1
            · obtain rfl : k = i := by omega
              exact absurd (by rw [HE.out]; congr 1; omega) he
          clear he
          have g1 := hst.out _ hb k
          have g2 := hst.out _ hb (i + k)
          simp only [← stepN_succ] at g1 g2
          have d0 := fun (cc : Cls wr.heap.size wr) => (cc.cell w.heap.size 0 l0).trans c0
          have d1 := fun (cc : Cls wr.heap.size wr) => (cc.cell w.heap.size 1 l0).trans c1
          obtain ⟨A, hA⟩ : ∃ A, A = stepN x k v := ⟨_, rfl⟩
          obtain ⟨A1, hA1⟩ : ∃ A1, A1 = stepN x (k + 1) v := ⟨_, rfl⟩
          obtain ⟨F, hF⟩ : ∃ F, F = stepN x (i + k) v := ⟨_, rfl⟩
          obtain ⟨F1, hF1⟩ : ∃ F1, F1 = stepN x (i + k + 1) v := ⟨_, rfl⟩
          rw [← hA, ← hA1] at g1
          rw [← hF, ← hF1] at g2
          rw [← hA, ← hF] at te ⊢
          have H2 := Lib.hid hA1
          have H4 := Lib.hid hF1
          clear hA hA1 hF hF1
          go_wp2_with fail
          refine wp_region_cls (by kernel_rfl) (by kernel_rfl) ?_
          repeat (go_big_quiet_step (first | (go_at_call 20; with_reducible exact cls_of (Nat.le_refl _) (g1 _)) | (go_at_call 20; with_reducible exact cls_of (Nat.le_refl _) (g2 _))))
          refine wpQuiet_nil ?_
          intro wc hbc
          have o3 := o2.below hbc o2.lt
          have hb3 := bt hb hbc
          go_wp2
          go_roundg (i - (k + 1))
          case measure => rw [HG2.out]; omega
          case rel =>
            refine ⟨k + 1, by omega, rfl, by rw [H2.out], by rw [H4.out]; rfl, by go_num, fun j hj => ?_, o3, hb3⟩
            by_cases e : j = k
            · subst e; exact HE2.out
            · exact HMIN.out j (by omega)
    · have te := bne_of he
      have hin : i < n0 := by
        rcases Nat.lt_or_ge i n0 with h1 | h1
        · exact h1
        · obtain rfl : i = n0 := by omega
          exact absurd HN.out he
      clear he
      have g1 := hst.out _ hb i
      have g2 := hst.out _ hb (2 * i)
      have g3 := hst.out _ hb (2 * i + 1)
      simp only [← stepN_succ] at g1 g2 g3
      have d0 := fun (cc : Cls wr.heap.size wr) => (cc.cell w.heap.size 0 l0).trans c0
      have d1 := fun (cc : Cls wr.heap.size wr) => (cc.cell w.heap.size 1 l0).trans c1
      obtain ⟨A, hA⟩ : ∃ A, A = stepN x i v := ⟨_, rfl⟩
      obtain ⟨A1, hA1⟩ : ∃ A1, A1 = stepN x (i + 1) v := ⟨_, rfl⟩
      obtain ⟨F, hF⟩ : ∃ F, F = stepN x (2 * i) v := ⟨_, rfl⟩
      obtain ⟨F1, hF1⟩ : ∃ F1, F1 = stepN x (2 * i + 1) v := ⟨_, rfl⟩
      obtain ⟨F2, hF2⟩ : ∃ F2, F2 = stepN x (2 * i + 1 + 1) v := ⟨_, rfl⟩
      rw [← hA, ← hA1] at g1
      rw [← hF, ← hF1] at g2
      rw [← hF1, ← hF2] at g3
      rw [← hA, ← hF] at te ⊢
      have H2 := Lib.hid hA1
      have H4 := Lib.hid hF2
      clear hA hA1 hF hF1 hF2
      go_wp2_with fail
      refine wp_region_cls (by kernel_rfl) (by kernel_rfl) ?_
      repeat (go_big_quiet_step (first | (go_at_call 20; with_reducible exact cls_of (Nat.le_refl _) (g1 _)) | (go_at_call 20; with_reducible exact cls_of (Nat.le_refl _) (g2 _)) | (go_at_call 20; with_reducible exact cls_of (Nat.le_refl _) (g3 _))))
      refine wpQuiet_nil ?_
      intro wc hbc
      have o3 := o2.below hbc o2.lt
      have hb3 := bt hb hbc
      go_wp2
      go_roundg (n0 - (i + 1))
      case measure => rw [HG.out]; omega
      case rel => exact ⟨i + 1, by omega, by omega, rfl, by rw [H2.out], by rw [H4.out, show 2 * (i + 1) = 2 * i + 1 + 1 by omega], o3, hb3⟩
end Go.Proofs.YtjefcicenepcbaaGreat

/- The reader of an input: its contracts. -/
namespace Go.Proofs.YtjefcicenepcbaaGreat
open Go.RowKit

/-- n bytes lie at address a, below block B. -/
def Bytes (w : World) (B : Nat) (a : Option Addr) (n : Nat) : Prop :=
  n = 0 ∨ ∃ b off, a = some ⟨b, off, none⟩ ∧ b < B ∧ ∀ i, i < n → ∃ v : Int, 0 ≤ v ∧ v ≤ 255 ∧ w.cell? ⟨b, off + i, none⟩ = some (.int .u8 v)
theorem Bytes.keep {w w' : World} {B : Nat} {a : Option Addr} {n : Nat} (h : Bytes w B a n) (hk : ∀ p : Addr, p.block < B → w'.cell? p = w.cell? p) : Bytes w' B a n := by
  rcases h with h | ⟨b, off, ha, hb, hc⟩
  · exact .inl h
  · exact .inr ⟨b, off, ha, hb, fun i hi => by
      obtain ⟨v, h0, h1, h2⟩ := hc i hi
      exact ⟨v, h0, h1, by rw [hk _ hb]; exact h2⟩⟩

/-- Block R is a reader that has been asked at most c times. -/
def Rd (w : World) (R c : Nat) : Prop :=
  ∃ (a : Option Addr) (n cp : Nat) (p : Int), w.heap[R]? = some (.cells #[.slice a n cp, .int .i64 p] 62 (0, 0)) ∧ n ≤ 2000 ∧ 0 ≤ p ∧ p ≤ c ∧ Bytes w R a n
theorem Rd.lt {w : World} {R c : Nat} (h : Rd w R c) : R < w.heap.size := by
  obtain ⟨a, n, cp, p, h, _⟩ := h
  rcases Nat.lt_or_ge R w.heap.size with hlt | hge
  · exact hlt
  · rw [Array.getElem?_eq_none hge] at h; cases h
theorem Rd.keep {w w' : World} {R c : Nat} (h : Rd w R c) (hb : ∀ k, k ≤ R → w'.heap[k]? = w.heap[k]?) : Rd w' R c := by
  obtain ⟨a, n, cp, p, h, h1, h2, h3, h4⟩ := h
  exact ⟨a, n, cp, p, by rw [hb R (Nat.le_refl _)]; exact h, h1, h2, h3, h4.keep fun p hp => World.cell?_of_block (hb p.block (by omega))⟩
theorem Rd.alloc {w : World} {R c : Nat} (h : Rd w R c) (o : Obj) : Rd (w.alloc o) R c := h.keep fun k hk => Below.heap_alloc w o k (by have := h.lt; omega)
theorem Rd.drew {w : World} {R c : Nat} (h : Rd w R c) : Rd w.drew R c := h.keep fun _ _ => rfl
theorem Rd.below {w w' : World} {R c B : Nat} (h : Rd w R c) (hb : Below B w w') (hB : R < B) : Rd w' R c := h.keep fun k hk => hb.block k (by omega)
theorem Rd.far {w : World} {R c : Nat} (h : Rd w R c) {p : Addr} (hp : R < p.block) (u : Value) : Rd (w.setCell p u) R c := h.keep fun k hk => Below.heap_setCell w p u k (by omega)
theorem Rd.more {w : World} {R c c' : Nat} (h : Rd w R c) (hc : c ≤ c') : Rd w R c' := by
  obtain ⟨a, n, cp, p, h, h1, h2, h3, h4⟩ := h
  exact ⟨a, n, cp, p, h, h1, h2, by omega, h4⟩
theorem Rd.grown {w w' : World} {R c : Nat} {row : Option Nat} (h : Rd w R c) (hg : w.grownBy w' row) (hr : ∀ g, row = some g → R < g) : Rd w' R c :=
  h.keep fun k hk => hg.block k (by have := h.lt; omega) (fun e => by have := hr k e.symm; omega)

/-- From w to w' only the reader R has moved on, and there is new memory. -/
abbrev Moved (R : Nat) (w w' : World) : Prop := w.grownBy w' (some R)
theorem Moved.refl (R : Nat) (w : World) : Moved R w w := World.grownBy.refl w _
theorem Moved.trans {R : Nat} {a b c : World} (h : Moved R a b) (k : Moved R b c) : Moved R a c :=
  ⟨k.os.trans h.os, k.tape.trans h.tape, k.output.trans h.output, Nat.le_trans h.size k.size, fun i hi hne => (k.block i (Nat.lt_of_lt_of_le hi h.size) hne).trans (h.block i hi hne)⟩
theorem Moved.below {R : Nat} {a b c : World} (h : Moved R a b) (k : Below b.heap.size b c) : Moved R a c :=
  ⟨k.os.trans h.os, k.tape.trans h.tape, k.output.trans h.output, Nat.le_trans h.size k.size, fun i hi hne => (k.block i (Nat.lt_of_lt_of_le hi h.size)).trans (h.block i hi hne)⟩
theorem Moved.alloc {R : Nat} {a b : World} (h : Moved R a b) (o : Obj) : Moved R a (b.alloc o) :=
  ⟨h.os, h.tape, h.output, Nat.le_trans h.size (by simp), fun i hi hne => (Below.heap_alloc b o i (Nat.lt_of_lt_of_le hi h.size)).trans (h.block i hi hne)⟩
theorem Moved.drew {R : Nat} {a b : World} (h : Moved R a b) : Moved R a b.drew := ⟨h.os, h.tape, h.output, h.size, h.block⟩
theorem Moved.drewN {R : Nat} {a b : World} (h : Moved R a b) (n : Nat) : Moved R a (b.drewN n) := ⟨h.os, h.tape, h.output, h.size, h.block⟩
theorem Moved.set_ {R : Nat} {a b : World} (h : Moved R a b) {p : Addr} (hp : p.block = R ∨ a.heap.size ≤ p.block) (u : Value) : Moved R a (b.setCell p u) :=
  ⟨h.os, h.tape, h.output, by simpa [World.setCell] using h.size, fun i hi hne => (Below.heap_setCell b p u i (by
    rintro rfl
    rcases hp with hp | hp
    · exact hne (by rw [hp])
    · omega)).trans (h.block i hi hne)⟩

/-- What one question leaves. -/
def PickPost (R : Nat) (n : Int) (c : Nat) (w : World) (e : Ending) (w' : World) : Prop :=
  ∃ v : Int, e = .returned (.int .i64 v) ∧ 0 ≤ v ∧ (1 ≤ n → v < n) ∧ (n < 1 → v = 0) ∧ Rd w' R (c + 1) ∧ Moved R w w'

theorem rd_step {w : World} {R c n cp : Nat} {a : Option Addr} {p : Int} (h : w.heap[R]? = some (.cells #[.slice a n cp, .int .i64 p] 62 (0, 0))) (h1 : n ≤ 2000) (h2 : 0 ≤ p) (h3 : p ≤ c) (h4 : Bytes w R a n) (k : Nat) :
    Rd ((w.setCell ⟨R, 1, none⟩ (.int .i64 (p + 1))).drewN k) R (c + 1) ∧ Moved R w ((w.setCell ⟨R, 1, none⟩ (.int .i64 (p + 1))).drewN k) := by
  refine ⟨⟨a, n, cp, p + 1, ?_, h1, by omega, by omega, h4.keep fun q hq => World.cell?_setCell_other w ⟨R, 1, none⟩ q _ (fun e => by subst e; simp at hq)⟩, ((Moved.refl R w).set_ (.inl rfl) _).drewN k⟩
  show (w.setCell ⟨R, 1, none⟩ (.int .i64 (p + 1))).heap[R]? = _
  simp [World.setCell, Array.getElem?_modify, h]

theorem cell_blk {w : World} {g : Nat} {t : TypeId} {cs : Array Value} {fr : Nat × Nat} (h : w.heap[g]? = some (.cells cs t fr)) (i : Nat) : w.cell? ⟨g, i, none⟩ = cs[i]? := cell_of_row w g i cs t fr h
theorem free_blk {w : World} {g : Nat} {t : TypeId} {cs : Array Value} (h : w.heap[g]? = some (.cells cs t (0, 0))) (i : Nat) : w.frozen? ⟨g, i, none⟩ = false := by simp [World.frozen?, h]

theorem xor_nonneg (a : Int) (h0 : 0 ≤ a) (h1 : a ≤ 4611686018427387904) : ∃ r : Nat, bits .xor .i64 a (a / 64) = (r : Int) ∧ r < 9223372036854775808 := by
  obtain ⟨n, rfl⟩ := Int.eq_ofNat_of_zero_le h0
  have e : ((n : Int) / 64) = ((n / 64 : Nat) : Int) := by omega
  have hx : n ^^^ (n / 64) < 2 ^ 63 := Nat.xor_lt_two_pow (by omega) (by omega)
  exact ⟨n ^^^ (n / 64), by rw [e, i64_xor_nat _ _ (by omega) (by omega)], hx⟩

set_option maxRecDepth 100000 in
theorem pick_any (R : Nat) (n : Int) (c : Nat) (w : World) (h : Rd w R c) (hc : c ≤ 100000000) (hn0 : -4294967296 ≤ n) (hn : n ≤ 4294967296) :
    Calls Tryz.prog 38 #[.pointer (some ⟨R, 0, none⟩), .int .i64 n] w (PickPost R n c w) := by
  obtain ⟨a, l, cp, p, hh, h1, h2, h3, h4⟩ := h
  have c0 : w.cell? ⟨R, 0, none⟩ = some (.slice a l cp) := cell_blk hh 0
  have c1 : w.cell? ⟨R, 1, none⟩ = some (.int .i64 p) := cell_blk hh 1
  have f1 : w.frozen? ⟨R, 1, none⟩ = false := free_blk hh 1
  have hst := Lib.hid (rd_step hh h1 h2 h3 h4)
  clear hh
  by_cases hn1 : n < 1
  · go_enter Tryz.func38, Tryz.ntmps38
    go_wp2
    go_ret
    exact ⟨0, rfl, by omega, by omega, fun _ => rfl, hst.out 0⟩
  · by_cases hl : l = 0
    · have t0 : ((l : Int) == 0) = true := by simp [hl]
      clear hl h4
      go_enter Tryz.func38, Tryz.ntmps38
      go_wp2
      go_ret
      exact ⟨0, rfl, by omega, by omega, fun _ => rfl, hst.out 0⟩
    · have t0 : ((l : Int) == 0) = false := by rw [beq_eq_false_iff_ne]; omega
      rcases h4 with h4 | ⟨b, off, rfl, hb, hby⟩
      · exact absurd h4 hl
      · have hbR : ¬ R = b := by omega
        by_cases hk : p < l
        · obtain ⟨v, hv0, hv1, hv⟩ := hby p.toNat (by omega)
          have Hby := Lib.hid hby
          clear hby
          go_enter Tryz.func38, Tryz.ntmps38
          go_wp2
          go_ret
          exact ⟨v % n, rfl, Int.emod_nonneg _ (by omega), fun _ => Int.emod_lt_of_pos _ (by omega), fun h => absurd h (by omega), hst.out 0⟩
        · obtain ⟨q, rfl⟩ := Int.eq_ofNat_of_zero_le h2
          have hlp : 0 < l := by omega
          have hq : q ≤ 100000000 := by omega
          have hl1 : (1 : Int) ≤ l := by omega
          have m1 := Nat.mod_lt q hlp
          have m2 := Nat.mod_lt (q * 7 + 3) hlp
          have m3 : q / l ≤ q := Nat.div_le_self _ _
          obtain ⟨v, hv0, hv1, hv⟩ := hby (q % l) m1
          obtain ⟨u, hu0, hu1, hu⟩ := hby ((q * 7 + 3) % l) m2
          have Hby := Lib.hid hby
          clear hby
          have i1 : (0 : Int) ≤ (q : Int) % (l : Int) := by omega
          have i2 : (q : Int) % (l : Int) < (l : Int) := Int.emod_lt_of_pos _ (by omega)
          have i3 : ((q : Int) % (l : Int)).toNat = q % l := by omega
          have j1 : (0 : Int) ≤ ((q : Int) * 7 + 3) % (l : Int) := Int.emod_nonneg _ (by omega)
          have j2 : ((q : Int) * 7 + 3) % (l : Int) < (l : Int) := Int.emod_lt_of_pos _ (by omega)
          have j3 : (((q : Int) * 7 + 3) % (l : Int)).toNat = (q * 7 + 3) % l := by
            have : ((q : Int) * 7 + 3) % (l : Int) = (((q * 7 + 3) % l : Nat) : Int) := by rw [Int.natCast_emod]; rfl
            rw [this]; rfl
          have d1 : (0 : Int) ≤ (q : Int) / (l : Int) := Int.ediv_nonneg (by omega) (by omega)
          have d2 : (q : Int) / (l : Int) ≤ (q : Int) := by omega
          obtain ⟨r, hr, hr2⟩ := xor_nonneg (v * 131 + u * 1117 + (q : Int) * 29 + (q : Int) / (l : Int) * 53) (by omega) (by omega)
          go_enter Tryz.func38, Tryz.ntmps38
          go_wp2
          go_quiet (fail)
          go_wp2
          go_ret
          exact ⟨(r : Int) % n, rfl, Int.emod_nonneg _ (by omega), fun _ => Int.emod_lt_of_pos _ (by omega), fun h => absurd h (by omega), hst.out nq⟩

theorem Moved.toBelow {R B : Nat} {a b : World} (h : Moved R a b) (hB : B ≤ R) (hs : B ≤ a.heap.size) : Below B a b :=
  ⟨h.os, h.tape, h.output, h.size, fun k hk => h.block k (by omega) (by simp; omega)⟩
theorem IsRow.bytes {w : World} {a : Option Addr} {len cap : Nat} {zs : List Int} (h : IsRow .u8 w a len cap zs) : ∀ n, n ≤ len → Bytes w w.heap.size a n := by
  intro n hn
  rcases h with ⟨rfl, rfl, rfl, rfl⟩ | ⟨x, rfl, hl, hm, hz, hc, hwf⟩
  · exact .inl (by omega)
  · by_cases h0 : n = 0
    · exact .inl h0
    · obtain ⟨b, off, sp⟩ := x
      have h1 := hc 0 (by omega)
      have hsp : sp = none := by simpa [Addr.add] using World.cell?_spot h1
      subst hsp
      have hb : b < w.heap.size := by
        rcases Nat.lt_or_ge b w.heap.size with hlt | hge
        · exact hlt
        · simp [Addr.add, World.cell?, Array.getElem?_eq_none hge] at h1
      refine .inr ⟨b, off, rfl, hb, fun i hi => ?_⟩
      have h2 := hc i (by omega)
      have hw := hwf (zs.getD i 0) (by
        have : i < zs.length := by omega
        simp only [List.getD, List.getElem?_eq_getElem this, Option.getD_some]
        exact List.getElem_mem _)
      have hbd := bounds_u8 hw
      refine ⟨zs.getD i 0, hbd.1, hbd.2, ?_⟩
      rw [← h2]
      congr 1
      unfold Addr.add
      split
      · rename_i hi0; subst hi0; rfl
      · rfl

theorem l21Open_any (a : Option Addr) (len cap : Nat) (zs : List Int) (w : World) (h : IsRow .u8 w a len cap zs) (hl : len ≤ 1048576) :
    Calls Tryz.prog 23 #[.slice a len cap] w fun e w' => e = .returned (.pointer (some ⟨w.heap.size, 0, none⟩)) ∧ Rd w' w.heap.size 0 ∧ Below w.heap.size w w' := by
  have hcap : len ≤ cap := by
    rcases h with ⟨rfl, rfl, rfl, rfl⟩ | ⟨x, rfl, hl, _⟩
    · exact Nat.le_refl _
    · exact hl
  have hby := Lib.hid h.bytes
  clear h
  by_cases h2 : 2000 < len
  · go_enter Tryz.func23, Tryz.ntmps23
    go_wp2
    go_ret
    refine ⟨rfl, ⟨a, 2000, cap, 0, heap_alloc_new w _, by omega, by omega, by omega, (hby.out 2000 (by omega)).keep fun p hp => World.cell?_alloc_lt w _ p hp⟩, (Below.refl _ _).alloc (Nat.le_refl _) _⟩
  · go_enter Tryz.func23, Tryz.ntmps23
    go_wp2
    go_ret
    refine ⟨rfl, ⟨a, len, cap, 0, heap_alloc_new w _, by omega, by omega, by omega, (hby.out len (by omega)).keep fun p hp => World.cell?_alloc_lt w _ p hp⟩, (Below.refl _ _).alloc (Nat.le_refl _) _⟩

/-- What a question for an element leaves. -/
def OfPost (R : Nat) (ss : List ByteArray) (c : Nat) (w : World) (e : Ending) (w' : World) : Prop :=
  ∃ s, s ∈ ss ∧ e = .returned (.string s) ∧ Rd w' R (c + 1) ∧ Moved R w w'
theorem of_any (R g n cp : Nat) (ss : List ByteArray) (c : Nat) (w : World) (hn : ss.length = n) (ho : Own w g (sv ss)) (h0 : 0 < ss.length) (hg : g ≠ R) (h : Rd w R c) (hc : c ≤ 100000000) (hl : ss.length ≤ 1000) :
    Calls Tryz.prog 84 #[.pointer (some ⟨R, 0, none⟩), .slice (some ⟨g, 0, none⟩) n cp] w (OfPost R ss c w) := by
  subst hn
  go_enter Tryz.func84, Tryz.ntmps84
  go_wp2_with fail
  refine (pick_any R _ c w h hc (by omega) (by omega)).mono ?_
  rintro e w1 ⟨v, rfl, hv0, hv1, _, hr, hm⟩
  obtain ⟨k, rfl⟩ := Int.eq_ofNat_of_zero_le hv0
  have hk : k < ss.length := by have := hv1 (by omega); omega
  have hc1 : w1.cell? ⟨g, k, none⟩ = some (.string ss[k]) := (ho.grown hm (by simpa using hg)).at_ (sv_at hk)
  clear hv1
  go_wp2
  go_ret
  exact ⟨ss[k], List.getElem_mem _, rfl, hr, hm⟩

/-- The cells of some numbers. -/
def iv (ns : List Int) : List Value := ns.map (.int .i64)
theorem length_iv (ns : List Int) : (iv ns).length = ns.length := by simp [iv]
theorem iv_at {ns : List Int} {i : Nat} (h : i < ns.length) : (iv ns)[i]? = some (.int .i64 ns[i]) := by simp [iv, List.getElem?_eq_getElem h]
def NumPost (R : Nat) (ns : List Int) (c : Nat) (w : World) (e : Ending) (w' : World) : Prop :=
  ∃ n, n ∈ ns ∧ e = .returned (.int .i64 n) ∧ Rd w' R (c + 1) ∧ Moved R w w'
end Go.Proofs.YtjefcicenepcbaaGreat

/- Contracts of the functions that draw words and permutations. -/
namespace Go.Proofs.YtjefcicenepcbaaGreat
open Go.RowKit

theorem sl_one (s : ByteArray) (i : Nat) (h : i < s.size) (W : World) : (Instr.slice 9 (.string s) (some (.int .i64 (i : Int))) (some (.int .i64 ((i : Int) + 1))) none).run Tryz.prog W = .ok (.string (s.extract i (i + 1))) W :=
  run_slice_string W 9 s .i64 .i64 i (i + 1) Tryz.underlying9 (by omega) (by omega) (by omega)
theorem sl_to (s : ByteArray) (j : Nat) (h : j ≤ s.size) (W : World) : (Instr.slice 9 (.string s) none (some (.int .i64 (j : Int))) none).run Tryz.prog W = .ok (.string (s.extract 0 j)) W :=
  run_slice_string_h W 9 s Tryz.underlying9 .i64 j (by omega) (by omega)
theorem sl_from (s : ByteArray) (i : Nat) (h : i ≤ s.size) (W : World) : (Instr.slice 9 (.string s) (some (.int .i64 (i : Int))) none none).run Tryz.prog W = .ok (.string (s.extract i s.size)) W :=
  run_slice_string_l W 9 s Tryz.underlying9 .i64 i (by omega) (by omega)
theorem sl_next (s : ByteArray) (i : Nat) (h : i < s.size) (W : World) : (Instr.slice 9 (.string s) (some (.int .i64 ((i : Int) + 1))) none none).run Tryz.prog W = .ok (.string (s.extract (i + 1) s.size)) W :=
  run_slice_string_l W 9 s Tryz.underlying9 .i64 ((i : Int) + 1) (by omega) (by omega)

/-- What the drawing of a string leaves: a string with P. -/
def StrP (R : Nat) (P : ByteArray → Prop) (c : Nat) (w : World) (e : Ending) (w' : World) : Prop :=
  ∃ s : ByteArray, P s ∧ e = .returned (.string s) ∧ Rd w' R c ∧ Moved R w w'
/-- A word of n letters. -/
def Wd (n : Nat) (s : ByteArray) : Prop := wordB s = true ∧ s.size = n
theorem wd_of {l : List UInt8} (h : l.all isL = true) (hl : l.length ≤ 200) : Wd l.length (S l) := by
  refine ⟨?_, size_S l⟩
  simp only [wordB, Bool.and_eq_true, decide_eq_true_eq]
  exact ⟨by rw [size_S]; exact hl, by rw [L_S]; exact h⟩
theorem Wd.app {a b : ByteArray} {m n : Nat} (h : Wd m a) (k : Wd n b) (hl : m + n ≤ 200) : Wd (m + n) (a ++ b) := by
  obtain ⟨h1, h2⟩ := h
  obtain ⟨k1, k2⟩ := k
  have e : a ++ b = S (L a ++ L b) := L_inj (by rw [L_append, L_S])
  simp only [wordB, Bool.and_eq_true] at h1 k1
  have := wd_of (l := L a ++ L b) (by rw [List.all_append, h1.2, k1.2]; rfl) (by rw [List.length_append, size_L, size_L]; omega)
  rw [List.length_append, size_L, size_L, h2, k2, ← e] at this
  exact this
theorem Wd.letr (n : Int) : Wd 1 (S [letr n]) := wd_of (l := [Go.Proofs.YtjefcicenepcbaaGreat.letr n]) (by simp [isL_letr]) (by simp)
theorem Wd.nil : Wd 0 ⟨#[]⟩ := wd_of (l := []) rfl (by simp)
theorem Wd.ext {s : ByteArray} {n : Nat} (h : Wd n s) (a b : Nat) (hb : b ≤ n) : Wd (b - a) (s.extract a b) := by
  obtain ⟨h1, h2⟩ := h
  simp only [wordB, Bool.and_eq_true, decide_eq_true_eq] at h1
  have hl : L (s.extract a b) = ((L s).take b).drop a := L_extract s a b
  have hal : (((L s).take b).drop a).all isL = true := by
    rw [List.all_eq_true] at *
    intro x hx
    exact h1.2 x (List.mem_of_mem_take (List.mem_of_mem_drop hx))
  have hlen : (((L s).take b).drop a).length = b - a := by simp [size_L]; omega
  have := wd_of hal (by omega)
  rw [hlen, ← hl, S_L] at this
  exact this

theorem l1Some_any (R : Nat) (n : Nat) (c : Nat) (w : World) (h : Rd w R c) (hc : c ≤ 10000000) (hn : n ≤ 200) :
    Calls Tryz.prog 40 #[.pointer (some ⟨R, 0, none⟩), .int .i64 (n : Int)] w (StrP R (Wd n) (c + n) w) := by
  go_enter Tryz.func40, Tryz.ntmps40
  go_wp2
  go_loopw [5, 6] (fun o i wr => ∃ (k : Nat) (s : ByteArray), k ≤ n ∧ i = .int .i64 k ∧ o = .string s ∧ Wd k s ∧ Rd wr R (c + k) ∧ Moved R w wr) (fun _ i _ => n - (intOf i).toNat)
  case atStart => exact ⟨0, ⟨#[]⟩, by omega, rfl, rfl, Wd.nil, h, Moved.refl _ _⟩
  case round =>
    obtain ⟨k, s, hk, rfl, rfl, hs, hr, hm⟩ := hrel
    have HS := Lib.hid hs
    have hsz : s.size ≤ 200 := by rw [hs.2]; omega
    clear hs
    by_cases hlt : k < n
    · go_wp2_with fail
      refine (pick_any R _ (c + k) _ hr (by omega) (by omega) (by omega)).mono ?_
      rintro e w2 ⟨v, rfl, hv0, hv1, _, hr2, hm2⟩
      clear hv1
      have hs1 : (S [letr v]).size ≤ 1 := by rw [size_S]; simp
      go_wp2_with (go_at_call 49; ((with_reducible refine (l1Letter_any _ _).mono ?_); rintro e w3 ⟨rfl, hb3⟩))
      go_roundw
      case rel => exact ⟨k + 1, s ++ S [letr v], by omega, by go_num, rfl, HS.out.app (Wd.letr v) (by omega), hr2.below hb3 hr2.lt, (hm.trans hm2).below hb3⟩
      case measure => simp [intOf]; omega
    · have hk' : k = n := by omega
      subst hk'
      go_wp2
      go_ret
      exact ⟨s, HS.out, rfl, hr, hm⟩

theorem specIdentityPerm_any (w : World) :
    Calls Tryz.prog 79 #[] w fun e w' => e = .returned (.string (wd idP)) ∧ Below w.heap.size w w' := by
  go_enter Tryz.func79, Tryz.ntmps79
  go_wp2
  go_loopw [1, 2] (fun o i wr => ∃ k : Nat, k ≤ 10 ∧ i = .int .i64 k ∧ o = .string (wd (List.range k)) ∧ Below w.heap.size w wr) (fun _ i _ => 10 - (intOf i).toNat)
  case atStart => exact ⟨0, by omega, rfl, rfl, Below.refl _ _⟩
  case round =>
    obtain ⟨k, hk, rfl, rfl, hb⟩ := hrel
    have hsz : (wd (List.range k)).size ≤ 10 := by rw [size_wd]; simp; omega
    have hs1 : (S [letr (k : Int)]).size ≤ 1 := by rw [size_S]; simp
    by_cases hlt : k < 10
    · go_wp2_with (go_at_call 49; ((with_reducible refine (l1Letter_any _ _).mono ?_); rintro e w1 ⟨rfl, hb1⟩))
      go_roundw
      case rel => exact ⟨k + 1, by omega, by go_num, by rw [List.range_succ, wd_snoc], bt hb hb1⟩
      case measure => simp [intOf]; omega
    · have hk' : k = 10 := by omega
      subst hk'
      go_wp2
      go_ret
      exact ⟨rfl, hb⟩

/-- A word, n added to its letters. -/
def shW (s : ByteArray) (n : Int) : ByteArray := S ((L s).map fun c => letr (dig c + n))
theorem size_shW (s : ByteArray) (n : Int) : (shW s n).size = s.size := by simp [shW, size_S, size_L]
theorem specShiftWord_any (s : ByteArray) (n : Int) (w : World) (hs : wordB s = true) (h0 : 0 ≤ n) (h9 : n ≤ 9) :
    Calls Tryz.prog 85 #[.string s, .int .i64 n] w fun e w' => e = .returned (.string (shW s n)) ∧ Below w.heap.size w w' := by
  have hb200 := wordB_size hs
  have hwv := fun W => specWordValid_any s W (by omega)
  rw [hs] at hwv
  have hin := fun W => l1In_any n 0 9 W
  have e1 : (decide ((0 : Int) ≤ n) && decide (n ≤ 9)) = true := by simp; omega
  rw [e1] at hin
  clear e1
  go_enter Tryz.func85, Tryz.ntmps85
  go_wp2_with (first | (go_at_call 28; ((with_reducible refine (hwv _).mono ?_); rintro e w' ⟨rfl, rfl⟩)) | (go_at_call 45; ((with_reducible refine (hin _).mono ?_); rintro e w' ⟨rfl, rfl⟩)))
  go_loopw [5, 6] (fun o i wr => ∃ k : Nat, k ≤ s.size ∧ i = .int .i64 k ∧ o = .string (S (((L s).map fun c => letr (dig c + n)).take k)) ∧ Below w.heap.size w wr) (fun _ i _ => s.size - (intOf i).toNat)
  case atStart => exact ⟨0, by omega, rfl, rfl, Below.refl _ _⟩
  case round =>
    clear hwv hin
    obtain ⟨k, hk, rfl, rfl, hb⟩ := hrel
    have hsz : (S (((L s).map fun c => letr (dig c + n)).take k)).size ≤ 200 := by rw [size_S]; have := List.length_take_le k ((L s).map fun c => letr (dig c + n)); omega
    by_cases hlt : k < s.size
    · have hd := dig_bd s[k]
      have hs1 : (S [letr (dig s[k] + n)]).size ≤ 1 := by rw [size_S]; simp
      have hsk : s[(k : Int).toNat]'(by omega) = s[k] := by simp
      have hdg := fun W => l1Digit_any s k W (by omega) (by omega) (by omega)
      rw [hsk] at hdg
      have HT := Lib.hid (show ((L s).map fun c => letr (dig c + n)).take (k + 1) = ((L s).map fun c => letr (dig c + n)).take k ++ [letr (dig s[k] + n)] by
        rw [List.take_succ_eq_append_getElem (by simpa [size_L] using hlt)]; simp [getElem_L])
      clear hsk
      go_wp2_with (first | (go_at_call 47; ((with_reducible refine (hdg _).mono ?_); rintro e w' ⟨rfl, rfl⟩)) | (go_at_call 49; ((with_reducible refine (l1Letter_any _ _).mono ?_); rintro e w1 ⟨rfl, hb1⟩)))
      go_roundw
      case rel => exact ⟨k + 1, by omega, by go_num, by rw [HT.out, S_append], bt hb hb1⟩
      case measure => simp [intOf]; omega
    · go_wp2
      go_ret
      refine ⟨ret_str ?_, hb⟩
      rw [List.take_of_length_le (by simp [size_L]; omega)]; rfl
theorem rev_step {s : ByteArray} {j : Nat} (h : j < s.size) : S ((L s).drop (j + 1)).reverse ++ s.extract j (j + 1) = S ((L s).drop j).reverse := by
  apply L_inj
  have hj : j < (L s).length := by rw [size_L]; exact h
  have e : ((L s).take (j + 1)).drop j = [(L s)[j]] := by
    rw [List.take_succ_eq_append_getElem hj, List.drop_append_of_le_length (by simp; omega), List.drop_eq_nil_of_le (by simp; omega)]; rfl
  rw [L_append, L_S, L_S, L_extract, e]
  conv => rhs; rw [List.drop_eq_getElem_cons hj, List.reverse_cons]
set_option maxRecDepth 100000 in
theorem specReverseWord_any (s : ByteArray) (w : World) (hs : wordB s = true) :
    Calls Tryz.prog 97 #[.string s] w fun e w' => e = .returned (.string (S (L s).reverse)) ∧ w = w' := by
  have hb200 := wordB_size hs
  have hwv := fun W => specWordValid_any s W (by omega)
  rw [hs] at hwv
  go_enter Tryz.func97, Tryz.ntmps97
  go_wp2_with (go_at_call 28; ((with_reducible refine (hwv _).mono ?_); rintro e w' ⟨rfl, rfl⟩))
  go_loop [3, 4] (fun o i => ∃ k : Nat, k ≤ s.size ∧ i = .int .i64 ((k : Int) - 1) ∧ o = .string (S ((L s).drop k).reverse)) (fun _ i => (intOf i + 1).toNat)
  case atStart => exact ⟨s.size, Nat.le_refl _, rfl, by rw [List.drop_of_length_le (by rw [size_L]; omega)]; rfl⟩
  case round =>
    clear hwv
    obtain ⟨k, hk, rfl, rfl⟩ := hrel
    have hsz : (S ((L s).drop k).reverse).size ≤ 200 := by rw [size_S]; simp [size_L]; omega
    by_cases hlt : 0 < k
    · obtain ⟨j, rfl⟩ : ∃ j, k = j + 1 := ⟨k - 1, by omega⟩
      have q1 : (((j + 1 : Nat)) : Int) - 1 = (j : Int) := by omega
      have HX := Lib.hid (rev_step (show j < s.size by omega))
      have hx1 : (s.extract j (j + 1)).size ≤ 1 := by simp; omega
      rw [q1]
      clear q1
      have hsl := sl_one s j (by omega)
      go_wp2
      go_round
      case rel => exact ⟨j, by omega, rfl, by rw [HX.out]⟩
      case measure => simp [intOf]
    · have hk0 : k = 0 := by omega
      subst hk0
      go_wp2
      go_ret
      exact ⟨rfl, rfl⟩
end Go.Proofs.YtjefcicenepcbaaGreat
