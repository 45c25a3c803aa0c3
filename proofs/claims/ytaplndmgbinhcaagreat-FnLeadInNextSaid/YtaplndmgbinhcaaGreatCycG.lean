/- Contracts of LeadIn and PeriodOf, the program's and the specification's. -/
import Derived.Test.YtaplndmgbinhcaaGreatCycF
import Derived.Test.YtaplndmgbinhcaaGreatDraw7
import Derived.Test.YtaplndmgbinhcaaGreatBackV
namespace Go.Proofs.YtaplndmgbinhcaaGreat
open Go.RowKit

/-- From the way in on the period is the least. -/
theorem Cyc.at_ {α : Type} {X : Nat → α} (hS : Seqs X) {l p : Nat} (h : Cyc X l p) {N : Nat} (hN : l ≤ N) : X (N + p) = X N ∧ ∀ q, 1 ≤ q → q < p → X (N + q) ≠ X N := by
  refine ⟨by have := hS.mul h.back 1 N hN; rwa [Nat.one_mul] at this, fun q h1 h2 e => ?_⟩
  have hm := hS.mul h.back N
  have h3 := hS.add e (l + N * p - N)
  have hle : N ≤ l + N * p := by have := Nat.mul_le_mul (Nat.le_refl N) h.pos; omega
  rw [show N + q + (l + N * p - N) = (l + q) + N * p by omega, show N + (l + N * p - N) = l + N * p by omega, hm (l + q) (by omega), hm l (Nat.le_refl _)] at h3
  exact h.least q h1 h2 h3
theorem Cyc.next {α : Type} {X : Nat → α} (hS : Seqs X) {l p : Nat} (h : Cyc X l p) : Cyc (fun i => X (i + 1)) (l - 1) p := by
  rcases Nat.eq_zero_or_pos l with h0 | h0
  · subst h0
    have h1 := h.at_ hS (N := 1) (by omega)
    refine ⟨h.pos, ?_, fun q h2 h3 => ?_, fun k q hk => absurd hk (by omega)⟩
    · show X (0 - 1 + p + 1) = X (0 - 1 + 1)
      rw [show 0 - 1 + p + 1 = 1 + p by omega]; exact h1.1
    · show X (0 - 1 + q + 1) ≠ X (0 - 1 + 1)
      rw [show 0 - 1 + q + 1 = 1 + q by omega]; exact h1.2 q h2 h3
  · refine ⟨h.pos, ?_, fun q h2 h3 => ?_, fun k q hk h2 => ?_⟩
    · show X (l - 1 + p + 1) = X (l - 1 + 1)
      rw [show l - 1 + p + 1 = l + p by omega, show l - 1 + 1 = l by omega]; exact h.back
    · show X (l - 1 + q + 1) ≠ X (l - 1 + 1)
      rw [show l - 1 + q + 1 = l + q by omega, show l - 1 + 1 = l by omega]; exact h.least q h2 h3
    · show X (k + q + 1) ≠ X (k + 1)
      rw [show k + q + 1 = k + 1 + q by omega]; exact h.first (k + 1) q (by omega) h2
theorem fold_lt : ∀ (l : List Nat) (acc : Nat), (∀ x ∈ l, x < 10) → l.foldl (fun n d => n * 10 + d) acc < (acc + 1) * 10 ^ l.length
  | [], acc, _ => by simp
  | d :: l, acc, h => by
    have hd := h d (by simp)
    have ih := fold_lt l (acc * 10 + d) (fun x hx => h x (by simp [hx]))
    simp only [List.foldl_cons, List.length_cons]
    refine Nat.lt_of_lt_of_le ih ?_
    rw [Nat.pow_succ, Nat.mul_comm (10 ^ l.length) 10, ← Nat.mul_assoc]
    exact Nat.mul_le_mul (by omega) (Nat.le_refl _)
/-- The way in is shorter than the number of all windows. -/
theorem lead_lt {x : Whl} {v : ByteArray} (hF : FitB x v) {l p : Nat} (hC : Cyc (fun n => stepN x n v) l p) : l < 10 ^ v.size := by
  have h3 : ∀ i, (stepN x i v).size ≤ 3 := fun i => by rw [size_stepN, hF.size]; exact hF.three
  obtain ⟨i, j, hij, hj, e⟩ := find_rep (x := fun i => stepN x i v) (c := winN) (M := 10 ^ v.size) (fun i => by
    have := fold_lt (dg (stepN x i v)) 0 (word_dg_lt (word_stepN i hF.word))
    rw [len_dg, size_stepN] at this
    simpa [winN] using this) (fun i j e => winN_inj (word_stepN i hF.word) (word_stepN j hF.word) (h3 i) (by rw [size_stepN, size_stepN]) e)
  have : ¬ i < l := fun hlt => hC.first i (j - i) hlt (by omega) (by show stepN x (i + (j - i)) v = stepN x i v; rw [show i + (j - i) = j by omega]; exact e.symm)
  omega

theorem implLeadIn_any (a : Option Addr) (n c : Nat) (x : Whl) (v : ByteArray) (r : Int) (w : World) (h : WhlAt w w.heap.size a n x) (hv : v.size ≤ 4294967296) (hr : (fitB x v = false ∧ r = -1) ∨ (fitB x v = true ∧ ∃ l p : Nat, Cyc (fun n => stepN x n v) l p ∧ r = l)) :
    Calls Tryz.prog 6 #[.agg #[.slice a n c, .string x.refl], .string v] w fun e w' => e = .returned (.int .i64 r) ∧ Below w.heap.size w w' := by
  have o0 := Own.new w [.slice a n c, .string x.refl] 25
  have hb0 := (Below.refl w.heap.size w).alloc (Nat.le_refl _) (.cells [.slice a n c, .string x.refl].toArray 25)
  have h' := h.alloc_ (.cells [.slice a n c, .string x.refl].toArray 25)
  have hc := windowsValid_any a n c x v _ h' hv
  rcases hr with ⟨hf, rfl⟩ | ⟨hf, l, p, hC, rfl⟩
  · rw [hf] at hc
    go_enter Tryz.func6, Tryz.ntmps6
    go_wp2_with fail
    refine hc.mono ?_
    rintro e w1 ⟨rfl, hb1⟩
    go_wp2
    go_ret
    exact ⟨rfl, bt hb0 hb1⟩
  · rw [hf] at hc
    have hF := fitB_iff.1 hf
    clear hf
    go_enter Tryz.func6, Tryz.ntmps6
    go_wp2_with fail
    refine hc.mono ?_
    rintro e w1 ⟨rfl, hb1⟩
    have o1 := o0.below hb1 o0.lt
    have c0 := o1.at_ (i := 0) rfl
    have c1 := o1.at_ (i := 1) rfl
    have h1 := (h'.below hb1 (Nat.le_refl _)).more hb1.size
    clear hc h'
    go_wp2_with fail
    refine (cycleFrom_any a n c x v l p _ h1 hF hC).mono ?_
    rintro e w2 ⟨rfl, hb2⟩
    go_wp2
    go_ret
    exact ⟨rfl, bt (bt hb0 hb1) hb2⟩
theorem implPeriodOf_any (a : Option Addr) (n c : Nat) (x : Whl) (v : ByteArray) (l p : Nat) (w : World) (h : WhlAt w w.heap.size a n x) (hv : v.size ≤ 4294967296) (hf : fitB x v = true) (hC : Cyc (fun n => stepN x n v) l p) :
    Calls Tryz.prog 10 #[.agg #[.slice a n c, .string x.refl], .string v] w fun e w' => e = .returned (.int .i64 (p : Int)) ∧ Below w.heap.size w w' := by
  have o0 := Own.new w [.slice a n c, .string x.refl] 25
  have hb0 := (Below.refl w.heap.size w).alloc (Nat.le_refl _) (.cells [.slice a n c, .string x.refl].toArray 25)
  have h' := h.alloc_ (.cells [.slice a n c, .string x.refl].toArray 25)
  have hc := windowsValid_any a n c x v _ h' hv
  rw [hf] at hc
  have hF := fitB_iff.1 hf
  clear hf
  go_enter Tryz.func10, Tryz.ntmps10
  go_wp2_with fail
  refine hc.mono ?_
  rintro e w1 ⟨rfl, hb1⟩
  have o1 := o0.below hb1 o0.lt
  have c0 := o1.at_ (i := 0) rfl
  have c1 := o1.at_ (i := 1) rfl
  have h1 := (h'.below hb1 (Nat.le_refl _)).more hb1.size
  clear hc h'
  go_wp2_with fail
  refine (cycleFrom_any a n c x v l p _ h1 hF hC).mono ?_
  rintro e w2 ⟨rfl, hb2⟩
  go_wp2
  go_ret
  exact ⟨rfl, bt (bt hb0 hb1) hb2⟩

set_option maxHeartbeats 1000000 in
theorem l7Period_any (a : Option Addr) (n c : Nat) (x : Whl) (v : ByteArray) (l p : Nat) (w : World) (h : WhlAt w w.heap.size a n x) (hF : FitB x v) (hC : Cyc (fun n => stepN x n v) l p) (hp : p ≤ 1000) :
    Calls Tryz.prog 20 #[.agg #[.slice a n c, .string x.refl], .string v] w fun e w' => e = .returned (.int .i64 (p : Int)) ∧ Below w.heap.size w w' := by
  have h3 : v.size ≤ 3 := by rw [hF.size]; exact hF.three
  have hten := ten_le h3
  have hl := lead_lt hF hC
  obtain ⟨hA, hB⟩ := hC.at_ (seqs_step x v) (N := 10 ^ v.size) (by omega)
  have hp1 := hC.pos
  have HA := Lib.hid hA
  have HB := Lib.hid hB
  clear hA hB hC
  have o0 := Own.new w [.slice a n c, .string x.refl] 25
  have hb0 := (Below.refl w.heap.size w).alloc (Nat.le_refl _) (.cells [.slice a n c, .string x.refl].toArray 25)
  have hsz := fun W => l7Size_any v.size W h3
  have hwk := fun (W : World) (hb : Below w.heap.size w W) (cc : Cls W.heap.size W) => l7Walk_any a n c x v (10 ^ v.size) cc.w (((h.below hb (Nat.le_refl _)).below (C := w.heap.size) (cc.bel.mono hb.size) (Nat.le_refl _)).more (Nat.le_trans hb.size cc.bel.size)) hF (by omega)
  have hs1 := Lib.hid (fun (W : World) (hb : Below w.heap.size w W) (m : Nat) => l7Step_any a n c x (stepN x m v) W ((h.below hb (Nat.le_refl _)).more hb.size) (hF.stepN_ m))
  generalize 10 ^ v.size = N at *
  go_enter Tryz.func20, Tryz.ntmps20
  go_wp2_with fail
  generalize (w.alloc (.cells [.slice a n c, .string x.refl].toArray 25)) = W0 at *
  have c0 := o0.at_ (i := 0) rfl
  have c1 := o0.at_ (i := 1) rfl
  have l0 := o0.lt
  have hw0 := hwk W0 hb0
  have g1 := hs1.out
  have d0 := fun (cc : Cls W0.heap.size W0) => (cc.cell w.heap.size 0 l0).trans c0
  have d1 := fun (cc : Cls W0.heap.size W0) => (cc.cell w.heap.size 1 l0).trans c1
  obtain ⟨A, hA⟩ : ∃ A, A = stepN x N v := ⟨_, rfl⟩
  rw [← hA] at hw0
  have H1 := Lib.hid hA
  clear hA hwk g1
  refine wp_region_cls (by kernel_rfl) (by kernel_rfl) ?_
  repeat (go_big_quiet_step (first | (go_at_call 34; with_reducible exact cls_same (hsz _)) | (go_at_call 19; with_reducible exact cls_of (Nat.le_refl _) (hw0 _))))
  refine wpQuiet_nil ?_
  intro wc hbc
  have o1 := o0.below hbc o0.lt
  have hb1 := bt hb0 hbc
  clear o0 hb0 hbc c0 c1 l0 hw0 d0 d1 hsz
  have c0 := o1.at_ (i := 0) rfl
  have c1 := o1.at_ (i := 1) rfl
  have g1 := hs1.out _ hb1 N
  rw [← stepN_succ] at g1
  obtain ⟨A1, hA1⟩ : ∃ A1, A1 = stepN x (N + 1) v := ⟨_, rfl⟩
  rw [← hA1, ← H1.out] at g1
  have H2 := Lib.hid hA1
  clear hA1
  go_wp2_with fail
  refine g1.mono ?_
  rintro e w2 ⟨rfl, hb2⟩
  have o2 := o1.below hb2 o1.lt
  have hbw2 := bt hb1 hb2
  clear o1 hb1 hb2 g1 c0 c1
  go_wp2_with fail
  go_loopg [6, 7] (p - 1) (fun g q s wr => ∃ r : Nat, 1 ≤ r ∧ r ≤ p ∧ g = p - r ∧ q = .int .i64 r ∧ s = .string (stepN x (N + r) v) ∧ Own wr w.heap.size [.slice a n c, .string x.refl] ∧ Below w.heap.size w wr)
  case atStart => exact ⟨1, by omega, hp1, rfl, rfl, by rw [H2.out], o2, hbw2⟩
  case round =>
    clear o2 hbw2
    obtain ⟨r, hr1, hr2, hg, rfl, rfl, o2, hb⟩ := hrel
    have HG := Lib.hid hg
    clear hg
    have c0 := o2.at_ (i := 0) rfl
    have c1 := o2.at_ (i := 1) rfl
    by_cases he : r = p
    · subst he
      have te := bne_no (show stepN x (N + r) v = A by rw [H1.out]; exact HA.out)
      go_wp2
      go_ret
      exact ⟨rfl, hb⟩
    · have te := bne_of (show stepN x (N + r) v ≠ A by rw [H1.out]; exact HB.out r hr1 (by omega))
      have g1 := hs1.out _ hb (N + r)
      rw [← stepN_succ] at g1
      obtain ⟨B, hB⟩ : ∃ B, B = stepN x (N + r) v := ⟨_, rfl⟩
      obtain ⟨B1, hB1⟩ : ∃ B1, B1 = stepN x (N + r + 1) v := ⟨_, rfl⟩
      rw [← hB1] at g1
      rw [← hB] at g1 te ⊢
      have K2 := Lib.hid hB1
      clear hB hB1
      go_wp2_with fail
      refine g1.mono ?_
      rintro e w6 ⟨rfl, hb6⟩
      have o6 := o2.below hb6 o2.lt
      go_wp2
      go_roundg (p - (r + 1))
      case measure => rw [HG.out]; omega
      case rel => exact ⟨r + 1, by omega, by omega, rfl, by go_num, by rw [K2.out]; rfl, o6, bt hb hb6⟩
end Go.Proofs.YtaplndmgbinhcaaGreat
