/- The contract of cycleFrom, and of the program's LeadIn and PeriodOf. -/
import Derived.Test.YtaplndmgbinhcaaGreatStepT
import Derived.Test.YtaplndmgbinhcaaGreatFloyd
import Derived.Deep.LoopGhost
namespace Go.Proofs.YtaplndmgbinhcaaGreat
open Go.RowKit

theorem least_of {P : Nat → Prop} : ∀ M, P M → ∃ n, n ≤ M ∧ P n ∧ ∀ m, m < n → ¬ P m
  | M, h => by
    apply Classical.byContradiction
    intro hn
    have : ∀ n, n ≤ M → ∀ m, m < n → ¬ P m := fun n => by
      induction n with
      | zero => intro _ m hm; omega
      | succ n ih =>
        intro hle m hm hp
        by_cases e : m = n
        · subst e
          exact hn ⟨m, by omega, hp, ih (by omega)⟩
        · exact ih (by omega) m (by omega) hp
    exact hn ⟨M, Nat.le_refl _, h, this M (Nat.le_refl _)⟩
/-- Steps come back. -/
theorem exists_cyc {x : Whl} {v : ByteArray} (hF : FitB x v) : ∃ l p, Cyc (fun n => stepN x n v) l p ∧ l ≤ 1000 ∧ p ≤ 1000 := by
  obtain ⟨n, h1, h2, h3⟩ := step_meet hF
  obtain ⟨l, hl, hl1, hl2⟩ := least_of (P := fun k => stepN x k v = stepN x (n + k) v) n (by show stepN x n v = stepN x (n + n) v; rw [h3]; congr 1; omega)
  obtain ⟨q, hq, hq1, hq2⟩ := least_of (P := fun q => stepN x (l + (q + 1)) v = stepN x l v) (n - 1) (by show stepN x (l + (n - 1 + 1)) v = stepN x l v; rw [show l + (n - 1 + 1) = n + l by omega]; exact hl1.symm)
  refine ⟨l, q + 1, cyc_of (seqs_step x v) h1 h3 hl1 (fun k hk => hl2 k hk) (by omega) hq1 (fun r hr1 hr2 => ?_), by omega, by omega⟩
  have := hq2 (r - 1) (by omega)
  rw [show l + (r - 1 + 1) = l + r by omega] at this
  exact this

theorem bne_of {a b : ByteArray} (h : a ≠ b) : (a.toList == b.toList) = false := by
  rw [toList_L, toList_L, beq_eq_false_iff_ne]
  exact fun e => h (L_inj e)
theorem bne_no {a b : ByteArray} (h : a = b) : (a.toList == b.toList) = true := by rw [h]; simp

set_option maxHeartbeats 2000000 in
theorem cycleFrom_any (a : Option Addr) (n c : Nat) (x : Whl) (v : ByteArray) (l p : Nat) (w : World) (h : WhlAt w w.heap.size a n x) (hF : FitB x v) (hC : Cyc (fun n => stepN x n v) l p) :
    Calls Tryz.prog 17 #[.agg #[.slice a n c, .string x.refl], .string v] w fun e w' => e = .returned (.tuple #[.int .i64 (l : Int), .int .i64 (p : Int)]) ∧ Below w.heap.size w w' := by
  obtain ⟨n0, hn1, hn2, hn3⟩ := step_meet hF
  have HN := Lib.hid hn3
  have HC := Lib.hid hC
  have HFIT := Lib.hid hF
  clear hn3 hC
  have o0 := Own.new w [.slice a n c, .string x.refl] 25
  have hb0 := (Below.refl w.heap.size w).alloc (Nat.le_refl _) (.cells [.slice a n c, .string x.refl].toArray 25)
  have hst := Lib.hid (fun (W : World) (hb : Below w.heap.size w W) (m : Nat) (cc : Cls W.heap.size W) => step_any a n c x (stepN x m v) cc.w (((h.below hb (Nat.le_refl _)).below (C := w.heap.size) (cc.bel.mono hb.size) (Nat.le_refl _)).more (Nat.le_trans hb.size cc.bel.size)) (hF.stepN_ m))
  have hs1 := Lib.hid (fun (W : World) (hb : Below w.heap.size w W) (m : Nat) => step_any a n c x (stepN x m v) W ((h.below hb (Nat.le_refl _)).more hb.size) (hF.stepN_ m))
  clear hF
  go_enter Tryz.func17, Tryz.ntmps17
  go_wp2_with fail
  generalize (w.alloc (.cells [.slice a n c, .string x.refl].toArray 25)) = W0 at *
  have c0 := o0.at_ (i := 0) rfl
  have c1 := o0.at_ (i := 1) rfl
  have l0 := o0.lt
  have g1 := hst.out W0 hb0 0
  have g2 := hst.out W0 hb0 1
  have d0 := fun (cc : Cls W0.heap.size W0) => (cc.cell w.heap.size 0 l0).trans c0
  have d1 := fun (cc : Cls W0.heap.size W0) => (cc.cell w.heap.size 1 l0).trans c1
  rw [show stepW x (stepN x 0 v) = stepN x 1 v from rfl, show stepN x 0 v = v from rfl] at g1
  rw [← stepN_succ] at g2
  have HA1 := Lib.hid (show stepN x 1 v = stepN x 1 v from rfl)
  obtain ⟨A1, hA1⟩ : ∃ A1, A1 = stepN x 1 v := ⟨_, rfl⟩
  obtain ⟨A2, hA2⟩ : ∃ A2, A2 = stepN x (1 + 1) v := ⟨_, rfl⟩
  rw [← hA1] at g1 g2
  rw [← hA2] at g2
  have H1 := Lib.hid hA1
  have H2 := Lib.hid hA2
  clear hA1 hA2 HA1
  refine wp_region_cls (by kernel_rfl) (by kernel_rfl) ?_
  repeat (go_big_quiet_step (first | (go_at_call 24; with_reducible exact cls_of (Nat.le_refl _) (g1 _)) | (go_at_call 24; with_reducible exact cls_of (Nat.le_refl _) (g2 _))))
  refine wpQuiet_nil ?_
  intro wc hbc
  have o1 := o0.below hbc o0.lt
  have hb1 := bt hb0 hbc
  clear o0 hb0 hbc c0 c1 l0 g1 g2 d0 d1
  go_wp2_with fail
  go_loopg [6, 7] (n0 - 1) (fun g s f wr => ∃ i : Nat, 1 ≤ i ∧ i ≤ n0 ∧ g = n0 - i ∧ s = .string (stepN x i v) ∧ f = .string (stepN x (2 * i) v) ∧ Own wr w.heap.size [.slice a n c, .string x.refl] ∧ Below w.heap.size w wr)
  case atStart => exact ⟨1, by omega, hn1, rfl, by rw [H1.out], by rw [H2.out], o1, hb1⟩
  case round =>
    clear o1 hb1 H1 H2
    obtain ⟨i, hi1, hi2, hg, rfl, rfl, o2, hb⟩ := hrel
    have HG := Lib.hid hg
    clear hg
    have c0 := o2.at_ (i := 0) rfl
    have c1 := o2.at_ (i := 1) rfl
    have l0 := o2.lt
    by_cases he : stepN x i v = stepN x (2 * i) v
    · have HE := Lib.hid he
      have te := bne_no he
      have hEq : stepN x (2 * i) v = stepN x (i + 0) v := he.symm
      clear he
      rw [hEq] at te ⊢
      clear hEq
      go_wp2_with fail
      go_loopg [6, 7, 8] i (fun g s f ld wr => ∃ k : Nat, k ≤ i ∧ g = i - k ∧ s = .string (stepN x k v) ∧ f = .string (stepN x (i + k) v) ∧ ld = .int .i64 k ∧ (∀ j, j < k → stepN x j v ≠ stepN x (i + j) v) ∧ Own wr w.heap.size [.slice a n c, .string x.refl] ∧ Below w.heap.size w wr)
      case atStart => exact ⟨0, Nat.zero_le _, rfl, rfl, rfl, rfl, fun j hj => absurd hj (by omega), o2, hb⟩
      case round =>
        clear o2 hb te c0 c1 l0
        obtain ⟨k, hk, hg, rfl, rfl, rfl, hmin, o2, hb⟩ := hrel
        have HG2 := Lib.hid hg
        have HMIN := Lib.hid hmin
        clear hg hmin
        have c0 := o2.at_ (i := 0) rfl
        have c1 := o2.at_ (i := 1) rfl
        have l0 := o2.lt
        by_cases he : stepN x k v = stepN x (i + k) v
        · have HE2 := Lib.hid he
          have te := bne_no he
          clear he
          have g1 := hs1.out _ hb k
          rw [← stepN_succ] at g1
          have HX : Hid (stepN x (k + i) v = stepN x k v) := by show _ = _; rw [Nat.add_comm]; exact HE2.out.symm
          obtain ⟨A, hA⟩ : ∃ A, A = stepN x k v := ⟨_, rfl⟩
          obtain ⟨A1, hA1⟩ : ∃ A1, A1 = stepN x (k + 1) v := ⟨_, rfl⟩
          obtain ⟨F1, hF1⟩ : ∃ F1, F1 = stepN x (i + k) v := ⟨_, rfl⟩
          rw [← hA1] at g1
          rw [← hA] at g1 te ⊢
          rw [← hF1] at te ⊢
          have H1 := Lib.hid hA
          have H2 := Lib.hid hA1
          clear hA hA1 hF1
          go_wp2_with fail
          refine g1.mono ?_
          rintro e w5 ⟨rfl, hb5⟩
          have o5 := o2.below hb5 o2.lt
          have hbw5 := bt hb hb5
          clear te g1 c0 c1 l0 o2 hb hb5
          go_wp2_with fail
          go_loopg [7, 9] (i - 1) (fun g f q wr => ∃ r : Nat, 1 ≤ r ∧ r ≤ i ∧ g = i - r ∧ f = .string (stepN x (k + r) v) ∧ q = .int .i64 r ∧ (∀ j, 1 ≤ j → j < r → stepN x (k + j) v ≠ stepN x k v) ∧ Own wr w.heap.size [.slice a n c, .string x.refl] ∧ Below w.heap.size w wr)
          case atStart => exact ⟨1, by omega, hi1, rfl, by rw [H2.out], rfl, fun j h1 h2 => absurd h2 (by omega), o5, hbw5⟩
          case round =>
            clear o5 hbw5
            obtain ⟨r, hr1, hr2, hg, rfl, rfl, hmin, o2, hb⟩ := hrel
            have HG3 := Lib.hid hg
            have HMIN2 := Lib.hid hmin
            clear hg hmin
            have c0 := o2.at_ (i := 0) rfl
            have c1 := o2.at_ (i := 1) rfl
            have l0 := o2.lt
            by_cases he : stepN x (k + r) v = A
            · have te := bne_no he
              have HE3 := Lib.hid he
              clear he
              have HFIN : Hid (k = l ∧ r = p) := by
                show _ ∧ _
                refine (cyc_of (seqs_step x v) hi1 ?_ HE2.out HMIN.out hr1 ?_ ?_).uniq HC.out
                · rw [HE.out]
                · show stepN x (k + r) v = stepN x k v
                  rw [HE3.out, H1.out]
                · exact HMIN2.out
              go_wp2
              go_ret2
              refine ⟨?_, hb⟩
              rw [← HFIN.out.1, ← HFIN.out.2]; rfl
            · have te := bne_of he
              have HE3 := Lib.hid he
              have hri : r < i := by
                rcases Nat.lt_or_ge r i with h1 | h1
                · exact h1
                · obtain rfl : r = i := by omega
                  exact absurd (HX.out.trans H1.out.symm) he
              clear he
              have g1 := hs1.out _ hb (k + r)
              rw [← stepN_succ] at g1
              obtain ⟨B, hB⟩ : ∃ B, B = stepN x (k + r) v := ⟨_, rfl⟩
              obtain ⟨B1, hB1⟩ : ∃ B1, B1 = stepN x (k + r + 1) v := ⟨_, rfl⟩
              rw [← hB1] at g1
              rw [← hB] at g1 te ⊢
              have K1 := Lib.hid hB
              have K2 := Lib.hid hB1
              clear hB hB1
              go_wp2_with fail
              refine g1.mono ?_
              rintro e w6 ⟨rfl, hb6⟩
              have o6 := o2.below hb6 o2.lt
              go_wp2
              go_roundg (i - (r + 1))
              case measure => rw [HG3.out]; omega
              case rel =>
                refine ⟨r + 1, by omega, by omega, rfl, ?_, by go_num, fun j h1 h2 => ?_, o6, bt hb hb6⟩
                · rw [K2.out]; rfl
                · by_cases e : j = r
                  · subst e; rw [← H1.out]; exact HE3.out
                  · exact HMIN2.out j h1 (by omega)
        · have te := bne_of he
          have HE2 := Lib.hid he
          have hki : k < i := by
            rcases Nat.lt_or_ge k i with h1 | h1
            · exact h1
            · obtain rfl : k = i := by omega
              exact absurd (by rw [HE.out]; congr 1; omega) he
          clear he
          have g1 := hst.out _ hb k
          have g2 := hst.out _ hb (i + k)
          simp only [← stepN_succ] at g1 g2
          have d0 := fun (cc : Cls wr.heap.size wr) => (cc.cell w.heap.size 0 l0).trans c0
          have d1 := fun (cc : Cls wr.heap.size wr) => (cc.cell w.heap.size 1 l0).trans c1
          obtain ⟨A, hA⟩ : ∃ A, A = stepN x k v := ⟨_, rfl⟩
          obtain ⟨A1, hA1⟩ : ∃ A1, A1 = stepN x (k + 1) v := ⟨_, rfl⟩
          obtain ⟨F, hF⟩ : ∃ F, F = stepN x (i + k) v := ⟨_, rfl⟩
          obtain ⟨F1, hF1⟩ : ∃ F1, F1 = stepN x (i + k + 1) v := ⟨_, rfl⟩
          rw [← hA, ← hA1] at g1
          rw [← hF, ← hF1] at g2
          rw [← hA, ← hF] at te ⊢
          have H2 := Lib.hid hA1
          have H4 := Lib.hid hF1
          clear hA hA1 hF hF1
          go_wp2_with fail
          refine wp_region_cls (by kernel_rfl) (by kernel_rfl) ?_
          repeat (go_big_quiet_step (first | (go_at_call 24; with_reducible exact cls_of (Nat.le_refl _) (g1 _)) | (go_at_call 24; with_reducible exact cls_of (Nat.le_refl _) (g2 _))))
          refine wpQuiet_nil ?_
          intro wc hbc
          have o3 := o2.below hbc o2.lt
          have hb3 := bt hb hbc
          go_wp2
          go_roundg (i - (k + 1))
          case measure => rw [HG2.out]; omega
          case rel =>
            refine ⟨k + 1, by omega, rfl, by rw [H2.out], by rw [H4.out]; rfl, by go_num, fun j hj => ?_, o3, hb3⟩
            by_cases e : j = k
            · subst e; exact HE2.out
            · exact HMIN.out j (by omega)
    · have te := bne_of he
      have hin : i < n0 := by
        rcases Nat.lt_or_ge i n0 with h1 | h1
        · exact h1
        · obtain rfl : i = n0 := by omega
          exact absurd HN.out he
      clear he
      have g1 := hst.out _ hb i
      have g2 := hst.out _ hb (2 * i)
      have g3 := hst.out _ hb (2 * i + 1)
      simp only [← stepN_succ] at g1 g2 g3
      have d0 := fun (cc : Cls wr.heap.size wr) => (cc.cell w.heap.size 0 l0).trans c0
      have d1 := fun (cc : Cls wr.heap.size wr) => (cc.cell w.heap.size 1 l0).trans c1
      obtain ⟨A, hA⟩ : ∃ A, A = stepN x i v := ⟨_, rfl⟩
      obtain ⟨A1, hA1⟩ : ∃ A1, A1 = stepN x (i + 1) v := ⟨_, rfl⟩
      obtain ⟨F, hF⟩ : ∃ F, F = stepN x (2 * i) v := ⟨_, rfl⟩
      obtain ⟨F1, hF1⟩ : ∃ F1, F1 = stepN x (2 * i + 1) v := ⟨_, rfl⟩
      obtain ⟨F2, hF2⟩ : ∃ F2, F2 = stepN x (2 * i + 1 + 1) v := ⟨_, rfl⟩
      rw [← hA, ← hA1] at g1
      rw [← hF, ← hF1] at g2
      rw [← hF1, ← hF2] at g3
      rw [← hA, ← hF] at te ⊢
      have H2 := Lib.hid hA1
      have H4 := Lib.hid hF2
      clear hA hA1 hF hF1 hF2
      go_wp2_with fail
      refine wp_region_cls (by kernel_rfl) (by kernel_rfl) ?_
      repeat (go_big_quiet_step (first | (go_at_call 24; with_reducible exact cls_of (Nat.le_refl _) (g1 _)) | (go_at_call 24; with_reducible exact cls_of (Nat.le_refl _) (g2 _)) | (go_at_call 24; with_reducible exact cls_of (Nat.le_refl _) (g3 _))))
      refine wpQuiet_nil ?_
      intro wc hbc
      have o3 := o2.below hbc o2.lt
      have hb3 := bt hb hbc
      go_wp2
      go_roundg (n0 - (i + 1))
      case measure => rw [HG.out]; omega
      case rel => exact ⟨i + 1, by omega, by omega, rfl, by rw [H2.out], by rw [H4.out, show 2 * (i + 1) = 2 * i + 1 + 1 by omega], o3, hb3⟩
end Go.Proofs.YtaplndmgbinhcaaGreat
