/- Contracts of StepMany and StepWindows, and of the laws' own comparisons. -/
import Derived.Test.YtaplndmgbinhcaaGreatSpecS
import Derived.Test.YtaplndmgbinhcaaGreatList
namespace Go.Proofs.YtaplndmgbinhcaaGreat
open Go.RowKit

/-- What StepMany answers. -/
def stepT (x : Whl) (u : ByteArray) (n : Int) : ByteArray × Bool := if fitB x u = true ∧ 0 ≤ n ∧ n ≤ 2000 then (stepN x n.toNat u, true) else (S [], false)
theorem stepT_no {x : Whl} {u : ByteArray} {n : Int} (h : ¬ (fitB x u = true ∧ 0 ≤ n ∧ n ≤ 2000)) : stepT x u n = (S [], false) := by simp only [stepT, if_neg h]
theorem stepT_yes {x : Whl} {u : ByteArray} {n : Nat} (h : fitB x u = true) (hn : n ≤ 2000) : stepT x u (n : Int) = (stepN x n u, true) := by
  unfold stepT
  rw [if_pos ⟨h, by omega, by omega⟩]; rfl
theorem FitB.step_ {x : Whl} {v : ByteArray} (h : FitB x v) : FitB x (stepW x v) := ⟨h.one, h.three, h.rot, h.refl, by rw [size_stepW]; exact h.size, word_stepW h.word⟩
theorem FitB.stepN_ {x : Whl} : ∀ (n : Nat) {v : ByteArray}, FitB x v → FitB x (stepN x n v)
  | 0, _, h => h
  | n + 1, _, h => FitB.stepN_ n h.step_
theorem implStepMany_any (a : Option Addr) (n c : Nat) (x : Whl) (u : ByteArray) (N : Int) (w : World) (h : WhlAt w w.heap.size a n x) (hu : u.size ≤ 4294967296) :
    Calls Tryz.prog 22 #[.agg #[.slice a n c, .string x.refl], .string u, .int .i64 N] w fun e w' => e = .returned (.tuple #[.string (stepT x u N).1, .bool (stepT x u N).2]) ∧ Below w.heap.size w w' := by
  have o0 := Own.new w [.slice a n c, .string x.refl] 25
  have hb0 := (Below.refl w.heap.size w).alloc (Nat.le_refl _) (.cells [.slice a n c, .string x.refl].toArray 25)
  have h' := h.alloc_ (.cells [.slice a n c, .string x.refl].toArray 25)
  have hc := windowsValid_any a n c x u _ h' hu
  cases hf : fitB x u with
  | false =>
    have HT := Lib.hid (stepT_no (x := x) (u := u) (n := N) (by simp [hf]))
    rw [hf] at hc
    go_enter Tryz.func22, Tryz.ntmps22
    go_wp2_with fail
    refine hc.mono ?_
    rintro e w1 ⟨rfl, hb1⟩
    go_wp2
    go_ret2
    exact ⟨by rw [HT.out]; rfl, bt hb0 hb1⟩
  | true =>
    have hF := fitB_iff.1 hf
    rw [hf] at hc
    by_cases h0 : N < 0
    · have HT := Lib.hid (stepT_no (x := x) (u := u) (n := N) (by omega))
      have t0 : decide (N < 0) = true := by simp; omega
      clear hf
      go_enter Tryz.func22, Tryz.ntmps22
      go_wp2_with fail
      refine hc.mono ?_
      rintro e w1 ⟨rfl, hb1⟩
      go_wp2
      go_ret2
      exact ⟨by rw [HT.out]; rfl, bt hb0 hb1⟩
    · have t0 : decide (N < 0) = false := by simp; omega
      by_cases h2 : 2000 < N
      · have HT := Lib.hid (stepT_no (x := x) (u := u) (n := N) (by omega))
        have t1 : decide (2000 < N) = true := by simp; omega
        clear hf
        go_enter Tryz.func22, Tryz.ntmps22
        go_wp2_with fail
        refine hc.mono ?_
        rintro e w1 ⟨rfl, hb1⟩
        go_wp2
        go_ret2
        exact ⟨by rw [HT.out]; rfl, bt hb0 hb1⟩
      · have t1 : decide (2000 < N) = false := by simp; omega
        obtain ⟨M, rfl⟩ := Int.eq_ofNat_of_zero_le (show 0 ≤ N by omega)
        have hM : M ≤ 2000 := by omega
        have HT := Lib.hid (stepT_yes (x := x) hf hM)
        clear hf
        go_enter Tryz.func22, Tryz.ntmps22
        go_wp2_with fail
        refine hc.mono ?_
        rintro e w1 ⟨rfl, hb1⟩
        have o1 := o0.below hb1 o0.lt
        have hbw := bt hb0 hb1
        clear o0 hb0 hb1 hc h'
        go_wp2_with fail
        go_loopw [1, 21] (fun s i wr => ∃ k : Nat, k ≤ M ∧ i = .int .i64 k ∧ s = .string (stepN x k u) ∧ Own wr w.heap.size [.slice a n c, .string x.refl] ∧ Below w.heap.size w wr) (fun _ i _ => M - (intOf i).toNat)
        case atStart => exact ⟨0, Nat.zero_le _, rfl, rfl, o1, hbw⟩
        case round =>
          clear o1 hbw
          obtain ⟨k, hk, rfl, rfl, o1, hb⟩ := hrel
          have c0 := o1.at_ (i := 0) rfl
          have c1 := o1.at_ (i := 1) rfl
          by_cases hlt : k < M
          · go_wp2_with fail
            refine (step_any a n c x (stepN x k u) _ ((h.below hb (Nat.le_refl _)).more hb.size) (hF.stepN_ k)).mono ?_
            rintro e w2 ⟨rfl, hb2⟩
            have o2 := o1.below hb2 o1.lt
            go_wp2
            go_roundw
            case rel => exact ⟨k + 1, by omega, by go_num, by rw [stepN_succ], o2, bt hb hb2⟩
            case measure => simp [intOf]; omega
          · have hk' : k = M := by omega
            subst hk'
            go_wp2
            go_ret2
            exact ⟨by rw [HT.out]; rfl, hb⟩
end Go.Proofs.YtaplndmgbinhcaaGreat
