/- Contracts of StepMany and StepWindows, and of the laws' own comparisons. -/
import Derived.Test.YtaplndmgbinhcaaSpecS
import Derived.Test.YtaplndmgbinhcaaList
namespace Go.Proofs.Ytaplndmgbinhcaa
open Go.RowKit

/-- What StepMany answers. -/
def stepT (x : Whl) (u : ByteArray) (n : Int) : ByteArray × Bool := if fitB x u = true ∧ 0 ≤ n ∧ n ≤ 2000 then (stepN x n.toNat u, true) else (S [], false)
theorem stepT_no {x : Whl} {u : ByteArray} {n : Int} (h : ¬ (fitB x u = true ∧ 0 ≤ n ∧ n ≤ 2000)) : stepT x u n = (S [], false) := by simp only [stepT, if_neg h]
theorem stepT_yes {x : Whl} {u : ByteArray} {n : Nat} (h : fitB x u = true) (hn : n ≤ 2000) : stepT x u (n : Int) = (stepN x n u, true) := by
  unfold stepT
  rw [if_pos ⟨h, by omega, by omega⟩]; rfl
theorem FitB.step_ {x : Whl} {v : ByteArray} (h : FitB x v) : FitB x (stepW x v) := ⟨h.one, h.three, h.rot, h.refl, by rw [size_stepW]; exact h.size, word_stepW h.word⟩
theorem FitB.stepN_ {x : Whl} : ∀ (n : Nat) {v : ByteArray}, FitB x v → FitB x (stepN x n v)
  | 0, _, h => h
  | n + 1, _, h => FitB.stepN_ n h.step_
theorem implStepMany_any (a : Option Addr) (n c : Nat) (x : Whl) (u : ByteArray) (N : Int) (w : World) (h : WhlAt w w.heap.size a n x) (hu : u.size ≤ 4294967296) :
    Calls Try.prog 35 #[.agg #[.slice a n c, .string x.refl], .string u, .int .i64 N] w fun e w' => e = .returned (.tuple #[.string (stepT x u N).1, .bool (stepT x u N).2]) ∧ Below w.heap.size w w' := by
  have o0 := Own.new w [.slice a n c, .string x.refl] 30
  have hb0 := (Below.refl w.heap.size w).alloc (Nat.le_refl _) (.cells [.slice a n c, .string x.refl].toArray 30)
  have h' := h.alloc_ (.cells [.slice a n c, .string x.refl].toArray 30)
  have hc := windowsValid_any a n c x u _ h' hu
  cases hf : fitB x u with
  | false =>
    have HT := Lib.hid (stepT_no (x := x) (u := u) (n := N) (by simp [hf]))
    rw [hf] at hc
    go_enter Try.func35, Try.ntmps35
    go_wp2_with fail
    refine hc.mono ?_
    rintro e w1 ⟨rfl, hb1⟩
    go_wp2
    go_ret2
    exact ⟨by rw [HT.out]; rfl, bt hb0 hb1⟩
  | true =>
    have hF := fitB_iff.1 hf
    rw [hf] at hc
    by_cases h0 : N < 0
    · have HT := Lib.hid (stepT_no (x := x) (u := u) (n := N) (by omega))
      have t0 : decide (N < 0) = true := by simp; omega
      clear hf
      go_enter Try.func35, Try.ntmps35
      go_wp2_with fail
      refine hc.mono ?_
      rintro e w1 ⟨rfl, hb1⟩
      go_wp2
      go_ret2
      exact ⟨by rw [HT.out]; rfl, bt hb0 hb1⟩
    · have t0 : decide (N < 0) = false := by simp; omega
      by_cases h2 : 2000 < N
      · have HT := Lib.hid (stepT_no (x := x) (u := u) (n := N) (by omega))
        have t1 : decide (2000 < N) = true := by simp; omega
        clear hf
        go_enter Try.func35, Try.ntmps35
        go_wp2_with fail
        refine hc.mono ?_
        rintro e w1 ⟨rfl, hb1⟩
        go_wp2
        go_ret2
        exact ⟨by rw [HT.out]; rfl, bt hb0 hb1⟩
      · have t1 : decide (2000 < N) = false := by simp; omega
        obtain ⟨M, rfl⟩ := Int.eq_ofNat_of_zero_le (show 0 ≤ N by omega)
        have hM : M ≤ 2000 := by omega
        have HT := Lib.hid (stepT_yes (x := x) hf hM)
        clear hf
        go_enter Try.func35, Try.ntmps35
        go_wp2_with fail
        refine hc.mono ?_
        rintro e w1 ⟨rfl, hb1⟩
        have o1 := o0.below hb1 o0.lt
        have hbw := bt hb0 hb1
        clear o0 hb0 hb1 hc h'
        go_wp2_with fail
        go_loopw [1, 21] (fun s i wr => ∃ k : Nat, k ≤ M ∧ i = .int .i64 k ∧ s = .string (stepN x k u) ∧ Own wr w.heap.size [.slice a n c, .string x.refl] ∧ Below w.heap.size w wr) (fun _ i _ => M - (intOf i).toNat)
        case atStart => exact ⟨0, Nat.zero_le _, rfl, rfl, o1, hbw⟩
        case round =>
          clear o1 hbw
          obtain ⟨k, hk, rfl, rfl, o1, hb⟩ := hrel
          have c0 := o1.at_ (i := 0) rfl
          have c1 := o1.at_ (i := 1) rfl
          by_cases hlt : k < M
          · go_wp2_with fail
            refine (step_any a n c x (stepN x k u) _ ((h.below hb (Nat.le_refl _)).more hb.size) (hF.stepN_ k)).mono ?_
            rintro e w2 ⟨rfl, hb2⟩
            have o2 := o1.below hb2 o1.lt
            go_wp2
            go_roundw
            case rel => exact ⟨k + 1, by omega, by go_num, by rw [stepN_succ], o2, bt hb hb2⟩
            case measure => simp [intOf]; omega
          · have hk' : k = M := by omega
            subst hk'
            go_wp2
            go_ret2
            exact ⟨by rw [HT.out]; rfl, hb⟩
theorem implStepWindows_any (a : Option Addr) (n c : Nat) (x : Whl) (u : ByteArray) (w : World) (h : WhlAt w w.heap.size a n x) (hu : u.size ≤ 4294967296) :
    Calls Try.prog 16 #[.agg #[.slice a n c, .string x.refl], .string u] w fun e w' => e = .returned (.tuple #[.string (stepT x u 1).1, .bool (stepT x u 1).2]) ∧ Below w.heap.size w w' := by
  have hb0 := (Below.refl w.heap.size w).alloc (Nat.le_refl _) (.cells [.slice a n c, .string x.refl].toArray 30)
  have h' := h.alloc_ (.cells [.slice a n c, .string x.refl].toArray 30)
  go_enter Try.func16, Try.ntmps16
  go_wp2_with fail
  refine (implStepMany_any a n c x u 1 _ h' hu).mono ?_
  rintro e w1 ⟨rfl, hb1⟩
  go_wp2
  go_ret2
  exact ⟨rfl, bt hb0 hb1⟩
theorem specStepWindows_any (a : Option Addr) (n c : Nat) (x : Whl) (u : ByteArray) (w : World) (h : WhlAt w w.heap.size a n x) (hu : u.size ≤ 4294967296) :
    Calls Try.prog 17 #[.agg #[.slice a n c, .string x.refl], .string u] w fun e w' => e = .returned (.tuple #[.string (stepT x u 1).1, .bool (stepT x u 1).2]) ∧ Below w.heap.size w w' := by
  have o0 := Own.new w [.slice a n c, .string x.refl] 30
  have hb0 := (Below.refl w.heap.size w).alloc (Nat.le_refl _) (.cells [.slice a n c, .string x.refl].toArray 30)
  have h' := h.alloc_ (.cells [.slice a n c, .string x.refl].toArray 30)
  have hc := l7Windows_any a n c x u _ h' hu
  cases hf : fitB x u with
  | false =>
    have HT := Lib.hid (stepT_no (x := x) (u := u) (n := 1) (by simp [hf]))
    rw [hf] at hc
    go_enter Try.func17, Try.ntmps17
    go_wp2_with fail
    refine hc.mono ?_
    rintro e w1 ⟨rfl, hb1⟩
    go_wp2
    go_ret2
    exact ⟨by rw [HT.out]; rfl, bt hb0 hb1⟩
  | true =>
    have hF := fitB_iff.1 hf
    have HT := Lib.hid (show stepT x u 1 = (stepW x u, true) from stepT_yes (n := 1) hf (by omega))
    rw [hf] at hc
    clear hf
    go_enter Try.func17, Try.ntmps17
    go_wp2_with fail
    refine hc.mono ?_
    rintro e w1 ⟨rfl, hb1⟩
    have o1 := o0.below hb1 o0.lt
    have c0 := o1.at_ (i := 0) rfl
    have c1 := o1.at_ (i := 1) rfl
    have h1 := (h'.below hb1 (Nat.le_refl _)).more hb1.size
    clear hc h'
    go_wp2_with fail
    refine (l7Step_any a n c x u _ h1 hF).mono ?_
    rintro e w2 ⟨rfl, hb2⟩
    go_wp2
    go_ret2
    exact ⟨by rw [HT.out]; rfl, bt (bt hb0 hb1) hb2⟩
theorem rcFit_any (a : Option Addr) (n c : Nat) (x : Whl) (v : ByteArray) (w : World) (h : WhlAt w w.heap.size a n x) (hv : v.size ≤ 4294967296) :
    Calls Try.prog 20 #[.agg #[.slice a n c, .string x.refl], .string v] w fun e w' => e = .returned (.bool (fitB x v)) ∧ Below w.heap.size w w' := by
  have o0 := Own.new w [.slice a n c, .string x.refl] 30
  have hb0 := (Below.refl w.heap.size w).alloc (Nat.le_refl _) (.cells [.slice a n c, .string x.refl].toArray 30)
  have h' := h.alloc_ (.cells [.slice a n c, .string x.refl].toArray 30)
  have hn := h.len
  subst hn
  go_enter Try.func20, Try.ntmps20
  go_wp2_with fail
  refine (implWheelsValid_any _ _ _ _ _ h').mono ?_
  rintro e w1 ⟨rfl, hb1⟩
  have o1 := o0.below hb1 o0.lt
  have c0 := o1.at_ (i := 0) rfl
  have hb : Below w.heap.size w w1 := bt hb0 hb1
  clear o0 hb0 hb1 o1 h'
  cases hw : wheelsB x
  · have HF := Lib.hid (show fitB x v = false by simp [fitB, hw])
    go_wp2
    go_ret
    exact ⟨ret_bool HF.out.symm, hb⟩
  · cases hwd : wordB v
    · have HF := Lib.hid (show fitB x v = false by simp [fitB, hwd])
      clear hw
      have hq := fun W => implWordValid_any v W hv
      rw [hwd] at hq
      go_wp2_with (go_at_call 42; ((with_reducible refine (hq _).mono ?_); rintro e w' ⟨rfl, rfl⟩))
      go_ret
      exact ⟨ret_bool HF.out.symm, hb⟩
    · have hq := fun W => implWordValid_any v W hv
      rw [hwd] at hq
      have HF := Lib.hid (show fitB x v = ((v.size : Int) == (x.rotors.length : Int)) by
        simp only [fitB, hw, hwd, Bool.true_and, Bool.and_true]
        rw [Bool.eq_iff_iff]; simp; omega)
      clear hw hwd
      go_wp2_with (go_at_call 42; ((with_reducible refine (hq _).mono ?_); rintro e w' ⟨rfl, rfl⟩))
      go_ret
      exact ⟨ret_bool HF.out.symm, hb⟩
def rcTo (ss tt : List ByteArray) (k : Nat) : Prop := ∀ j (h1 : j < ss.length) (h2 : j < tt.length), j < k → ss[j] = tt[j]
theorem rcTexts_any (a b : Option Addr) (c d : Nat) (ss tt : List ByteArray) (w : World) (h1 : Reads w w.heap.size a (sv ss)) (h2 : Reads w w.heap.size b (sv tt)) (l1 : ss.length ≤ 1048576) :
    Calls Try.prog 19 #[.slice a ss.length c, .slice b tt.length d] w fun e w' => e = .returned (.bool (decide (ss = tt))) ∧ ∃ n, w' = w.drewN n := by
  by_cases hl : ss.length = tt.length
  · have t0 : ((ss.length : Int) != (tt.length : Int)) = false := by simp [hl]
    have g1 : ss.length ≤ tt.length := by omega
    have g2 : tt.length ≤ ss.length := by omega
    have HR1 := Lib.hid h1
    have HR2 := Lib.hid h2
    clear hl h1 h2
    go_enter Try.func19, Try.ntmps19
    go_wp2
    go_loopw [5] (fun i wr => ∃ k n : Nat, k ≤ ss.length ∧ i = .int .i64 k ∧ rcTo ss tt k ∧ wr = w.drewN n) (fun i _ => ss.length - (intOf i).toNat)
    case atStart => exact ⟨0, 0, Nat.zero_le _, rfl, fun _ _ _ h => absurd h (by omega), rfl⟩
    case round =>
      obtain ⟨k, n, hk, rfl, ha, rfl⟩ := hrel
      by_cases hlt : k < ss.length
      · obtain ⟨b1, off1, rfl, hb1, hc1⟩ := HR1.out.open_ (by rw [length_sv]; omega)
        obtain ⟨b2, off2, rfl, hb2, hc2⟩ := HR2.out.open_ (by rw [length_sv]; omega)
        have d1 := hc1 k (by rw [length_sv]; exact hlt)
        have d2 := hc2 k (by rw [length_sv]; omega)
        rw [sv_at hlt] at d1
        rw [sv_at (by omega)] at d2
        clear hc1 hc2
        have q1 : (k : Int) < (ss.length : Int) := by omega
        have q2 : (k : Int) < (tt.length : Int) := by omega
        by_cases he : ss[k] = tt[k]'(by omega)
        · have te : (ss[k].toList == (tt[k]'(by omega)).toList) = true := by rw [he]; simp
          have He := Lib.hid he
          clear he
          go_wp2_with fail
          go_quiet (fail)
          go_wp2
          go_roundw
          case rel =>
            refine ⟨k + 1, _, by omega, by go_num, fun j hj1 hj2 hlt' => ?_, rfl⟩
            by_cases e : j = k
            · subst e; exact He.out
            · exact ha j hj1 hj2 (by omega)
          case measure => simp [intOf]; omega
        · have te : (ss[k].toList == (tt[k]'(by omega)).toList) = false := by
            rw [toList_L, toList_L, beq_eq_false_iff_ne]
            exact fun h => he (L_inj h)
          go_wp2_with fail
          go_quiet (fail)
          go_wp2
          go_ret
          exact ⟨ret_bool (by simp; intro h; exact he (by simp [h])), n + nq, by rw [World.drewN_drewN]⟩
      · go_wp2
        go_ret
        refine ⟨ret_bool ?_, n, rfl⟩
        have : ss = tt := List.ext_getElem (by omega) fun j hj1 hj2 => ha j hj1 hj2 (by omega)
        simp [this]
  · have t0 : ((ss.length : Int) != (tt.length : Int)) = true := by rw [bne_iff_ne]; omega
    have T : Hid (decide (ss = tt) = false) := by show _ = _; simp; intro h; exact hl (by rw [h])
    clear hl
    go_enter Try.func19, Try.ntmps19
    go_wp2
    go_ret
    exact ⟨ret_bool T.out.symm, 0, rfl⟩
end Go.Proofs.Ytaplndmgbinhcaa
