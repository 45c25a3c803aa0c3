/- Several of my texts in one: Msg, StepT, Seal. -/
import Derived.Test.YtbeohccbflhdiaaM3
import Derived.Test.YtbeohccbflhdiaaM4
import Derived.Test.YtbeohccbflhdiaaM10
import Derived.Test.YtbeohccbflhdiaaM13
/- Messages, and MessageValid. (The walks are printed by genmsg.py.) -/
namespace Go.Proofs.Ytbeohccbflhdiaa
open Go.RowKit

/-- A message. -/
structure Msg where
  start : ByteArray
  ind : ByteArray
  body : ByteArray
def msgB (x : Msg) : Bool := decide (1 ≤ x.start.size) && decide (x.start.size ≤ 3) && wordB x.start && decide (x.ind.size = x.start.size) && wordB x.ind && wordB x.body
end Go.Proofs.Ytbeohccbflhdiaa

/- Contracts of StepMany and StepWindows, and of the laws' own comparisons. -/
namespace Go.Proofs.Ytbeohccbflhdiaa
open Go.RowKit

/-- What StepMany answers. -/
def stepT (x : Whl) (u : ByteArray) (n : Int) : ByteArray × Bool := if fitB x u = true ∧ 0 ≤ n ∧ n ≤ 2000 then (stepN x n.toNat u, true) else (S [], false)
theorem stepT_no {x : Whl} {u : ByteArray} {n : Int} (h : ¬ (fitB x u = true ∧ 0 ≤ n ∧ n ≤ 2000)) : stepT x u n = (S [], false) := by simp only [stepT, if_neg h]
theorem stepT_yes {x : Whl} {u : ByteArray} {n : Nat} (h : fitB x u = true) (hn : n ≤ 2000) : stepT x u (n : Int) = (stepN x n u, true) := by
  unfold stepT
  rw [if_pos ⟨h, by omega, by omega⟩]; rfl
theorem FitB.step_ {x : Whl} {v : ByteArray} (h : FitB x v) : FitB x (stepW x v) := ⟨h.one, h.three, h.rot, h.refl, by rw [size_stepW]; exact h.size, word_stepW h.word⟩
theorem FitB.stepN_ {x : Whl} : ∀ (n : Nat) {v : ByteArray}, FitB x v → FitB x (Go.Proofs.Ytbeohccbflhdiaa.stepN x n v)
  | 0, _, h => h
  | n + 1, _, h => FitB.stepN_ n h.step_
theorem implStepMany_any (a : Option Addr) (n c : Nat) (x : Whl) (u : ByteArray) (N : Int) (w : World) (h : WhlAt w w.heap.size a n x) (hu : u.size ≤ 4294967296) :
    Calls Try.prog 39 #[.agg #[.slice a n c, .string x.refl], .string u, .int .i64 N] w fun e w' => e = .returned (.tuple #[.string (stepT x u N).1, .bool (stepT x u N).2]) ∧ Below w.heap.size w w' := by
  have o0 := Own.new w [.slice a n c, .string x.refl] 25
  have hb0 := (Below.refl w.heap.size w).alloc (Nat.le_refl _) (.cells [.slice a n c, .string x.refl].toArray 25)
  have h' := h.alloc_ (.cells [.slice a n c, .string x.refl].toArray 25)
  have hc := windowsValid_any a n c x u _ h' hu
  cases hf : fitB x u with
  | false =>
    have HT := Lib.hid (stepT_no (x := x) (u := u) (n := N) (by simp [hf]))
    rw [hf] at hc
    go_enter Try.func39, Try.ntmps39
    go_wp2_with fail
    refine hc.mono ?_
    rintro e w1 ⟨rfl, hb1⟩
    go_wp2
    go_ret2
    exact ⟨by rw [HT.out]; rfl, bt hb0 hb1⟩
  | true =>
    have hF := fitB_iff.1 hf
    rw [hf] at hc
    by_cases h0 : N < 0
    · have HT := Lib.hid (stepT_no (x := x) (u := u) (n := N) (by omega))
      have t0 : decide (N < 0) = true := by simp; omega
      clear hf
      go_enter Try.func39, Try.ntmps39
      go_wp2_with fail
      refine hc.mono ?_
      rintro e w1 ⟨rfl, hb1⟩
      go_wp2
      go_ret2
      exact ⟨by rw [HT.out]; rfl, bt hb0 hb1⟩
    · have t0 : decide (N < 0) = false := by simp; omega
      by_cases h2 : 2000 < N
      · have HT := Lib.hid (stepT_no (x := x) (u := u) (n := N) (by omega))
        have t1 : decide (2000 < N) = true := by simp; omega
        clear hf
        go_enter Try.func39, Try.ntmps39
        go_wp2_with fail
        refine hc.mono ?_
        rintro e w1 ⟨rfl, hb1⟩
        go_wp2
        go_ret2
        exact ⟨by rw [HT.out]; rfl, bt hb0 hb1⟩
      · have t1 : decide (2000 < N) = false := by simp; omega
        obtain ⟨M, rfl⟩ := Int.eq_ofNat_of_zero_le (show 0 ≤ N by omega)
        have hM : M ≤ 2000 := by omega
        have HT := Lib.hid (stepT_yes (x := x) hf hM)
        clear hf
        go_enter Try.func39, Try.ntmps39
        go_wp2_with fail
        refine hc.mono ?_
        rintro e w1 ⟨rfl, hb1⟩
        have o1 := o0.below hb1 o0.lt
        have hbw := bt hb0 hb1
        clear o0 hb0 hb1 hc h'
        go_wp2_with fail
        go_loopw [1, 21] (fun s i wr => ∃ k : Nat, k ≤ M ∧ i = .int .i64 k ∧ s = .string (stepN x k u) ∧ Own wr w.heap.size [.slice a n c, .string x.refl] ∧ Below w.heap.size w wr) (fun _ i _ => M - (intOf i).toNat)
        case atStart => exact ⟨0, Nat.zero_le _, rfl, rfl, o1, hbw⟩
        case round =>
          clear o1 hbw
          obtain ⟨k, hk, rfl, rfl, o1, hb⟩ := hrel
          have c0 := o1.at_ (i := 0) rfl
          have c1 := o1.at_ (i := 1) rfl
          by_cases hlt : k < M
          · go_wp2_with fail
            refine (step_any a n c x (stepN x k u) _ ((h.below hb (Nat.le_refl _)).more hb.size) (hF.stepN_ k)).mono ?_
            rintro e w2 ⟨rfl, hb2⟩
            have o2 := o1.below hb2 o1.lt
            go_wp2
            go_roundw
            case rel => exact ⟨k + 1, by omega, by go_num, by rw [stepN_succ], o2, bt hb hb2⟩
            case measure => simp [intOf]; omega
          · have hk' : k = M := by omega
            subst hk'
            go_wp2
            go_ret2
            exact ⟨by rw [HT.out]; rfl, hb⟩
def rcTo (ss tt : List ByteArray) (k : Nat) : Prop := ∀ j (h1 : j < ss.length) (h2 : j < tt.length), j < k → ss[j] = tt[j]
theorem rcTexts_any (a b : Option Addr) (c d : Nat) (ss tt : List ByteArray) (w : World) (h1 : Reads w w.heap.size a (sv ss)) (h2 : Reads w w.heap.size b (sv tt)) (l1 : ss.length ≤ 1048576) :
    Calls Try.prog 7 #[.slice a ss.length c, .slice b tt.length d] w fun e w' => e = .returned (.bool (decide (ss = tt))) ∧ ∃ n, w' = w.drewN n := by
  by_cases hl : ss.length = tt.length
  · have t0 : ((ss.length : Int) != (tt.length : Int)) = false := by simp [hl]
    have g1 : ss.length ≤ tt.length := by omega
    have g2 : tt.length ≤ ss.length := by omega
    have HR1 := Lib.hid h1
    have HR2 := Lib.hid h2
    clear hl h1 h2
    go_enter Try.func7, Try.ntmps7
    go_wp2
    go_loopw [5] (fun i wr => ∃ k n : Nat, k ≤ ss.length ∧ i = .int .i64 k ∧ rcTo ss tt k ∧ wr = w.drewN n) (fun i _ => ss.length - (intOf i).toNat)
    case atStart => exact ⟨0, 0, Nat.zero_le _, rfl, fun _ _ _ h => absurd h (by omega), rfl⟩
    case round =>
      obtain ⟨k, n, hk, rfl, ha, rfl⟩ := hrel
      by_cases hlt : k < ss.length
      · obtain ⟨b1, off1, rfl, hb1, hc1⟩ := HR1.out.open_ (by rw [length_sv]; omega)
        obtain ⟨b2, off2, rfl, hb2, hc2⟩ := HR2.out.open_ (by rw [length_sv]; omega)
        have d1 := hc1 k (by rw [length_sv]; exact hlt)
        have d2 := hc2 k (by rw [length_sv]; omega)
        rw [sv_at hlt] at d1
        rw [sv_at (by omega)] at d2
        clear hc1 hc2
        have q1 : (k : Int) < (ss.length : Int) := by omega
        have q2 : (k : Int) < (tt.length : Int) := by omega
        by_cases he : ss[k] = tt[k]'(by omega)
        · have te : (ss[k].toList == (tt[k]'(by omega)).toList) = true := by rw [he]; simp
          have He := Lib.hid he
          clear he
          go_wp2_with fail
          go_quiet (fail)
          go_wp2
          go_roundw
          case rel =>
            refine ⟨k + 1, _, by omega, by go_num, fun j hj1 hj2 hlt' => ?_, rfl⟩
            by_cases e : j = k
            · subst e; exact He.out
            · exact ha j hj1 hj2 (by omega)
          case measure => simp [intOf]; omega
        · have te : (ss[k].toList == (tt[k]'(by omega)).toList) = false := by
            rw [toList_L, toList_L, beq_eq_false_iff_ne]
            exact fun h => he (L_inj h)
          go_wp2_with fail
          go_quiet (fail)
          go_wp2
          go_ret
          exact ⟨ret_bool (by simp; intro h; exact he (by simp [h])), n + nq, by rw [World.drewN_drewN]⟩
      · go_wp2
        go_ret
        refine ⟨ret_bool ?_, n, rfl⟩
        have : ss = tt := List.ext_getElem (by omega) fun j hj1 hj2 => ha j hj1 hj2 (by omega)
        simp [this]
  · have t0 : ((ss.length : Int) != (tt.length : Int)) = true := by rw [bne_iff_ne]; omega
    have T : Hid (decide (ss = tt) = false) := by show _ = _; simp; intro h; exact hl (by rw [h])
    clear hl
    go_enter Try.func7, Try.ntmps7
    go_wp2
    go_ret
    exact ⟨ret_bool T.out.symm, 0, rfl⟩
end Go.Proofs.Ytbeohccbflhdiaa

/- SealMessage and OpenMessage, the program's and the specification's. -/
namespace Go.Proofs.Ytbeohccbflhdiaa
open Go.RowKit

def sealT (m : Mach) (s k u : ByteArray) : Msg × Bool := if setB m s = true ∧ setB m k = true ∧ wordB u = true then (⟨s, wd (encD m s (dg k)), wd (encD m k (dg u))⟩, true) else (⟨⟨#[]⟩, ⟨#[]⟩, ⟨#[]⟩⟩, false)
def keyM (m : Mach) (x : Msg) : ByteArray := wd (encD m x.start (dg x.ind))
def openT (m : Mach) (x : Msg) : ByteArray × ByteArray × Bool := if setB m x.start = true ∧ msgB x = true then (keyM m x, wd (encD m (keyM m x) (dg x.body)), true) else (⟨#[]⟩, ⟨#[]⟩, false)
theorem sealT_yes {m : Mach} {s k u : ByteArray} (h1 : setB m s = true) (h2 : setB m k = true) (h3 : wordB u = true) : sealT m s k u = (⟨s, wd (encD m s (dg k)), wd (encD m k (dg u))⟩, true) := by simp only [sealT, h1, h2, h3, and_self, if_true]
theorem sealT_no {m : Mach} {s k u : ByteArray} (h : ¬ (setB m s = true ∧ setB m k = true ∧ wordB u = true)) : sealT m s k u = (⟨⟨#[]⟩, ⟨#[]⟩, ⟨#[]⟩⟩, false) := by simp only [sealT, if_neg h]
theorem openT_yes {m : Mach} {x : Msg} (h1 : setB m x.start = true) (h2 : msgB x = true) : openT m x = (keyM m x, wd (encD m (keyM m x) (dg x.body)), true) := by simp only [openT, h1, h2, and_self, if_true]
theorem openT_no {m : Mach} {x : Msg} (h : ¬ (setB m x.start = true ∧ msgB x = true)) : openT m x = (⟨#[]⟩, ⟨#[]⟩, false) := by simp only [openT, if_neg h]
theorem msgB_word {x : Msg} (h : msgB x = true) : wordB x.ind = true ∧ wordB x.body = true ∧ x.ind.size = x.start.size ∧ wordB x.start = true := by
  simp only [msgB, Bool.and_eq_true, decide_eq_true_eq] at h
  exact ⟨h.1.2, h.2, h.1.1.2, h.1.1.1.2⟩
theorem setB_enc {m : Mach} {s k : ByteArray} (hs : setB m s = true) (hk : wordB k = true) (he : k.size = s.size) : setB m (wd (encD m s (dg k))) = true :=
  setB_mk (setB_mach hs) (by rw [size_wd, len_encD, len_dg, he]; exact setB_size hs) (word_wd (by rw [len_encD, len_dg]; exact wordB_size hk))
theorem setB_keyM {m : Mach} {x : Msg} (h1 : setB m x.start = true) (h2 : msgB x = true) : setB m (keyM m x) = true := setB_enc h1 (msgB_word h2).1 (msgB_word h2).2.2.1

end Go.Proofs.Ytbeohccbflhdiaa
