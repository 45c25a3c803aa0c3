/- Several of my texts in one: Msg, StepT, Seal. -/
import Derived.Test.YtbeohccbflhdiaaGreatM3
import Derived.Test.YtbeohccbflhdiaaGreatM4
import Derived.Test.YtbeohccbflhdiaaGreatM10
import Derived.Test.YtbeohccbflhdiaaGreatM13
/- Messages, and MessageValid. (The walks are printed by genmsg.py.) -/
namespace Go.Proofs.YtbeohccbflhdiaaGreat
open Go.RowKit

/-- A message. -/
structure Msg where
  start : ByteArray
  ind : ByteArray
  body : ByteArray
def msgB (x : Msg) : Bool := decide (1 ≤ x.start.size) && decide (x.start.size ≤ 3) && wordB x.start && decide (x.ind.size = x.start.size) && wordB x.ind && wordB x.body
theorem implMessageValid_any (x : Msg) (w : World) (h0 : x.start.size ≤ 4294967296) (h1 : x.ind.size ≤ 4294967296) (h2 : x.body.size ≤ 4294967296) :
    Calls Tryz.prog 37 #[.agg #[.string x.start, .string x.ind, .string x.body]] w fun e w' => e = .returned (.bool (msgB x)) ∧ Below w.heap.size w w' := by
  obtain ⟨s, i, b⟩ := x
  have o0 := Own.new w [.string s, .string i, .string b] 48
  have hb := (Below.refl w.heap.size w).alloc (Nat.le_refl _) (.cells [.string s, .string i, .string b].toArray 48)
  have f0 := o0.at_ (i := 0) rfl
  have f1 := o0.at_ (i := 1) rfl
  have f2 := o0.at_ (i := 2) rfl
  simp only at h0 h1 h2
  clear o0
  by_cases hw0 : 1 ≤ s.size
  rotate_left
  · skip
    have HM : Hid (msgB ⟨s, i, b⟩ = false) := by show _ = _; simp [msgB, hw0]
    have z : ¬ (1 : Int) ≤ (s.size : Int) := by omega
    clear hw0
    go_enter Tryz.func37, Tryz.ntmps37
    go_wp2
    go_ret
    exact ⟨ret_bool HM.out.symm, hb⟩
  have z0 : (1 : Int) ≤ (s.size : Int) := by omega
  by_cases hw1 : s.size ≤ 3
  rotate_left
  · skip
    have HM : Hid (msgB ⟨s, i, b⟩ = false) := by show _ = _; simp [msgB, hw0, hw1]
    have z : ¬ (s.size : Int) ≤ 3 := by omega
    clear hw0 hw1
    go_enter Tryz.func37, Tryz.ntmps37
    go_wp2
    go_ret
    exact ⟨ret_bool HM.out.symm, hb⟩
  have z1 : (s.size : Int) ≤ 3 := by omega
  have q2 := fun W => implWordValid_any s W (by omega)
  cases hw2 : wordB s
  · rw [hw2] at q2
    have HM : Hid (msgB ⟨s, i, b⟩ = false) := by show _ = _; simp [msgB, hw0, hw1, hw2]
    clear hw0 hw1 hw2
    go_enter Tryz.func37, Tryz.ntmps37
    go_wp2_with (first | (go_at_call 35; ((with_reducible refine (q2 _).mono ?_); rintro e w' ⟨rfl, rfl⟩)))
    go_ret
    exact ⟨ret_bool HM.out.symm, hb⟩
  rw [hw2] at q2
  by_cases hw3 : i.size = s.size
  rotate_left
  · have te : ((i.size : Int) == (s.size : Int)) = false := by rw [beq_eq_false_iff_ne]; omega
    have HM : Hid (msgB ⟨s, i, b⟩ = false) := by show _ = _; simp [msgB, hw0, hw1, hw2, hw3]
    clear hw0 hw1 hw2 hw3
    go_enter Tryz.func37, Tryz.ntmps37
    go_wp2_with (first | (go_at_call 35; ((with_reducible refine (q2 _).mono ?_); rintro e w' ⟨rfl, rfl⟩)))
    go_ret
    exact ⟨ret_bool HM.out.symm, hb⟩
  have te : ((i.size : Int) == (s.size : Int)) = true := by rw [beq_iff_eq]; omega
  have q4 := fun W => implWordValid_any i W (by omega)
  cases hw4 : wordB i
  · rw [hw4] at q4
    have HM : Hid (msgB ⟨s, i, b⟩ = false) := by show _ = _; simp [msgB, hw0, hw1, hw2, hw3, hw4]
    clear hw0 hw1 hw2 hw3 hw4
    go_enter Tryz.func37, Tryz.ntmps37
    go_wp2_with (first | (go_at_call 35; ((with_reducible refine (q2 _).mono ?_); rintro e w' ⟨rfl, rfl⟩)) | (go_at_call 35; ((with_reducible refine (q4 _).mono ?_); rintro e w' ⟨rfl, rfl⟩)))
    go_ret
    exact ⟨ret_bool HM.out.symm, hb⟩
  rw [hw4] at q4
  have q5 := fun W => implWordValid_any b W (by omega)
  cases hw5 : wordB b
  · rw [hw5] at q5
    have HM : Hid (msgB ⟨s, i, b⟩ = false) := by show _ = _; simp [msgB, hw0, hw1, hw2, hw3, hw4, hw5]
    clear hw0 hw1 hw2 hw3 hw4 hw5
    go_enter Tryz.func37, Tryz.ntmps37
    go_wp2_with (first | (go_at_call 35; ((with_reducible refine (q2 _).mono ?_); rintro e w' ⟨rfl, rfl⟩)) | (go_at_call 35; ((with_reducible refine (q4 _).mono ?_); rintro e w' ⟨rfl, rfl⟩)) | (go_at_call 35; ((with_reducible refine (q5 _).mono ?_); rintro e w' ⟨rfl, rfl⟩)))
    go_ret
    exact ⟨ret_bool HM.out.symm, hb⟩
  rw [hw5] at q5
  have HM : Hid (msgB ⟨s, i, b⟩ = true) := by show _ = _; simp [msgB, hw0, hw1, hw2, hw3, hw4, hw5]
  clear hw0 hw1 hw2 hw3 hw4 hw5
  go_enter Tryz.func37, Tryz.ntmps37
  go_wp2_with (first | (go_at_call 35; ((with_reducible refine (q2 _).mono ?_); rintro e w' ⟨rfl, rfl⟩)) | (go_at_call 35; ((with_reducible refine (q4 _).mono ?_); rintro e w' ⟨rfl, rfl⟩)) | (go_at_call 35; ((with_reducible refine (q5 _).mono ?_); rintro e w' ⟨rfl, rfl⟩)))
  go_ret
  exact ⟨ret_bool HM.out.symm, hb⟩
theorem specMessageValid_any (x : Msg) (w : World) (h0 : x.start.size ≤ 4294967296) (h1 : x.ind.size ≤ 4294967296) (h2 : x.body.size ≤ 4294967296) :
    Calls Tryz.prog 91 #[.agg #[.string x.start, .string x.ind, .string x.body]] w fun e w' => e = .returned (.bool (msgB x)) ∧ Below w.heap.size w w' := by
  obtain ⟨s, i, b⟩ := x
  have o0 := Own.new w [.string s, .string i, .string b] 48
  have hb := (Below.refl w.heap.size w).alloc (Nat.le_refl _) (.cells [.string s, .string i, .string b].toArray 48)
  have f0 := o0.at_ (i := 0) rfl
  have f1 := o0.at_ (i := 1) rfl
  have f2 := o0.at_ (i := 2) rfl
  simp only at h0 h1 h2
  clear o0
  have q0 := fun W => specWordValid_any s W (by omega)
  cases hw0 : wordB s
  · rw [hw0] at q0
    have HM : Hid (msgB ⟨s, i, b⟩ = false) := by show _ = _; simp [msgB, hw0]
    clear hw0
    go_enter Tryz.func91, Tryz.ntmps91
    go_wp2_with (first | (go_at_call 78; ((with_reducible refine (q0 _).mono ?_); rintro e w' ⟨rfl, rfl⟩)))
    go_ret
    exact ⟨ret_bool HM.out.symm, hb⟩
  rw [hw0] at q0
  have q1 := fun W => specWordValid_any i W (by omega)
  cases hw1 : wordB i
  · rw [hw1] at q1
    have HM : Hid (msgB ⟨s, i, b⟩ = false) := by show _ = _; simp [msgB, hw0, hw1]
    clear hw0 hw1
    go_enter Tryz.func91, Tryz.ntmps91
    go_wp2_with (first | (go_at_call 78; ((with_reducible refine (q0 _).mono ?_); rintro e w' ⟨rfl, rfl⟩)) | (go_at_call 78; ((with_reducible refine (q1 _).mono ?_); rintro e w' ⟨rfl, rfl⟩)))
    go_ret
    exact ⟨ret_bool HM.out.symm, hb⟩
  rw [hw1] at q1
  have q2 := fun W => specWordValid_any b W (by omega)
  cases hw2 : wordB b
  · rw [hw2] at q2
    have HM : Hid (msgB ⟨s, i, b⟩ = false) := by show _ = _; simp [msgB, hw0, hw1, hw2]
    clear hw0 hw1 hw2
    go_enter Tryz.func91, Tryz.ntmps91
    go_wp2_with (first | (go_at_call 78; ((with_reducible refine (q0 _).mono ?_); rintro e w' ⟨rfl, rfl⟩)) | (go_at_call 78; ((with_reducible refine (q1 _).mono ?_); rintro e w' ⟨rfl, rfl⟩)) | (go_at_call 78; ((with_reducible refine (q2 _).mono ?_); rintro e w' ⟨rfl, rfl⟩)))
    go_ret
    exact ⟨ret_bool HM.out.symm, hb⟩
  rw [hw2] at q2
  by_cases hw3 : 1 ≤ s.size ∧ s.size ≤ 3
  rotate_left
  · have q3 := fun W => l1In_any (s.size : Int) 1 3 W
    rw [show (decide ((1 : Int) ≤ (s.size : Int)) && decide ((s.size : Int) ≤ 3)) = false by rw [Bool.and_eq_false_iff, decide_eq_false_iff_not, decide_eq_false_iff_not]; omega] at q3
    have HM : Hid (msgB ⟨s, i, b⟩ = false) := by show _ = _; simp [msgB, hw0, hw1, hw2, hw3]
    clear hw0 hw1 hw2 hw3
    go_enter Tryz.func91, Tryz.ntmps91
    go_wp2_with (first | (go_at_call 78; ((with_reducible refine (q0 _).mono ?_); rintro e w' ⟨rfl, rfl⟩)) | (go_at_call 78; ((with_reducible refine (q1 _).mono ?_); rintro e w' ⟨rfl, rfl⟩)) | (go_at_call 78; ((with_reducible refine (q2 _).mono ?_); rintro e w' ⟨rfl, rfl⟩)) | (go_at_call 109; ((with_reducible refine (q3 _).mono ?_); rintro e w' ⟨rfl, rfl⟩)))
    go_ret
    exact ⟨ret_bool HM.out.symm, hb⟩
  have q3 := fun W => l1In_any (s.size : Int) 1 3 W
  rw [show (decide ((1 : Int) ≤ (s.size : Int)) && decide ((s.size : Int) ≤ 3)) = true by rw [Bool.and_eq_true, decide_eq_true_eq, decide_eq_true_eq]; omega] at q3
  by_cases hw4 : i.size = s.size
  rotate_left
  · have te : ((i.size : Int) == (s.size : Int)) = false := by rw [beq_eq_false_iff_ne]; omega
    have HM : Hid (msgB ⟨s, i, b⟩ = false) := by show _ = _; simp [msgB, hw0, hw1, hw2, hw3, hw4]
    clear hw0 hw1 hw2 hw3 hw4
    go_enter Tryz.func91, Tryz.ntmps91
    go_wp2_with (first | (go_at_call 78; ((with_reducible refine (q0 _).mono ?_); rintro e w' ⟨rfl, rfl⟩)) | (go_at_call 78; ((with_reducible refine (q1 _).mono ?_); rintro e w' ⟨rfl, rfl⟩)) | (go_at_call 78; ((with_reducible refine (q2 _).mono ?_); rintro e w' ⟨rfl, rfl⟩)) | (go_at_call 109; ((with_reducible refine (q3 _).mono ?_); rintro e w' ⟨rfl, rfl⟩)))
    go_ret
    exact ⟨ret_bool HM.out.symm, hb⟩
  have te : ((i.size : Int) == (s.size : Int)) = true := by rw [beq_iff_eq]; omega
  have HM : Hid (msgB ⟨s, i, b⟩ = true) := by show _ = _; simp [msgB, hw0, hw1, hw2, hw3, hw4]
  clear hw0 hw1 hw2 hw3 hw4
  go_enter Tryz.func91, Tryz.ntmps91
  go_wp2_with (first | (go_at_call 78; ((with_reducible refine (q0 _).mono ?_); rintro e w' ⟨rfl, rfl⟩)) | (go_at_call 78; ((with_reducible refine (q1 _).mono ?_); rintro e w' ⟨rfl, rfl⟩)) | (go_at_call 78; ((with_reducible refine (q2 _).mono ?_); rintro e w' ⟨rfl, rfl⟩)) | (go_at_call 109; ((with_reducible refine (q3 _).mono ?_); rintro e w' ⟨rfl, rfl⟩)))
  go_ret
  exact ⟨ret_bool HM.out.symm, hb⟩
end Go.Proofs.YtbeohccbflhdiaaGreat

/- Contracts of StepMany and StepWindows, and of the laws' own comparisons. -/
namespace Go.Proofs.YtbeohccbflhdiaaGreat
open Go.RowKit

/-- What StepMany answers. -/
def stepT (x : Whl) (u : ByteArray) (n : Int) : ByteArray × Bool := if fitB x u = true ∧ 0 ≤ n ∧ n ≤ 2000 then (stepN x n.toNat u, true) else (S [], false)
theorem stepT_no {x : Whl} {u : ByteArray} {n : Int} (h : ¬ (fitB x u = true ∧ 0 ≤ n ∧ n ≤ 2000)) : stepT x u n = (S [], false) := by simp only [stepT, if_neg h]
theorem stepT_yes {x : Whl} {u : ByteArray} {n : Nat} (h : fitB x u = true) (hn : n ≤ 2000) : stepT x u (n : Int) = (stepN x n u, true) := by
  unfold stepT
  rw [if_pos ⟨h, by omega, by omega⟩]; rfl
theorem FitB.step_ {x : Whl} {v : ByteArray} (h : FitB x v) : FitB x (stepW x v) := ⟨h.one, h.three, h.rot, h.refl, by rw [size_stepW]; exact h.size, word_stepW h.word⟩
theorem FitB.stepN_ {x : Whl} : ∀ (n : Nat) {v : ByteArray}, FitB x v → FitB x (Go.Proofs.YtbeohccbflhdiaaGreat.stepN x n v)
  | 0, _, h => h
  | n + 1, _, h => FitB.stepN_ n h.step_
theorem rcFit_any (a : Option Addr) (n c : Nat) (x : Whl) (v : ByteArray) (w : World) (h : WhlAt w w.heap.size a n x) (hv : v.size ≤ 4294967296) :
    Calls Tryz.prog 85 #[.agg #[.slice a n c, .string x.refl], .string v] w fun e w' => e = .returned (.bool (fitB x v)) ∧ Below w.heap.size w w' := by
  have o0 := Own.new w [.slice a n c, .string x.refl] 25
  have hb0 := (Below.refl w.heap.size w).alloc (Nat.le_refl _) (.cells [.slice a n c, .string x.refl].toArray 25)
  have h' := h.alloc_ (.cells [.slice a n c, .string x.refl].toArray 25)
  have hn := h.len
  subst hn
  go_enter Tryz.func85, Tryz.ntmps85
  go_wp2_with fail
  refine (implWheelsValid_any _ _ _ _ _ h').mono ?_
  rintro e w1 ⟨rfl, hb1⟩
  have o1 := o0.below hb1 o0.lt
  have c0 := o1.at_ (i := 0) rfl
  have hb : Below w.heap.size w w1 := bt hb0 hb1
  clear o0 hb0 hb1 o1 h'
  cases hw : wheelsB x
  · have HF := Lib.hid (show fitB x v = false by simp [fitB, hw])
    go_wp2
    go_ret
    exact ⟨ret_bool HF.out.symm, hb⟩
  · cases hwd : wordB v
    · have HF := Lib.hid (show fitB x v = false by simp [fitB, hwd])
      clear hw
      have hq := fun W => implWordValid_any v W hv
      rw [hwd] at hq
      go_wp2_with (go_at_call 35; ((with_reducible refine (hq _).mono ?_); rintro e w' ⟨rfl, rfl⟩))
      go_ret
      exact ⟨ret_bool HF.out.symm, hb⟩
    · have hq := fun W => implWordValid_any v W hv
      rw [hwd] at hq
      have HF := Lib.hid (show fitB x v = ((v.size : Int) == (x.rotors.length : Int)) by
        simp only [fitB, hw, hwd, Bool.true_and, Bool.and_true]
        rw [Bool.eq_iff_iff]; simp; omega)
      clear hw hwd
      go_wp2_with (go_at_call 35; ((with_reducible refine (hq _).mono ?_); rintro e w' ⟨rfl, rfl⟩))
      go_ret
      exact ⟨ret_bool HF.out.symm, hb⟩
def rcTo (ss tt : List ByteArray) (k : Nat) : Prop := ∀ j (h1 : j < ss.length) (h2 : j < tt.length), j < k → ss[j] = tt[j]
theorem rcTexts_any (a b : Option Addr) (c d : Nat) (ss tt : List ByteArray) (w : World) (h1 : Reads w w.heap.size a (sv ss)) (h2 : Reads w w.heap.size b (sv tt)) (l1 : ss.length ≤ 1048576) :
    Calls Tryz.prog 27 #[.slice a ss.length c, .slice b tt.length d] w fun e w' => e = .returned (.bool (decide (ss = tt))) ∧ ∃ n, w' = w.drewN n := by
  by_cases hl : ss.length = tt.length
  · have t0 : ((ss.length : Int) != (tt.length : Int)) = false := by simp [hl]
    have g1 : ss.length ≤ tt.length := by omega
    have g2 : tt.length ≤ ss.length := by omega
    have HR1 := Lib.hid h1
    have HR2 := Lib.hid h2
    clear hl h1 h2
    go_enter Tryz.func27, Tryz.ntmps27
    go_wp2
    go_loopw [5] (fun i wr => ∃ k n : Nat, k ≤ ss.length ∧ i = .int .i64 k ∧ rcTo ss tt k ∧ wr = w.drewN n) (fun i _ => ss.length - (intOf i).toNat)
    case atStart => exact ⟨0, 0, Nat.zero_le _, rfl, fun _ _ _ h => absurd h (by omega), rfl⟩
    case round =>
      obtain ⟨k, n, hk, rfl, ha, rfl⟩ := hrel
      by_cases hlt : k < ss.length
      · obtain ⟨b1, off1, rfl, hb1, hc1⟩ := HR1.out.open_ (by rw [length_sv]; omega)
        obtain ⟨b2, off2, rfl, hb2, hc2⟩ := HR2.out.open_ (by rw [length_sv]; omega)
        have d1 := hc1 k (by rw [length_sv]; exact hlt)
        have d2 := hc2 k (by rw [length_sv]; omega)
        rw [sv_at hlt] at d1
        rw [sv_at (by omega)] at d2
        clear hc1 hc2
        have q1 : (k : Int) < (ss.length : Int) := by omega
        have q2 : (k : Int) < (tt.length : Int) := by omega
        by_cases he : ss[k] = tt[k]'(by omega)
        · have te : (ss[k].toList == (tt[k]'(by omega)).toList) = true := by rw [he]; simp
          have He := Lib.hid he
          clear he
          go_wp2_with fail
          go_quiet (fail)
          go_wp2
          go_roundw
          case rel =>
            refine ⟨k + 1, _, by omega, by go_num, fun j hj1 hj2 hlt' => ?_, rfl⟩
            by_cases e : j = k
            · subst e; exact He.out
            · exact ha j hj1 hj2 (by omega)
          case measure => simp [intOf]; omega
        · have te : (ss[k].toList == (tt[k]'(by omega)).toList) = false := by
            rw [toList_L, toList_L, beq_eq_false_iff_ne]
            exact fun h => he (L_inj h)
          go_wp2_with fail
          go_quiet (fail)
          go_wp2
          go_ret
          exact ⟨ret_bool (by simp; intro h; exact he (by simp [h])), n + nq, by rw [World.drewN_drewN]⟩
      · go_wp2
        go_ret
        refine ⟨ret_bool ?_, n, rfl⟩
        have : ss = tt := List.ext_getElem (by omega) fun j hj1 hj2 => ha j hj1 hj2 (by omega)
        simp [this]
  · have t0 : ((ss.length : Int) != (tt.length : Int)) = true := by rw [bne_iff_ne]; omega
    have T : Hid (decide (ss = tt) = false) := by show _ = _; simp; intro h; exact hl (by rw [h])
    clear hl
    go_enter Tryz.func27, Tryz.ntmps27
    go_wp2
    go_ret
    exact ⟨ret_bool T.out.symm, 0, rfl⟩
end Go.Proofs.YtbeohccbflhdiaaGreat

/- SealMessage and OpenMessage, the program's and the specification's. -/
namespace Go.Proofs.YtbeohccbflhdiaaGreat
open Go.RowKit

def sealT (m : Mach) (s k u : ByteArray) : Msg × Bool := if setB m s = true ∧ setB m k = true ∧ wordB u = true then (⟨s, wd (encD m s (dg k)), wd (encD m k (dg u))⟩, true) else (⟨⟨#[]⟩, ⟨#[]⟩, ⟨#[]⟩⟩, false)
def keyM (m : Mach) (x : Msg) : ByteArray := wd (encD m x.start (dg x.ind))
def openT (m : Mach) (x : Msg) : ByteArray × ByteArray × Bool := if setB m x.start = true ∧ msgB x = true then (keyM m x, wd (encD m (keyM m x) (dg x.body)), true) else (⟨#[]⟩, ⟨#[]⟩, false)
theorem sealT_yes {m : Mach} {s k u : ByteArray} (h1 : setB m s = true) (h2 : setB m k = true) (h3 : wordB u = true) : sealT m s k u = (⟨s, wd (encD m s (dg k)), wd (encD m k (dg u))⟩, true) := by simp only [sealT, h1, h2, h3, and_self, if_true]
theorem sealT_no {m : Mach} {s k u : ByteArray} (h : ¬ (setB m s = true ∧ setB m k = true ∧ wordB u = true)) : sealT m s k u = (⟨⟨#[]⟩, ⟨#[]⟩, ⟨#[]⟩⟩, false) := by simp only [sealT, if_neg h]
theorem openT_yes {m : Mach} {x : Msg} (h1 : setB m x.start = true) (h2 : msgB x = true) : openT m x = (keyM m x, wd (encD m (keyM m x) (dg x.body)), true) := by simp only [openT, h1, h2, and_self, if_true]
theorem openT_no {m : Mach} {x : Msg} (h : ¬ (setB m x.start = true ∧ msgB x = true)) : openT m x = (⟨#[]⟩, ⟨#[]⟩, false) := by simp only [openT, if_neg h]
theorem msgB_word {x : Msg} (h : msgB x = true) : wordB x.ind = true ∧ wordB x.body = true ∧ x.ind.size = x.start.size ∧ wordB x.start = true := by
  simp only [msgB, Bool.and_eq_true, decide_eq_true_eq] at h
  exact ⟨h.1.2, h.2, h.1.1.2, h.1.1.1.2⟩
theorem setB_enc {m : Mach} {s k : ByteArray} (hs : setB m s = true) (hk : wordB k = true) (he : k.size = s.size) : setB m (wd (encD m s (dg k))) = true :=
  setB_mk (setB_mach hs) (by rw [size_wd, len_encD, len_dg, he]; exact setB_size hs) (word_wd (by rw [len_encD, len_dg]; exact wordB_size hk))
theorem setB_keyM {m : Mach} {x : Msg} (h1 : setB m x.start = true) (h2 : msgB x = true) : setB m (keyM m x) = true := setB_enc h1 (msgB_word h2).1 (msgB_word h2).2.2.1

theorem one_msg (r s t : ByteArray) : ∀ v ∈ [Value.string r, .string s, .string t], v.oneCell' = true := by
  intro v hv
  simp only [List.mem_cons, List.not_mem_nil, or_false] at hv
  rcases hv with rfl | rfl | rfl <;> rfl
theorem info_msg (r s t : ByteArray) : (Tryz.prog.info? 48).map (·.size) = some [Value.string r, .string s, .string t].length := by kernel_rfl
set_option maxRecDepth 100000 in
set_option maxHeartbeats 1000000 in
theorem implSealMessage_any (a : Option Addr) (n c : Nat) (m : Mach) (s k u : ByteArray) (w : World) (h : MachAt w w.heap.size a n m) (hs : s.size ≤ 4294967296) (hk : k.size ≤ 4294967296) (hu : u.size ≤ 4294967296) :
    Calls Tryz.prog 33 #[.agg #[.slice a n c, .string m.wheels.refl, .string m.rings, .string m.plugs], .string s, .string k, .string u] w fun e w' =>
      e = .returned (.tuple #[.agg #[.string (sealT m s k u).1.start, .string (sealT m s k u).1.ind, .string (sealT m s k u).1.body], .bool (sealT m s k u).2]) ∧ Below w.heap.size w w' := by
  have o0 := (Own.new w [.slice a n c, .string m.wheels.refl, .string m.rings, .string m.plugs] 27).alloc (.cells #[.string ⟨#[]⟩, .string ⟨#[]⟩, .string ⟨#[]⟩] 48)
  have o1 := Own.new (w.alloc (.cells [.slice a n c, .string m.wheels.refl, .string m.rings, .string m.plugs].toArray 27)) [.string ⟨#[]⟩, .string ⟨#[]⟩, .string ⟨#[]⟩] 48
  have hb0 := ((Below.refl w.heap.size w).alloc (Nat.le_refl _) (.cells [.slice a n c, .string m.wheels.refl, .string m.rings, .string m.plugs].toArray 27)).alloc (by simp) (.cells #[.string ⟨#[]⟩, .string ⟨#[]⟩, .string ⟨#[]⟩] 48)
  have h' := (h.alloc_ (.cells [.slice a n c, .string m.wheels.refl, .string m.rings, .string m.plugs].toArray 27)).alloc_ (.cells #[.string ⟨#[]⟩, .string ⟨#[]⟩, .string ⟨#[]⟩] 48)
  rw [World.size_alloc] at o1
  have HT := Lib.hid (fun h1 h2 h3 => sealT_yes (m := m) (s := s) (k := k) (u := u) h1 h2 h3)
  have HF := Lib.hid (fun h => sealT_no (m := m) (s := s) (k := k) (u := u) h)
  generalize sealT m s k u = T at *
  go_enter Tryz.func33, Tryz.ntmps33
  go_wp2_with fail
  refine (settingValid_any _ _ _ _ _ _ h' hs).mono ?_
  rintro e w1 ⟨rfl, hb1⟩
  have p0 := o0.below hb1 o0.lt
  have p1 := o1.below hb1 o1.lt
  have hM := (h'.below hb1 (Nat.le_refl _)).more hb1.size
  have hb := bt hb0 hb1
  clear o0 o1 h' hb0 hb1
  cases h1 : setB m s with
  | false =>
    have HE := HF.out (by simp [h1])
    subst HE
    clear HT HF h1
    go_wp2_with ((with_reducible refine wl_store 48 0 p1 (info_msg ⟨#[]⟩ ⟨#[]⟩ ⟨#[]⟩) (one_msg ⟨#[]⟩ ⟨#[]⟩ ⟨#[]⟩) (by simp) ?_ ?_ ?_ ?_); (· rfl); (· rfl); (· rfl); intro w5 o5 b5 s5)
    refine bodyPost_ret (results_cell_tmp_own Tryz.results33 _ _ _ _ _ _ (by rfl) (by rfl) o5.cells Tryz.underlying48 rfl (info_msg ⟨#[]⟩ ⟨#[]⟩ ⟨#[]⟩)) rfl ?_
    exact ⟨rfl, bel_store hb b5 (by have := p0.lt; omega) (by omega)⟩
  | true =>
    have f0 := p0.at_ (i := 0) rfl
    have f1 := p0.at_ (i := 1) rfl
    have f2 := p0.at_ (i := 2) rfl
    have f3 := p0.at_ (i := 3) rfl
    go_wp2_with fail
    refine (settingValid_any _ _ _ _ _ _ hM hk).mono ?_
    rintro e w2 ⟨rfl, hb2⟩
    clear f0 f1 f2 f3
    have q0 := p0.below hb2 p0.lt
    have q1 := p1.below hb2 p1.lt
    have hM2 := (hM.below hb2 (Nat.le_refl _)).more hb2.size
    have hbb := bt hb hb2
    clear p0 p1 hM hb hb2
    cases h2 : setB m k with
    | false =>
      have HE := HF.out (by simp [h2])
      subst HE
      clear HT HF h1 h2
      go_wp2_with ((with_reducible refine wl_store 48 0 q1 (info_msg ⟨#[]⟩ ⟨#[]⟩ ⟨#[]⟩) (one_msg ⟨#[]⟩ ⟨#[]⟩ ⟨#[]⟩) (by simp) ?_ ?_ ?_ ?_); (· rfl); (· rfl); (· rfl); intro w5 o5 b5 s5)
      refine bodyPost_ret (results_cell_tmp_own Tryz.results33 _ _ _ _ _ _ (by rfl) (by rfl) o5.cells Tryz.underlying48 rfl (info_msg ⟨#[]⟩ ⟨#[]⟩ ⟨#[]⟩)) rfl ?_
      exact ⟨rfl, bel_store hbb b5 (by have := q0.lt; omega) (by omega)⟩
    | true =>
      go_wp2_with fail
      refine (implWordValid_any u _ hu).mono ?_
      rintro e w' ⟨rfl, rfl⟩
      cases h3 : wordB u with
      | false =>
        have HE := HF.out (by simp [h3])
        subst HE
        clear HT HF h1 h2 h3
        go_wp2_with ((with_reducible refine wl_store 48 0 q1 (info_msg ⟨#[]⟩ ⟨#[]⟩ ⟨#[]⟩) (one_msg ⟨#[]⟩ ⟨#[]⟩ ⟨#[]⟩) (by simp) ?_ ?_ ?_ ?_); (· rfl); (· rfl); (· rfl); intro w5 o5 b5 s5)
        refine bodyPost_ret (results_cell_tmp_own Tryz.results33 _ _ _ _ _ _ (by rfl) (by rfl) o5.cells Tryz.underlying48 rfl (info_msg ⟨#[]⟩ ⟨#[]⟩ ⟨#[]⟩)) rfl ?_
        exact ⟨rfl, bel_store hbb b5 (by have := q0.lt; omega) (by omega)⟩
      | true =>
        have HE := HT.out h1 h2 h3
        subst HE
        have f0 := q0.at_ (i := 0) rfl
        have f1 := q0.at_ (i := 1) rfl
        have f2 := q0.at_ (i := 2) rfl
        have f3 := q0.at_ (i := 3) rfl
        go_wp2_with fail
        refine (implEncipher_any _ _ _ _ _ _ _ hM2 hs hk).mono ?_
        rintro e w3 ⟨rfl, hb3⟩
        have r0 := q0.below hb3 q0.lt
        have r1 := q1.below hb3 q1.lt
        have hM3 := (hM2.below hb3 (Nat.le_refl _)).more hb3.size
        have hbw3 := bt hbb hb3
        unfold encV
        rw [encT_yes h1 (setB_word h2)]
        clear q0 q1 hM2 hbb hb3 f0 f1 f2 f3
        have f0 := r0.at_ (i := 0) rfl
        have f1 := r0.at_ (i := 1) rfl
        have f2 := r0.at_ (i := 2) rfl
        have f3 := r0.at_ (i := 3) rfl
        go_wp2_with fail
        refine (implEncipher_any _ _ _ _ _ _ _ hM3 hk hu).mono ?_
        rintro e w4 ⟨rfl, hb4⟩
        have s0 := r0.below hb4 r0.lt
        have s1 := r1.below hb4 r1.lt
        have hbw4 := bt hbw3 hb4
        unfold encV
        rw [encT_yes h2 h3]
        clear r0 r1 hM3 hbw3 hb4 f0 f1 f2 f3 HT HF
        generalize hy1 : wd (encD m s (dg k)) = y1 at *
        generalize hy2 : wd (encD m k (dg u)) = y2 at *
        have HY1 := Lib.hid hy1
        have HY2 := Lib.hid hy2
        clear hy1 hy2
        go_wp2_with ((with_reducible refine wl_store 48 0 s1 (info_msg s y1 y2) (one_msg s y1 y2) (by simp) ?_ ?_ ?_ ?_); (· rfl); (· rfl); (· rfl); intro w5 o5 b5 s5)
        refine bodyPost_ret (results_cell_tmp_own Tryz.results33 _ _ _ _ _ _ (by rfl) (by rfl) o5.cells Tryz.underlying48 rfl (info_msg s y1 y2)) rfl ?_
        rw [HY1.out, HY2.out]
        exact ⟨rfl, bel_store hbw4 b5 (by have := s0.lt; omega) (by omega)⟩
set_option maxRecDepth 100000 in
set_option maxHeartbeats 1000000 in
theorem implOpenMessage_any (a : Option Addr) (n c : Nat) (m : Mach) (x : Msg) (w : World) (h : MachAt w w.heap.size a n m) (z0 : x.start.size ≤ 4294967296) (z1 : x.ind.size ≤ 4294967296) (z2 : x.body.size ≤ 4294967296) :
    Calls Tryz.prog 36 #[.agg #[.slice a n c, .string m.wheels.refl, .string m.rings, .string m.plugs], .agg #[.string x.start, .string x.ind, .string x.body]] w fun e w' =>
      e = .returned (.tuple #[.string (openT m x).1, .string (openT m x).2.1, .bool (openT m x).2.2]) ∧ Below w.heap.size w w' := by
  have o0 := (Own.new w [.slice a n c, .string m.wheels.refl, .string m.rings, .string m.plugs] 27).alloc (.cells [.string x.start, .string x.ind, .string x.body].toArray 48)
  have o1 := Own.new (w.alloc (.cells [.slice a n c, .string m.wheels.refl, .string m.rings, .string m.plugs].toArray 27)) [.string x.start, .string x.ind, .string x.body] 48
  have hb0 := ((Below.refl w.heap.size w).alloc (Nat.le_refl _) (.cells [.slice a n c, .string m.wheels.refl, .string m.rings, .string m.plugs].toArray 27)).alloc (by simp) (.cells [.string x.start, .string x.ind, .string x.body].toArray 48)
  have h' := (h.alloc_ (.cells [.slice a n c, .string m.wheels.refl, .string m.rings, .string m.plugs].toArray 27)).alloc_ (.cells [.string x.start, .string x.ind, .string x.body].toArray 48)
  rw [World.size_alloc] at o1
  have HT := Lib.hid (fun h1 h2 => openT_yes (m := m) (x := x) h1 h2)
  have HF := Lib.hid (fun h => openT_no (m := m) (x := x) h)
  generalize hW : (w.alloc (.cells [.slice a n c, .string m.wheels.refl, .string m.rings, .string m.plugs].toArray 27)).alloc (.cells [.string x.start, .string x.ind, .string x.body].toArray 48) = W at *
  generalize openT m x = T at *
  have f0 := o0.at_ (i := 0) rfl
  have f1 := o0.at_ (i := 1) rfl
  have f2 := o0.at_ (i := 2) rfl
  have f3 := o0.at_ (i := 3) rfl
  have f4 := o1.at_ (i := 0) rfl
  have f5 := o1.at_ (i := 1) rfl
  have f6 := o1.at_ (i := 2) rfl
  go_enter Tryz.func36, Tryz.ntmps36
  go_wp2_with fail
  clear hW
  refine (settingValid_any _ _ _ _ _ _ h' z0).mono ?_
  rintro e w1 ⟨rfl, hb1⟩
  have p0 := o0.below hb1 o0.lt
  have p1 := o1.below hb1 o1.lt
  have hM := (h'.below hb1 (Nat.le_refl _)).more hb1.size
  have hb := bt hb0 hb1
  clear o0 o1 h' hb0 hb1 f0 f1 f2 f3 f4 f5 f6
  cases h1 : setB m x.start with
  | false =>
    have HE := HF.out (by simp [h1])
    subst HE
    clear HT HF h1
    go_wp2
    go_ret3
    exact ⟨rfl, hb⟩
  | true =>
    have f0 := p0.at_ (i := 0) rfl
    have f1 := p0.at_ (i := 1) rfl
    have f2 := p0.at_ (i := 2) rfl
    have f3 := p0.at_ (i := 3) rfl
    have f4 := p1.at_ (i := 0) rfl
    have f5 := p1.at_ (i := 1) rfl
    have f6 := p1.at_ (i := 2) rfl
    go_wp2_with fail
    refine (implMessageValid_any x _ z0 z1 z2).mono ?_
    rintro e w2 ⟨rfl, hb2⟩
    have q0 := p0.below hb2 p0.lt
    have q1 := p1.below hb2 p1.lt
    have hM2 := (hM.below hb2 (Nat.le_refl _)).more hb2.size
    have hbb := bt hb hb2
    clear p0 p1 hM hb hb2 f0 f1 f2 f3 f4 f5 f6
    cases h2 : msgB x with
    | false =>
      have HE := HF.out (by simp [h2])
      subst HE
      clear HT HF h1 h2
      go_wp2
      go_ret3
      exact ⟨rfl, hbb⟩
    | true =>
      have HE := HT.out h1 h2
      subst HE
      have hkm := setB_keyM h1 h2
      obtain ⟨hwi, hwb, -, -⟩ := msgB_word h2
      have hkz : (keyM m x).size ≤ 4294967296 := by have := wordB_size (setB_word hkm); omega
      have f0 := q0.at_ (i := 0) rfl
      have f1 := q0.at_ (i := 1) rfl
      have f2 := q0.at_ (i := 2) rfl
      have f3 := q0.at_ (i := 3) rfl
      have f4 := q1.at_ (i := 0) rfl
      have f5 := q1.at_ (i := 1) rfl
      have f6 := q1.at_ (i := 2) rfl
      go_wp2_with fail
      refine (implEncipher_any _ _ _ _ _ _ _ hM2 z0 z1).mono ?_
      rintro e w3 ⟨rfl, hb3⟩
      have r0 := q0.below hb3 q0.lt
      have r1 := q1.below hb3 q1.lt
      have hM3 := (hM2.below hb3 (Nat.le_refl _)).more hb3.size
      have hbw3 := bt hbb hb3
      unfold encV
      rw [encT_yes h1 hwi]
      clear q0 q1 hM2 hbb hb3 f0 f1 f2 f3 f4 f5 f6 HT HF
      have hky : wd (encD m x.start (dg x.ind)) = keyM m x := rfl
      simp only [hky]
      clear hky
      have f0 := r0.at_ (i := 0) rfl
      have f1 := r0.at_ (i := 1) rfl
      have f2 := r0.at_ (i := 2) rfl
      have f3 := r0.at_ (i := 3) rfl
      have f4 := r1.at_ (i := 0) rfl
      have f5 := r1.at_ (i := 1) rfl
      have f6 := r1.at_ (i := 2) rfl
      go_wp2_with fail
      refine (implEncipher_any _ _ _ _ _ _ _ hM3 hkz z2).mono ?_
      rintro e w4 ⟨rfl, hb4⟩
      unfold encV
      rw [encT_yes hkm hwb]
      go_wp2
      go_ret3
      exact ⟨rfl, bt hbw3 hb4⟩
set_option maxRecDepth 100000 in
set_option maxHeartbeats 1000000 in
theorem specOpenMessage_any (a : Option Addr) (n c : Nat) (m : Mach) (x : Msg) (w : World) (h : MachAt w w.heap.size a n m) (z0 : x.start.size ≤ 4294967296) (z1 : x.ind.size ≤ 4294967296) (z2 : x.body.size ≤ 4294967296) :
    Calls Tryz.prog 39 #[.agg #[.slice a n c, .string m.wheels.refl, .string m.rings, .string m.plugs], .agg #[.string x.start, .string x.ind, .string x.body]] w fun e w' =>
      e = .returned (.tuple #[.string (openT m x).1, .string (openT m x).2.1, .bool (openT m x).2.2]) ∧ Below w.heap.size w w' := by
  have o0 := (Own.new w [.slice a n c, .string m.wheels.refl, .string m.rings, .string m.plugs] 27).alloc (.cells [.string x.start, .string x.ind, .string x.body].toArray 48)
  have o1 := Own.new (w.alloc (.cells [.slice a n c, .string m.wheels.refl, .string m.rings, .string m.plugs].toArray 27)) [.string x.start, .string x.ind, .string x.body] 48
  have hb0 := ((Below.refl w.heap.size w).alloc (Nat.le_refl _) (.cells [.slice a n c, .string m.wheels.refl, .string m.rings, .string m.plugs].toArray 27)).alloc (by simp) (.cells [.string x.start, .string x.ind, .string x.body].toArray 48)
  have h' := (h.alloc_ (.cells [.slice a n c, .string m.wheels.refl, .string m.rings, .string m.plugs].toArray 27)).alloc_ (.cells [.string x.start, .string x.ind, .string x.body].toArray 48)
  rw [World.size_alloc] at o1
  have HT := Lib.hid (fun h1 h2 => openT_yes (m := m) (x := x) h1 h2)
  have HF := Lib.hid (fun h => openT_no (m := m) (x := x) h)
  generalize hW : (w.alloc (.cells [.slice a n c, .string m.wheels.refl, .string m.rings, .string m.plugs].toArray 27)).alloc (.cells [.string x.start, .string x.ind, .string x.body].toArray 48) = W at *
  generalize openT m x = T at *
  have f0 := o0.at_ (i := 0) rfl
  have f1 := o0.at_ (i := 1) rfl
  have f2 := o0.at_ (i := 2) rfl
  have f3 := o0.at_ (i := 3) rfl
  have f4 := o1.at_ (i := 0) rfl
  have f5 := o1.at_ (i := 1) rfl
  have f6 := o1.at_ (i := 2) rfl
  go_enter Tryz.func39, Tryz.ntmps39
  go_wp2_with fail
  clear hW
  refine (specMessageValid_any x _ z0 z1 z2).mono ?_
  rintro e w1 ⟨rfl, hb1⟩
  have p0 := o0.below hb1 o0.lt
  have p1 := o1.below hb1 o1.lt
  have hM := (h'.below hb1 (Nat.le_refl _)).more hb1.size
  have hb := bt hb0 hb1
  clear o0 o1 h' hb0 hb1 f0 f1 f2 f3 f4 f5 f6
  cases h2 : msgB x with
  | false =>
    have HE := HF.out (by simp [h2])
    subst HE
    clear HT HF h2
    go_wp2
    go_ret3
    exact ⟨rfl, hb⟩
  | true =>
    have f0 := p0.at_ (i := 0) rfl
    have f1 := p0.at_ (i := 1) rfl
    have f2 := p0.at_ (i := 2) rfl
    have f3 := p0.at_ (i := 3) rfl
    have f4 := p1.at_ (i := 0) rfl
    have f5 := p1.at_ (i := 1) rfl
    have f6 := p1.at_ (i := 2) rfl
    go_wp2_with fail
    refine (l8Fits_any _ _ _ _ _ _ hM z0).mono ?_
    rintro e w2 ⟨rfl, hb2⟩
    have q0 := p0.below hb2 p0.lt
    have q1 := p1.below hb2 p1.lt
    have hM2 := (hM.below hb2 (Nat.le_refl _)).more hb2.size
    have hbb := bt hb hb2
    clear p0 p1 hM hb hb2 f0 f1 f2 f3 f4 f5 f6
    cases h1 : setB m x.start with
    | false =>
      have HE := HF.out (by simp [h1])
      subst HE
      clear HT HF h1 h2
      go_wp2
      go_ret3
      exact ⟨rfl, hbb⟩
    | true =>
      have HE := HT.out h1 h2
      subst HE
      have hkm := setB_keyM h1 h2
      obtain ⟨hwi, hwb, -, -⟩ := msgB_word h2
      have hkz : (keyM m x).size ≤ 4294967296 := by have := wordB_size (setB_word hkm); omega
      have f0 := q0.at_ (i := 0) rfl
      have f1 := q0.at_ (i := 1) rfl
      have f2 := q0.at_ (i := 2) rfl
      have f3 := q0.at_ (i := 3) rfl
      have f4 := q1.at_ (i := 0) rfl
      have f5 := q1.at_ (i := 1) rfl
      have f6 := q1.at_ (i := 2) rfl
      go_wp2_with fail
      refine (l8Encipher_any _ _ _ _ _ _ _ hM2 h1 hwi).mono ?_
      rintro e w3 ⟨rfl, hb3⟩
      have r0 := q0.below hb3 q0.lt
      have r1 := q1.below hb3 q1.lt
      have hM3 := (hM2.below hb3 (Nat.le_refl _)).more hb3.size
      have hbw3 := bt hbb hb3
      clear q0 q1 hM2 hbb hb3 f0 f1 f2 f3 f4 f5 f6 HT HF
      have hky : wd (encD m x.start (dg x.ind)) = keyM m x := rfl
      simp only [hky]
      clear hky
      have f0 := r0.at_ (i := 0) rfl
      have f1 := r0.at_ (i := 1) rfl
      have f2 := r0.at_ (i := 2) rfl
      have f3 := r0.at_ (i := 3) rfl
      have f4 := r1.at_ (i := 0) rfl
      have f5 := r1.at_ (i := 1) rfl
      have f6 := r1.at_ (i := 2) rfl
      go_wp2_with fail
      refine (l8Encipher_any _ _ _ _ _ _ _ hM3 hkm hwb).mono ?_
      rintro e w4 ⟨rfl, hb4⟩
      go_wp2
      go_ret3
      exact ⟨rfl, bt hbw3 hb4⟩
set_option maxRecDepth 100000 in
set_option maxHeartbeats 1000000 in
theorem specSealMessage_any (a : Option Addr) (n c : Nat) (m : Mach) (s k u : ByteArray) (w : World) (h : MachAt w w.heap.size a n m) (hs : s.size ≤ 4294967296) (hk : k.size ≤ 4294967296) (hu : u.size ≤ 4294967296) :
    Calls Tryz.prog 34 #[.agg #[.slice a n c, .string m.wheels.refl, .string m.rings, .string m.plugs], .string s, .string k, .string u] w fun e w' =>
      e = .returned (.tuple #[.agg #[.string (sealT m s k u).1.start, .string (sealT m s k u).1.ind, .string (sealT m s k u).1.body], .bool (sealT m s k u).2]) ∧ Below w.heap.size w w' := by
  have o0 := (Own.new w [.slice a n c, .string m.wheels.refl, .string m.rings, .string m.plugs] 27).alloc (.cells #[.string ⟨#[]⟩, .string ⟨#[]⟩, .string ⟨#[]⟩] 48)
  have o1 := Own.new (w.alloc (.cells [.slice a n c, .string m.wheels.refl, .string m.rings, .string m.plugs].toArray 27)) [.string ⟨#[]⟩, .string ⟨#[]⟩, .string ⟨#[]⟩] 48
  have hb0 := ((Below.refl w.heap.size w).alloc (Nat.le_refl _) (.cells [.slice a n c, .string m.wheels.refl, .string m.rings, .string m.plugs].toArray 27)).alloc (by simp) (.cells #[.string ⟨#[]⟩, .string ⟨#[]⟩, .string ⟨#[]⟩] 48)
  have h' := (h.alloc_ (.cells [.slice a n c, .string m.wheels.refl, .string m.rings, .string m.plugs].toArray 27)).alloc_ (.cells #[.string ⟨#[]⟩, .string ⟨#[]⟩, .string ⟨#[]⟩] 48)
  rw [World.size_alloc] at o1
  have HT := Lib.hid (fun h1 h2 h3 => sealT_yes (m := m) (s := s) (k := k) (u := u) h1 h2 h3)
  have HF := Lib.hid (fun h => sealT_no (m := m) (s := s) (k := k) (u := u) h)
  generalize sealT m s k u = T at *
  go_enter Tryz.func34, Tryz.ntmps34
  go_wp2_with fail
  refine (l8Fits_any _ _ _ _ _ _ h' hs).mono ?_
  rintro e w1 ⟨rfl, hb1⟩
  have p0 := o0.below hb1 o0.lt
  have p1 := o1.below hb1 o1.lt
  have hM := (h'.below hb1 (Nat.le_refl _)).more hb1.size
  have hb := bt hb0 hb1
  clear o0 o1 h' hb0 hb1
  cases h1 : setB m s with
  | false =>
    have HE := HF.out (by simp [h1])
    subst HE
    clear HT HF h1
    go_wp2_with ((with_reducible refine wl_store 48 0 p1 (info_msg ⟨#[]⟩ ⟨#[]⟩ ⟨#[]⟩) (one_msg ⟨#[]⟩ ⟨#[]⟩ ⟨#[]⟩) (by simp) ?_ ?_ ?_ ?_); (· rfl); (· rfl); (· rfl); intro w5 o5 b5 s5)
    refine bodyPost_ret (results_cell_tmp_own Tryz.results34 _ _ _ _ _ _ (by rfl) (by rfl) o5.cells Tryz.underlying48 rfl (info_msg ⟨#[]⟩ ⟨#[]⟩ ⟨#[]⟩)) rfl ?_
    exact ⟨rfl, bel_store hb b5 (by have := p0.lt; omega) (by omega)⟩
  | true =>
    have f0 := p0.at_ (i := 0) rfl
    have f1 := p0.at_ (i := 1) rfl
    have f2 := p0.at_ (i := 2) rfl
    have f3 := p0.at_ (i := 3) rfl
    go_wp2_with fail
    refine (l8Fits_any _ _ _ _ _ _ hM hk).mono ?_
    rintro e w2 ⟨rfl, hb2⟩
    clear f0 f1 f2 f3
    have q0 := p0.below hb2 p0.lt
    have q1 := p1.below hb2 p1.lt
    have hM2 := (hM.below hb2 (Nat.le_refl _)).more hb2.size
    have hbb := bt hb hb2
    clear p0 p1 hM hb hb2
    cases h2 : setB m k with
    | false =>
      have HE := HF.out (by simp [h2])
      subst HE
      clear HT HF h1 h2
      go_wp2_with ((with_reducible refine wl_store 48 0 q1 (info_msg ⟨#[]⟩ ⟨#[]⟩ ⟨#[]⟩) (one_msg ⟨#[]⟩ ⟨#[]⟩ ⟨#[]⟩) (by simp) ?_ ?_ ?_ ?_); (· rfl); (· rfl); (· rfl); intro w5 o5 b5 s5)
      refine bodyPost_ret (results_cell_tmp_own Tryz.results34 _ _ _ _ _ _ (by rfl) (by rfl) o5.cells Tryz.underlying48 rfl (info_msg ⟨#[]⟩ ⟨#[]⟩ ⟨#[]⟩)) rfl ?_
      exact ⟨rfl, bel_store hbb b5 (by have := q0.lt; omega) (by omega)⟩
    | true =>
      go_wp2_with fail
      refine (specWordValid_any u _ hu).mono ?_
      rintro e w' ⟨rfl, rfl⟩
      cases h3 : wordB u with
      | false =>
        have HE := HF.out (by simp [h3])
        subst HE
        clear HT HF h1 h2 h3
        go_wp2_with ((with_reducible refine wl_store 48 0 q1 (info_msg ⟨#[]⟩ ⟨#[]⟩ ⟨#[]⟩) (one_msg ⟨#[]⟩ ⟨#[]⟩ ⟨#[]⟩) (by simp) ?_ ?_ ?_ ?_); (· rfl); (· rfl); (· rfl); intro w5 o5 b5 s5)
        refine bodyPost_ret (results_cell_tmp_own Tryz.results34 _ _ _ _ _ _ (by rfl) (by rfl) o5.cells Tryz.underlying48 rfl (info_msg ⟨#[]⟩ ⟨#[]⟩ ⟨#[]⟩)) rfl ?_
        exact ⟨rfl, bel_store hbb b5 (by have := q0.lt; omega) (by omega)⟩
      | true =>
        have HE := HT.out h1 h2 h3
        subst HE
        have f0 := q0.at_ (i := 0) rfl
        have f1 := q0.at_ (i := 1) rfl
        have f2 := q0.at_ (i := 2) rfl
        have f3 := q0.at_ (i := 3) rfl
        have l0 := q0.lt
        have d0 := fun (cc : Cls w2.heap.size w2) => (cc.cell w.heap.size 0 l0).trans f0
        have d1 := fun (cc : Cls w2.heap.size w2) => (cc.cell w.heap.size 1 l0).trans f1
        have d2 := fun (cc : Cls w2.heap.size w2) => (cc.cell w.heap.size 2 l0).trans f2
        have d3 := fun (cc : Cls w2.heap.size w2) => (cc.cell w.heap.size 3 l0).trans f3
        have n1 := fun (cc : Cls w2.heap.size w2) => l8Encipher_any a n c m s k cc.w ((hM2.below cc.bel (Nat.le_refl _)).more cc.bel.size) h1 (setB_word h2)
        have n2 := fun (cc : Cls w2.heap.size w2) => l8Encipher_any a n c m k u cc.w ((hM2.below cc.bel (Nat.le_refl _)).more cc.bel.size) h2 h3
        clear f0 f1 f2 f3 HT HF
        generalize hy1 : wd (encD m s (dg k)) = y1 at *
        generalize hy2 : wd (encD m k (dg u)) = y2 at *
        have HY1 := Lib.hid hy1
        have HY2 := Lib.hid hy2
        clear hy1 hy2
        clear h1 h2 h3
        go_wp2_with fail
        refine wp_region_cls_tail 10 (by kernel_rfl) (by kernel_rfl) ?_
        simp only [List.take_succ_cons, List.take_zero, List.drop_succ_cons, List.drop_zero]
        repeat (go_big_quiet_step (first | (go_at_call 79; with_reducible exact cls_of (Nat.le_refl _) (n1 _)) | (go_at_call 79; with_reducible exact cls_of (Nat.le_refl _) (n2 _))))
        refine wpQuiet_nil ?_
        intro wc hbc
        have s0 := q0.below hbc l0
        have s1 := q1.below hbc q1.lt
        have hbw4 := bt hbb hbc
        clear d0 d1 d2 d3 n1 n2
        go_wp2_with ((with_reducible refine wl_store 48 0 s1 (info_msg s y1 y2) (one_msg s y1 y2) (by simp) ?_ ?_ ?_ ?_); (· rfl); (· rfl); (· rfl); intro w5 o5 b5 s5)
        refine bodyPost_ret (results_cell_tmp_own Tryz.results34 _ _ _ _ _ _ (by rfl) (by rfl) o5.cells Tryz.underlying48 rfl (info_msg s y1 y2)) rfl ?_
        rw [HY1.out, HY2.out]
        exact ⟨rfl, bel_store hbw4 b5 (by have := s0.lt; omega) (by omega)⟩
set_option maxRecDepth 100000 in
theorem rcFits_any (a : Option Addr) (n c : Nat) (m : Mach) (v : ByteArray) (w : World) (h : MachAt w w.heap.size a n m) (hv : v.size ≤ 4294967296) :
    Calls Tryz.prog 29 #[.agg #[.slice a n c, .string m.wheels.refl, .string m.rings, .string m.plugs], .string v] w fun e w' => e = .returned (.bool (setB m v)) ∧ Below w.heap.size w w' := by
  have o0 := Own.new w [.slice a n c, .string m.wheels.refl, .string m.rings, .string m.plugs] 27
  have hb0 := (Below.refl w.heap.size w).alloc (Nat.le_refl _) (.cells [.slice a n c, .string m.wheels.refl, .string m.rings, .string m.plugs].toArray 27)
  have h' := h.alloc_ (.cells [.slice a n c, .string m.wheels.refl, .string m.rings, .string m.plugs].toArray 27)
  go_enter Tryz.func29, Tryz.ntmps29
  go_wp2_with fail
  refine (implMachineValid_any a n c m _ h').mono ?_
  rintro e w1 ⟨rfl, hb1⟩
  have o1 := o0.below hb1 o0.lt
  have hM := (h'.below hb1 (Nat.le_refl _)).more hb1.size
  have hb := bt hb0 hb1
  clear o0 hb0 hb1 h'
  cases hm : machB m with
  | false =>
    have HM : Hid (setB m v = false) := by show _ = _; simp [setB, hm]
    clear hm
    go_wp2
    go_ret
    exact ⟨ret_bool HM.out.symm, hb⟩
  | true =>
    have HM : Hid (setB m v = fitB m.wheels v) := by
      show _ = _
      have hm' : fitB m.wheels m.rings = true := by simp only [machB, Bool.and_eq_true] at hm; exact hm.1
      have hF := fitB_iff.1 hm'
      have hz := hF.size
      simp only [fitB, Bool.and_eq_true] at hm'
      simp only [setB, hm, Bool.true_and, fitB, hm'.1.1, hz]
    have f0 := o1.at_ (i := 0) rfl
    have f1 := o1.at_ (i := 1) rfl
    clear hm
    go_wp2_with fail
    refine (rcFit_any a n c m.wheels v _ hM.whl hv).mono ?_
    rintro e w2 ⟨rfl, hb2⟩
    go_wp2
    go_ret
    exact ⟨ret_bool HM.out.symm, bt hb hb2⟩
end Go.Proofs.YtbeohccbflhdiaaGreat
