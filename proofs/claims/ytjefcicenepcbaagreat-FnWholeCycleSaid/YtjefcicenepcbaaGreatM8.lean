/- Several of my texts in one: CycG, Draw7b, BackI, LdLaws. -/
import Derived.Test.YtjefcicenepcbaaGreatM5
import Derived.Test.YtjefcicenepcbaaGreatM7
/- Contracts of LeadIn and PeriodOf, the program's and the specification's. -/
namespace Go.Proofs.YtjefcicenepcbaaGreat
open Go.RowKit

/-- From the way in on the period is the least. -/
theorem Cyc.at_ {α : Type} {X : Nat → α} (hS : Seqs X) {l p : Nat} (h : Cyc X l p) {N : Nat} (hN : l ≤ N) : X (N + p) = X N ∧ ∀ q, 1 ≤ q → q < p → X (N + q) ≠ X N := by
  refine ⟨by have := hS.mul h.back 1 N hN; rwa [Nat.one_mul] at this, fun q h1 h2 e => ?_⟩
  have hm := hS.mul h.back N
  have h3 := hS.add e (l + N * p - N)
  have hle : N ≤ l + N * p := by have := Nat.mul_le_mul (Nat.le_refl N) h.pos; omega
  rw [show N + q + (l + N * p - N) = (l + q) + N * p by omega, show N + (l + N * p - N) = l + N * p by omega, hm (l + q) (by omega), hm l (Nat.le_refl _)] at h3
  exact h.least q h1 h2 h3
theorem Cyc.next {α : Type} {X : Nat → α} (hS : Seqs X) {l p : Nat} (h : Cyc X l p) : Cyc (fun i => X (i + 1)) (l - 1) p := by
  rcases Nat.eq_zero_or_pos l with h0 | h0
  · subst h0
    have h1 := h.at_ hS (N := 1) (by omega)
    refine ⟨h.pos, ?_, fun q h2 h3 => ?_, fun k q hk => absurd hk (by omega)⟩
    · show X (0 - 1 + p + 1) = X (0 - 1 + 1)
      rw [show 0 - 1 + p + 1 = 1 + p by omega]; exact h1.1
    · show X (0 - 1 + q + 1) ≠ X (0 - 1 + 1)
      rw [show 0 - 1 + q + 1 = 1 + q by omega]; exact h1.2 q h2 h3
  · refine ⟨h.pos, ?_, fun q h2 h3 => ?_, fun k q hk h2 => ?_⟩
    · show X (l - 1 + p + 1) = X (l - 1 + 1)
      rw [show l - 1 + p + 1 = l + p by omega, show l - 1 + 1 = l by omega]; exact h.back
    · show X (l - 1 + q + 1) ≠ X (l - 1 + 1)
      rw [show l - 1 + q + 1 = l + q by omega, show l - 1 + 1 = l by omega]; exact h.least q h2 h3
    · show X (k + q + 1) ≠ X (k + 1)
      rw [show k + q + 1 = k + 1 + q by omega]; exact h.first (k + 1) q (by omega) h2
theorem fold_lt : ∀ (l : List Nat) (acc : Nat), (∀ x ∈ l, x < 10) → l.foldl (fun n d => n * 10 + d) acc < (acc + 1) * 10 ^ l.length
  | [], acc, _ => by simp
  | d :: l, acc, h => by
    have hd := h d (by simp)
    have ih := fold_lt l (acc * 10 + d) (fun x hx => h x (by simp [hx]))
    simp only [List.foldl_cons, List.length_cons]
    refine Nat.lt_of_lt_of_le ih ?_
    rw [Nat.pow_succ, Nat.mul_comm (10 ^ l.length) 10, ← Nat.mul_assoc]
    exact Nat.mul_le_mul (by omega) (Nat.le_refl _)
/-- The way in is shorter than the number of all windows. -/
theorem lead_lt {x : Whl} {v : ByteArray} (hF : FitB x v) {l p : Nat} (hC : Cyc (fun n => stepN x n v) l p) : l < 10 ^ v.size := by
  have h3 : ∀ i, (stepN x i v).size ≤ 3 := fun i => by rw [size_stepN, hF.size]; exact hF.three
  obtain ⟨i, j, hij, hj, e⟩ := find_rep (x := fun i => stepN x i v) (c := winN) (M := 10 ^ v.size) (fun i => by
    have := fold_lt (dg (stepN x i v)) 0 (word_dg_lt (word_stepN i hF.word))
    rw [len_dg, size_stepN] at this
    simpa [winN] using this) (fun i j e => winN_inj (word_stepN i hF.word) (word_stepN j hF.word) (h3 i) (by rw [size_stepN, size_stepN]) e)
  have : ¬ i < l := fun hlt => hC.first i (j - i) hlt (by omega) (by show stepN x (i + (j - i)) v = stepN x i v; rw [show i + (j - i) = j by omega]; exact e.symm)
  omega

theorem implLeadIn_any (a : Option Addr) (n c : Nat) (x : Whl) (v : ByteArray) (r : Int) (w : World) (h : WhlAt w w.heap.size a n x) (hv : v.size ≤ 4294967296) (hr : (fitB x v = false ∧ r = -1) ∨ (fitB x v = true ∧ ∃ l p : Nat, Cyc (fun n => stepN x n v) l p ∧ r = l)) :
    Calls Tryz.prog 8 #[.agg #[.slice a n c, .string x.refl], .string v] w fun e w' => e = .returned (.int .i64 r) ∧ Below w.heap.size w w' := by
  have o0 := Own.new w [.slice a n c, .string x.refl] 25
  have hb0 := (Below.refl w.heap.size w).alloc (Nat.le_refl _) (.cells [.slice a n c, .string x.refl].toArray 25)
  have h' := h.alloc_ (.cells [.slice a n c, .string x.refl].toArray 25)
  have hc := windowsValid_any a n c x v _ h' hv
  rcases hr with ⟨hf, rfl⟩ | ⟨hf, l, p, hC, rfl⟩
  · rw [hf] at hc
    go_enter Tryz.func8, Tryz.ntmps8
    go_wp2_with fail
    refine hc.mono ?_
    rintro e w1 ⟨rfl, hb1⟩
    go_wp2
    go_ret
    exact ⟨rfl, bt hb0 hb1⟩
  · rw [hf] at hc
    have hF := fitB_iff.1 hf
    clear hf
    go_enter Tryz.func8, Tryz.ntmps8
    go_wp2_with fail
    refine hc.mono ?_
    rintro e w1 ⟨rfl, hb1⟩
    have o1 := o0.below hb1 o0.lt
    have c0 := o1.at_ (i := 0) rfl
    have c1 := o1.at_ (i := 1) rfl
    have h1 := (h'.below hb1 (Nat.le_refl _)).more hb1.size
    clear hc h'
    go_wp2_with fail
    refine (cycleFrom_any a n c x v l p _ h1 hF hC).mono ?_
    rintro e w2 ⟨rfl, hb2⟩
    go_wp2
    go_ret
    exact ⟨rfl, bt (bt hb0 hb1) hb2⟩
theorem implPeriodOf_any (a : Option Addr) (n c : Nat) (x : Whl) (v : ByteArray) (l p : Nat) (w : World) (h : WhlAt w w.heap.size a n x) (hv : v.size ≤ 4294967296) (hf : fitB x v = true) (hC : Cyc (fun n => stepN x n v) l p) :
    Calls Tryz.prog 5 #[.agg #[.slice a n c, .string x.refl], .string v] w fun e w' => e = .returned (.int .i64 (p : Int)) ∧ Below w.heap.size w w' := by
  have o0 := Own.new w [.slice a n c, .string x.refl] 25
  have hb0 := (Below.refl w.heap.size w).alloc (Nat.le_refl _) (.cells [.slice a n c, .string x.refl].toArray 25)
  have h' := h.alloc_ (.cells [.slice a n c, .string x.refl].toArray 25)
  have hc := windowsValid_any a n c x v _ h' hv
  rw [hf] at hc
  have hF := fitB_iff.1 hf
  clear hf
  go_enter Tryz.func5, Tryz.ntmps5
  go_wp2_with fail
  refine hc.mono ?_
  rintro e w1 ⟨rfl, hb1⟩
  have o1 := o0.below hb1 o0.lt
  have c0 := o1.at_ (i := 0) rfl
  have c1 := o1.at_ (i := 1) rfl
  have h1 := (h'.below hb1 (Nat.le_refl _)).more hb1.size
  clear hc h'
  go_wp2_with fail
  refine (cycleFrom_any a n c x v l p _ h1 hF hC).mono ?_
  rintro e w2 ⟨rfl, hb2⟩
  go_wp2
  go_ret
  exact ⟨rfl, bt (bt hb0 hb1) hb2⟩

set_option maxHeartbeats 1000000 in
theorem l7Period_any (a : Option Addr) (n c : Nat) (x : Whl) (v : ByteArray) (l p : Nat) (w : World) (h : WhlAt w w.heap.size a n x) (hF : FitB x v) (hC : Cyc (fun n => stepN x n v) l p) (hp : p ≤ 1000) :
    Calls Tryz.prog 16 #[.agg #[.slice a n c, .string x.refl], .string v] w fun e w' => e = .returned (.int .i64 (p : Int)) ∧ Below w.heap.size w w' := by
  have h3 : v.size ≤ 3 := by rw [hF.size]; exact hF.three
  have hten := ten_le h3
  have hl := lead_lt hF hC
  obtain ⟨hA, hB⟩ := hC.at_ (seqs_step x v) (N := 10 ^ v.size) (by omega)
  have hp1 := hC.pos
  have HA := Lib.hid hA
  have HB := Lib.hid hB
  clear hA hB hC
  have o0 := Own.new w [.slice a n c, .string x.refl] 25
  have hb0 := (Below.refl w.heap.size w).alloc (Nat.le_refl _) (.cells [.slice a n c, .string x.refl].toArray 25)
  have hsz := fun W => l7Size_any v.size W h3
  have hwk := fun (W : World) (hb : Below w.heap.size w W) (cc : Cls W.heap.size W) => l7Walk_any a n c x v (10 ^ v.size) cc.w (((h.below hb (Nat.le_refl _)).below (C := w.heap.size) (cc.bel.mono hb.size) (Nat.le_refl _)).more (Nat.le_trans hb.size cc.bel.size)) hF (by omega)
  have hs1 := Lib.hid (fun (W : World) (hb : Below w.heap.size w W) (m : Nat) => l7Step_any a n c x (stepN x m v) W ((h.below hb (Nat.le_refl _)).more hb.size) (hF.stepN_ m))
  generalize 10 ^ v.size = N at *
  go_enter Tryz.func16, Tryz.ntmps16
  go_wp2_with fail
  generalize (w.alloc (.cells [.slice a n c, .string x.refl].toArray 25)) = W0 at *
  have c0 := o0.at_ (i := 0) rfl
  have c1 := o0.at_ (i := 1) rfl
  have l0 := o0.lt
  have hw0 := hwk W0 hb0
  have g1 := hs1.out
  have d0 := fun (cc : Cls W0.heap.size W0) => (cc.cell w.heap.size 0 l0).trans c0
  have d1 := fun (cc : Cls W0.heap.size W0) => (cc.cell w.heap.size 1 l0).trans c1
  obtain ⟨A, hA⟩ : ∃ A, A = stepN x N v := ⟨_, rfl⟩
  rw [← hA] at hw0
  have H1 := Lib.hid hA
  clear hA hwk g1
  refine wp_region_cls (by kernel_rfl) (by kernel_rfl) ?_
  repeat (go_big_quiet_step (first | (go_at_call 30; with_reducible exact cls_same (hsz _)) | (go_at_call 29; with_reducible exact cls_of (Nat.le_refl _) (hw0 _))))
  refine wpQuiet_nil ?_
  intro wc hbc
  have o1 := o0.below hbc o0.lt
  have hb1 := bt hb0 hbc
  clear o0 hb0 hbc c0 c1 l0 hw0 d0 d1 hsz
  have c0 := o1.at_ (i := 0) rfl
  have c1 := o1.at_ (i := 1) rfl
  have g1 := hs1.out _ hb1 N
  rw [← stepN_succ] at g1
  obtain ⟨A1, hA1⟩ : ∃ A1, A1 = stepN x (N + 1) v := ⟨_, rfl⟩
  rw [← hA1, ← H1.out] at g1
  have H2 := Lib.hid hA1
  clear hA1
  go_wp2_with fail
  refine g1.mono ?_
  rintro e w2 ⟨rfl, hb2⟩
  have o2 := o1.below hb2 o1.lt
  have hbw2 := bt hb1 hb2
  clear o1 hb1 hb2 g1 c0 c1
  go_wp2_with fail
  go_loopg [6, 7] (p - 1) (fun g q s wr => ∃ r : Nat, 1 ≤ r ∧ r ≤ p ∧ g = p - r ∧ q = .int .i64 r ∧ s = .string (stepN x (N + r) v) ∧ Own wr w.heap.size [.slice a n c, .string x.refl] ∧ Below w.heap.size w wr)
  case atStart => exact ⟨1, by omega, hp1, rfl, rfl, by rw [H2.out], o2, hbw2⟩
  case round =>
    clear o2 hbw2
    obtain ⟨r, hr1, hr2, hg, rfl, rfl, o2, hb⟩ := hrel
    have HG := Lib.hid hg
    clear hg
    have c0 := o2.at_ (i := 0) rfl
    have c1 := o2.at_ (i := 1) rfl
    by_cases he : r = p
    · subst he
      have te := bne_no (show stepN x (N + r) v = A by rw [H1.out]; exact HA.out)
      go_wp2
      go_ret
      exact ⟨rfl, hb⟩
    · have te := bne_of (show stepN x (N + r) v ≠ A by rw [H1.out]; exact HB.out r hr1 (by omega))
      have g1 := hs1.out _ hb (N + r)
      rw [← stepN_succ] at g1
      obtain ⟨B, hB⟩ : ∃ B, B = stepN x (N + r) v := ⟨_, rfl⟩
      obtain ⟨B1, hB1⟩ : ∃ B1, B1 = stepN x (N + r + 1) v := ⟨_, rfl⟩
      rw [← hB1] at g1
      rw [← hB] at g1 te ⊢
      have K2 := Lib.hid hB1
      clear hB hB1
      go_wp2_with fail
      refine g1.mono ?_
      rintro e w6 ⟨rfl, hb6⟩
      have o6 := o2.below hb6 o2.lt
      go_wp2
      go_roundg (p - (r + 1))
      case measure => rw [HG.out]; omega
      case rel => exact ⟨r + 1, by omega, by omega, rfl, by go_num, by rw [K2.out]; rfl, o6, bt hb hb6⟩
end Go.Proofs.YtjefcicenepcbaaGreat

/- Contracts of the functions that draw wheels and windows from an input. -/
namespace Go.Proofs.YtjefcicenepcbaaGreat
open Go.RowKit

/-- Wheels and windows, drawn from an input. -/
def DrawnW (w : World) (e : Ending) (w' : World) : Prop :=
  ∃ (x : Whl) (u : ByteArray) (a : Option Addr) (cap : Nat), SmallW x ∧ u.size ≤ 300 ∧ e = .returned (.tuple #[.agg #[.slice a x.rotors.length cap, .string x.refl], .string u]) ∧ Reads w' w'.heap.size a (rvs x.rotors) ∧ (∀ ad, a = some ad → w.heap.size ≤ ad.block) ∧ Below w.heap.size w w'

set_option maxRecDepth 100000 in
set_option maxHeartbeats 1000000 in
theorem DrawStepMoves_any (a : Option Addr) (len cap : Nat) (zs : List Int) (w : World) (h : IsRow .u8 w a len cap zs) (hl : len ≤ 1048576) :
    Calls Tryz.prog 12 #[.slice a len cap] w (DrawnW w) := by
  have o0 := Own.new w [.slice none 0 0, .string ⟨#[]⟩] 25
  have hb0 := (Below.refl w.heap.size w).alloc (Nat.le_refl _) (.cells #[.slice none 0 0, .string ⟨#[]⟩] 25)
  go_enter Tryz.func12, Tryz.ntmps12
  go_wp2_with fail
  refine (l21Open_any a len cap zs _ (h.alloc_ _) hl).mono ?_
  rintro e w1 ⟨rfl, hr1, hb1⟩
  have hsz : (w.alloc (.cells #[.slice none 0 0, .string ⟨#[]⟩] 25)).heap.size = w.heap.size + 1 := by simp
  rw [hsz] at hr1
  have o1 := o0.below hb1 o0.lt
  have hbw1 := bt hb0 hb1
  clear o0 hb0 hb1 h hsz
  go_wp2_with fail
  generalize hB0 : w.heap.size = B0 at *
  have HB0 := Lib.hid hB0
  clear hB0
  refine (l7Some_any (B0 + 1) 0 _ hr1 (by omega)).mono ?_
  rintro e w2 ⟨x, u, g, cp, hx, hu, rfl, hown2, hg, hr2, hm2⟩
  have l1 := hr1.lt
  have o2 := o1.grown hm2 (by simp)
  have hbw2 : Below B0 w w2 := hbw1.trans (hm2.toBelow (by omega) (by omega))
  have hu1 : 1 ≤ u.size := by rw [hu.2]; exact hx.1
  have hu3 : u.size ≤ 200 := by rw [hu.2]; have := hx.2.1; omega
  clear hu o1 hr1 hbw1 hm2
  have p2 := Own.new w2 [.slice (some ⟨g, 0, none⟩) x.rotors.length cp, .string x.refl] 25
  have o2' := o2.alloc (.cells [.slice (some ⟨g, 0, none⟩) x.rotors.length cp, .string x.refl].toArray 25)
  have hr2' := hr2.alloc (.cells [.slice (some ⟨g, 0, none⟩) x.rotors.length cp, .string x.refl].toArray 25)
  have hown2' := World.ownsRow.alloc hown2 (.cells [.slice (some ⟨g, 0, none⟩) x.rotors.length cp, .string x.refl].toArray 25)
  have hbw2' := hbw2.alloc (by have := o2.lt; omega) (.cells [.slice (some ⟨g, 0, none⟩) x.rotors.length cp, .string x.refl].toArray 25)
  have l2 := o2.lt
  go_wp2_with fail
  generalize (w2.alloc (.cells [.slice (some ⟨g, 0, none⟩) x.rotors.length cp, .string x.refl].toArray 25)) = W2 at *
  have z2 := o2'.lt
  clear o2 hr2 hown2 hbw2 p2
  refine (l7Bad_any (B0 + 1) g cp _ x u _ _ hr2' (by omega) hx hown2' (by omega) hu1 hu3).mono ?_
  rintro e w3 ⟨x3, u3, a3, cap3, hx3, hu3, rfl, hrd3, hbl3, hr3, hm3⟩
  have o3 := o2'.tu hm3 (by omega) (by omega)
  have hbw3 : Below B0 w w3 := hbw2'.trans (hm3.toBelow (by omega) (by omega) (by omega))
  have HX := Lib.hid hx3
  clear hx3 o2' hr2' hown2' hbw2' hm3
  have f0 := o3.at_ (i := 0) rfl
  have f1 := o3.at_ (i := 1) rfl
  have g0 := o3.free 0 (by simp)
  have g1 := o3.free 1 (by simp)
  go_wp2
  refine bodyPost_ret (v := .tuple #[.agg #[.slice a3 x3.rotors.length cap3, .string x3.refl], .string u3]) (by simp [results, Tryz.results12, go_sem, f0, f1]) rfl ?_
  refine ⟨x3, u3, a3, cap3, HX.out, hu3, rfl, ?_, ?_, ?_⟩
  · refine Reads.more (B := w3.heap.size) ((Reads.setOff hrd3 (p := ⟨B0, 0, none⟩) (fun ad h => ?_) _).setOff (p := ⟨B0, 1, none⟩) (fun ad h => ?_) _) (by simp [World.setCell])
    · rcases hbl3 ad h with h | h
      · simp; omega
      · simp; omega
    · rcases hbl3 ad h with h | h
      · simp; omega
      · simp; omega
  · intro ad h
    rw [HB0.out]
    rcases hbl3 ad h with h | h
    · omega
    · omega
  · rw [HB0.out]
    exact (hbw3.setCell (by simp) _).setCell (by simp) _
end Go.Proofs.YtjefcicenepcbaaGreat

/- The contract of the program's StepsBack. -/
namespace Go.Proofs.YtjefcicenepcbaaGreat
open Go.RowKit

theorem bit_of (k j : Nat) (hk : k < 4611686018427387904) : (bits .and .i64 ((k : Int) / 2 ^ j) 1 == 1) = k.testBit j := by
  have e : ((k : Int) / 2 ^ j) = ((k / 2 ^ j : Nat) : Int) := by simp
  have hle : k / 2 ^ j ≤ k := Nat.div_le_self _ _
  rw [e, show (1 : Int) = ((1 : Nat) : Int) from rfl, i64_and_nat _ _ (by omega) (by omega), Nat.and_one_is_mod, Nat.testBit_eq_decide_div_mod_eq]
  rw [Bool.eq_iff_iff]; simp; omega
theorem befL_at {v : ByteArray} {m k : Nat} (h : k < v.size) : (L (befW v m))[k]'(by rw [size_L, size_befW]; exact h) = if k + 1 = v.size ∨ m.testBit k = true then letr (dig v[k] + 9) else v[k] := by
  have := byteAt_befW (m := m) h
  rw [byteAt_get (by rw [size_befW]; exact h), byteAt_get h] at this
  exact this

set_option maxHeartbeats 1000000 in
theorem implStepsBack_any (a : Option Addr) (n c : Nat) (x : Whl) (v : ByteArray) (w : World) (h : WhlAt w w.heap.size a n x) (hvs : v.size ≤ 4294967296) :
    Calls Tryz.prog 11 #[.agg #[.slice a n c, .string x.refl], .string v] w (StrsPost (backS x v) w) := by
  have o0 := Own.new w [.slice a n c, .string x.refl] 25
  have hb0 := (Below.refl w.heap.size w).alloc (Nat.le_refl _) (.cells [.slice a n c, .string x.refl].toArray 25)
  have h' := h.alloc_ (.cells [.slice a n c, .string x.refl].toArray 25)
  have hc := windowsValid_any a n c x v _ h' hvs
  cases hf : fitB x v with
  | false =>
    have hst : backS x v = [] := by simp [backS, hf]
    rw [hf] at hc
    rw [hst]
    go_enter Tryz.func11, Tryz.ntmps11
    go_wp2_with fail
    refine hc.mono ?_
    rintro e w1 ⟨rfl, hb1⟩
    go_wp2
    go_ret
    exact ⟨_, rfl, World.ownsRow_nil _ _ _ _, bt hb0 hb1⟩
  | true =>
    have hF := fitB_iff.1 hf
    have h3 : v.size ≤ 3 := by rw [hF.size]; exact hF.three
    have h1 : 1 ≤ v.size := by rw [hF.size]; exact hF.one
    have hst := Lib.hid (show backS x v = backTo x v (10 ^ v.size) by simp [backS, hf])
    have hsort := Lib.hid (sort_back hF)
    have hpl : 2 ^ (v.size - 1) ≤ 4 := Nat.pow_le_pow_right (n := 2) (by omega) (show v.size - 1 ≤ 2 by omega)
    rw [hf] at hc
    go_enter Tryz.func11, Tryz.ntmps11
    go_wp2_with fail
    refine hc.mono ?_
    rintro e w1 ⟨rfl, hb1⟩
    have o1 := o0.below hb1 o0.lt
    have hbw := bt hb0 hb1
    clear hb0 hb1 hc o0 h' hf
    go_wp2_with fail
    obtain ⟨M, hM⟩ : ∃ M : Nat, M = 2 ^ (v.size - 1) := ⟨_, rfl⟩
    have hwr : wrap64 ((2 : Int) ^ (v.size - 1)) = (M : Int) := by
      have e : ((2 : Int) ^ (v.size - 1)) = (M : Int) := by rw [hM]; simp
      rw [e]; exact IntWalk.wrap64_in _ ⟨by omega, by omega⟩
    rw [hwr]
    rw [← hM] at hsort hpl
    have HM := Lib.hid hM
    clear hwr hM
    go_loopw [5, 6, 7, 8, 17] (fun l _ _ _ i wr => ∃ k : Nat, k ≤ M ∧ i = .int .i64 k ∧ OwR wr (w.heap.size + 1) 9 1 l (befTo x v k).length (sv (befTo x v k)) ∧ Own wr w.heap.size [.slice a n c, .string x.refl] ∧ Below w.heap.size w wr) (fun _ _ _ _ i _ => M - (intOf i).toNat)
    case atStart => exact ⟨0, Nat.zero_le _, rfl, World.ownsRow_nil _ _ _ _, o1, hbw⟩
    case round =>
      clear hbw o1
      obtain ⟨k, hk, rfl, hown, o1, hb⟩ := hrel
      have hln := befTo_len x v k
      by_cases hlt : k < M
      · obtain ⟨cap, w3, hcv, o3, hb3, s3, hcap⟩ := conv_bytes wr v
        have o1' := o1.below hb3 o1.lt
        have hown' := OwR.below hown hb3 (Nat.le_refl _)
        have hb' := bt hb hb3
        have hz : w.heap.size + 1 ≤ wr.heap.size := o1.lt
        have hGb : u5.ownBlock ≠ some wr.heap.size := fun e => by have := (World.ownsRow.lt hown _ e).2; omega
        clear hb3 o1 hown hb
        go_wp2_with fail
        clear hcv
        generalize hG : wr.heap.size = G at *
        have HG := Lib.hid hG
        clear hG
        have Hls := Lib.hid (show (L (befW v k)).length = v.size by rw [size_L, size_befW])
        have Hlv := Lib.hid (show (L v).length = v.size from size_L v)
        go_loopw [8, 24] (fun _ i wq => ∃ j : Nat, j ≤ v.size ∧ i = .int .i64 j ∧ Own wq G (bv ((L (befW v k)).take j ++ (L v).drop j)) ∧ OwR wq (w.heap.size + 1) 9 1 u5 (befTo x v k).length (sv (befTo x v k)) ∧ Own wq w.heap.size [.slice a n c, .string x.refl] ∧ Below w.heap.size w wq) (fun _ i _ => v.size - (intOf i).toNat)
        case atStart => exact ⟨0, Nat.zero_le _, rfl, by simpa using o3, hown', o1', hb'⟩
        case round =>
          clear o3 o1' hown' hb' s3
          obtain ⟨j, hj, rfl, o3, hown, o1, hb⟩ := hrel
          by_cases hjl : j < v.size
          · have hlen := Lib.hid (show (bv ((L (befW v k)).take j ++ (L v).drop j)).length = v.size by rw [length_bv, fill_len (by rw [Hls.out, Hlv.out]) (by rw [Hls.out]; omega), Hls.out])
            have hfr := o3.free j (by rw [hlen.out]; omega)
            have hd := wordB_at hF.word j hjl
            have q1 : (j : Int) < (v.size : Int) := by omega
            have g0 : wr.cell? ⟨G, j, none⟩ = some (.int .u8 (v[j].toNat : Int)) := by
              refine o3.at_ ?_
              have hl : ((L (befW v k)).take j).length = j := by rw [List.length_take, Hls.out]; omega
              rw [bv_at (by have := hlen.out; rw [length_bv] at this; omega), List.getElem_append_right (by omega)]
              simp [hl, getElem_L]
            have hat := Lib.hid (befL_at (v := v) (m := k) hjl)
            have hfs := Lib.hid (fill_set (A := L (befW v k)) (R := L v) (k := j) (by rw [Hls.out]; exact hjl) (by rw [Hls.out, Hlv.out]))
            have hbit := bit_of k j (by omega)
            have fin : (j + 1 = v.size ∨ k.testBit j = true) → Hid (Own (wr.setCell ⟨G, j, none⟩ (.int .u8 ((letr (dig v[j] + 9)).toNat : Int))) G (bv ((L (befW v k)).take (j + 1) ++ (L v).drop (j + 1)))) := fun hc => by
              show Own _ _ _
              rw [← hfs.out, hat.out, if_pos hc, ← bv_set]
              exact o3.set_ (by rw [hlen.out]; exact hjl) _
            by_cases hl : j + 1 = v.size
            · have t1 : ((j : Int) == (v.size : Int) - 1) = true := by rw [beq_iff_eq]; omega
              have FIN := fin (.inl hl)
              clear fin hl hbit
              go_wp2_with (go_at_call 21; ((with_reducible refine (shifted_any _ _ _ hd.1 hd.2 (by omega) (by omega)).mono ?_); rintro e w' ⟨rfl, rfl⟩))
              go_roundw
              case rel => exact ⟨j + 1, by omega, by go_num, FIN.out, OwR.off hown hGb _, o1.far (by simp; omega) _, hb.setCell (by simp; omega) _⟩
              case measure => simp [intOf]; omega
            · have t1 : ((j : Int) == (v.size : Int) - 1) = false := by rw [beq_eq_false_iff_ne]; omega
              cases hbv : k.testBit j
              · rw [hbv] at hbit
                have he : (L (befW v k)).take j ++ (L v).drop j = (L (befW v k)).take (j + 1) ++ (L v).drop (j + 1) := by
                  rw [← hfs.out, hat.out, if_neg (by simp [hl, hbv])]
                  have hl : ((L (befW v k)).take j).length = j := by rw [List.length_take, Hls.out]; omega
                  rw [List.set_append_right _ _ (by omega), hl, Nat.sub_self, List.drop_eq_getElem_cons (by rw [Hlv.out]; exact hjl)]
                  rfl
                have HE := Lib.hid he
                clear fin hl hbv he
                go_wp2
                go_roundw
                case rel => exact ⟨j + 1, by omega, by go_num, by rw [← HE.out]; exact o3, hown, o1, hb⟩
                case measure => simp [intOf]; omega
              · rw [hbv] at hbit
                have FIN := fin (.inr hbv)
                clear fin hl hbv
                go_wp2_with (go_at_call 21; ((with_reducible refine (shifted_any _ _ _ hd.1 hd.2 (by omega) (by omega)).mono ?_); rintro e w' ⟨rfl, rfl⟩))
                go_roundw
                case rel => exact ⟨j + 1, by omega, by go_num, FIN.out, OwR.off hown hGb _, o1.far (by simp; omega) _, hb.setCell (by simp; omega) _⟩
                case measure => simp [intOf]; omega
          · have hj' : j = v.size := by omega
            subst hj'
            have HGB := Lib.hid hGb
            rw [List.take_of_length_le (by rw [Hls.out]; omega), List.drop_eq_nil_of_le (by rw [Hlv.out]; omega), List.append_nil] at o3
            have hcv := fun W (hW : Own W G (bv (L (befW v k)))) => (Own.conv (P := Tryz.prog) (w := W) (l := L (befW v k)) hW 22 9 5 Tryz.underlying22 Tryz.underlying5 Tryz.underlying9 (n := v.size) Hls.out.symm cap)
            rw [S_L] at hcv
            have hcv1 := hcv _ o3
            have c0 := o1.at_ (i := 0) rfl
            have c1 := o1.at_ (i := 1) rfl
            have hW1 : WhlAt wr wr.heap.size a n x := (h.below hb (Nat.le_refl _)).more hb.size
            have hFu : FitB x (befW v k) := ⟨hF.one, hF.three, hF.rot, hF.refl, by rw [size_befW]; exact hF.size, word_befW hF.word k⟩
            have hyes := Lib.hid (befTo_yes (x := x) (v := v) (k := k))
            have hno := Lib.hid (befTo_no (x := x) (v := v) (k := k))
            have hus : (befW v k).size ≤ 3 := by rw [size_befW]; exact h3
            have hst7 := step_any a n c x (befW v k) wr hW1 hFu
            clear hGb
            generalize hGe : befW v k = u at *
            generalize hN : (befTo x v k).length = N at *
            go_wp2_with fail
            refine hst7.mono ?_
            rintro e w2 ⟨rfl, hb2⟩
            have o3' := o3.below hb2 o3.lt
            have o1' := o1.below hb2 o1.lt
            have hown' := OwR.below hown hb2 (Nat.le_refl _)
            have hb' := bt hb hb2
            have hcv2 := hcv _ o3'
            have hlt2 := o1'.lt
            clear hcv1 c0 c1 hW1 hst7 o3 o1 hown hb hb2 hcv
            by_cases he : stepW x u = v
            · have te : ((stepW x u).toList == v.toList) = true := by rw [he]; simp
              have HY := Lib.hid (hyes.out he)
              clear he
              go_wp2_with (at_builtin; ((with_reducible refine wl_push 34 9 inf_str Tryz.underlying34 rfl (by omega) hown' (by omega) rfl (by simp [Value.oneCell']) (by omega) (by omega) rfl rfl ?_); intro g cap w4 o4 b4 s4))
              go_roundw
              case rel =>
                refine ⟨k + 1, by omega, by go_num, ?_, o1'.below b4 (by omega), hb'.trans (b4.mono (by omega))⟩
                rw [HY.out, List.length_append, hN, sv_append]; exact o4
              case measure => simp [intOf]; omega
            · have te : ((stepW x u).toList == v.toList) = false := by
                rw [toList_L, toList_L, beq_eq_false_iff_ne]
                exact fun h => he (L_inj h)
              have HY := Lib.hid (hno.out he)
              clear he
              go_wp2
              go_roundw
              case rel =>
                refine ⟨k + 1, by omega, by go_num, ?_, o1', hb'⟩
                rw [HY.out, hN]; exact hown'
              case measure => simp [intOf]; omega
      · have hk' : k = M := by omega
        subst hk'
        have hlt2 := o1.lt
        have hso := fun W hW => slicesSort_any u5 (befTo x v k) (w.heap.size + 1) W hW (by omega)
        have hsq : sortS (befTo x v k) = backTo x v (10 ^ v.size) := by
          unfold sortS
          rw [hsort.out, List.map_map]
          conv => rhs; rw [← List.map_id (backTo x v (10 ^ v.size))]
          exact List.map_congr_left fun s _ => S_L s
        have HSQ := Lib.hid hsq
        have hle : Hid ((befTo x v k).length = (backTo x v (10 ^ v.size)).length) := by show _ = _; rw [← hsq, len_sortS]
        clear hsq
        go_wp2_with fail
        refine (hso _ hown).mono ?_
        rintro e w2 ⟨rfl, hown2, hb2⟩
        go_wp2
        go_ret
        refine ⟨_, rfl, ?_, hb.trans (hb2.mono (by omega))⟩
        rw [hst.out, ← hle.out, ← HSQ.out]
        exact World.ownsRow.mono hown2 (by omega)
end Go.Proofs.YtjefcicenepcbaaGreat

/- The walk of the law on the way in of the next windows. -/
namespace Go.Proofs.YtjefcicenepcbaaGreat
open Go.RowKit

theorem rcSteps_any (a : Option Addr) (n c : Nat) (x : Whl) (u : ByteArray) (N : Int) (w : World) (h : WhlAt w w.heap.size a n x) (hu : u.size ≤ 4294967296) :
    Calls Tryz.prog 7 #[.agg #[.slice a n c, .string x.refl], .string u, .int .i64 N] w fun e w' => e = .returned (.string (stepT x u N).1) ∧ Below w.heap.size w w' := by
  have hb0 := (Below.refl w.heap.size w).alloc (Nat.le_refl _) (.cells [.slice a n c, .string x.refl].toArray 25)
  have h' := h.alloc_ (.cells [.slice a n c, .string x.refl].toArray 25)
  go_enter Tryz.func7, Tryz.ntmps7
  go_wp2_with fail
  refine (implStepMany_any a n c x u N _ h' hu).mono ?_
  rintro e w1 ⟨rfl, hb1⟩
  go_wp2
  go_ret
  exact ⟨rfl, bt hb0 hb1⟩
end Go.Proofs.YtjefcicenepcbaaGreat
