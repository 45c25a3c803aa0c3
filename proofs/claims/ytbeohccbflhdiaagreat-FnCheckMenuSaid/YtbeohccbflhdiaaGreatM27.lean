/- Several of my texts in one: Dbl, Fix, Rep. -/
import Derived.Test.YtbeohccbflhdiaaGreatM16
import Derived.Test.YtbeohccbflhdiaaGreatM17
import Derived.Test.YtbeohccbflhdiaaGreatM25
/- DoubleIndicator, the program's and the specification's, and its draw. -/
namespace Go.Proofs.YtbeohccbflhdiaaGreat
open Go.RowKit

def dblT (m : Mach) (g k : ByteArray) : ByteArray × Bool := if setB m g = true ∧ setB m k = true then (wd (encD m g (dg (k ++ k))), true) else (⟨#[]⟩, false)
theorem dblT_yes {m : Mach} {g k : ByteArray} (h1 : setB m g = true) (h2 : setB m k = true) : dblT m g k = (wd (encD m g (dg (k ++ k))), true) := by simp only [dblT, h1, h2, and_self, if_true]
theorem dblT_no {m : Mach} {g k : ByteArray} (h : ¬ (setB m g = true ∧ setB m k = true)) : dblT m g k = (⟨#[]⟩, false) := by simp only [dblT, if_neg h]
theorem setB_3 {m : Mach} {k : ByteArray} (h : setB m k = true) : k.size ≤ 3 := by
  rw [setB_len h]; exact (machB_fit (setB_mach h)).three
theorem setB_1 {m : Mach} {k : ByteArray} (h : setB m k = true) : 1 ≤ k.size := by
  rw [setB_len h]; exact (machB_fit (setB_mach h)).one
theorem wordB_dbl {k : ByteArray} (h : wordB k = true) (h3 : k.size ≤ 3) : wordB (k ++ k) = true := by
  simp only [wordB, Bool.and_eq_true, decide_eq_true_eq] at h ⊢
  refine ⟨by rw [ByteArray.size_append]; omega, ?_⟩
  rw [L_append, List.all_append, h.2]; rfl
set_option maxRecDepth 100000 in
set_option maxHeartbeats 1000000 in
theorem implDoubleIndicator_any (a : Option Addr) (n c : Nat) (m : Mach) (g k : ByteArray) (w : World) (h : MachAt w w.heap.size a n m) (hg : g.size ≤ 4294967296) (hk : k.size ≤ 4294967296) :
    Calls Tryz.prog 43 #[.agg #[.slice a n c, .string m.wheels.refl, .string m.rings, .string m.plugs], .string g, .string k] w fun e w' => e = .returned (.tuple #[.string (dblT m g k).1, .bool (dblT m g k).2]) ∧ Below w.heap.size w w' := by
  have o0 := Own.new w [.slice a n c, .string m.wheels.refl, .string m.rings, .string m.plugs] 27
  have hb0 := (Below.refl w.heap.size w).alloc (Nat.le_refl _) (.cells [.slice a n c, .string m.wheels.refl, .string m.rings, .string m.plugs].toArray 27)
  have h' := h.alloc_ (.cells [.slice a n c, .string m.wheels.refl, .string m.rings, .string m.plugs].toArray 27)
  have HT := Lib.hid (fun h1 h2 => dblT_yes (m := m) (g := g) (k := k) h1 h2)
  have HF := Lib.hid (fun h => dblT_no (m := m) (g := g) (k := k) h)
  generalize dblT m g k = T at *
  go_enter Tryz.func43, Tryz.ntmps43
  go_wp2_with fail
  refine (settingValid_any _ _ _ _ _ _ h' hg).mono ?_
  rintro e w1 ⟨rfl, hb1⟩
  have o1 := o0.below hb1 o0.lt
  have hM := (h'.below hb1 (Nat.le_refl _)).more hb1.size
  have hb := bt hb0 hb1
  clear o0 h' hb0 hb1
  cases h1 : setB m g with
  | false =>
    have HE := HF.out (by simp [h1])
    subst HE
    clear HT HF h1
    go_wp2
    go_ret2
    exact ⟨rfl, hb⟩
  | true =>
    have f0 := o1.at_ (i := 0) rfl
    have f1 := o1.at_ (i := 1) rfl
    have f2 := o1.at_ (i := 2) rfl
    have f3 := o1.at_ (i := 3) rfl
    go_wp2_with fail
    refine (settingValid_any _ _ _ _ _ _ hM hk).mono ?_
    rintro e w2 ⟨rfl, hb2⟩
    have o2 := o1.below hb2 o1.lt
    have hM2 := (hM.below hb2 (Nat.le_refl _)).more hb2.size
    have hbb := bt hb hb2
    clear o1 hM hb hb2 f0 f1 f2 f3
    cases h2 : setB m k with
    | false =>
      have HE := HF.out (by simp [h2])
      subst HE
      clear HT HF h1 h2
      go_wp2
      go_ret2
      exact ⟨rfl, hbb⟩
    | true =>
      have HE := HT.out h1 h2
      subst HE
      clear HT HF
      have hk3 := setB_3 h2
      have hw2 := wordB_dbl (setB_word h2) hk3
      have hsz : (k ++ k).size ≤ 4294967296 := by have := wordB_size hw2; omega
      have HW2 := Lib.hid hw2
      have HSZ := Lib.hid hsz
      clear hw2 hsz
      have f0 := o2.at_ (i := 0) rfl
      have f1 := o2.at_ (i := 1) rfl
      have f2 := o2.at_ (i := 2) rfl
      have f3 := o2.at_ (i := 3) rfl
      go_wp2_with fail
      refine (implEncipher_any _ _ _ _ _ _ _ hM2 hg HSZ.out).mono ?_
      rintro e w3 ⟨rfl, hb3⟩
      unfold encV
      rw [encT_yes h1 HW2.out]
      go_wp2
      go_ret2
      exact ⟨rfl, bt hbb hb3⟩
set_option maxRecDepth 100000 in
set_option maxHeartbeats 1000000 in
theorem specDoubleIndicator_any (a : Option Addr) (n c : Nat) (m : Mach) (g k : ByteArray) (w : World) (h : MachAt w w.heap.size a n m) (hg : g.size ≤ 4294967296) (hk : k.size ≤ 4294967296) :
    Calls Tryz.prog 44 #[.agg #[.slice a n c, .string m.wheels.refl, .string m.rings, .string m.plugs], .string g, .string k] w fun e w' => e = .returned (.tuple #[.string (dblT m g k).1, .bool (dblT m g k).2]) ∧ Below w.heap.size w w' := by
  have o0 := Own.new w [.slice a n c, .string m.wheels.refl, .string m.rings, .string m.plugs] 27
  have hb0 := (Below.refl w.heap.size w).alloc (Nat.le_refl _) (.cells [.slice a n c, .string m.wheels.refl, .string m.rings, .string m.plugs].toArray 27)
  have h' := h.alloc_ (.cells [.slice a n c, .string m.wheels.refl, .string m.rings, .string m.plugs].toArray 27)
  have HT := Lib.hid (fun h1 h2 => dblT_yes (m := m) (g := g) (k := k) h1 h2)
  have HF := Lib.hid (fun h => dblT_no (m := m) (g := g) (k := k) h)
  generalize dblT m g k = T at *
  go_enter Tryz.func44, Tryz.ntmps44
  go_wp2_with fail
  refine (l8Fits_any _ _ _ _ _ _ h' hg).mono ?_
  rintro e w1 ⟨rfl, hb1⟩
  have o1 := o0.below hb1 o0.lt
  have hM := (h'.below hb1 (Nat.le_refl _)).more hb1.size
  have hb := bt hb0 hb1
  clear o0 h' hb0 hb1
  cases h1 : setB m g with
  | false =>
    have HE := HF.out (by simp [h1])
    subst HE
    clear HT HF h1
    go_wp2
    go_ret2
    exact ⟨rfl, hb⟩
  | true =>
    have f0 := o1.at_ (i := 0) rfl
    have f1 := o1.at_ (i := 1) rfl
    have f2 := o1.at_ (i := 2) rfl
    have f3 := o1.at_ (i := 3) rfl
    go_wp2_with fail
    refine (l8Fits_any _ _ _ _ _ _ hM hk).mono ?_
    rintro e w2 ⟨rfl, hb2⟩
    have o2 := o1.below hb2 o1.lt
    have hM2 := (hM.below hb2 (Nat.le_refl _)).more hb2.size
    have hbb := bt hb hb2
    clear o1 hM hb hb2 f0 f1 f2 f3
    cases h2 : setB m k with
    | false =>
      have HE := HF.out (by simp [h2])
      subst HE
      clear HT HF h1 h2
      go_wp2
      go_ret2
      exact ⟨rfl, hbb⟩
    | true =>
      have HE := HT.out h1 h2
      subst HE
      clear HT HF
      have hk3 := setB_3 h2
      have HW2 := Lib.hid (wordB_dbl (setB_word h2) hk3)
      have f0 := o2.at_ (i := 0) rfl
      have f1 := o2.at_ (i := 1) rfl
      have f2 := o2.at_ (i := 2) rfl
      have f3 := o2.at_ (i := 3) rfl
      go_wp2_with fail
      refine (l8Encipher_any _ _ _ _ _ _ _ hM2 h1 HW2.out).mono ?_
      rintro e w3 ⟨rfl, hb3⟩
      go_wp2
      go_ret2
      exact ⟨rfl, bt hbb hb3⟩
set_option maxRecDepth 100000 in
set_option maxHeartbeats 1000000 in
theorem DrawDoubleIndicator_any (a0 : Option Addr) (len cap : Nat) (zs : List Int) (w : World) (h : IsRow .u8 w a0 len cap zs) (hl : len ≤ 1048576) :
    Calls Tryz.prog 42 #[.slice a0 len cap] w (DrawnE w) := by
  have o0 := Own.new w [.slice none 0 0, .string ⟨#[]⟩, .string ⟨#[]⟩, .string ⟨#[]⟩] 27
  have hb0 := (Below.refl w.heap.size w).alloc (Nat.le_refl _) (.cells #[.slice none 0 0, .string ⟨#[]⟩, .string ⟨#[]⟩, .string ⟨#[]⟩] 27)
  go_enter Tryz.func42, Tryz.ntmps42
  go_wp2_with fail
  refine (l21Open_any a0 len cap zs _ (h.alloc_ _) hl).mono ?_
  rintro e w1 ⟨rfl, hr1, hb1⟩
  have o1 := o0.below hb1 o0.lt
  have hbw1 := bt hb0 hb1
  rw [World.size_alloc] at hr1
  clear o0 hb0 hb1 h
  go_wp2_with fail
  generalize hB0 : w.heap.size = B0 at *
  have HB0 := Lib.hid hB0
  clear hB0
  refine (l9Open_any (B0 + 1) 0 _ hr1 (by omega)).mono ?_
  rintro e w9 ⟨m, s, k, a, cp, hsm, hs, hk, rfl, hrd2, hbl2, hr2, hm2⟩
  have l1 := hr1.lt
  have o9 := o1.grown hm2 (by simp)
  have hbw9 : Below B0 w w9 := hbw1.trans (hm2.toBelow (by omega) (by omega))
  have hbl : ∀ ad, a = some ad → B0 + 1 < ad.block := fun ad h => by have := hbl2 ad h; omega
  have HBL := Lib.hid hbl
  have HM := Lib.hid hsm
  have HRD := Lib.hid hrd2
  clear o1 hr1 hbw1 hm2 hbl2 hbl hsm hrd2 hr2
  have c0 := o9.at_ (i := 0) rfl
  have c1 := o9.at_ (i := 1) rfl
  have c2 := o9.at_ (i := 2) rfl
  have c3 := o9.at_ (i := 3) rfl
  have b0 := o9.free 0 (by simp)
  have b1 := o9.free 1 (by simp)
  have b2 := o9.free 2 (by simp)
  have b3 := o9.free 3 (by simp)
  go_wp2
  have oz := o9.set4 (.slice a m.wheels.rotors.length cp) (.string m.wheels.refl) (.string m.rings) (.string m.plugs)
  have k0 := oz.at_ (i := 0) rfl
  have k1 := oz.at_ (i := 1) rfl
  have k2 := oz.at_ (i := 2) rfl
  have k3 := oz.at_ (i := 3) rfl
  refine bodyPost_ret (v := .tuple #[.agg #[.slice a m.wheels.rotors.length cp, .string m.wheels.refl, .string m.rings, .string m.plugs], .string s, .string k]) (by unfold set4 at *; simp [results, Tryz.results42, go_sem, k0, k1, k2, k3]) rfl ?_
  refine ⟨m, s, k, a, cp, ⟨HM.out, ?_, ?_, ?_⟩, hs, hk, rfl⟩
  · show Reads (set4 w9 B0 _ _ _ _) (set4 w9 B0 _ _ _ _).heap.size _ _
    rw [size_set4]
    exact HRD.out.set4 (fun ad h => by have := HBL.out ad h; omega) _ _ _ _
  · intro ad h
    rw [HB0.out]
    have := HBL.out ad h; omega
  · rw [HB0.out]
    exact bel_set4 hbw9 (Nat.le_refl _) _ _ _ _
end Go.Proofs.YtbeohccbflhdiaaGreat

/- Whether a permutation fixes a letter; whether a word may be a double indicator. -/
namespace Go.Proofs.YtbeohccbflhdiaaGreat
open Go.RowKit

theorem fixes_any (p : List Nat) (w : World) (hp : IsP p) :
    Calls Tryz.prog 95 #[.agg (pv p).toArray] w fun e w' => e = .returned (.bool (fixB p)) ∧ Below w.heap.size w w' := by
  have o0 := Own.new w (pv p) 95
  have hb := (Below.refl w.heap.size w).alloc (Nat.le_refl _) (.cells (pv p).toArray 95)
  go_enter Tryz.func95, Tryz.ntmps95
  go_wp2_with ((with_reducible refine wl_load 95 o0.cells (size_pv hp.len) Tryz.underlying95 ?_ ?_ ?_ ?_); (· rfl); (· rfl); (· rfl))
  generalize (w.alloc (.cells (pv p).toArray 95)) = W at *
  go_loop [3, 4, 6] (fun _ _ i => ∃ k : Nat, k ≤ 10 ∧ i = .int .i64 k ∧ ∀ j, j < k → pAt p j ≠ j) (fun _ _ i => 10 - (intOf i).toNat)
  case atStart => exact ⟨0, by omega, rfl, fun _ h => absurd h (by omega)⟩
  case round =>
    obtain ⟨k, hk, rfl, ha⟩ := hrel
    have HA := Lib.hid ha
    clear ha
    by_cases hlt : k < 10
    · have hx := hp.at_lt hlt
      have e1 := pv_at (p := p) (i := k) (by rw [hp.len]; exact hlt)
      by_cases he : pAt p k = k
      · have hne : ((pAt p k : Int) == (k : Int)) = true := by simp [he]
        have HF : Hid (fixB p = true) := Lib.hid (fixB_iff.2 ⟨k, hlt, he⟩)
        clear he
        go_wp2_with ((with_reducible refine wl_index 95 e1 hlt Tryz.underlying95 agg_u8 size_u8 ?_ ?_ ?_ ?_); (· rfl); (· rfl); (· rfl))
        go_ret
        exact ⟨ret_bool HF.out.symm, hb⟩
      · have hne : ((pAt p k : Int) == (k : Int)) = false := by rw [beq_eq_false_iff_ne]; omega
        have HE := Lib.hid he
        clear he
        go_wp2_with ((with_reducible refine wl_index 95 e1 hlt Tryz.underlying95 agg_u8 size_u8 ?_ ?_ ?_ ?_); (· rfl); (· rfl); (· rfl))
        go_round
        case rel =>
          refine ⟨k + 1, by omega, by go_num, fun j hj => ?_⟩
          by_cases e : j = k
          · subst e; exact HE.out
          · exact HA.out j (by omega)
        case measure => simp [intOf]; omega
    · have HF : Hid (fixB p = false) := by
        show _ = _
        rw [Bool.eq_false_iff]
        intro hf
        obtain ⟨i, hi, he⟩ := fixB_iff.1 hf
        exact HA.out i (by omega) he
      go_wp2
      go_ret
      exact ⟨ret_bool HF.out.symm, hb⟩
/-- What HasRepeat answers. -/
def hasB (m : Mach) (g : ByteArray) (p : Int) : Bool := setB m g && (decide (0 ≤ p) && (decide (p < g.size) && fixB (prodP m g p.toNat)))
set_option maxRecDepth 100000 in
set_option maxHeartbeats 1000000 in
theorem implHasRepeat_any (a : Option Addr) (n c : Nat) (m : Mach) (g : ByteArray) (p : Int) (w : World) (h : MachAt w w.heap.size a n m) (hg : g.size ≤ 4294967296) :
    Calls Tryz.prog 46 #[.agg #[.slice a n c, .string m.wheels.refl, .string m.rings, .string m.plugs], .string g, .int .i64 p] w fun e w' => e = .returned (.bool (hasB m g p)) ∧ Below w.heap.size w w' := by
  have o0 := Own.new w [.slice a n c, .string m.wheels.refl, .string m.rings, .string m.plugs] 27
  have hb0 := (Below.refl w.heap.size w).alloc (Nat.le_refl _) (.cells [.slice a n c, .string m.wheels.refl, .string m.rings, .string m.plugs].toArray 27)
  have h' := h.alloc_ (.cells [.slice a n c, .string m.wheels.refl, .string m.rings, .string m.plugs].toArray 27)
  go_enter Tryz.func46, Tryz.ntmps46
  go_wp2_with fail
  refine (settingValid_any _ _ _ _ _ _ h' hg).mono ?_
  rintro e w1 ⟨rfl, hb1⟩
  have o1 := o0.below hb1 o0.lt
  have hM := (h'.below hb1 (Nat.le_refl _)).more hb1.size
  have hb := bt hb0 hb1
  clear o0 h' hb0 hb1
  cases h1 : setB m g with
  | false =>
    have HM : Hid (hasB m g p = false) := by show _ = _; simp [hasB, h1]
    clear h1
    go_wp2
    go_ret
    exact ⟨ret_bool HM.out.symm, hb⟩
  | true =>
    by_cases hp0 : 0 ≤ p
    · obtain ⟨k, rfl⟩ := Int.eq_ofNat_of_zero_le hp0
      have t0 : decide ((0 : Int) ≤ (k : Int)) = true := decide_eq_true (by omega)
      by_cases hpk : k < g.size
      · have t1 : decide ((k : Int) < (g.size : Int)) = true := decide_eq_true (by omega)
        have hmb := setB_mach h1
        have HM : Hid (hasB m g k = fixB (prodP m g k)) := by
          show _ = _
          simp only [hasB, h1, t0, t1, Bool.true_and, Int.toNat_natCast]
        have hg1 := setB_1 h1
        have hpp := isP_prod hmb g k
        have hzs := size_pv hpp.len
        have f0 := o1.at_ (i := 0) rfl
        have f1 := o1.at_ (i := 1) rfl
        have f2 := o1.at_ (i := 2) rfl
        have f3 := o1.at_ (i := 3) rfl
        go_wp2_with fail
        refine (dayProducts_any _ _ _ _ _ _ hM h1).mono ?_
        rintro e w2 ⟨lv, rfl, hol, hb2⟩
        obtain ⟨al, cl, rfl, hlc, -, hgl⟩ := hol.val
        obtain ⟨gP, rfl, -, og⟩ := hgl.resolve_left (by omega)
        have hc1 := pvs_cells hmb og.cells hpk
        have hbb := bt hb hb2
        have q1 : (0 : Int) ≤ (k : Int) := by omega
        have q2 : (k : Int) < (g.size : Int) := by omega
        clear o1 hM hb hb2 f0 f1 f2 f3 hol hgl
        go_wp2_with (first | ((with_reducible refine wl_load 95 hc1 hzs Tryz.underlying95 ?_ ?_ ?_ ?_); (· rfl); (· rfl); (· rfl)) | (go_at_call 95; ((with_reducible refine (fixes_any _ _ hpp).mono ?_); rintro e w3 ⟨rfl, hb3⟩)))
        go_ret
        exact ⟨ret_bool HM.out.symm, bt hbb hb3⟩
      · have t1 : decide ((k : Int) < (g.size : Int)) = false := decide_eq_false (by omega)
        have HM : Hid (hasB m g k = false) := by show _ = _; simp only [hasB, t1, Bool.false_and, Bool.and_false]
        clear h1
        go_wp2
        go_ret
        exact ⟨ret_bool HM.out.symm, hb⟩
    · have t0 : decide ((0 : Int) ≤ p) = false := decide_eq_false hp0
      have HM : Hid (hasB m g p = false) := by show _ = _; simp only [hasB, t0, Bool.false_and, Bool.and_false]
      clear h1
      go_wp2
      go_ret
      exact ⟨ret_bool HM.out.symm, hb⟩
end Go.Proofs.YtbeohccbflhdiaaGreat

/- The places in which a double indicator repeats its letters. -/
namespace Go.Proofs.YtbeohccbflhdiaaGreat
open Go.RowKit

/-- The places below k with equal letters in both halves. -/
def repL (s : ByteArray) (n k : Nat) : List Nat := (List.range k).filter fun i => (L s)[i]? == (L s)[i + n]?
theorem repL_snoc (s : ByteArray) (n k : Nat) : repL s n (k + 1) = repL s n k ++ (if (L s)[k]? == (L s)[k + n]? then [k] else []) := by
  simp only [repL, List.range_succ, List.filter_append]
  congr 1
  by_cases h : ((L s)[k]? == (L s)[k + n]?) = true <;> simp [h]
theorem repL_len (s : ByteArray) (n k : Nat) : (repL s n k).length ≤ k := by
  have := List.length_filter_le (fun i => (L s)[i]? == (L s)[i + n]?) (List.range k)
  simpa [repL] using this
theorem repL_zero (s : ByteArray) (n : Nat) : repL s n 0 = [] := rfl
theorem isDouble_yes (s : ByteArray) (n : Nat) (w : World) (hw : wordB s = true) (hs : s.size ≤ 2 * n) (hs2 : 2 * n ≤ s.size) (h1 : 1 ≤ n) (h3 : n ≤ 3) :
    Calls Tryz.prog 94 #[.string s] w fun e w' => e = .returned (.bool true) ∧ w = w' := by
  have hq := fun W => implWordValid_any s W (by omega)
  rw [hw] at hq
  have hm : ((s.size : Int)).tmod 2 = 0 := by rw [Int.tmod_eq_emod_of_nonneg (by omega)]; omega
  have t1 : decide ((2 : Int) ≤ (s.size : Int)) = true := decide_eq_true (by omega)
  have t2 : decide ((s.size : Int) ≤ 6) = true := decide_eq_true (by omega)
  clear hw
  go_enter Tryz.func94, Tryz.ntmps94
  go_wp2_with (go_at_call 35; ((with_reducible refine (hq _).mono ?_); rintro e w' ⟨rfl, rfl⟩))
  go_ret
  exact ⟨by simp, rfl⟩
set_option maxRecDepth 100000 in
theorem implRepeatPlaces_yes (s : ByteArray) (n : Nat) (w : World) (hw : wordB s = true) (hs : s.size ≤ 2 * n) (hs2 : 2 * n ≤ s.size) (h1 : 1 ≤ n) (h3 : n ≤ 3) :
    Calls Tryz.prog 45 #[.string s] w (RowPost 3 1 (repL s n n).length (ov (repL s n n)) w) := by
  have hd := fun W => isDouble_yes s n W hw hs hs2 h1 h3
  have hm : ((s.size : Int)).tdiv 2 = (n : Int) := by rw [Int.tdiv_eq_ediv_of_nonneg (by omega)]; omega
  go_enter Tryz.func45, Tryz.ntmps45
  go_wp2_with (go_at_call 94; ((with_reducible refine (hd _).mono ?_); rintro e w' ⟨rfl, rfl⟩))
  go_loopw [3, 5, 13] (fun u _ i wr => ∃ k : Nat, k ≤ n ∧ i = .int .i64 k ∧ OwR wr w.heap.size 3 1 u (repL s n k).length (ov (repL s n k)) ∧ Below w.heap.size w wr) (fun _ _ i _ => n - (intOf i).toNat)
  case atStart => exact ⟨0, Nat.zero_le _, rfl, World.ownsRow_nil _ _ _ _, Below.refl _ _⟩
  case round =>
    obtain ⟨k, hk, rfl, hown, hb⟩ := hrel
    by_cases hlt : k < n
    · obtain ⟨j, hj⟩ : ∃ j : Nat, j = k + n := ⟨_, rfl⟩
      have hadd : IntKind.i64.wrap ((k : Int) + (n : Int)) = (j : Int) := by rw [IntWalk.i64_in _ (by omega)]; omega
      have hks : k < s.size := by omega
      have hjs : j < s.size := by omega
      have q1 : (0 : Int) ≤ (k : Int) := by omega
      have q2 : (k : Int) < (s.size : Int) := by omega
      have q3 : (0 : Int) ≤ (j : Int) := by omega
      have q4 : (j : Int) < (s.size : Int) := by omega
      have hsn := repL_snoc s n k
      have hln := repL_len s n k
      have e1 : (L s)[k]? = some s[k] := by rw [getElem_L]; exact List.getElem?_eq_getElem _
      have e2 : (L s)[k + n]? = some s[j] := by subst hj; rw [getElem_L]; exact List.getElem?_eq_getElem _
      rw [e1, e2] at hsn
      have hz := hb.size
      by_cases he : s[k] = s[j]
      · have t1 : ((s[k].toNat : Int) == (s[j].toNat : Int)) = true := by simp [he]
        have HS : Hid (repL s n (k + 1) = repL s n k ++ [k]) := by
          show _ = _
          rw [hsn, he]; simp
        clear hsn e1 e2 he hj
        generalize hL : repL s n k = ls at *
        go_wp2_with fail
        go_quiet (fail)
        have hownq : OwR (wr.drewN nq) w.heap.size 3 1 u3 ls.length (ov ls) := hown.drewN nq
        have hbq := bel_drewN hb nq
        have hzq := hbq.size
        generalize wr.drewN nq = wq at *
        go_wp2_with (at_builtin; ((with_reducible refine wl_push 59 3 info_int Tryz.underlying59 rfl (by omega) hownq (by omega) rfl (by simp [Value.oneCell']) (by omega) (by omega) rfl rfl ?_); intro g cap w4 o4 b4 s4))
        go_roundw
        case rel =>
          refine ⟨k + 1, by omega, by go_num, ?_, hbq.trans b4⟩
          rw [HS.out, List.length_append, ov_append]
          exact o4
        case measure => simp [intOf]; omega
      · have t1 : ((s[k].toNat : Int) == (s[j].toNat : Int)) = false := by
          rw [beq_eq_false_iff_ne]
          exact fun h => he (UInt8.toNat.inj (by omega))
        have HS : Hid (repL s n (k + 1) = repL s n k) := by
          show _ = _
          rw [hsn]; simp [he]
        clear hsn e1 e2 he hj
        go_wp2_with fail
        go_quiet (fail)
        go_wp2
        go_roundw
        case rel => exact ⟨k + 1, by omega, by go_num, by rw [HS.out]; exact hown.drewN _, bel_drewN hb _⟩
        case measure => simp [intOf]; omega
    · have hk' : k = n := by omega
      subst hk'
      go_wp2
      go_ret
      exact ⟨_, rfl, hown, hb⟩
set_option maxRecDepth 100000 in
theorem l10Indicators_one (b cp : Nat) (s : ByteArray) (n : Nat) (w : World) (h : Own w b [.string s]) (hw : wordB s = true) (hs : s.size ≤ 2 * n) (hs2 : 2 * n ≤ s.size) (h1 : 1 ≤ n) (h3 : n ≤ 3) :
    Calls Tryz.prog 96 #[.slice (some ⟨b, 0, none⟩) 1 cp, .int .i64 0] w fun e w' => e = .returned (.bool true) ∧ Below w.heap.size w w' := by
  have hq := fun W => specWordValid_any s W (by omega)
  rw [hw] at hq
  have hm : ((s.size : Int)).tmod 2 = 0 := by rw [Int.tmod_eq_emod_of_nonneg (by omega)]; omega
  have hd : ((s.size : Int)).tdiv 2 = (n : Int) := by rw [Int.tdiv_eq_ediv_of_nonneg (by omega)]; omega
  have hsub : IntKind.i64.wrap ((n : Int) - 1) = (n : Int) - 1 := IntWalk.i64_in _ (by omega)
  have hin := fun W => l1In_any 0 0 ((n : Int) - 1) W
  rw [show (decide ((0 : Int) ≤ 0) && decide ((0 : Int) ≤ (n : Int) - 1)) = true by rw [Bool.and_eq_true, decide_eq_true_eq, decide_eq_true_eq]; omega] at hin
  have t2 : decide ((s.size : Int) ≤ 6) = true := decide_eq_true (by omega)
  have f0 := h.at_ (i := 0) rfl
  have lb := h.lt
  clear hw
  go_enter Tryz.func96, Tryz.ntmps96
  go_wp2_with fail
  go_loopw [6] (fun i wr => ∃ k : Nat, k ≤ 1 ∧ i = .int .i64 k ∧ Below w.heap.size w wr) (fun i _ => 1 - (intOf i).toNat)
  case atStart => exact ⟨0, Nat.zero_le _, rfl, Below.refl _ _⟩
  case round =>
    obtain ⟨k, hk, rfl, hb⟩ := hrel
    by_cases hlt : k < 1
    · have hk0 : k = 0 := by omega
      subst hk0
      have how := h.below hb lb
      have f1 := how.at_ (i := 0) rfl
      go_wp2_with (first | (go_at_call 78; ((with_reducible refine (hq _).mono ?_); rintro e w' ⟨rfl, rfl⟩)))
      go_roundw
      case rel => exact ⟨1, by omega, by go_num, hb⟩
      case measure => simp [intOf]
    · go_wp2_with (first | (go_at_call 109; ((with_reducible refine (hin _).mono ?_); rintro e w' ⟨rfl, rfl⟩)))
      go_ret
      exact ⟨by simp, hb⟩
set_option maxRecDepth 100000 in
theorem specRepeatPlaces_yes (s : ByteArray) (n : Nat) (w : World) (hw : wordB s = true) (hs : s.size ≤ 2 * n) (hs2 : 2 * n ≤ s.size) (h1 : 1 ≤ n) (h3 : n ≤ 3) :
    Calls Tryz.prog 48 #[.string s] w (RowPost 3 1 (repL s n n).length (ov (repL s n n)) w) := by
  have hm : ((s.size : Int)).tdiv 2 = (n : Int) := by rw [Int.tdiv_eq_ediv_of_nonneg (by omega)]; omega
  have z0 := World.ownsRow_lit (base := w.heap.size) (e := 3) (size := 1) w #[] 0 (Nat.le_refl _) (by unfold maxLen; omega) (by simp)
  have z1 := World.ownsRow.alloc z0 (.cells [.string s].toArray 9)
  have x1 := Own.new (w.alloc (.cells #[] 3)) [.string s] 9
  have hb1 := ((Below.refl w.heap.size w).alloc (Nat.le_refl _) (.cells #[] 3)).alloc (by simp) (.cells [.string s].toArray 9)
  rw [World.size_alloc] at x1
  go_enter Tryz.func48, Tryz.ntmps48
  go_wp2_with fail
  refine (l10Indicators_one _ _ s n _ x1 hw hs hs2 h1 h3).mono ?_
  rintro e w2 ⟨rfl, hb2⟩
  have z2 : OwR w2 w.heap.size 3 1 (.slice (some ⟨w.heap.size, 0, none⟩) 0 0) (repL s n 0).length (ov (repL s n 0)) := by
    have := OwR.below z1 hb2 (Nat.le_refl _)
    simpa [ov, repL] using this
  have hbw := bt hb1 hb2
  clear z0 z1 x1 hb1 hb2
  go_wp2_with fail
  go_loopw [3, 5] (fun u i wr => ∃ k : Nat, k ≤ n ∧ i = .int .i64 k ∧ OwR wr w.heap.size 3 1 u (repL s n k).length (ov (repL s n k)) ∧ Below w.heap.size w wr) (fun _ i _ => n - (intOf i).toNat)
  case atStart => exact ⟨0, Nat.zero_le _, rfl, z2, hbw⟩
  case round =>
    clear z2 hbw
    obtain ⟨k, hk, rfl, hown, hb⟩ := hrel
    by_cases hlt : k < n
    · obtain ⟨j, hj⟩ : ∃ j : Nat, j = k + n := ⟨_, rfl⟩
      have hadd : IntKind.i64.wrap ((k : Int) + (n : Int)) = (j : Int) := by rw [IntWalk.i64_in _ (by omega)]; omega
      have hks : k < s.size := by omega
      have hjs : j < s.size := by omega
      have q1 : (0 : Int) ≤ (k : Int) := by omega
      have q2 : (k : Int) < (s.size : Int) := by omega
      have q3 : (0 : Int) ≤ (j : Int) := by omega
      have q4 : (j : Int) < (s.size : Int) := by omega
      have hsn := repL_snoc s n k
      have hln := repL_len s n k
      have e1 : (L s)[k]? = some s[k] := by rw [getElem_L]; exact List.getElem?_eq_getElem _
      have e2 : (L s)[k + n]? = some s[j] := by subst hj; rw [getElem_L]; exact List.getElem?_eq_getElem _
      rw [e1, e2] at hsn
      have hz := hb.size
      by_cases he : s[k] = s[j]
      · have t1 : ((s[k].toNat : Int) == (s[j].toNat : Int)) = true := by simp [he]
        have HS : Hid (repL s n (k + 1) = repL s n k ++ [k]) := by
          show _ = _
          rw [hsn, he]; simp
        clear hsn e1 e2 he hj
        generalize hL : repL s n k = ls at *
        go_wp2_with fail
        go_quiet (fail)
        have hownq : OwR (wr.drewN nq) w.heap.size 3 1 u3 ls.length (ov ls) := hown.drewN nq
        have hbq := bel_drewN hb nq
        have hzq := hbq.size
        generalize wr.drewN nq = wq at *
        go_wp2_with (at_builtin; ((with_reducible refine wl_push 59 3 info_int Tryz.underlying59 rfl (by omega) hownq (by omega) rfl (by simp [Value.oneCell']) (by omega) (by omega) rfl rfl ?_); intro g cap w4 o4 b4 s4))
        go_roundw
        case rel =>
          refine ⟨k + 1, by omega, by go_num, ?_, hbq.trans b4⟩
          rw [HS.out, List.length_append, ov_append]
          exact o4
        case measure => simp [intOf]; omega
      · have t1 : ((s[k].toNat : Int) == (s[j].toNat : Int)) = false := by
          rw [beq_eq_false_iff_ne]
          exact fun h => he (UInt8.toNat.inj (by omega))
        have HS : Hid (repL s n (k + 1) = repL s n k) := by
          show _ = _
          rw [hsn]; simp [he]
        clear hsn e1 e2 he hj
        go_wp2_with fail
        go_quiet (fail)
        go_wp2
        go_roundw
        case rel => exact ⟨k + 1, by omega, by go_num, by rw [HS.out]; exact hown.drewN _, bel_drewN hb _⟩
        case measure => simp [intOf]; omega
    · have hk' : k = n := by omega
      subst hk'
      go_wp2
      go_ret
      exact ⟨_, rfl, hown, hb⟩
end Go.Proofs.YtbeohccbflhdiaaGreat
