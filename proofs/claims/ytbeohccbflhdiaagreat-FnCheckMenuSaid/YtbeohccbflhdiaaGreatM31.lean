/- Several of my texts in one: GrdS, DrawG, GrfW. -/
import Derived.Test.YtbeohccbflhdiaaGreatM30
import Derived.Test.YtbeohccbflhdiaaGreatM4
import Derived.Test.YtbeohccbflhdiaaGreatM22
import Derived.Test.YtbeohccbflhdiaaGreatM10
import Derived.Test.YtbeohccbflhdiaaGreatM6
import Derived.Test.YtbeohccbflhdiaaGreatM17
import Derived.Deep.AppendSrc
import Derived.Test.YtbeohccbflhdiaaGreatM16
/- The grounds with repeats in given places, of the reference. -/
namespace Go.Proofs.YtbeohccbflhdiaaGreat
open Go.RowKit

theorem fixS_yes {p : List Nat} (hp : IsP p) (h : fixB p = true) : (fixS (wd p)).size ≠ 0 := by
  unfold fixS
  rw [if_pos (permB_wd hp), dg_wd hp.lt, size_wd]
  intro e
  have h0 := (fixL_nil_iff p).1 (List.eq_nil_of_length_eq_zero e)
  obtain ⟨i, hi, he⟩ := fixB_iff.1 h
  exact h0 i hi he
theorem fixS_no {p : List Nat} (hp : IsP p) (h : fixB p = false) : fixS (wd p) = S [] := by
  unfold fixS
  rw [if_pos (permB_wd hp), dg_wd hp.lt]
  have h0 : fixL p = [] := (fixL_nil_iff p).2 fun i hi he => by
    rw [Bool.eq_false_iff] at h
    exact h (fixB_iff.2 ⟨i, hi, he⟩)
  rw [h0]; rfl
theorem at_prodG (m : Mach) (v : ByteArray) {n k : Nat} (h : k < n) : (sv (prodS m v n))[k]? = some (.string (wd (prodP m v k))) := by
  simp [sv, prodS, h]
set_option maxRecDepth 100000 in
theorem l11Has_any (a : Option Addr) (n c : Nat) (m : Mach) (g : ByteArray) (p : Nat) (w : World) (h : MachAt w w.heap.size a n m) (h1 : setB m g = true) (hp : p < g.size) :
    Calls Tryz.prog 110 #[.agg #[.slice a n c, .string m.wheels.refl, .string m.rings, .string m.plugs], .string g, .int .i64 (p : Int)] w fun e w' => e = .returned (.bool (fixB (prodP m g p))) ∧ Below w.heap.size w w' := by
  have hmb := setB_mach h1
  have hg3 := setB_3 h1
  have o0 := Own.new w [.slice a n c, .string m.wheels.refl, .string m.rings, .string m.plugs] 27
  have hb0 := (Below.refl w.heap.size w).alloc (Nat.le_refl _) (.cells [.slice a n c, .string m.wheels.refl, .string m.rings, .string m.plugs].toArray 27)
  have h' := h.alloc_ (.cells [.slice a n c, .string m.wheels.refl, .string m.rings, .string m.plugs].toArray 27)
  go_enter Tryz.func110, Tryz.ntmps110
  go_wp2_with fail
  refine (l10Products_any _ _ _ _ _ _ h' h1).mono ?_
  rintro e w2 ⟨lv, rfl, hol, hb2⟩
  obtain ⟨al, cl, rfl, hlc, -, hgl⟩ := hol.val
  rw [len_prodS] at *
  obtain ⟨gP, rfl, -, og⟩ := hgl.resolve_left (by omega)
  have hbw := bt hb0 hb2
  have c0 := og.at_ (at_prodG m g hp)
  have q1 : (0 : Int) ≤ (p : Int) := by omega
  have q2 : (p : Int) < (g.size : Int) := by omega
  have hpp := isP_prod hmb g p
  have hz : (wd (prodP m g p)).size ≤ 4294967296 := by rw [size_wd, hpp.len]; omega
  have n1 := fun W => specFixedLetters_any (wd (prodP m g p)) W hz
  clear o0 hb0 h' hb2 hol hgl og hz
  cases hf : fixB (prodP m g p) with
  | true =>
    have hs := ne_empty (fixS_yes hpp hf)
    have HF := Lib.hid hf
    clear hf
    generalize fixS (wd (prodP m g p)) = s at *
    generalize wd (prodP m g p) = y at *
    go_wp2_with (go_at_call 139; ((with_reducible refine (n1 _).mono ?_); rintro e w3 ⟨rfl, hb3⟩))
    go_ret
    exact ⟨ret_bool (by rw [HF.out]), bt hbw hb3⟩
  | false =>
    rw [fixS_no hpp hf] at n1
    have HF := Lib.hid hf
    clear hf
    generalize wd (prodP m g p) = y at *
    go_wp2_with (go_at_call 139; ((with_reducible refine (n1 _).mono ?_); rintro e w3 ⟨rfl, hb3⟩))
    go_ret
    exact ⟨ret_bool (by rw [HF.out, (is_empty (s := S []) (by rw [size_S]; rfl)).1]; rfl), bt hbw hb3⟩
set_option maxRecDepth 100000 in
theorem specHasRepeat_any (a : Option Addr) (n c : Nat) (m : Mach) (g : ByteArray) (p : Int) (w : World) (h : MachAt w w.heap.size a n m) (hg : g.size ≤ 4294967296) :
    Calls Tryz.prog 138 #[.agg #[.slice a n c, .string m.wheels.refl, .string m.rings, .string m.plugs], .string g, .int .i64 p] w fun e w' => e = .returned (.bool (hasB m g p)) ∧ Below w.heap.size w w' := by
  have o0 := Own.new w [.slice a n c, .string m.wheels.refl, .string m.rings, .string m.plugs] 27
  have hb0 := (Below.refl w.heap.size w).alloc (Nat.le_refl _) (.cells [.slice a n c, .string m.wheels.refl, .string m.rings, .string m.plugs].toArray 27)
  have h' := h.alloc_ (.cells [.slice a n c, .string m.wheels.refl, .string m.rings, .string m.plugs].toArray 27)
  have hsub : IntKind.i64.wrap ((g.size : Int) - 1) = (g.size : Int) - 1 := IntWalk.i64_in _ (by omega)
  have hin := fun W => l1In_any p 0 ((g.size : Int) - 1) W
  go_enter Tryz.func138, Tryz.ntmps138
  go_wp2_with fail
  refine (l8Fits_any _ _ _ _ _ _ h' hg).mono ?_
  rintro e w1 ⟨rfl, hb1⟩
  have o1 := o0.below hb1 o0.lt
  have hM := (h'.below hb1 (Nat.le_refl _)).more hb1.size
  have hb := bt hb0 hb1
  clear o0 h' hb0 hb1
  cases h1 : setB m g with
  | false =>
    have HM : Hid (hasB m g p = false) := by show _ = _; simp [hasB, h1]
    clear h1
    go_wp2
    go_ret
    exact ⟨ret_bool HM.out.symm, hb⟩
  | true =>
    have f0 := o1.at_ (i := 0) rfl
    have f1 := o1.at_ (i := 1) rfl
    have f2 := o1.at_ (i := 2) rfl
    have f3 := o1.at_ (i := 3) rfl
    by_cases hp : 0 ≤ p ∧ p < g.size
    · obtain ⟨k, rfl⟩ := Int.eq_ofNat_of_zero_le hp.1
      have hk : k < g.size := by omega
      rw [show (decide ((0 : Int) ≤ (k : Int)) && decide ((k : Int) ≤ (g.size : Int) - 1)) = true by rw [Bool.and_eq_true, decide_eq_true_eq, decide_eq_true_eq]; omega] at hin
      have HM := Lib.hid (hasB_in h1 hk)
      have n1 := l11Has_any a n c m g k w1 hM h1 hk
      clear hp h1
      go_wp2_with (first | (go_at_call 109; ((with_reducible refine (hin _).mono ?_); rintro e w' ⟨rfl, rfl⟩)) | (go_at_call 110; ((with_reducible refine (n1).mono ?_); rintro e w3 ⟨rfl, hb3⟩)))
      go_ret
      exact ⟨ret_bool HM.out.symm, bt hb hb3⟩
    · rw [show (decide ((0 : Int) ≤ p) && decide (p ≤ (g.size : Int) - 1)) = false by rw [Bool.eq_false_iff]; intro e; rw [Bool.and_eq_true, decide_eq_true_eq, decide_eq_true_eq] at e; exact hp (by omega)] at hin
      have HM := Lib.hid (hasB_out (m := m) hp)
      clear hp h1
      go_wp2_with (first | (go_at_call 109; ((with_reducible refine (hin _).mono ?_); rintro e w' ⟨rfl, rfl⟩)))
      go_ret
      exact ⟨ret_bool HM.out.symm, hb⟩
set_option maxRecDepth 100000 in
set_option maxHeartbeats 1000000 in
theorem l11All_any (a : Option Addr) (n c : Nat) (m : Mach) (g : ByteArray) (ap : Option Addr) (cp : Nat) (ps : List Int) (w : World) (h : MachAt w w.heap.size a n m) (hg : g.size ≤ 4294967296) (hr : Reads w w.heap.size ap (iv ps)) (hl : ps.length ≤ 4294967296) :
    Calls Tryz.prog 102 #[.agg #[.slice a n c, .string m.wheels.refl, .string m.rings, .string m.plugs], .string g, .slice ap ps.length cp] w fun e w' => e = .returned (.bool (allP m g ps)) ∧ Below w.heap.size w w' := by
  have o0 := Own.new w [.slice a n c, .string m.wheels.refl, .string m.rings, .string m.plugs] 27
  have hb0 := (Below.refl w.heap.size w).alloc (Nat.le_refl _) (.cells [.slice a n c, .string m.wheels.refl, .string m.rings, .string m.plugs].toArray 27)
  have h' := h.alloc_ (.cells [.slice a n c, .string m.wheels.refl, .string m.rings, .string m.plugs].toArray 27)
  have hr' := hr.alc (.cells [.slice a n c, .string m.wheels.refl, .string m.rings, .string m.plugs].toArray 27)
  go_enter Tryz.func102, Tryz.ntmps102
  go_wp2_with fail
  generalize (w.alloc (.cells [.slice a n c, .string m.wheels.refl, .string m.rings, .string m.plugs].toArray 27)) = W0 at *
  go_loopw [7] (fun i wr => ∃ k : Nat, k ≤ ps.length ∧ i = .int .i64 k ∧ (∀ j (hj : j < ps.length), j < k → hasB m g ps[j] = true) ∧ Own wr w.heap.size [.slice a n c, .string m.wheels.refl, .string m.rings, .string m.plugs] ∧ MachAt wr wr.heap.size a n m ∧ Reads wr wr.heap.size ap (iv ps) ∧ Below w.heap.size w wr) (fun i _ => ps.length - (intOf i).toNat)
  case atStart => exact ⟨0, Nat.zero_le _, rfl, fun _ _ h => absurd h (by omega), o0, h', hr', hb0⟩
  case round =>
    clear o0 h' hr' hb0 h hr
    obtain ⟨k, hk, rfl, ha, o0, h', hr', hb0⟩ := hrel
    have HA := Lib.hid ha
    clear ha
    by_cases hlt : k < ps.length
    · obtain ⟨b, off, rfl, hbl, hcl⟩ := hr'.open_ (by rw [length_iv]; omega)
      have c0 := hcl k (by rw [length_iv]; exact hlt)
      rw [iv_at hlt] at c0
      clear hcl
      have q1 : (0 : Int) ≤ (k : Int) := by omega
      have q2 : (k : Int) < (ps.length : Int) := by omega
      have HN := Lib.hid (fun h => allP_no (m := m) (g := g) hlt h)
      have HK := Lib.hid (fun (h : hasB m g ps[k] = true) j (hj : j < ps.length) (hj2 : j < k + 1) => show hasB m g ps[j] = true from by
        by_cases e : j = k
        · subst e; exact h
        · exact HA.out j hj (by omega))
      generalize hp : ps[k] = p at *
      clear hp
      have lo := o0.lt
      have d0 := fun (cc : Cls wr.heap.size wr) => (cc.cell w.heap.size 0 lo).trans (o0.at_ (i := 0) rfl)
      have d1 := fun (cc : Cls wr.heap.size wr) => (cc.cell w.heap.size 1 lo).trans (o0.at_ (i := 1) rfl)
      have d2 := fun (cc : Cls wr.heap.size wr) => (cc.cell w.heap.size 2 lo).trans (o0.at_ (i := 2) rfl)
      have d3 := fun (cc : Cls wr.heap.size wr) => (cc.cell w.heap.size 3 lo).trans (o0.at_ (i := 3) rfl)
      have d4 := fun (cc : Cls wr.heap.size wr) => (cc.cell b (off + k) hbl).trans c0
      have n1 := fun (cc : Cls wr.heap.size wr) => specHasRepeat_any a n c m g p cc.w ((h'.below cc.bel (Nat.le_refl _)).more cc.bel.size) hg
      clear c0
      cases hf : hasB m g p with
      | true =>
        rw [hf] at n1
        have HK2 := Lib.hid (HK.out hf)
        clear hf HN HK
        go_wp2_with fail
        refine wp_region_cls (by kernel_rfl) (by kernel_rfl) ?_
        repeat (go_big_quiet_step (first | (go_at_call 138; with_reducible exact cls_of (Nat.le_refl _) (n1 _))))
        refine wpQuiet_nil ?_
        intro wc hbc
        go_wp2
        go_roundw
        case rel => exact ⟨k + 1, by omega, by go_num, HK2.out, o0.below hbc lo, (h'.below hbc (Nat.le_refl _)).more hbc.size, (hr'.below hbc (Nat.le_refl _)).more hbc.size, bt hb0 hbc⟩
        case measure => simp [intOf]; omega
      | false =>
        rw [hf] at n1
        have HM := Lib.hid (HN.out hf)
        clear hf HN HK
        go_wp2_with fail
        refine wp_region_cls (by kernel_rfl) (by kernel_rfl) ?_
        repeat (go_big_quiet_step (first | (go_at_call 138; with_reducible exact cls_of (Nat.le_refl _) (n1 _))))
        refine wpQuiet_nil ?_
        intro wc hbc
        go_wp2
        go_ret
        exact ⟨ret_bool HM.out.symm, bt hb0 hbc⟩
    · have HM : Hid (allP m g ps = true) := Lib.hid (allP_yes fun j hj => HA.out j hj (by omega))
      go_wp2
      go_ret
      exact ⟨ret_bool HM.out.symm, hb0⟩
set_option maxRecDepth 100000 in
set_option maxHeartbeats 1000000 in
theorem l10Grounds_any (a : Option Addr) (n c : Nat) (m : Mach) (ag : Option Addr) (cg : Nat) (gs : List ByteArray) (w : World) (h : MachAt w w.heap.size a n m) (hr : Reads w w.heap.size ag (sv gs)) (hs : ∀ g ∈ gs, g.size ≤ 4294967296) (hl : gs.length ≤ 4294967296) :
    Calls Tryz.prog 101 #[.agg #[.slice a n c, .string m.wheels.refl, .string m.rings, .string m.plugs], .slice ag gs.length cg] w fun e w' => e = .returned (.bool (goodG m gs)) ∧ Below w.heap.size w w' := by
  have o0 := Own.new w [.slice a n c, .string m.wheels.refl, .string m.rings, .string m.plugs] 27
  have hb0 := (Below.refl w.heap.size w).alloc (Nat.le_refl _) (.cells [.slice a n c, .string m.wheels.refl, .string m.rings, .string m.plugs].toArray 27)
  have h' := h.alloc_ (.cells [.slice a n c, .string m.wheels.refl, .string m.rings, .string m.plugs].toArray 27)
  have hr' := hr.alc (.cells [.slice a n c, .string m.wheels.refl, .string m.rings, .string m.plugs].toArray 27)
  have HS := Lib.hid hs
  clear hs
  go_enter Tryz.func101, Tryz.ntmps101
  go_wp2_with fail
  generalize (w.alloc (.cells [.slice a n c, .string m.wheels.refl, .string m.rings, .string m.plugs].toArray 27)) = W0 at *
  go_loopw [5] (fun i wr => ∃ k : Nat, k ≤ gs.length ∧ i = .int .i64 k ∧ (∀ j (hj : j < gs.length), j < k → setB m gs[j] = true) ∧ Own wr w.heap.size [.slice a n c, .string m.wheels.refl, .string m.rings, .string m.plugs] ∧ MachAt wr wr.heap.size a n m ∧ Reads wr wr.heap.size ag (sv gs) ∧ Below w.heap.size w wr) (fun i _ => gs.length - (intOf i).toNat)
  case atStart => exact ⟨0, Nat.zero_le _, rfl, fun _ _ h => absurd h (by omega), o0, h', hr', hb0⟩
  case round =>
    clear o0 h' hr' hb0 h hr
    obtain ⟨k, hk, rfl, ha, o0, h', hr', hb0⟩ := hrel
    have HA := Lib.hid ha
    clear ha
    by_cases hlt : k < gs.length
    · obtain ⟨b, off, rfl, hbl, hcl⟩ := hr'.open_ (by rw [length_sv]; omega)
      have c0 := hcl k (by rw [length_sv]; exact hlt)
      rw [at_sv hlt] at c0
      clear hcl
      have q1 : (0 : Int) ≤ (k : Int) := by omega
      have q2 : (k : Int) < (gs.length : Int) := by omega
      have hgz := HS.out gs[k] (List.getElem_mem hlt)
      have HF : Hid (setB m gs[k] = false → goodG m gs = false) := Lib.hid (fun e => by
        rw [Bool.eq_false_iff]
        intro e2
        rw [goodG_set e2 _ (List.getElem_mem hlt)] at e
        cases e)
      have HK := Lib.hid (fun (h : setB m gs[k] = true) j (hj : j < gs.length) (hj2 : j < k + 1) => show setB m gs[j] = true from by
        by_cases e : j = k
        · subst e; exact h
        · exact HA.out j hj (by omega))
      generalize hp : gs[k] = g at *
      clear hp
      have lo := o0.lt
      have d0 := fun (cc : Cls wr.heap.size wr) => (cc.cell w.heap.size 0 lo).trans (o0.at_ (i := 0) rfl)
      have d1 := fun (cc : Cls wr.heap.size wr) => (cc.cell w.heap.size 1 lo).trans (o0.at_ (i := 1) rfl)
      have d2 := fun (cc : Cls wr.heap.size wr) => (cc.cell w.heap.size 2 lo).trans (o0.at_ (i := 2) rfl)
      have d3 := fun (cc : Cls wr.heap.size wr) => (cc.cell w.heap.size 3 lo).trans (o0.at_ (i := 3) rfl)
      have d4 := fun (cc : Cls wr.heap.size wr) => (cc.cell b (off + k) hbl).trans c0
      have n1 := fun (cc : Cls wr.heap.size wr) => l8Fits_any a n c m g cc.w ((h'.below cc.bel (Nat.le_refl _)).more cc.bel.size) hgz
      clear c0 hgz
      cases hf : setB m g with
      | true =>
        rw [hf] at n1
        have HK2 := Lib.hid (HK.out hf)
        clear hf HF HK
        go_wp2_with fail
        refine wp_region_cls (by kernel_rfl) (by kernel_rfl) ?_
        repeat (go_big_quiet_step (first | (go_at_call 77; with_reducible exact cls_of (Nat.le_refl _) (n1 _))))
        refine wpQuiet_nil ?_
        intro wc hbc
        go_wp2
        go_roundw
        case rel => exact ⟨k + 1, by omega, by go_num, HK2.out, o0.below hbc lo, (h'.below hbc (Nat.le_refl _)).more hbc.size, (hr'.below hbc (Nat.le_refl _)).more hbc.size, bt hb0 hbc⟩
        case measure => simp [intOf]; omega
      | false =>
        rw [hf] at n1
        have HM := Lib.hid (HF.out hf)
        clear hf HF HK
        go_wp2_with fail
        refine wp_region_cls (by kernel_rfl) (by kernel_rfl) ?_
        repeat (go_big_quiet_step (first | (go_at_call 77; with_reducible exact cls_of (Nat.le_refl _) (n1 _))))
        refine wpQuiet_nil ?_
        intro wc hbc
        go_wp2
        go_ret
        exact ⟨ret_bool HM.out.symm, bt hb0 hbc⟩
    · have HM : Hid (goodG m gs = (machB m && decide (gs.length ≤ 12))) := by
        show _ = _
        have : gs.all (setB m) = true := by
          rw [List.all_eq_true]
          intro x hx
          obtain ⟨j, hj, rfl⟩ := List.getElem_of_mem hx
          exact HA.out j hj (by omega)
        simp only [goodG, this, Bool.and_true]
      have f0 := o0.at_ (i := 0) rfl
      have f1 := o0.at_ (i := 1) rfl
      have f2 := o0.at_ (i := 2) rfl
      have f3 := o0.at_ (i := 3) rfl
      go_wp2_with fail
      refine (specMachineValid_any _ _ _ _ _ h').mono ?_
      rintro e w3 ⟨rfl, hb3⟩
      cases hm : machB m with
      | true =>
        have HM2 := HM.out
        rw [hm, Bool.true_and] at HM2
        have HM3 := Lib.hid HM2
        clear HM2 hm
        go_wp2
        go_ret
        exact ⟨ret_bool (by rw [HM3.out]; rw [Bool.eq_iff_iff, decide_eq_true_eq, decide_eq_true_eq]; omega), bt hb0 hb3⟩
      | false =>
        have HM2 := HM.out
        rw [hm, Bool.false_and] at HM2
        have HM3 := Lib.hid HM2
        clear HM2 hm
        go_wp2
        go_ret
        exact ⟨ret_bool HM3.out.symm, bt hb0 hb3⟩
set_option maxRecDepth 100000 in
set_option maxHeartbeats 1000000 in
theorem specGroundsWithRepeats_any (a : Option Addr) (n c : Nat) (m : Mach) (ag : Option Addr) (cg : Nat) (gs : List ByteArray) (ap : Option Addr) (cp : Nat) (ps : List Int) (w : World) (h : MachAt w w.heap.size a n m) (hr : Reads w w.heap.size ag (sv gs)) (hp : Reads w w.heap.size ap (iv ps)) (hs : ∀ g ∈ gs, g.size ≤ 4294967296) (hl : gs.length ≤ 4294967296) (hl2 : ps.length ≤ 4294967296) :
    Calls Tryz.prog 51 #[.agg #[.slice a n c, .string m.wheels.refl, .string m.rings, .string m.plugs], .slice ag gs.length cg, .slice ap ps.length cp] w (RowPost 9 1 (keepG m gs ps).length (sv (keepG m gs ps)) w) := by
  have o0 := (Own.new w [.slice a n c, .string m.wheels.refl, .string m.rings, .string m.plugs] 27).alloc (.cells #[] 9)
  have z0 := World.ownsRow_lit (base := w.heap.size + 1) (e := 9) (size := 1) (w.alloc (.cells [.slice a n c, .string m.wheels.refl, .string m.rings, .string m.plugs].toArray 27)) #[] 0 (by simp) (by unfold maxLen; omega) (by simp)
  have hb0 := ((Below.refl w.heap.size w).alloc (Nat.le_refl _) (.cells [.slice a n c, .string m.wheels.refl, .string m.rings, .string m.plugs].toArray 27)).alloc (by simp) (.cells #[] 9)
  have h' := h.below hb0 (Nat.le_refl _)
  have hr' := hr.below hb0 (Nat.le_refl _)
  have hp' := hp.below hb0 (Nat.le_refl _)
  have z1 : OwR ((w.alloc (.cells [.slice a n c, .string m.wheels.refl, .string m.rings, .string m.plugs].toArray 27)).alloc (.cells #[] 9)) (w.heap.size + 1) 9 1 (.slice (some ⟨w.heap.size + 1, 0, none⟩) 0 0) (keepN m gs ps 0).length (sv (keepN m gs ps 0)) := by
    simpa [sv, keepN_zero] using z0
  have HS := Lib.hid hs
  have HR := Lib.hid (fun (wr : World) (hb : Below w.heap.size w wr) => And.intro (h.below hb (Nat.le_refl _)) (And.intro (hr.below hb (Nat.le_refl _)) (hp.below hb (Nat.le_refl _))))
  clear h hr hp h' hr' hp' z0 hs
  go_enter Tryz.func51, Tryz.ntmps51
  go_wp2_with fail
  generalize ((w.alloc (.cells [.slice a n c, .string m.wheels.refl, .string m.rings, .string m.plugs].toArray 27)).alloc (.cells #[] 9)) = W0 at *
  go_loopw [7, 8] (fun u i wr => ∃ k : Nat, k ≤ gs.length ∧ i = .int .i64 k ∧ (k = 0 ∨ goodG m gs = true) ∧ OwR wr (w.heap.size + 1) 9 1 u (keepN m gs ps k).length (sv (keepN m gs ps k)) ∧ Own wr w.heap.size [.slice a n c, .string m.wheels.refl, .string m.rings, .string m.plugs] ∧ Below w.heap.size w wr) (fun _ i _ => gs.length - (intOf i).toNat)
  case atStart => exact ⟨0, Nat.zero_le _, rfl, .inl rfl, z1, o0, hb0⟩
  case round =>
    clear z1 o0 hb0
    obtain ⟨k, hk, rfl, hgood, hown, o0, hb0⟩ := hrel
    obtain ⟨hM, hr, hp⟩ := HR.out _ hb0
    have HG := Lib.hid hgood
    clear hgood
    by_cases hlt : k < gs.length
    · have f0 := o0.at_ (i := 0) rfl
      have f1 := o0.at_ (i := 1) rfl
      have f2 := o0.at_ (i := 2) rfl
      have f3 := o0.at_ (i := 3) rfl
      have hz := hb0.size
      go_wp2_with fail
      refine (l10Grounds_any _ _ _ _ _ _ _ _ (hM.more hz) (hr.more hz) HS.out hl).mono ?_
      rintro e w3 ⟨rfl, hb3⟩
      have o3 := o0.below hb3 o0.lt
      have own3 := OwR.below hown hb3 (Nat.le_refl _)
      have hbw3 := bt hb0 hb3
      clear o0 hown hb0 f0 f1 f2 f3 hb3 hz hM hr hp
      cases h1 : goodG m gs with
      | false =>
        have hk0 : k = 0 := by
          rcases HG.out with h | h
          · exact h
          · rw [h1] at h; cases h
        subst hk0
        have HE := Lib.hid (keepG_no h1 ps)
        clear h1
        go_wp2
        go_ret
        refine ⟨_, rfl, ?_, hbw3⟩
        rw [HE.out]
        exact World.ownsRow.mono own3 (Nat.le_succ _)
      | true =>
        have h12 := goodG_len h1
        have HGd := Lib.hid h1
        have hsz := HS.out gs[k] (List.getElem_mem hlt)
        clear h1 HG
        obtain ⟨hM, hr, hp⟩ := HR.out _ hbw3
        obtain ⟨b, off, rfl, hbl, hcl⟩ := hr.open_ (by rw [length_sv]; omega)
        have c0 := hcl k (by rw [length_sv]; exact hlt)
        rw [at_sv hlt] at c0
        clear hcl
        have q1 : (0 : Int) ≤ (k : Int) := by omega
        have q2 : (k : Int) < (gs.length : Int) := by omega
        have hz := hbw3.size
        have HK := Lib.hid (keepN_snoc (m := m) (ps := ps) hlt)
        have hlen := keepN_len m gs ps k
        have lo := o3.lt
        generalize hg : gs[k] = g at *
        clear hg
        generalize hL : keepN m gs ps k = ls at *
        clear hL
        have d0 := fun (cc : Cls w3.heap.size w3) => (cc.cell w.heap.size 0 lo).trans (o3.at_ (i := 0) rfl)
        have d1 := fun (cc : Cls w3.heap.size w3) => (cc.cell w.heap.size 1 lo).trans (o3.at_ (i := 1) rfl)
        have d2 := fun (cc : Cls w3.heap.size w3) => (cc.cell w.heap.size 2 lo).trans (o3.at_ (i := 2) rfl)
        have d3 := fun (cc : Cls w3.heap.size w3) => (cc.cell w.heap.size 3 lo).trans (o3.at_ (i := 3) rfl)
        have d4 := fun (cc : Cls w3.heap.size w3) => (cc.cell b (off + k) (by omega)).trans c0
        have n1 := fun (cc : Cls w3.heap.size w3) => l11All_any a n c m g ap cp ps cc.w ((hM.below cc.bel hz).more (Nat.le_trans hz cc.bel.size)) hsz ((hp.below cc.bel hz).more (Nat.le_trans hz cc.bel.size)) hl2
        clear c0
        cases hf : allP m g ps with
        | true =>
          rw [hf] at n1
          rw [hf, if_pos rfl] at HK
          clear hf
          go_wp2_with fail
          refine wp_region_cls (by kernel_rfl) (by kernel_rfl) ?_
          repeat (go_big_quiet_step (first | (go_at_call 102; with_reducible exact cls_of (Nat.le_refl _) (n1 _))))
          refine wpQuiet_nil ?_
          intro wc hbc
          have oc := o3.below hbc lo
          have ownc := OwR.below own3 hbc (Nat.le_refl _)
          have hbwc := bt hbw3 hbc
          have c1 : wc.cell? ⟨b, off + k, none⟩ = some (.string g) := d4 ⟨wc, hbc⟩
          have hzc := hbwc.size
          have loc := oc.lt
          clear d0 d1 d2 d3 d4 o3 own3 hbw3
          go_wp2_with (at_builtin; ((with_reducible refine wl_push 39 9 inf_str Tryz.underlying39 rfl (by omega) ownc (by omega) rfl (by simp [Value.oneCell']) (by omega) (by omega) rfl rfl ?_); intro g4 cap w4 o4 b4 s4))
          go_roundw
          case rel =>
            refine ⟨k + 1, by omega, by go_num, .inr HGd.out, ?_, oc.below b4 (Nat.lt_succ_self _), hbwc.trans (b4.mono (Nat.le_succ _))⟩
            rw [HK.out, List.length_append, sv_append]
            exact o4
          case measure => simp [intOf]; omega
        | false =>
          rw [hf] at n1
          rw [hf, if_neg (by simp)] at HK
          clear hf
          go_wp2_with fail
          refine wp_region_cls (by kernel_rfl) (by kernel_rfl) ?_
          repeat (go_big_quiet_step (first | (go_at_call 102; with_reducible exact cls_of (Nat.le_refl _) (n1 _))))
          refine wpQuiet_nil ?_
          intro wc hbc
          have oc := o3.below hbc lo
          have ownc := OwR.below own3 hbc (Nat.le_refl _)
          have hbwc := bt hbw3 hbc
          clear d0 d1 d2 d3 d4 o3 own3 hbw3
          go_wp2
          go_roundw
          case rel =>
            refine ⟨k + 1, by omega, by go_num, .inr HGd.out, ?_, oc, hbwc⟩
            rw [HK.out, List.append_nil]
            exact ownc
          case measure => simp [intOf]; omega
    · have hk' : k = gs.length := by omega
      subst hk'
      have HE : Hid (keepG m gs ps = keepN m gs ps gs.length) := by
        show _ = _
        rcases HG.out with h | h
        · have hn := List.eq_nil_of_length_eq_zero h
          subst hn
          unfold keepG
          split <;> rfl
        · exact keepG_yes h ps
      clear HG
      go_wp2
      go_ret
      refine ⟨_, rfl, ?_, hb0⟩
      rw [HE.out]
      exact World.ownsRow.mono hown (Nat.le_succ _)
end Go.Proofs.YtbeohccbflhdiaaGreat

/- A slice appended to a slice of the call's own; the grounds that are drawn. -/
namespace Go.Proofs.YtbeohccbflhdiaaGreat
open Go.RowKit

section
variable {P : Program} {ops : Array Oper} {rest : List Oper} {dst : Option Tmp} {ty : TypeId} {pos : String} {after : Array Edge} {a : Act} {w0 : World} {Q : Exit → Act → World → Prop}
/-- 'x = append(x, us...)', x of the call's own: what lay in x's row is still read there. -/
theorem wl_pushs (t e : TypeId) {s x : Operand} {z : Value} {sz bytes : Nat} (hinfo : (P.info? e).map (fun i => (i.zero, i.size, i.bytes)) = some (some z, sz, bytes)) (ht : P.underlying t = some (.slice e)) (hzs : z.cells.size = sz) (hsz : 0 < sz)
    {base n g0 cap0 m c : Nat} {ad : Addr} {xs us : List Value} (hown : OwR w0 base e sz (.slice (some ⟨g0, 0, none⟩) n cap0) n xs) (hb : base ≤ w0.heap.size) (hus : us.length = m * sz) (hnews : ∀ j u, us[j]? = some u → w0.cell? (ad.add j) = some u) (h1 : ∀ u ∈ us, u.oneCell' = true) (hm : 0 < m) (hn : n + m ≤ 1048576) (hby : bytes ≤ 1000)
    (hs : a.eval s = .slice (some ⟨g0, 0, none⟩) n cap0) (hx : a.eval x = .slice (some ad) m c)
    (h : ∀ g cap w', OwR w' base e sz (.slice (some ⟨g, 0, none⟩) (n + m) cap) (n + m) (xs ++ us) → Below base w0 w' → (∀ j u, xs[j]? = some u → w'.cell? ⟨g0, j, none⟩ = some u) → wpList P ops Q rest (a.put dst (.slice (some ⟨g, 0, none⟩) (n + m) cap)) w') :
    wpList P ops Q (⟨dst, .call { callee := .builtin .append, args := #[s, x], argTypes := #[t, t] }, ty, pos, after, none⟩ :: rest) a w0 := by
  obtain ⟨i0, hi0, hz0, hz1, hz2⟩ := info_parts hinfo
  have hbytes : (n + m) * bytes ≤ 140737488355328 := by
    have : (n + m) * bytes ≤ 1048576 * 1000 := Nat.mul_le_mul (by omega) hby
    omega
  obtain ⟨g, cap, w', hr, ho, hg, hat, hlt⟩ := run_append_lies (P := P) w0 t ty base e i0 z sz bytes ht hi0 hz0 hz1 hz2 hzs hsz _ n xs hown ad m c us hus hnews h1 hm (by unfold maxLen; omega) hbytes hb _ rfl
  have hx0 : OwR w0 base e sz (.slice (some ⟨g0, 0, none⟩) n cap0) n xs := hown
  have hown0 := OwR.own hx0
  have hkeep : g = g0 ∨ w'.heap[g0]? = w0.heap[g0]? := by
    rcases hown.2 with ⟨h0, _⟩ | ⟨g', cap', cur, hv, hgb, hh, hn', hm', hs', ht'⟩
    · cases h0
    · cases hv
      by_cases hroom : n + m ≤ cap0
      · left
        rcases hat with h2 | h2
        · simpa [Value.ownBlock] using h2.symm
        · have hfit : n * i0.size + us.length ≤ cur.size := by rw [hus, hs', hz1, ← Nat.add_mul]; exact Nat.mul_le_mul_right _ hroom
          have hr2 := run_append_room (P := P) w0 t ty e i0 ht hi0 g0 n cap0 cur hh ad m c us (by rw [hz1]; exact hus) hnews h1 hroom hfit
          rw [hr2] at hr
          cases hr; rfl
      · right
        have holds : ∀ j u, xs[j]? = some u → w0.cell? ((⟨g0, 0, none⟩ : Addr).add j) = some u := fun j u hu => by
          rw [add_none, Nat.zero_add, hown0.cell j (List.getElem?_eq_some_iff.1 hu).1]; exact hu
        have hr2 := run_append_grow (P := P) w0 t ty e i0 z ht hi0 hz0 ⟨g0, 0, none⟩ n cap0 xs (by rw [hz1]; exact hown.1) holds ad m c us (by rw [hz1]; exact hus) hnews (by omega) (by omega) (growslice_fits (by omega) (by rw [hz2]; exact hbytes))
        rw [hr2] at hr
        cases hr
        exact Below.heap_alloc w0.drew _ g0 hown0.lt
  have hbel : Below base w0 w' := (Below.refl base w0).grown hg hb (fun k hk => (World.ownsRow.lt hown k hk).1)
  refine wpList_plain rfl fun _ hK => ?_
  unfold Oper.wp execOp
  simp only [resolve, invoke, builtin, Sem.run_bind, Sem.run_pure, Result.andThen_ok, List.map_toArray, List.map_cons, List.map_nil, hs, hx, hr]
  refine hK _ _ (h g cap w' ho hbel fun j u hu => ?_)
  have hj := (List.getElem?_eq_some_iff.1 hu).1
  rcases hkeep with rfl | hk
  · have ho2 : OwR w' base e sz (.slice (some ⟨g, 0, none⟩) (n + m) cap) (n + m) (xs ++ us) := ho
    rw [(OwR.own ho2).cell j (by rw [List.length_append]; omega), List.getElem?_append_left hj]
    exact hu
  · rw [World.cell?_of_block (w := w0) hk, hown0.cell j hj]
    exact hu
end
theorem Moved.bel {R B : Nat} {a b c : World} (h : Moved R a b) (k : Below B b c) (hB : a.heap.size ≤ B) : Moved R a c :=
  ⟨k.os.trans h.os, k.tape.trans h.tape, k.output.trans h.output, Nat.le_trans h.size k.size, fun x hx hne => (k.block x (by omega)).trans (h.block x hx hne)⟩
/-- The grounds that are drawn. -/
def GrsP (R c : Nat) (w : World) (e : Ending) (w' : World) : Prop :=
  ∃ (gs : List ByteArray) (g cap : Nat), e = .returned (.slice (some ⟨g, 0, none⟩) gs.length cap) ∧ (∀ x ∈ gs, x.size ≤ 200) ∧ gs.length ≤ 13 ∧ OwR w' w.heap.size 9 1 (.slice (some ⟨g, 0, none⟩) gs.length cap) gs.length (sv gs) ∧ Rd w' R c ∧ Moved R w w'
theorem sv_one_cell (gs : List ByteArray) : ∀ u ∈ sv gs, u.oneCell' = true := by
  intro u hu
  simp only [sv, List.mem_map] at hu
  obtain ⟨x, -, rfl⟩ := hu
  rfl
set_option maxRecDepth 100000 in
set_option maxHeartbeats 1000000 in
theorem l10Some_any (R : Nat) (s : ByteArray) (c : Nat) (w : World) (h : Rd w R c) (hc : c ≤ 6000000) (hs : s.size ≤ 200) :
    Calls Tryz.prog 100 #[.pointer (some ⟨R, 0, none⟩), .string s] w (GrsP R (c + 900) w) := by
  have hlt := h.lt
  have z0 := World.ownsRow_lit (base := w.heap.size) (e := 9) (size := 1) w #[] 0 (Nat.le_refl _) (by unfold maxLen; omega) (by simp)
  have hr0 := h.alloc (.cells #[] 9)
  have hm0 := (Moved.refl R w).alloc (.cells #[] 9)
  go_enter Tryz.func100, Tryz.ntmps100
  go_wp2_with fail
  generalize hB0 : w.heap.size = B0 at *
  have HB0 := Lib.hid hB0
  clear hB0
  refine (pick_any R _ c _ hr0 (by omega) (by omega) (by omega)).mono ?_
  rintro e w1 ⟨v, rfl, hv0, hv1, _, hr1, hm1⟩
  have z1 : OwR w1 B0 9 1 (.slice (some ⟨B0, 0, none⟩) 0 0) 0 (sv []) := OwR.moved z0 hm1 hlt
  have hmw1 := hm0.trans hm1
  clear z0 hr0 hm0 hm1 hv1
  go_wp2_with fail
  go_loopw [5, 7] (fun u i wr => ∃ (k : Nat) (gs : List ByteArray) (g cap : Nat), k ≤ 4 ∧ i = .int .i64 k ∧ gs.length = k ∧ u = .slice (some ⟨g, 0, none⟩) k cap ∧ (∀ x ∈ gs, x.size ≤ 200) ∧ OwR wr B0 9 1 (.slice (some ⟨g, 0, none⟩) k cap) k (sv gs) ∧ Rd wr R (c + 1 + 200 * k) ∧ Moved R w wr) (fun _ i _ => 4 - (intOf i).toNat)
  case atStart => exact ⟨0, [], B0, 0, by omega, rfl, rfl, rfl, by simp, z1, hr1, hmw1⟩
  case round =>
    clear z1 hr1 hmw1
    obtain ⟨k, gs, g, cap, hk, rfl, hgl, rfl, hall, hown, hr, hm⟩ := hrel
    have HA := Lib.hid hall
    have HL := Lib.hid hgl
    clear hall hgl
    have hz : B0 ≤ wr.heap.size := by have := hm.size; rw [HB0.out] at this; exact this
    by_cases hk4 : k < 4
    · by_cases he : (k : Int) = v
      · have t0 : ((k : Int) == v) = true := by simp [he]
        clear he
        go_wp2_with (at_builtin; ((with_reducible refine wl_push 39 9 inf_str Tryz.underlying39 rfl (by omega) hown (by omega) rfl (by simp [Value.oneCell']) (by omega) (by omega) rfl rfl ?_); intro g4 cap4 w4 o4 b4 s4))
        go_roundw
        case rel =>
          refine ⟨k + 1, gs ++ [s], g4, cap4, by omega, by go_num, by rw [List.length_append, HL.out]; rfl, rfl, ?_, ?_, (hr.below b4 hlt).more (by omega), hm.bel b4 (by rw [HB0.out]; exact Nat.le_refl _)⟩
          · intro x hx
            rcases List.mem_append.1 hx with h1 | h1
            · exact HA.out x h1
            · rw [List.mem_singleton.1 h1]; exact hs
          · rw [sv_append]; exact o4
        case measure => simp [intOf]; omega
      · have t0 : ((k : Int) == v) = false := by rw [beq_eq_false_iff_ne]; exact he
        clear he
        go_wp2_with fail
        refine (l1Some_any R s.size _ _ hr (by omega) hs).mono ?_
        rintro e w2 ⟨y, hy, rfl, hr2, hm2⟩
        have own2 := OwR.moved hown hm2 hlt
        have hmw2 := hm.trans hm2
        have hz2 := hm2.size
        clear hown hr hm hm2
        go_wp2_with (at_builtin; ((with_reducible refine wl_push 39 9 inf_str Tryz.underlying39 rfl (by omega) own2 (by omega) rfl (by simp [Value.oneCell']) (by omega) (by omega) rfl rfl ?_); intro g4 cap4 w4 o4 b4 s4))
        go_roundw
        case rel =>
          refine ⟨k + 1, gs ++ [y], g4, cap4, by omega, by go_num, by rw [List.length_append, HL.out]; rfl, rfl, ?_, ?_, (hr2.below b4 hlt).more (by omega), hmw2.bel b4 (by rw [HB0.out]; exact Nat.le_refl _)⟩
          · intro x hx
            rcases List.mem_append.1 hx with h1 | h1
            · exact HA.out x h1
            · rw [List.mem_singleton.1 h1]
              have := hy.2
              omega
          · rw [sv_append]; exact o4
        case measure => simp [intOf]; omega
    · have hk' : k = 4 := by omega
      subst hk'
      go_wp2_with fail
      refine (pick_any R _ _ _ hr (by omega) (by omega) (by omega)).mono ?_
      rintro e w2 ⟨v2, rfl, hv2, _, _, hr2, hm2⟩
      have own2 := OwR.moved hown hm2 hlt
      have hmw2 := hm.trans hm2
      have hz2 := hm2.size
      clear hown hr hm hm2
      by_cases e0 : v2 = 0
      · have t0 : (v2 == 0) = true := by simp [e0]
        clear e0
        go_wp2_with (at_builtin; ((with_reducible refine wl_push 39 9 inf_str Tryz.underlying39 rfl (by omega) own2 (by omega) rfl (by simp [Value.oneCell']) (by omega) (by omega) rfl rfl ?_); intro g4 cap4 w4 o4 b4 s4))
        go_ret
        refine ⟨gs ++ [⟨#[97, 98, 99, 100]⟩], g4, cap4, by rw [List.length_append, HL.out]; rfl, ?_, by rw [List.length_append, HL.out]; decide, ?_, (hr2.below b4 hlt).more (by omega), hmw2.bel b4 (by rw [HB0.out]; exact Nat.le_refl _)⟩
        · intro x hx
          rcases List.mem_append.1 hx with h1 | h1
          · exact HA.out x h1
          · rw [List.mem_singleton.1 h1]; decide
        · rw [HB0.out, List.length_append, HL.out, sv_append]; exact o4
      · have t0 : (v2 == 0) = false := by rw [beq_eq_false_iff_ne]; exact e0
        clear e0
        by_cases e1 : v2 = 1
        · have t1 : (v2 == 1) = true := by simp [e1]
          clear e1
          have hn1 : ∀ j u, (sv gs)[j]? = some u → w2.cell? ((⟨g, 0, none⟩ : Addr).add j) = some u := fun j u hu => by
            rw [add_none, Nat.zero_add, (OwR.own own2).cell j (List.getElem?_eq_some_iff.1 hu).1]; exact hu
          have hl1 : (sv gs).length = 4 * 1 := by rw [length_sv, HL.out]
          go_wp2_with (first | (at_builtin; ((with_reducible refine wl_pushs 39 9 inf_str Tryz.underlying39 rfl (by omega) own2 (by omega) hl1 hn1 (sv_one_cell gs) (by omega) (by omega) (by omega) rfl rfl ?_); intro g5 cap5 w5 o5 b5 k5; have z5 := b5.size; have hn2 : ∀ j u, (sv gs)[j]? = some u → w5.cell? ((⟨g, 0, none⟩ : Addr).add j) = some u := fun j u hu => by rw [add_none, Nat.zero_add]; exact k5 j u hu)) | (at_builtin; ((with_reducible refine wl_pushs 39 9 inf_str Tryz.underlying39 rfl (by omega) o5 (by omega) hl1 hn2 (sv_one_cell gs) (by omega) (by omega) (by omega) rfl rfl ?_); intro g6 cap6 w6 o6 b6 k6; have z6 := b6.size)) | (at_builtin; ((with_reducible refine wl_push 39 9 inf_str Tryz.underlying39 rfl (by omega) o6 (by omega) rfl (by simp [Value.oneCell']) (by omega) (by omega) rfl rfl ?_); intro g7 cap7 w7 o7 b7 s7)))
          go_ret
          have hb7 := (b5.trans b6).trans b7
          refine ⟨gs ++ gs ++ gs ++ [s], g7, cap7, by simp only [List.length_append, HL.out]; rfl, ?_, by simp only [List.length_append, HL.out]; show 4 + 4 + 4 + 1 ≤ 13; decide, ?_, (hr2.below hb7 hlt).more (by omega), hmw2.bel hb7 (by rw [HB0.out]; exact Nat.le_refl _)⟩
          · intro x hx
            simp only [List.mem_append, List.mem_singleton] at hx
            rcases hx with ((h1 | h1) | h1) | h1
            · exact HA.out x h1
            · exact HA.out x h1
            · exact HA.out x h1
            · rw [h1]; exact hs
          · simp only [HB0.out, List.length_append, HL.out, sv_append]
            exact o7
        · have t1 : (v2 == 1) = false := by rw [beq_eq_false_iff_ne]; exact e1
          clear e1
          go_wp2
          go_ret
          exact ⟨gs, g, cap, by rw [HL.out]; rfl, HA.out, by rw [HL.out]; decide, by rw [HB0.out, HL.out]; exact own2, hr2.more (by omega), hmw2⟩
/-- A machine, grounds and places are drawn. -/
def DrawnG (w : World) (e : Ending) (w' : World) : Prop :=
  ∃ (m : Mach) (gs : List ByteArray) (ps : List Int) (a : Option Addr) (cap g gc p pc : Nat), DrawnM w m a w' ∧ (∀ x ∈ gs, x.size ≤ 200) ∧ gs.length ≤ 13 ∧ ps.length ≤ 3 ∧ ps.length ≤ pc ∧ Reads w' w'.heap.size (some ⟨g, 0, none⟩) (sv gs) ∧ Reads w' w'.heap.size (some ⟨p, 0, none⟩) (iv ps) ∧
    e = .returned (.tuple #[.agg #[.slice a m.wheels.rotors.length cap, .string m.wheels.refl, .string m.rings, .string m.plugs], .slice (some ⟨g, 0, none⟩) gs.length gc, .slice (some ⟨p, 0, none⟩) ps.length pc])
set_option maxRecDepth 100000 in
set_option maxHeartbeats 2000000 in
theorem DrawGroundsWithRepeats_any (a0 : Option Addr) (len cap : Nat) (zs : List Int) (w : World) (h : IsRow .u8 w a0 len cap zs) (hl : len ≤ 1048576) :
    Calls Tryz.prog 50 #[.slice a0 len cap] w (DrawnG w) := by
  have o0 := Own.new w [.slice none 0 0, .string ⟨#[]⟩, .string ⟨#[]⟩, .string ⟨#[]⟩] 27
  have hb0 := (Below.refl w.heap.size w).alloc (Nat.le_refl _) (.cells #[.slice none 0 0, .string ⟨#[]⟩, .string ⟨#[]⟩, .string ⟨#[]⟩] 27)
  go_enter Tryz.func50, Tryz.ntmps50
  go_wp2_with fail
  refine (l21Open_any a0 len cap zs _ (h.alloc_ _) hl).mono ?_
  rintro e w1 ⟨rfl, hr1, hb1⟩
  have o1 := o0.below hb1 o0.lt
  have hbw1 := bt hb0 hb1
  rw [World.size_alloc] at hr1
  clear o0 hb0 hb1 h
  go_wp2_with fail
  generalize hB0 : w.heap.size = B0 at *
  have HB0 := Lib.hid hB0
  clear hB0
  refine (l8Any_any (B0 + 1) 0 _ hr1 (by omega)).mono ?_
  rintro e w2 ⟨m, v, g, cp, hx, hset, rfl, hown2, hg, hr2, hm2⟩
  have l1 := hr1.lt
  have o2 := o1.grown hm2 (by simp)
  have hbw2 : Below B0 w w2 := hbw1.trans (hm2.toBelow (by omega) (by omega))
  have hv3 : v.size ≤ 3 := by rw [setB_len hset]; exact hx.2.1
  have hv1 : 1 ≤ v.size := by rw [setB_len hset]; exact hx.1
  clear o1 hr1 hbw1 hm2
  have p2 := (Own.new w2 [.slice (some ⟨g, 0, none⟩) m.wheels.rotors.length cp, .string m.wheels.refl, .string m.rings, .string m.plugs] 27).alloc (.cells #[] 3)
  have o2' := (o2.alloc (.cells [.slice (some ⟨g, 0, none⟩) m.wheels.rotors.length cp, .string m.wheels.refl, .string m.rings, .string m.plugs].toArray 27)).alloc (.cells #[] 3)
  have hr2' := (hr2.alloc (.cells [.slice (some ⟨g, 0, none⟩) m.wheels.rotors.length cp, .string m.wheels.refl, .string m.rings, .string m.plugs].toArray 27)).alloc (.cells #[] 3)
  have hown2' := World.ownsRow.alloc (World.ownsRow.alloc hown2 (.cells [.slice (some ⟨g, 0, none⟩) m.wheels.rotors.length cp, .string m.wheels.refl, .string m.rings, .string m.plugs].toArray 27)) (.cells #[] 3)
  have hbw2' := (hbw2.alloc (by have := o2.lt; omega) (.cells [.slice (some ⟨g, 0, none⟩) m.wheels.rotors.length cp, .string m.wheels.refl, .string m.rings, .string m.plugs].toArray 27)).alloc (by have := o2.lt; simp; omega) (.cells #[] 3)
  have z2 := World.ownsRow_lit (base := w2.heap.size + 1) (e := 3) (size := 1) (w2.alloc (.cells [.slice (some ⟨g, 0, none⟩) m.wheels.rotors.length cp, .string m.wheels.refl, .string m.rings, .string m.plugs].toArray 27)) #[] 0 (by simp) (by unfold maxLen; omega) (by simp)
  rw [World.size_alloc] at z2
  have l2 := o2.lt
  have lr2 := hr2.lt
  have lg := (World.ownsRow.lt hown2 g rfl).2
  go_wp2_with fail
  generalize ((w2.alloc (.cells [.slice (some ⟨g, 0, none⟩) m.wheels.rotors.length cp, .string m.wheels.refl, .string m.rings, .string m.plugs].toArray 27)).alloc (.cells #[] 3)) = W2 at *
  generalize w2.heap.size = B2 at *
  have q2 : OwR W2 (B2 + 1) 3 1 (.slice (some ⟨B2 + 1, 0, none⟩) 0 0) 0 (iv []) := z2
  clear o2 hr2 hown2 hbw2 z2
  refine (pick_any (B0 + 1) _ _ _ hr2' (by omega) (by omega) (by omega)).mono ?_
  rintro e w3 ⟨x, rfl, hx0, hx1, _, hr3, hm3⟩
  have o3 := o2'.grown hm3 (by simp)
  have p3 := p2.grown hm3 (by simp; omega)
  have q3 := OwR.moved q2 hm3 (by omega)
  have hown3 := OwR.movedR hown2' hm3 (by simp [Value.ownBlock]; omega)
  have hbw3 := hbw2'.trans (hm3.toBelow (by omega) (by have := o2'.lt; omega))
  clear o2' p2 q2 hown2' hbw2' hm3 hr2'
  obtain ⟨j, rfl⟩ := Int.eq_ofNat_of_zero_le hx0
  have hj2 : j ≤ 2 := by have := hx1 (by omega); omega
  clear hx0 hx1
  go_wp2_with fail
  go_loopw [8, 9] (fun u i wr => ∃ (j : Nat) (ps : List Int) (pg pc : Nat), i = .int .i64 j ∧ j ≤ 2 ∧ ps.length + j ≤ 2 ∧ u = .slice (some ⟨pg, 0, none⟩) ps.length pc ∧ OwR wr (B2 + 1) 3 1 (.slice (some ⟨pg, 0, none⟩) ps.length pc) ps.length (iv ps) ∧ Own wr B0 [.slice none 0 0, .string ⟨#[]⟩, .string ⟨#[]⟩, .string ⟨#[]⟩] ∧ Own wr B2 [.slice (some ⟨g, 0, none⟩) m.wheels.rotors.length cp, .string m.wheels.refl, .string m.rings, .string m.plugs] ∧ OwR wr (B0 + 1) 137 2 (.slice (some ⟨g, 0, none⟩) m.wheels.rotors.length cp) m.wheels.rotors.length (rvs m.wheels.rotors) ∧ Rd wr (B0 + 1) (700 - j) ∧ Below B0 w wr) (fun _ i _ => (intOf i).toNat)
  case atStart => exact ⟨j, [], B2 + 1, 0, rfl, hj2, by simp; exact hj2, rfl, q3, o3, p3, World.ownsRow.mono hown3 (by omega), hr3.more (by omega), hbw3⟩
  case round =>
    clear q3 o3 p3 hown3 hr3 hbw3 hj2
    obtain ⟨j, ps, pg, pc, rfl, hj2, hpl, rfl, q3, o3, p3, hown3, hr3, hbw3⟩ := hrel
    have l3 := p3.lt
    by_cases hj0 : 0 < j
    · go_wp2_with fail
      refine (pick_any (B0 + 1) _ _ _ hr3 (by omega) (by omega) (by omega)).mono ?_
      rintro e w4 ⟨x, rfl, _, _, _, hr4, hm4⟩
      have o4 := o3.grown hm4 (by simp)
      have p4 := p3.grown hm4 (by simp; omega)
      have q4 := OwR.moved q3 hm4 (by omega)
      have hown4 := OwR.movedR hown3 hm4 (by simp [Value.ownBlock]; omega)
      have hbw4 := hbw3.trans (hm4.toBelow (by omega) (by omega))
      have l4 := p4.lt
      clear o3 p3 q3 hown3 hbw3 hm4 hr3
      go_wp2_with (at_builtin; ((with_reducible refine wl_push 59 3 info_int Tryz.underlying59 rfl (by omega) q4 (by omega) rfl (by simp [Value.oneCell']) (by omega) (by omega) rfl rfl ?_); intro g5 cap5 w5 q5 b5 s5))
      go_roundw
      case rel =>
        refine ⟨j - 1, ps ++ [x], g5, cap5, by go_num, by omega, by rw [List.length_append]; simp; omega, by simp, ?_, o4.below b5 (by omega), p4.below b5 (by omega), OwR.same hown4 (b5.block g (by omega)), (hr4.below b5 (by omega)).more (by omega), hbw4.trans (b5.mono (by omega))⟩
        simp only [List.length_append, List.length_cons, List.length_nil]
        rw [show iv (ps ++ [x]) = iv ps ++ [.int .i64 x] by simp [iv]]
        exact q5
      case measure => simp [intOf]; omega
    · have hj0' : j = 0 := by omega
      subst hj0'
      go_wp2_with fail
      refine (pick_any (B0 + 1) _ _ _ hr3 (by omega) (by omega) (by omega)).mono ?_
      rintro e w4 ⟨x, rfl, _, _, _, hr4, hm4⟩
      have o4 := o3.grown hm4 (by simp)
      have p4 := p3.grown hm4 (by simp; omega)
      have q4 := OwR.moved q3 hm4 (by omega)
      have hown4 := OwR.movedR hown3 hm4 (by simp [Value.ownBlock]; omega)
      have hbw4 := hbw3.trans (hm4.toBelow (by omega) (by omega))
      have l4 := p4.lt
      clear o3 p3 q3 hown3 hbw3 hm4 hr3
      go_upto_if 33 with (fail)
      go_cut [8] (fun u wr => ∃ (ps : List Int) (pg pc : Nat), ps.length ≤ 3 ∧ u = .slice (some ⟨pg, 0, none⟩) ps.length pc ∧ OwR wr (B2 + 1) 3 1 (.slice (some ⟨pg, 0, none⟩) ps.length pc) ps.length (iv ps) ∧ Own wr B0 [.slice none 0 0, .string ⟨#[]⟩, .string ⟨#[]⟩, .string ⟨#[]⟩] ∧ Own wr B2 [.slice (some ⟨g, 0, none⟩) m.wheels.rotors.length cp, .string m.wheels.refl, .string m.rings, .string m.plugs] ∧ OwR wr (B0 + 1) 137 2 (.slice (some ⟨g, 0, none⟩) m.wheels.rotors.length cp) m.wheels.rotors.length (rvs m.wheels.rotors) ∧ Rd wr (B0 + 1) 720 ∧ Below B0 w wr)
      case first =>
        by_cases e0 : x = 0
        · have t0 : (x == 0) = true := by simp [e0]
          clear e0
          have o5 := o4.alloc (.cells [.int .i64 (-1), .int .i64 3].toArray 3)
          have p5 := p4.alloc (.cells [.int .i64 (-1), .int .i64 3].toArray 3)
          have hr5 := hr4.alloc (.cells [.int .i64 (-1), .int .i64 3].toArray 3)
          have q5 := World.ownsRow.alloc q4 (.cells [.int .i64 (-1), .int .i64 3].toArray 3)
          have hown5 := World.ownsRow.alloc hown4 (.cells [.int .i64 (-1), .int .i64 3].toArray 3)
          have hbw5 := hbw4.alloc (by omega) (.cells [.int .i64 (-1), .int .i64 3].toArray 3)
          go_wp2_with fail
          refine (num_any (B0 + 1) _ _ _ [-1, 3] _ _ rfl (Own.new _ _ _) (by simp) (by omega) hr5 (by omega) (by simp)).mono ?_
          rintro e w6 ⟨y, -, rfl, hr6, hm6⟩
          have o6 := o5.grown hm6 (by simp)
          have p6 := p5.grown hm6 (by simp; omega)
          have q6 := OwR.moved q5 hm6 (by omega)
          have hown6 := OwR.movedR hown5 hm6 (by simp [Value.ownBlock]; omega)
          have hbw6 := hbw5.trans (hm6.toBelow (by omega) (by simp; omega))
          have l6 := p6.lt
          clear o5 p5 q5 hown5 hbw5 hm6 hr5 o4 p4 q4 hown4 hbw4 hr4
          go_wp2_with (at_builtin; ((with_reducible refine wl_push 59 3 info_int Tryz.underlying59 rfl (by omega) q6 (by omega) rfl (by simp [Value.oneCell']) (by omega) (by omega) rfl rfl ?_); intro g7 cap7 w7 q7 b7 s7))
          go_meet
          refine ⟨ps ++ [y], g7, cap7, by rw [List.length_append]; simp; omega, by simp, ?_, o6.below b7 (by omega), p6.below b7 (by omega), OwR.same hown6 (b7.block g (by omega)), (hr6.below b7 (by omega)).more (by omega), hbw6.trans (b7.mono (by omega))⟩
          simp only [List.length_append, List.length_cons, List.length_nil]
          rw [show iv (ps ++ [y]) = iv ps ++ [.int .i64 y] by simp [iv]]
          exact q7
        · have t0 : (x == 0) = false := by simp [e0]
          clear e0
          go_wp2_with fail
          go_meet
          exact ⟨ps, pg, pc, by omega, rfl, q4, o4, p4, hown4, hr4.more (by omega), hbw4⟩
      case rest =>
        clear q4 o4 p4 hown4 hr4 hbw4 l4 hj2 hpl
        obtain ⟨ps, pg, pc, hpl, rfl, q4, o4, p4, hown4, hr4, hbw4⟩ := hcut
        have f0 := p4.at_ (i := 0) rfl
        have f1 := p4.at_ (i := 1) rfl
        have f2 := p4.at_ (i := 2) rfl
        have f3 := p4.at_ (i := 3) rfl
        have lw := p4.lt
        have x4 := OwR.own q4
        have hpc : ps.length ≤ pc := by obtain ⟨_, c', h1, h2, -⟩ := OwR.val q4; cases h1; exact h2
        have hpg : B2 + 1 ≤ pg := (World.ownsRow.lt q4 pg rfl).1
        clear q4
        go_wp2_with fail
        refine (l8Bad_any (B0 + 1) g cp _ m v _ _ hr4 (by omega) hx hset hown4 (by omega)).mono ?_
        rintro e w6 ⟨m6, a6, cap6, hm6, rfl, hrd6, hbl6, hr6, ht6⟩
        have o6 := o4.tu ht6 (by omega) (by omega)
        have x6 := x4.tu ht6 (by omega) (by omega)
        have z4 := o4.lt
        have hbw6 := hbw4.trans (ht6.toBelow (by omega) (by omega) (by omega))
        have hbl : ∀ ad, a6 = some ad → B0 + 1 < ad.block := fun ad h => by
          have h1 := hbl6 ad h
          omega
        have HBL := Lib.hid hbl
        have HM := Lib.hid hm6
        clear f0 f1 f2 f3 p4 x4 o4 hr4 hown4 hbw4 ht6 hm6 hbl6 hbl z4
        go_wp2_with fail
        refine (l10Some_any (B0 + 1) v _ _ hr6 (by omega) (by omega)).mono ?_
        rintro e w9 ⟨gs, gg, gc, rfl, hgs, hgl, hgo, hr9, hm9⟩
        have z6 := o6.lt
        have o9 := o6.grown hm9 (by simp)
        have x9 := x6.grown hm9 (by simp; omega)
        have hbw9 := hbw6.trans (hm9.toBelow (by omega) (by omega))
        have hrd9 := Reads.moved hrd6 hm9 (fun ad h => by have := HBL.out ad h; omega) (Nat.le_refl _)
        have hgg : w6.heap.size ≤ gg := (World.ownsRow.lt hgo gg rfl).1
        have y9 := OwR.own hgo
        have HGS := Lib.hid hgs
        clear o6 x6 hrd6 hr6 hbw6 hm9 hgs hgo
        have HRD := Lib.hid hrd9
        clear hrd9
        have c0 := o9.at_ (i := 0) rfl
        have c1 := o9.at_ (i := 1) rfl
        have c2 := o9.at_ (i := 2) rfl
        have c3 := o9.at_ (i := 3) rfl
        have b0 := o9.free 0 (by simp)
        have b1 := o9.free 1 (by simp)
        have b2 := o9.free 2 (by simp)
        have b3 := o9.free 3 (by simp)
        go_wp2
        have oz := o9.set4 (.slice a6 m6.wheels.rotors.length cap6) (.string m6.wheels.refl) (.string m6.rings) (.string m6.plugs)
        have k0 := oz.at_ (i := 0) rfl
        have k1 := oz.at_ (i := 1) rfl
        have k2 := oz.at_ (i := 2) rfl
        have k3 := oz.at_ (i := 3) rfl
        refine bodyPost_ret (v := .tuple #[.agg #[.slice a6 m6.wheels.rotors.length cap6, .string m6.wheels.refl, .string m6.rings, .string m6.plugs], .slice (some ⟨gg, 0, none⟩) gs.length gc, .slice (some ⟨pg, 0, none⟩) ps.length pc]) (by unfold set4 at *; simp [results, Tryz.results50, go_sem, k0, k1, k2, k3]) rfl ?_
        refine ⟨m6, gs, ps, a6, cap6, gg, gc, pg, pc, ⟨HM.out, ?_, ?_, ?_⟩, HGS.out, hgl, hpl, hpc, ?_, ?_, rfl⟩
        · show Reads (set4 w9 B0 _ _ _ _) (set4 w9 B0 _ _ _ _).heap.size _ _
          rw [size_set4]
          exact HRD.out.set4 (fun ad h => by have := HBL.out ad h; omega) _ _ _ _
        · intro ad h
          rw [HB0.out]
          have := HBL.out ad h; omega
        · rw [HB0.out]
          exact bel_set4 hbw9 (Nat.le_refl _) _ _ _ _
        · show Reads (set4 w9 B0 _ _ _ _) (set4 w9 B0 _ _ _ _).heap.size _ _
          rw [size_set4]
          exact (Reads.of_own y9 y9.lt).set4 (fun ad h => by cases h; simp only; omega) _ _ _ _
        · show Reads (set4 w9 B0 _ _ _ _) (set4 w9 B0 _ _ _ _).heap.size _ _
          rw [size_set4]
          exact (Reads.of_own x9 x9.lt).set4 (fun ad h => by cases h; simp only; omega) _ _ _ _
end Go.Proofs.YtbeohccbflhdiaaGreat

/- The walk of the law that more places keep fewer grounds. -/
namespace Go.Proofs.YtbeohccbflhdiaaGreat
open Go.RowKit

theorem take_filter_yes {P : ByteArray → Bool} {l : List ByteArray} {k : Nat} (hk : k < l.length) (h : P l[k] = true) :
    ((l.take k).filter P).length < (l.filter P).length ∧ (l.filter P)[((l.take k).filter P).length]? = some l[k] ∧ ((l.take (k + 1)).filter P).length = ((l.take k).filter P).length + 1 := by
  have e1 : l.take (k + 1) = l.take k ++ [l[k]] := List.take_succ_eq_append_getElem hk
  have e2 : l.filter P = (l.take k).filter P ++ (l[k] :: (l.drop (k + 1)).filter P) := by
    conv => lhs; rw [← List.take_append_drop k l, List.drop_eq_getElem_cons hk, List.filter_append, List.filter_cons, if_pos h]
  refine ⟨by rw [e2]; simp, ?_, by rw [e1, List.filter_append]; simp [h]⟩
  rw [e2, List.getElem?_append_right (Nat.le_refl _)]
  simp
theorem take_filter_no {P : ByteArray → Bool} {l : List ByteArray} {k : Nat} (hk : k < l.length) (h : P l[k] = false) :
    (∀ x, (l.filter P)[((l.take k).filter P).length]? = some x → x ≠ l[k]) ∧ ((l.take (k + 1)).filter P).length = ((l.take k).filter P).length := by
  have e1 : l.take (k + 1) = l.take k ++ [l[k]] := List.take_succ_eq_append_getElem hk
  refine ⟨fun x hx e => ?_, by rw [e1, List.filter_append]; simp [h]⟩
  have hm := List.mem_of_getElem? hx
  rw [e, List.mem_filter] at hm
  rw [hm.2] at h
  cases h
theorem allP_tail {m : Mach} {g : ByteArray} {ps : List Int} (h : allP m g ps = true) : allP m g ps.tail = true := by
  simp only [allP, List.all_eq_true] at h ⊢
  exact fun x hx => h x (List.mem_of_mem_tail hx)
theorem keepG_tail (m : Mach) (gs : List ByteArray) (ps : List Int) : keepG m gs ps = (keepG m gs ps.tail).filter fun g => allP m g ps := by
  unfold keepG
  split
  · simp only [keepN, List.take_length, List.filter_filter]
    congr 1
    funext g
    cases e : allP m g ps
    · rfl
    · rw [allP_tail e]; rfl
  · rfl
theorem iv_tail (ps : List Int) : iv ps.tail = (iv ps).tail := by cases ps <;> rfl
theorem Reads.tail1 {w : World} {B p : Nat} {xs : List Value} (h : Reads w B (some ⟨p, 0, none⟩) xs) : Reads w B (some ⟨p, 1, none⟩) xs.tail := by
  rcases h with h | ⟨b, off, he, hb, hc⟩
  · exact .inl (by rw [h]; rfl)
  · cases he
    refine .inr ⟨p, 1, rfl, hb, fun i hi => ?_⟩
    have := hc (i + 1) (by rw [List.length_tail] at hi; omega)
    rw [List.getElem?_tail, ← this]
    congr 2
    omega
/-- What the drawn machine and lists are, at a world. -/
structure GAt (w : World) (B : Nat) (a : Option Addr) (cap : Nat) (m : Mach) (g p : Nat) (gs : List ByteArray) (ps : List Int) : Prop where
  box : Own w B [.slice a m.wheels.rotors.length cap, .string m.wheels.refl, .string m.rings, .string m.plugs]
  mach : MachAt w w.heap.size a m.wheels.rotors.length m
  grs : Reads w w.heap.size (some ⟨g, 0, none⟩) (sv gs)
  pls : Reads w w.heap.size (some ⟨p, 0, none⟩) (iv ps)
theorem GAt.below {w w' : World} {B : Nat} {a : Option Addr} {cap : Nat} {m : Mach} {g p : Nat} {gs : List ByteArray} {ps : List Int} (h : GAt w B a cap m g p gs ps) (hb : Below w.heap.size w w') : GAt w' B a cap m g p gs ps :=
  ⟨h.box.below hb h.box.lt, (h.mach.below hb (Nat.le_refl _)).more hb.size, (h.grs.below hb (Nat.le_refl _)).more hb.size, (h.pls.below hb (Nat.le_refl _)).more hb.size⟩
theorem Reads.up1 {w w' : World} {a : Option Addr} {xs : List Value} (h : Reads w w.heap.size a xs) (hb : Below w.heap.size w w') : Reads w' w'.heap.size a xs := (h.below hb (Nat.le_refl _)).more hb.size
theorem bel_drewN1 (w : World) (n : Nat) : Below w.heap.size w (w.drewN n) := bel_drewN (Below.refl _ _) n

set_option maxRecDepth 100000 in
set_option maxHeartbeats 4000000 in
theorem groundsRepeatsFewer_walk (a : Option Addr) (len cap : Nat) (zs : List Int) (w : World) (h : IsRow .u8 w a len cap zs) :
    Calls Tryz.prog 11 #[.slice a len cap] w fun e w' => e = .returned (.bool true) ∧ Below w.heap.size w w' := by
  have hlen : len ≤ 9223372036854775807 := by
    rcases h with ⟨_, rfl, _⟩ | ⟨x, _, hl, hm, _⟩
    · omega
    · unfold maxLen at hm; omega
  by_cases hl : 1048576 < len
  · go_enter Tryz.func11, Tryz.ntmps11
    go_wp2
    go_ret
    exact ⟨rfl, Below.refl _ _⟩
  · go_enter Tryz.func11, Tryz.ntmps11
    go_wp2_with fail
    refine (DrawGroundsWithRepeats_any a len cap zs _ h (by omega)).mono ?_
    rintro e w1 ⟨m, gs, ps, a1, cap1, gg, gc, pg, pc, ⟨hsm, hrd, -, hb1⟩, hgs, hgl, hpl, hpc, hgr, hpr, rfl⟩
    have o1 := Own.new w1 [.slice a1 m.wheels.rotors.length cap1, .string m.wheels.refl, .string m.rings, .string m.plugs] 27
    have hb1' := hb1.alloc hb1.size (.cells [.slice a1 m.wheels.rotors.length cap1, .string m.wheels.refl, .string m.rings, .string m.plugs].toArray 27)
    have A1 : GAt (w1.alloc (.cells [.slice a1 m.wheels.rotors.length cap1, .string m.wheels.refl, .string m.rings, .string m.plugs].toArray 27)) w1.heap.size a1 cap1 m gg pg gs ps :=
      ⟨o1, (hsm.at_ hrd).alloc_ _, hgr.alc _, hpr.alc _⟩
    have HGS : Hid (∀ x ∈ gs, x.size ≤ 4294967296) := Lib.hid (fun x hx => by have := hgs x hx; omega)
    clear hrd hb1 h o1 hgs hgr hpr hsm
    go_wp2_with fail
    generalize (w1.alloc (.cells [.slice a1 m.wheels.rotors.length cap1, .string m.wheels.refl, .string m.rings, .string m.plugs].toArray 27)) = W1 at *
    generalize w1.heap.size = B1 at *
    refine (implGroundsWithRepeats_any a1 _ cap1 m _ gc gs _ pc ps _ A1.mach A1.grs A1.pls HGS.out (by omega) (by omega)).mono ?_
    rintro e w2 ⟨lv, rfl, hol, hb2⟩
    have A2 := A1.below hb2
    have hbw2 := bt hb1' hb2
    obtain ⟨al, cl, rfl, hlc, hrl, -⟩ := hol.val
    have HKT := Lib.hid (keepG_tail m gs ps)
    have HKL : Hid ((keepG m gs ps).length ≤ 13) := Lib.hid (by
      unfold keepG
      split
      · have := keepN_len m gs ps gs.length; omega
      · simp)
    clear A1 hb1' hb2 hol
    have hsp := fun W h1 h2 h3 => specGroundsWithRepeats_any a1 m.wheels.rotors.length cap1 m (some ⟨gg, 0, none⟩) gc gs (some ⟨pg, 0, none⟩) pc ps W h1 h2 h3 HGS.out (by omega) (by omega)
    generalize hK : keepG m gs ps = K at *
    have HK := Lib.hid hK
    clear hK
    have hkl := HKL.out
    have f0 := A2.box.at_ (i := 0) rfl
    have f1 := A2.box.at_ (i := 1) rfl
    have f2 := A2.box.at_ (i := 2) rfl
    have f3 := A2.box.at_ (i := 3) rfl
    go_wp2_with fail
    refine (hsp _ A2.mach A2.grs A2.pls).mono ?_
    rintro e w3 ⟨lv, rfl, hol, hb3⟩
    obtain ⟨al3, cl3, rfl, hlc3, hrl3, -⟩ := hol.val
    have A3 := A2.below hb3
    have hbw3 := bt hbw2 hb3
    have hrlb := hrl.up1 hb3
    clear A2 hbw2 hrl f0 f1 f2 f3 hol hb3
    go_wp2_with fail
    have hrt := rcTexts_any al al3 cl cl3 K K w3 hrlb hrl3 (by omega)
    rw [decide_eq_true rfl] at hrt
    refine hrt.mono ?_
    rintro e w' ⟨rfl, n4, rfl⟩
    have hb4 := bel_drewN1 w3 n4
    have A4 := A3.below hb4
    have hbw4 := bt hbw3 hb4
    have hrl4 := hrlb.up1 hb4
    clear A3 hbw3 hrlb hb4 hrl3 hrt
    generalize w3.drewN n4 = w4 at *
    have f0 := A4.box.at_ (i := 0) rfl
    have f1 := A4.box.at_ (i := 1) rfl
    have f2 := A4.box.at_ (i := 2) rfl
    have f3 := A4.box.at_ (i := 3) rfl
    by_cases hp0 : ps.length = 0
    · have t0 : ((ps.length : Int) == 0) = true := by simp [hp0]
      clear hp0
      go_wp2_with fail
      refine (hsp _ A4.mach A4.grs A4.pls).mono ?_
      rintro e w5 ⟨lv, rfl, hol, hb5⟩
      obtain ⟨al5, cl5, rfl, hlc5, hrl5, -⟩ := hol.val
      have hbw5 := bt hbw4 hb5
      have hrlb := hrl4.up1 hb5
      clear A4 hbw4 hrl4 f0 f1 f2 f3 hol hb5
      go_wp2_with fail
      have hrt := rcTexts_any al al5 cl cl5 K K w5 hrlb hrl5 (by omega)
      rw [decide_eq_true rfl] at hrt
      refine hrt.mono ?_
      rintro e w' ⟨rfl, n6, rfl⟩
      go_wp2
      go_ret
      exact ⟨rfl, bel_drewN hbw5 n6⟩
    · have t0 : ((ps.length : Int) == 0) = false := by rw [beq_eq_false_iff_ne]; omega
      have t1 : decide (ps.length = 0) = false := by simp [hp0]
      have hr2 : Reads w4 w4.heap.size (some ⟨pg, 1, none⟩) (iv ps.tail) := by rw [iv_tail]; exact A4.pls.tail1
      obtain ⟨j, hj⟩ : ∃ j, ps.length = j + 1 := ⟨ps.length - 1, by omega⟩
      have htl : ps.tail.length = j := by rw [List.length_tail]; omega
      have n1 := fun (ap : Option Addr) (cp : Nat) W h1 h2 h3 => implGroundsWithRepeats_any a1 m.wheels.rotors.length cap1 m (some ⟨gg, 0, none⟩) gc gs ap cp ps.tail W h1 h2 h3 HGS.out (by omega) (by omega)
      rw [htl] at n1
      have HFL : Hid ((keepG m gs ps.tail).length ≤ 13) := Lib.hid (by
        unfold keepG
        split
        · have := keepN_len m gs ps.tail gs.length; omega
        · simp)
      generalize keepG m gs ps.tail = F at *
      have HT0 : Hid (j = 0 → iv ps.tail = []) := Lib.hid (fun h0 => by
        have : ps.tail = [] := List.eq_nil_of_length_eq_zero (by omega)
        rw [this]; rfl)
      have HJ := Lib.hid hj
      generalize hT : ps.tail = T at *
      clear hT f0 f1 f2 f3
      have lo := A4.box.lt
      have d0 := fun (cc : Cls w4.heap.size w4) => (cc.cell B1 0 lo).trans (A4.box.at_ (i := 0) rfl)
      have d1 := fun (cc : Cls w4.heap.size w4) => (cc.cell B1 1 lo).trans (A4.box.at_ (i := 1) rfl)
      have d2 := fun (cc : Cls w4.heap.size w4) => (cc.cell B1 2 lo).trans (A4.box.at_ (i := 2) rfl)
      have d3 := fun (cc : Cls w4.heap.size w4) => (cc.cell B1 3 lo).trans (A4.box.at_ (i := 3) rfl)
      have q1 : (1 : Int) ≤ (ps.length : Int) := by omega
      have q2 : (ps.length : Int) ≤ (pc : Int) := by omega
      go_wp2_with fail
      refine wp_region_cls_tail 4 (by kernel_rfl) (by kernel_rfl) ?_
      simp only [List.take_succ_cons, List.take_zero, List.drop_succ_cons, List.drop_zero]
      repeat (go_big_quiet_step (first | fail))
      refine wpQuiet_nil ?_
      intro wc hbc
      have A5 := A4.below hbc
      have hbw5 := bt hbw4 hbc
      have hrl5 := hrl4.up1 hbc
      have hr5 := hr2.up1 hbc
      have HR5 : Hid (j = 0 → Reads wc wc.heap.size (some ⟨pg, 0, none⟩) (iv T)) := Lib.hid (fun h0 => .inl (HT0.out h0))
      clear A4 hbw4 hrl4 d0 d1 d2 d3 lo hr2
      go_wp2_with fail
      all_goals
        refine (n1 _ _ _ A5.mach A5.grs (by first | exact hr5 | exact HR5.out (by omega))).mono ?_
        rintro e w6 ⟨lv, rfl, hol, hb6⟩
        obtain ⟨af, cf, rfl, hlcf, hrf, -⟩ := hol.val
        have hbw6 := bt hbw5 hb6
        have hrl6 := hrl5.up1 hb6
        have hkl := HKL.out
        have hfl := HFL.out
        clear A5 hbw5 hrl5 hol hb6 hr5
        go_wp2_with fail
        go_loopw [8, 9] (fun n i wr => ∃ (k c : Nat), k ≤ F.length ∧ i = .int .i64 k ∧ n = .int .i64 c ∧ c = ((F.take k).filter fun g => allP m g ps).length ∧ Reads wr wr.heap.size al (sv K) ∧ Reads wr wr.heap.size af (sv F) ∧ Below w.heap.size w wr) (fun _ i _ => F.length - (intOf i).toNat)
        case atStart => exact ⟨0, 0, Nat.zero_le _, rfl, rfl, rfl, hrl6, hrf, hbw6⟩
        case round =>
          clear hrl6 hrf hbw6
          obtain ⟨k, c, hk, rfl, rfl, hc, hrl6, hrf, hbw6⟩ := hrel
          have HC := Lib.hid hc
          clear hc
          by_cases hlt : k < F.length
          · obtain ⟨b, off, rfl, hbl, hcl⟩ := hrf.open_ (by rw [length_sv]; omega)
            have c0 := hcl k (by rw [length_sv]; exact hlt)
            rw [at_sv hlt] at c0
            clear hcl
            have q3 : (0 : Int) ≤ (k : Int) := by omega
            have q4 : (k : Int) < (F.length : Int) := by omega
            cases hP : allP m F[k] ps with
            | true =>
              obtain ⟨e1, e2, e3⟩ := take_filter_yes (P := fun g => allP m g ps) hlt hP
              rw [← HC.out, ← HKT.out] at e1 e2
              rw [← HC.out] at e3
              obtain ⟨b2, off2, rfl, hbl2, hcl2⟩ := hrl6.open_ (by rw [length_sv]; omega)
              have c1 := hcl2 c (by rw [length_sv]; exact e1)
              rw [show (sv K)[c]? = some (.string F[k]) by simp [sv, e2]] at c1
              have HE3 := Lib.hid e3
              clear hcl2 e2 e3 hP
              have q5 : (c : Int) < (K.length : Int) := by omega
              have q6 : (0 : Int) ≤ (c : Int) := by omega
              generalize F[k] = y at *
              go_wp2_with fail
              go_quiet (fail)
              go_wp2
              go_roundw
              case rel => exact ⟨k + 1, c + 1, by omega, by go_num, by go_num, HE3.out.symm, hrl6, hrf, bel_drewN hbw6 _⟩
              case measure => simp [intOf]; omega
            | false =>
              obtain ⟨e2, e3⟩ := take_filter_no (P := fun g => allP m g ps) hlt hP
              rw [← HC.out, ← HKT.out] at e2
              rw [← HC.out] at e3
              have HE3 := Lib.hid e3
              clear e3 hP
              by_cases hcK : c < K.length
              · obtain ⟨b2, off2, rfl, hbl2, hcl2⟩ := hrl6.open_ (by rw [length_sv]; omega)
                have c1 := hcl2 c (by rw [length_sv]; exact hcK)
                rw [at_sv hcK] at c1
                have hne := e2 K[c] (List.getElem?_eq_getElem hcK)
                clear hcl2 e2
                have q5 : (c : Int) < (K.length : Int) := by omega
                have q6 : (0 : Int) ≤ (c : Int) := by omega
                generalize F[k] = y at *
                generalize K[c] = z at *
                have te : (y.toList == z.toList) = false := by
                  rw [beq_eq_false_iff_ne]; intro e; exact hne (L_inj (by rw [← toList_L, ← toList_L, e]))
                clear hne
                go_wp2_with fail
                go_quiet (fail)
                go_wp2
                go_roundw
                case rel => exact ⟨k + 1, c, by omega, by go_num, rfl, HE3.out.symm, hrl6, hrf, bel_drewN hbw6 _⟩
                case measure => simp [intOf]; omega
              · have q5 : decide ((c : Int) < (K.length : Int)) = false := decide_eq_false (by omega)
                clear e2
                generalize F[k] = y at *
                go_wp2_with fail
                go_quiet (fail)
                go_wp2
                go_roundw
                case rel => exact ⟨k + 1, c, by omega, by go_num, rfl, HE3.out.symm, hrl6, hrf, bel_drewN hbw6 _⟩
                case measure => simp [intOf]; omega
          · have hk' : k = F.length := by omega
            subst hk'
            have hcc := HC.out
            rw [List.take_length, ← HKT.out] at hcc
            have hle : K.length ≤ F.length := by
              have := List.length_filter_le (fun g => allP m g ps) F
              rw [← HKT.out] at this; exact this
            have t2 : ((c : Int) == (K.length : Int)) = true := by rw [beq_iff_eq]; omega
            have t3 : decide ((K.length : Int) ≤ (F.length : Int)) = true := decide_eq_true (by omega)
            clear hcc
            go_wp2
            go_ret
            exact ⟨ret_bool (by simp), hbw6⟩
end Go.Proofs.YtbeohccbflhdiaaGreat
