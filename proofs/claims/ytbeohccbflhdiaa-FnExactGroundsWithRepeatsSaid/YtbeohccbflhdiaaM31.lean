/- Several of my texts in one: GrdS, DrawG, GrfW. -/
import Derived.Test.YtbeohccbflhdiaaM30
import Derived.Test.YtbeohccbflhdiaaM4
import Derived.Test.YtbeohccbflhdiaaM22
import Derived.Test.YtbeohccbflhdiaaM10
import Derived.Test.YtbeohccbflhdiaaM6
import Derived.Test.YtbeohccbflhdiaaM17
import Derived.Deep.AppendSrc
import Derived.Test.YtbeohccbflhdiaaM16
/- The grounds with repeats in given places, of the reference. -/
namespace Go.Proofs.Ytbeohccbflhdiaa
open Go.RowKit

theorem fixS_yes {p : List Nat} (hp : IsP p) (h : fixB p = true) : (fixS (wd p)).size ≠ 0 := by
  unfold fixS
  rw [if_pos (permB_wd hp), dg_wd hp.lt, size_wd]
  intro e
  have h0 := (fixL_nil_iff p).1 (List.eq_nil_of_length_eq_zero e)
  obtain ⟨i, hi, he⟩ := fixB_iff.1 h
  exact h0 i hi he
theorem fixS_no {p : List Nat} (hp : IsP p) (h : fixB p = false) : fixS (wd p) = S [] := by
  unfold fixS
  rw [if_pos (permB_wd hp), dg_wd hp.lt]
  have h0 : fixL p = [] := (fixL_nil_iff p).2 fun i hi he => by
    rw [Bool.eq_false_iff] at h
    exact h (fixB_iff.2 ⟨i, hi, he⟩)
  rw [h0]; rfl
theorem at_prodG (m : Mach) (v : ByteArray) {n k : Nat} (h : k < n) : (sv (prodS m v n))[k]? = some (.string (wd (prodP m v k))) := by
  simp [sv, prodS, h]
set_option maxRecDepth 100000 in
theorem l11Has_any (a : Option Addr) (n c : Nat) (m : Mach) (g : ByteArray) (p : Nat) (w : World) (h : MachAt w w.heap.size a n m) (h1 : setB m g = true) (hp : p < g.size) :
    Calls Try.prog 104 #[.agg #[.slice a n c, .string m.wheels.refl, .string m.rings, .string m.plugs], .string g, .int .i64 (p : Int)] w fun e w' => e = .returned (.bool (fixB (prodP m g p))) ∧ Below w.heap.size w w' := by
  have hmb := setB_mach h1
  have hg3 := setB_3 h1
  have o0 := Own.new w [.slice a n c, .string m.wheels.refl, .string m.rings, .string m.plugs] 27
  have hb0 := (Below.refl w.heap.size w).alloc (Nat.le_refl _) (.cells [.slice a n c, .string m.wheels.refl, .string m.rings, .string m.plugs].toArray 27)
  have h' := h.alloc_ (.cells [.slice a n c, .string m.wheels.refl, .string m.rings, .string m.plugs].toArray 27)
  go_enter Try.func104, Try.ntmps104
  go_wp2_with fail
  refine (l10Products_any _ _ _ _ _ _ h' h1).mono ?_
  rintro e w2 ⟨lv, rfl, hol, hb2⟩
  obtain ⟨al, cl, rfl, hlc, -, hgl⟩ := hol.val
  rw [len_prodS] at *
  obtain ⟨gP, rfl, -, og⟩ := hgl.resolve_left (by omega)
  have hbw := bt hb0 hb2
  have c0 := og.at_ (at_prodG m g hp)
  have q1 : (0 : Int) ≤ (p : Int) := by omega
  have q2 : (p : Int) < (g.size : Int) := by omega
  have hpp := isP_prod hmb g p
  have hz : (wd (prodP m g p)).size ≤ 4294967296 := by rw [size_wd, hpp.len]; omega
  have n1 := fun W => specFixedLetters_any (wd (prodP m g p)) W hz
  clear o0 hb0 h' hb2 hol hgl og hz
  cases hf : fixB (prodP m g p) with
  | true =>
    have hs := ne_empty (fixS_yes hpp hf)
    have HF := Lib.hid hf
    clear hf
    generalize fixS (wd (prodP m g p)) = s at *
    generalize wd (prodP m g p) = y at *
    go_wp2_with (go_at_call 121; ((with_reducible refine (n1 _).mono ?_); rintro e w3 ⟨rfl, hb3⟩))
    go_ret
    exact ⟨ret_bool (by rw [HF.out]), bt hbw hb3⟩
  | false =>
    rw [fixS_no hpp hf] at n1
    have HF := Lib.hid hf
    clear hf
    generalize wd (prodP m g p) = y at *
    go_wp2_with (go_at_call 121; ((with_reducible refine (n1 _).mono ?_); rintro e w3 ⟨rfl, hb3⟩))
    go_ret
    exact ⟨ret_bool (by rw [HF.out, (is_empty (s := S []) (by rw [size_S]; rfl)).1]; rfl), bt hbw hb3⟩
set_option maxRecDepth 100000 in
theorem specHasRepeat_any (a : Option Addr) (n c : Nat) (m : Mach) (g : ByteArray) (p : Int) (w : World) (h : MachAt w w.heap.size a n m) (hg : g.size ≤ 4294967296) :
    Calls Try.prog 71 #[.agg #[.slice a n c, .string m.wheels.refl, .string m.rings, .string m.plugs], .string g, .int .i64 p] w fun e w' => e = .returned (.bool (hasB m g p)) ∧ Below w.heap.size w w' := by
  have o0 := Own.new w [.slice a n c, .string m.wheels.refl, .string m.rings, .string m.plugs] 27
  have hb0 := (Below.refl w.heap.size w).alloc (Nat.le_refl _) (.cells [.slice a n c, .string m.wheels.refl, .string m.rings, .string m.plugs].toArray 27)
  have h' := h.alloc_ (.cells [.slice a n c, .string m.wheels.refl, .string m.rings, .string m.plugs].toArray 27)
  have hsub : IntKind.i64.wrap ((g.size : Int) - 1) = (g.size : Int) - 1 := IntWalk.i64_in _ (by omega)
  have hin := fun W => l1In_any p 0 ((g.size : Int) - 1) W
  go_enter Try.func71, Try.ntmps71
  go_wp2_with fail
  refine (l8Fits_any _ _ _ _ _ _ h' hg).mono ?_
  rintro e w1 ⟨rfl, hb1⟩
  have o1 := o0.below hb1 o0.lt
  have hM := (h'.below hb1 (Nat.le_refl _)).more hb1.size
  have hb := bt hb0 hb1
  clear o0 h' hb0 hb1
  cases h1 : setB m g with
  | false =>
    have HM : Hid (hasB m g p = false) := by show _ = _; simp [hasB, h1]
    clear h1
    go_wp2
    go_ret
    exact ⟨ret_bool HM.out.symm, hb⟩
  | true =>
    have f0 := o1.at_ (i := 0) rfl
    have f1 := o1.at_ (i := 1) rfl
    have f2 := o1.at_ (i := 2) rfl
    have f3 := o1.at_ (i := 3) rfl
    by_cases hp : 0 ≤ p ∧ p < g.size
    · obtain ⟨k, rfl⟩ := Int.eq_ofNat_of_zero_le hp.1
      have hk : k < g.size := by omega
      rw [show (decide ((0 : Int) ≤ (k : Int)) && decide ((k : Int) ≤ (g.size : Int) - 1)) = true by rw [Bool.and_eq_true, decide_eq_true_eq, decide_eq_true_eq]; omega] at hin
      have HM := Lib.hid (hasB_in h1 hk)
      have n1 := l11Has_any a n c m g k w1 hM h1 hk
      clear hp h1
      go_wp2_with (first | (go_at_call 37; ((with_reducible refine (hin _).mono ?_); rintro e w' ⟨rfl, rfl⟩)) | (go_at_call 104; ((with_reducible refine (n1).mono ?_); rintro e w3 ⟨rfl, hb3⟩)))
      go_ret
      exact ⟨ret_bool HM.out.symm, bt hb hb3⟩
    · rw [show (decide ((0 : Int) ≤ p) && decide (p ≤ (g.size : Int) - 1)) = false by rw [Bool.eq_false_iff]; intro e; rw [Bool.and_eq_true, decide_eq_true_eq, decide_eq_true_eq] at e; exact hp (by omega)] at hin
      have HM := Lib.hid (hasB_out (m := m) hp)
      clear hp h1
      go_wp2_with (first | (go_at_call 37; ((with_reducible refine (hin _).mono ?_); rintro e w' ⟨rfl, rfl⟩)))
      go_ret
      exact ⟨ret_bool HM.out.symm, hb⟩
set_option maxRecDepth 100000 in
set_option maxHeartbeats 1000000 in
theorem l11All_any (a : Option Addr) (n c : Nat) (m : Mach) (g : ByteArray) (ap : Option Addr) (cp : Nat) (ps : List Int) (w : World) (h : MachAt w w.heap.size a n m) (hg : g.size ≤ 4294967296) (hr : Reads w w.heap.size ap (iv ps)) (hl : ps.length ≤ 4294967296) :
    Calls Try.prog 44 #[.agg #[.slice a n c, .string m.wheels.refl, .string m.rings, .string m.plugs], .string g, .slice ap ps.length cp] w fun e w' => e = .returned (.bool (allP m g ps)) ∧ Below w.heap.size w w' := by
  have o0 := Own.new w [.slice a n c, .string m.wheels.refl, .string m.rings, .string m.plugs] 27
  have hb0 := (Below.refl w.heap.size w).alloc (Nat.le_refl _) (.cells [.slice a n c, .string m.wheels.refl, .string m.rings, .string m.plugs].toArray 27)
  have h' := h.alloc_ (.cells [.slice a n c, .string m.wheels.refl, .string m.rings, .string m.plugs].toArray 27)
  have hr' := hr.alc (.cells [.slice a n c, .string m.wheels.refl, .string m.rings, .string m.plugs].toArray 27)
  go_enter Try.func44, Try.ntmps44
  go_wp2_with fail
  generalize (w.alloc (.cells [.slice a n c, .string m.wheels.refl, .string m.rings, .string m.plugs].toArray 27)) = W0 at *
  go_loopw [7] (fun i wr => ∃ k : Nat, k ≤ ps.length ∧ i = .int .i64 k ∧ (∀ j (hj : j < ps.length), j < k → hasB m g ps[j] = true) ∧ Own wr w.heap.size [.slice a n c, .string m.wheels.refl, .string m.rings, .string m.plugs] ∧ MachAt wr wr.heap.size a n m ∧ Reads wr wr.heap.size ap (iv ps) ∧ Below w.heap.size w wr) (fun i _ => ps.length - (intOf i).toNat)
  case atStart => exact ⟨0, Nat.zero_le _, rfl, fun _ _ h => absurd h (by omega), o0, h', hr', hb0⟩
  case round =>
    clear o0 h' hr' hb0 h hr
    obtain ⟨k, hk, rfl, ha, o0, h', hr', hb0⟩ := hrel
    have HA := Lib.hid ha
    clear ha
    by_cases hlt : k < ps.length
    · obtain ⟨b, off, rfl, hbl, hcl⟩ := hr'.open_ (by rw [length_iv]; omega)
      have c0 := hcl k (by rw [length_iv]; exact hlt)
      rw [iv_at hlt] at c0
      clear hcl
      have q1 : (0 : Int) ≤ (k : Int) := by omega
      have q2 : (k : Int) < (ps.length : Int) := by omega
      have HN := Lib.hid (fun h => allP_no (m := m) (g := g) hlt h)
      have HK := Lib.hid (fun (h : hasB m g ps[k] = true) j (hj : j < ps.length) (hj2 : j < k + 1) => show hasB m g ps[j] = true from by
        by_cases e : j = k
        · subst e; exact h
        · exact HA.out j hj (by omega))
      generalize hp : ps[k] = p at *
      clear hp
      have lo := o0.lt
      have d0 := fun (cc : Cls wr.heap.size wr) => (cc.cell w.heap.size 0 lo).trans (o0.at_ (i := 0) rfl)
      have d1 := fun (cc : Cls wr.heap.size wr) => (cc.cell w.heap.size 1 lo).trans (o0.at_ (i := 1) rfl)
      have d2 := fun (cc : Cls wr.heap.size wr) => (cc.cell w.heap.size 2 lo).trans (o0.at_ (i := 2) rfl)
      have d3 := fun (cc : Cls wr.heap.size wr) => (cc.cell w.heap.size 3 lo).trans (o0.at_ (i := 3) rfl)
      have d4 := fun (cc : Cls wr.heap.size wr) => (cc.cell b (off + k) hbl).trans c0
      have n1 := fun (cc : Cls wr.heap.size wr) => specHasRepeat_any a n c m g p cc.w ((h'.below cc.bel (Nat.le_refl _)).more cc.bel.size) hg
      clear c0
      cases hf : hasB m g p with
      | true =>
        rw [hf] at n1
        have HK2 := Lib.hid (HK.out hf)
        clear hf HN HK
        go_wp2_with fail
        refine wp_region_cls (by kernel_rfl) (by kernel_rfl) ?_
        repeat (go_big_quiet_step (first | (go_at_call 71; with_reducible exact cls_of (Nat.le_refl _) (n1 _))))
        refine wpQuiet_nil ?_
        intro wc hbc
        go_wp2
        go_roundw
        case rel => exact ⟨k + 1, by omega, by go_num, HK2.out, o0.below hbc lo, (h'.below hbc (Nat.le_refl _)).more hbc.size, (hr'.below hbc (Nat.le_refl _)).more hbc.size, bt hb0 hbc⟩
        case measure => simp [intOf]; omega
      | false =>
        rw [hf] at n1
        have HM := Lib.hid (HN.out hf)
        clear hf HN HK
        go_wp2_with fail
        refine wp_region_cls (by kernel_rfl) (by kernel_rfl) ?_
        repeat (go_big_quiet_step (first | (go_at_call 71; with_reducible exact cls_of (Nat.le_refl _) (n1 _))))
        refine wpQuiet_nil ?_
        intro wc hbc
        go_wp2
        go_ret
        exact ⟨ret_bool HM.out.symm, bt hb0 hbc⟩
    · have HM : Hid (allP m g ps = true) := Lib.hid (allP_yes fun j hj => HA.out j hj (by omega))
      go_wp2
      go_ret
      exact ⟨ret_bool HM.out.symm, hb0⟩
set_option maxRecDepth 100000 in
set_option maxHeartbeats 1000000 in
theorem l10Grounds_any (a : Option Addr) (n c : Nat) (m : Mach) (ag : Option Addr) (cg : Nat) (gs : List ByteArray) (w : World) (h : MachAt w w.heap.size a n m) (hr : Reads w w.heap.size ag (sv gs)) (hs : ∀ g ∈ gs, g.size ≤ 4294967296) (hl : gs.length ≤ 4294967296) :
    Calls Try.prog 43 #[.agg #[.slice a n c, .string m.wheels.refl, .string m.rings, .string m.plugs], .slice ag gs.length cg] w fun e w' => e = .returned (.bool (goodG m gs)) ∧ Below w.heap.size w w' := by
  have o0 := Own.new w [.slice a n c, .string m.wheels.refl, .string m.rings, .string m.plugs] 27
  have hb0 := (Below.refl w.heap.size w).alloc (Nat.le_refl _) (.cells [.slice a n c, .string m.wheels.refl, .string m.rings, .string m.plugs].toArray 27)
  have h' := h.alloc_ (.cells [.slice a n c, .string m.wheels.refl, .string m.rings, .string m.plugs].toArray 27)
  have hr' := hr.alc (.cells [.slice a n c, .string m.wheels.refl, .string m.rings, .string m.plugs].toArray 27)
  have HS := Lib.hid hs
  clear hs
  go_enter Try.func43, Try.ntmps43
  go_wp2_with fail
  generalize (w.alloc (.cells [.slice a n c, .string m.wheels.refl, .string m.rings, .string m.plugs].toArray 27)) = W0 at *
  go_loopw [5] (fun i wr => ∃ k : Nat, k ≤ gs.length ∧ i = .int .i64 k ∧ (∀ j (hj : j < gs.length), j < k → setB m gs[j] = true) ∧ Own wr w.heap.size [.slice a n c, .string m.wheels.refl, .string m.rings, .string m.plugs] ∧ MachAt wr wr.heap.size a n m ∧ Reads wr wr.heap.size ag (sv gs) ∧ Below w.heap.size w wr) (fun i _ => gs.length - (intOf i).toNat)
  case atStart => exact ⟨0, Nat.zero_le _, rfl, fun _ _ h => absurd h (by omega), o0, h', hr', hb0⟩
  case round =>
    clear o0 h' hr' hb0 h hr
    obtain ⟨k, hk, rfl, ha, o0, h', hr', hb0⟩ := hrel
    have HA := Lib.hid ha
    clear ha
    by_cases hlt : k < gs.length
    · obtain ⟨b, off, rfl, hbl, hcl⟩ := hr'.open_ (by rw [length_sv]; omega)
      have c0 := hcl k (by rw [length_sv]; exact hlt)
      rw [at_sv hlt] at c0
      clear hcl
      have q1 : (0 : Int) ≤ (k : Int) := by omega
      have q2 : (k : Int) < (gs.length : Int) := by omega
      have hgz := HS.out gs[k] (List.getElem_mem hlt)
      have HF : Hid (setB m gs[k] = false → goodG m gs = false) := Lib.hid (fun e => by
        rw [Bool.eq_false_iff]
        intro e2
        rw [goodG_set e2 _ (List.getElem_mem hlt)] at e
        cases e)
      have HK := Lib.hid (fun (h : setB m gs[k] = true) j (hj : j < gs.length) (hj2 : j < k + 1) => show setB m gs[j] = true from by
        by_cases e : j = k
        · subst e; exact h
        · exact HA.out j hj (by omega))
      generalize hp : gs[k] = g at *
      clear hp
      have lo := o0.lt
      have d0 := fun (cc : Cls wr.heap.size wr) => (cc.cell w.heap.size 0 lo).trans (o0.at_ (i := 0) rfl)
      have d1 := fun (cc : Cls wr.heap.size wr) => (cc.cell w.heap.size 1 lo).trans (o0.at_ (i := 1) rfl)
      have d2 := fun (cc : Cls wr.heap.size wr) => (cc.cell w.heap.size 2 lo).trans (o0.at_ (i := 2) rfl)
      have d3 := fun (cc : Cls wr.heap.size wr) => (cc.cell w.heap.size 3 lo).trans (o0.at_ (i := 3) rfl)
      have d4 := fun (cc : Cls wr.heap.size wr) => (cc.cell b (off + k) hbl).trans c0
      have n1 := fun (cc : Cls wr.heap.size wr) => l8Fits_any a n c m g cc.w ((h'.below cc.bel (Nat.le_refl _)).more cc.bel.size) hgz
      clear c0 hgz
      cases hf : setB m g with
      | true =>
        rw [hf] at n1
        have HK2 := Lib.hid (HK.out hf)
        clear hf HF HK
        go_wp2_with fail
        refine wp_region_cls (by kernel_rfl) (by kernel_rfl) ?_
        repeat (go_big_quiet_step (first | (go_at_call 36; with_reducible exact cls_of (Nat.le_refl _) (n1 _))))
        refine wpQuiet_nil ?_
        intro wc hbc
        go_wp2
        go_roundw
        case rel => exact ⟨k + 1, by omega, by go_num, HK2.out, o0.below hbc lo, (h'.below hbc (Nat.le_refl _)).more hbc.size, (hr'.below hbc (Nat.le_refl _)).more hbc.size, bt hb0 hbc⟩
        case measure => simp [intOf]; omega
      | false =>
        rw [hf] at n1
        have HM := Lib.hid (HF.out hf)
        clear hf HF HK
        go_wp2_with fail
        refine wp_region_cls (by kernel_rfl) (by kernel_rfl) ?_
        repeat (go_big_quiet_step (first | (go_at_call 36; with_reducible exact cls_of (Nat.le_refl _) (n1 _))))
        refine wpQuiet_nil ?_
        intro wc hbc
        go_wp2
        go_ret
        exact ⟨ret_bool HM.out.symm, bt hb0 hbc⟩
    · have HM : Hid (goodG m gs = (machB m && decide (gs.length ≤ 12))) := by
        show _ = _
        have : gs.all (setB m) = true := by
          rw [List.all_eq_true]
          intro x hx
          obtain ⟨j, hj, rfl⟩ := List.getElem_of_mem hx
          exact HA.out j hj (by omega)
        simp only [goodG, this, Bool.and_true]
      have f0 := o0.at_ (i := 0) rfl
      have f1 := o0.at_ (i := 1) rfl
      have f2 := o0.at_ (i := 2) rfl
      have f3 := o0.at_ (i := 3) rfl
      go_wp2_with fail
      refine (specMachineValid_any _ _ _ _ _ h').mono ?_
      rintro e w3 ⟨rfl, hb3⟩
      cases hm : machB m with
      | true =>
        have HM2 := HM.out
        rw [hm, Bool.true_and] at HM2
        have HM3 := Lib.hid HM2
        clear HM2 hm
        go_wp2
        go_ret
        exact ⟨ret_bool (by rw [HM3.out]; rw [Bool.eq_iff_iff, decide_eq_true_eq, decide_eq_true_eq]; omega), bt hb0 hb3⟩
      | false =>
        have HM2 := HM.out
        rw [hm, Bool.false_and] at HM2
        have HM3 := Lib.hid HM2
        clear HM2 hm
        go_wp2
        go_ret
        exact ⟨ret_bool HM3.out.symm, bt hb0 hb3⟩
set_option maxRecDepth 100000 in
set_option maxHeartbeats 1000000 in
theorem specGroundsWithRepeats_any (a : Option Addr) (n c : Nat) (m : Mach) (ag : Option Addr) (cg : Nat) (gs : List ByteArray) (ap : Option Addr) (cp : Nat) (ps : List Int) (w : World) (h : MachAt w w.heap.size a n m) (hr : Reads w w.heap.size ag (sv gs)) (hp : Reads w w.heap.size ap (iv ps)) (hs : ∀ g ∈ gs, g.size ≤ 4294967296) (hl : gs.length ≤ 4294967296) (hl2 : ps.length ≤ 4294967296) :
    Calls Try.prog 14 #[.agg #[.slice a n c, .string m.wheels.refl, .string m.rings, .string m.plugs], .slice ag gs.length cg, .slice ap ps.length cp] w (RowPost 9 1 (keepG m gs ps).length (sv (keepG m gs ps)) w) := by
  have o0 := (Own.new w [.slice a n c, .string m.wheels.refl, .string m.rings, .string m.plugs] 27).alloc (.cells #[] 9)
  have z0 := World.ownsRow_lit (base := w.heap.size + 1) (e := 9) (size := 1) (w.alloc (.cells [.slice a n c, .string m.wheels.refl, .string m.rings, .string m.plugs].toArray 27)) #[] 0 (by simp) (by unfold maxLen; omega) (by simp)
  have hb0 := ((Below.refl w.heap.size w).alloc (Nat.le_refl _) (.cells [.slice a n c, .string m.wheels.refl, .string m.rings, .string m.plugs].toArray 27)).alloc (by simp) (.cells #[] 9)
  have h' := h.below hb0 (Nat.le_refl _)
  have hr' := hr.below hb0 (Nat.le_refl _)
  have hp' := hp.below hb0 (Nat.le_refl _)
  have z1 : OwR ((w.alloc (.cells [.slice a n c, .string m.wheels.refl, .string m.rings, .string m.plugs].toArray 27)).alloc (.cells #[] 9)) (w.heap.size + 1) 9 1 (.slice (some ⟨w.heap.size + 1, 0, none⟩) 0 0) (keepN m gs ps 0).length (sv (keepN m gs ps 0)) := by
    simpa [sv, keepN_zero] using z0
  have HS := Lib.hid hs
  have HR := Lib.hid (fun (wr : World) (hb : Below w.heap.size w wr) => And.intro (h.below hb (Nat.le_refl _)) (And.intro (hr.below hb (Nat.le_refl _)) (hp.below hb (Nat.le_refl _))))
  clear h hr hp h' hr' hp' z0 hs
  go_enter Try.func14, Try.ntmps14
  go_wp2_with fail
  generalize ((w.alloc (.cells [.slice a n c, .string m.wheels.refl, .string m.rings, .string m.plugs].toArray 27)).alloc (.cells #[] 9)) = W0 at *
  go_loopw [7, 8] (fun u i wr => ∃ k : Nat, k ≤ gs.length ∧ i = .int .i64 k ∧ (k = 0 ∨ goodG m gs = true) ∧ OwR wr (w.heap.size + 1) 9 1 u (keepN m gs ps k).length (sv (keepN m gs ps k)) ∧ Own wr w.heap.size [.slice a n c, .string m.wheels.refl, .string m.rings, .string m.plugs] ∧ Below w.heap.size w wr) (fun _ i _ => gs.length - (intOf i).toNat)
  case atStart => exact ⟨0, Nat.zero_le _, rfl, .inl rfl, z1, o0, hb0⟩
  case round =>
    clear z1 o0 hb0
    obtain ⟨k, hk, rfl, hgood, hown, o0, hb0⟩ := hrel
    obtain ⟨hM, hr, hp⟩ := HR.out _ hb0
    have HG := Lib.hid hgood
    clear hgood
    by_cases hlt : k < gs.length
    · have f0 := o0.at_ (i := 0) rfl
      have f1 := o0.at_ (i := 1) rfl
      have f2 := o0.at_ (i := 2) rfl
      have f3 := o0.at_ (i := 3) rfl
      have hz := hb0.size
      go_wp2_with fail
      refine (l10Grounds_any _ _ _ _ _ _ _ _ (hM.more hz) (hr.more hz) HS.out hl).mono ?_
      rintro e w3 ⟨rfl, hb3⟩
      have o3 := o0.below hb3 o0.lt
      have own3 := OwR.below hown hb3 (Nat.le_refl _)
      have hbw3 := bt hb0 hb3
      clear o0 hown hb0 f0 f1 f2 f3 hb3 hz hM hr hp
      cases h1 : goodG m gs with
      | false =>
        have hk0 : k = 0 := by
          rcases HG.out with h | h
          · exact h
          · rw [h1] at h; cases h
        subst hk0
        have HE := Lib.hid (keepG_no h1 ps)
        clear h1
        go_wp2
        go_ret
        refine ⟨_, rfl, ?_, hbw3⟩
        rw [HE.out]
        exact World.ownsRow.mono own3 (Nat.le_succ _)
      | true =>
        have h12 := goodG_len h1
        have HGd := Lib.hid h1
        have hsz := HS.out gs[k] (List.getElem_mem hlt)
        clear h1 HG
        obtain ⟨hM, hr, hp⟩ := HR.out _ hbw3
        obtain ⟨b, off, rfl, hbl, hcl⟩ := hr.open_ (by rw [length_sv]; omega)
        have c0 := hcl k (by rw [length_sv]; exact hlt)
        rw [at_sv hlt] at c0
        clear hcl
        have q1 : (0 : Int) ≤ (k : Int) := by omega
        have q2 : (k : Int) < (gs.length : Int) := by omega
        have hz := hbw3.size
        have HK := Lib.hid (keepN_snoc (m := m) (ps := ps) hlt)
        have hlen := keepN_len m gs ps k
        have lo := o3.lt
        generalize hg : gs[k] = g at *
        clear hg
        generalize hL : keepN m gs ps k = ls at *
        clear hL
        have d0 := fun (cc : Cls w3.heap.size w3) => (cc.cell w.heap.size 0 lo).trans (o3.at_ (i := 0) rfl)
        have d1 := fun (cc : Cls w3.heap.size w3) => (cc.cell w.heap.size 1 lo).trans (o3.at_ (i := 1) rfl)
        have d2 := fun (cc : Cls w3.heap.size w3) => (cc.cell w.heap.size 2 lo).trans (o3.at_ (i := 2) rfl)
        have d3 := fun (cc : Cls w3.heap.size w3) => (cc.cell w.heap.size 3 lo).trans (o3.at_ (i := 3) rfl)
        have d4 := fun (cc : Cls w3.heap.size w3) => (cc.cell b (off + k) (by omega)).trans c0
        have n1 := fun (cc : Cls w3.heap.size w3) => l11All_any a n c m g ap cp ps cc.w ((hM.below cc.bel hz).more (Nat.le_trans hz cc.bel.size)) hsz ((hp.below cc.bel hz).more (Nat.le_trans hz cc.bel.size)) hl2
        clear c0
        cases hf : allP m g ps with
        | true =>
          rw [hf] at n1
          rw [hf, if_pos rfl] at HK
          clear hf
          go_wp2_with fail
          refine wp_region_cls (by kernel_rfl) (by kernel_rfl) ?_
          repeat (go_big_quiet_step (first | (go_at_call 44; with_reducible exact cls_of (Nat.le_refl _) (n1 _))))
          refine wpQuiet_nil ?_
          intro wc hbc
          have oc := o3.below hbc lo
          have ownc := OwR.below own3 hbc (Nat.le_refl _)
          have hbwc := bt hbw3 hbc
          have c1 : wc.cell? ⟨b, off + k, none⟩ = some (.string g) := d4 ⟨wc, hbc⟩
          have hzc := hbwc.size
          have loc := oc.lt
          clear d0 d1 d2 d3 d4 o3 own3 hbw3
          go_wp2_with (at_builtin; ((with_reducible refine wl_push 30 9 inf_str Try.underlying30 rfl (by omega) ownc (by omega) rfl (by simp [Value.oneCell']) (by omega) (by omega) rfl rfl ?_); intro g4 cap w4 o4 b4 s4))
          go_roundw
          case rel =>
            refine ⟨k + 1, by omega, by go_num, .inr HGd.out, ?_, oc.below b4 (Nat.lt_succ_self _), hbwc.trans (b4.mono (Nat.le_succ _))⟩
            rw [HK.out, List.length_append, sv_append]
            exact o4
          case measure => simp [intOf]; omega
        | false =>
          rw [hf] at n1
          rw [hf, if_neg (by simp)] at HK
          clear hf
          go_wp2_with fail
          refine wp_region_cls (by kernel_rfl) (by kernel_rfl) ?_
          repeat (go_big_quiet_step (first | (go_at_call 44; with_reducible exact cls_of (Nat.le_refl _) (n1 _))))
          refine wpQuiet_nil ?_
          intro wc hbc
          have oc := o3.below hbc lo
          have ownc := OwR.below own3 hbc (Nat.le_refl _)
          have hbwc := bt hbw3 hbc
          clear d0 d1 d2 d3 d4 o3 own3 hbw3
          go_wp2
          go_roundw
          case rel =>
            refine ⟨k + 1, by omega, by go_num, .inr HGd.out, ?_, oc, hbwc⟩
            rw [HK.out, List.append_nil]
            exact ownc
          case measure => simp [intOf]; omega
    · have hk' : k = gs.length := by omega
      subst hk'
      have HE : Hid (keepG m gs ps = keepN m gs ps gs.length) := by
        show _ = _
        rcases HG.out with h | h
        · have hn := List.eq_nil_of_length_eq_zero h
          subst hn
          unfold keepG
          split <;> rfl
        · exact keepG_yes h ps
      clear HG
      go_wp2
      go_ret
      refine ⟨_, rfl, ?_, hb0⟩
      rw [HE.out]
      exact World.ownsRow.mono hown (Nat.le_succ _)
end Go.Proofs.Ytbeohccbflhdiaa

/- A slice appended to a slice of the call's own; the grounds that are drawn. -/
namespace Go.Proofs.Ytbeohccbflhdiaa
open Go.RowKit

section
variable {P : Program} {ops : Array Oper} {rest : List Oper} {dst : Option Tmp} {ty : TypeId} {pos : String} {after : Array Edge} {a : Act} {w0 : World} {Q : Exit → Act → World → Prop}
/-- 'x = append(x, us...)', x of the call's own: what lay in x's row is still read there. -/
theorem wl_pushs (t e : TypeId) {s x : Operand} {z : Value} {sz bytes : Nat} (hinfo : (P.info? e).map (fun i => (i.zero, i.size, i.bytes)) = some (some z, sz, bytes)) (ht : P.underlying t = some (.slice e)) (hzs : z.cells.size = sz) (hsz : 0 < sz)
    {base n g0 cap0 m c : Nat} {ad : Addr} {xs us : List Value} (hown : OwR w0 base e sz (.slice (some ⟨g0, 0, none⟩) n cap0) n xs) (hb : base ≤ w0.heap.size) (hus : us.length = m * sz) (hnews : ∀ j u, us[j]? = some u → w0.cell? (ad.add j) = some u) (h1 : ∀ u ∈ us, u.oneCell' = true) (hm : 0 < m) (hn : n + m ≤ 1048576) (hby : bytes ≤ 1000)
    (hs : a.eval s = .slice (some ⟨g0, 0, none⟩) n cap0) (hx : a.eval x = .slice (some ad) m c)
    (h : ∀ g cap w', OwR w' base e sz (.slice (some ⟨g, 0, none⟩) (n + m) cap) (n + m) (xs ++ us) → Below base w0 w' → (∀ j u, xs[j]? = some u → w'.cell? ⟨g0, j, none⟩ = some u) → wpList P ops Q rest (a.put dst (.slice (some ⟨g, 0, none⟩) (n + m) cap)) w') :
    wpList P ops Q (⟨dst, .call { callee := .builtin .append, args := #[s, x], argTypes := #[t, t] }, ty, pos, after, none⟩ :: rest) a w0 := by
  obtain ⟨i0, hi0, hz0, hz1, hz2⟩ := info_parts hinfo
  have hbytes : (n + m) * bytes ≤ 140737488355328 := by
    have : (n + m) * bytes ≤ 1048576 * 1000 := Nat.mul_le_mul (by omega) hby
    omega
  obtain ⟨g, cap, w', hr, ho, hg, hat, hlt⟩ := run_append_lies (P := P) w0 t ty base e i0 z sz bytes ht hi0 hz0 hz1 hz2 hzs hsz _ n xs hown ad m c us hus hnews h1 hm (by unfold maxLen; omega) hbytes hb _ rfl
  have hx0 : OwR w0 base e sz (.slice (some ⟨g0, 0, none⟩) n cap0) n xs := hown
  have hown0 := OwR.own hx0
  have hkeep : g = g0 ∨ w'.heap[g0]? = w0.heap[g0]? := by
    rcases hown.2 with ⟨h0, _⟩ | ⟨g', cap', cur, hv, hgb, hh, hn', hm', hs', ht'⟩
    · cases h0
    · cases hv
      by_cases hroom : n + m ≤ cap0
      · left
        rcases hat with h2 | h2
        · simpa [Value.ownBlock] using h2.symm
        · have hfit : n * i0.size + us.length ≤ cur.size := by rw [hus, hs', hz1, ← Nat.add_mul]; exact Nat.mul_le_mul_right _ hroom
          have hr2 := run_append_room (P := P) w0 t ty e i0 ht hi0 g0 n cap0 cur hh ad m c us (by rw [hz1]; exact hus) hnews h1 hroom hfit
          rw [hr2] at hr
          cases hr; rfl
      · right
        have holds : ∀ j u, xs[j]? = some u → w0.cell? ((⟨g0, 0, none⟩ : Addr).add j) = some u := fun j u hu => by
          rw [add_none, Nat.zero_add, hown0.cell j (List.getElem?_eq_some_iff.1 hu).1]; exact hu
        have hr2 := run_append_grow (P := P) w0 t ty e i0 z ht hi0 hz0 ⟨g0, 0, none⟩ n cap0 xs (by rw [hz1]; exact hown.1) holds ad m c us (by rw [hz1]; exact hus) hnews (by omega) (by omega) (growslice_fits (by omega) (by rw [hz2]; exact hbytes))
        rw [hr2] at hr
        cases hr
        exact Below.heap_alloc w0.drew _ g0 hown0.lt
  have hbel : Below base w0 w' := (Below.refl base w0).grown hg hb (fun k hk => (World.ownsRow.lt hown k hk).1)
  refine wpList_plain rfl fun _ hK => ?_
  unfold Oper.wp execOp
  simp only [resolve, invoke, builtin, Sem.run_bind, Sem.run_pure, Result.andThen_ok, List.map_toArray, List.map_cons, List.map_nil, hs, hx, hr]
  refine hK _ _ (h g cap w' ho hbel fun j u hu => ?_)
  have hj := (List.getElem?_eq_some_iff.1 hu).1
  rcases hkeep with rfl | hk
  · have ho2 : OwR w' base e sz (.slice (some ⟨g, 0, none⟩) (n + m) cap) (n + m) (xs ++ us) := ho
    rw [(OwR.own ho2).cell j (by rw [List.length_append]; omega), List.getElem?_append_left hj]
    exact hu
  · rw [World.cell?_of_block (w := w0) hk, hown0.cell j hj]
    exact hu
end
theorem Moved.bel {R B : Nat} {a b c : World} (h : Moved R a b) (k : Below B b c) (hB : a.heap.size ≤ B) : Moved R a c :=
  ⟨k.os.trans h.os, k.tape.trans h.tape, k.output.trans h.output, Nat.le_trans h.size k.size, fun x hx hne => (k.block x (by omega)).trans (h.block x hx hne)⟩
/-- The grounds that are drawn. -/
def GrsP (R c : Nat) (w : World) (e : Ending) (w' : World) : Prop :=
  ∃ (gs : List ByteArray) (g cap : Nat), e = .returned (.slice (some ⟨g, 0, none⟩) gs.length cap) ∧ (∀ x ∈ gs, x.size ≤ 200) ∧ gs.length ≤ 13 ∧ OwR w' w.heap.size 9 1 (.slice (some ⟨g, 0, none⟩) gs.length cap) gs.length (sv gs) ∧ Rd w' R c ∧ Moved R w w'
theorem sv_one_cell (gs : List ByteArray) : ∀ u ∈ sv gs, u.oneCell' = true := by
  intro u hu
  simp only [sv, List.mem_map] at hu
  obtain ⟨x, -, rfl⟩ := hu
  rfl
/-- A machine, grounds and places are drawn. -/
def DrawnG (w : World) (e : Ending) (w' : World) : Prop :=
  ∃ (m : Mach) (gs : List ByteArray) (ps : List Int) (a : Option Addr) (cap g gc p pc : Nat), DrawnM w m a w' ∧ (∀ x ∈ gs, x.size ≤ 200) ∧ gs.length ≤ 13 ∧ ps.length ≤ 3 ∧ ps.length ≤ pc ∧ Reads w' w'.heap.size (some ⟨g, 0, none⟩) (sv gs) ∧ Reads w' w'.heap.size (some ⟨p, 0, none⟩) (iv ps) ∧
    e = .returned (.tuple #[.agg #[.slice a m.wheels.rotors.length cap, .string m.wheels.refl, .string m.rings, .string m.plugs], .slice (some ⟨g, 0, none⟩) gs.length gc, .slice (some ⟨p, 0, none⟩) ps.length pc])
end Go.Proofs.Ytbeohccbflhdiaa

/- The walk of the law that more places keep fewer grounds. -/
namespace Go.Proofs.Ytbeohccbflhdiaa
open Go.RowKit

theorem take_filter_yes {P : ByteArray → Bool} {l : List ByteArray} {k : Nat} (hk : k < l.length) (h : P l[k] = true) :
    ((l.take k).filter P).length < (l.filter P).length ∧ (l.filter P)[((l.take k).filter P).length]? = some l[k] ∧ ((l.take (k + 1)).filter P).length = ((l.take k).filter P).length + 1 := by
  have e1 : l.take (k + 1) = l.take k ++ [l[k]] := List.take_succ_eq_append_getElem hk
  have e2 : l.filter P = (l.take k).filter P ++ (l[k] :: (l.drop (k + 1)).filter P) := by
    conv => lhs; rw [← List.take_append_drop k l, List.drop_eq_getElem_cons hk, List.filter_append, List.filter_cons, if_pos h]
  refine ⟨by rw [e2]; simp, ?_, by rw [e1, List.filter_append]; simp [h]⟩
  rw [e2, List.getElem?_append_right (Nat.le_refl _)]
  simp
theorem take_filter_no {P : ByteArray → Bool} {l : List ByteArray} {k : Nat} (hk : k < l.length) (h : P l[k] = false) :
    (∀ x, (l.filter P)[((l.take k).filter P).length]? = some x → x ≠ l[k]) ∧ ((l.take (k + 1)).filter P).length = ((l.take k).filter P).length := by
  have e1 : l.take (k + 1) = l.take k ++ [l[k]] := List.take_succ_eq_append_getElem hk
  refine ⟨fun x hx e => ?_, by rw [e1, List.filter_append]; simp [h]⟩
  have hm := List.mem_of_getElem? hx
  rw [e, List.mem_filter] at hm
  rw [hm.2] at h
  cases h
theorem allP_tail {m : Mach} {g : ByteArray} {ps : List Int} (h : allP m g ps = true) : allP m g ps.tail = true := by
  simp only [allP, List.all_eq_true] at h ⊢
  exact fun x hx => h x (List.mem_of_mem_tail hx)
theorem keepG_tail (m : Mach) (gs : List ByteArray) (ps : List Int) : keepG m gs ps = (keepG m gs ps.tail).filter fun g => allP m g ps := by
  unfold keepG
  split
  · simp only [keepN, List.take_length, List.filter_filter]
    congr 1
    funext g
    cases e : allP m g ps
    · rfl
    · rw [allP_tail e]; rfl
  · rfl
theorem iv_tail (ps : List Int) : iv ps.tail = (iv ps).tail := by cases ps <;> rfl
theorem Reads.tail1 {w : World} {B p : Nat} {xs : List Value} (h : Reads w B (some ⟨p, 0, none⟩) xs) : Reads w B (some ⟨p, 1, none⟩) xs.tail := by
  rcases h with h | ⟨b, off, he, hb, hc⟩
  · exact .inl (by rw [h]; rfl)
  · cases he
    refine .inr ⟨p, 1, rfl, hb, fun i hi => ?_⟩
    have := hc (i + 1) (by rw [List.length_tail] at hi; omega)
    rw [List.getElem?_tail, ← this]
    congr 2
    omega
/-- What the drawn machine and lists are, at a world. -/
structure GAt (w : World) (B : Nat) (a : Option Addr) (cap : Nat) (m : Mach) (g p : Nat) (gs : List ByteArray) (ps : List Int) : Prop where
  box : Own w B [.slice a m.wheels.rotors.length cap, .string m.wheels.refl, .string m.rings, .string m.plugs]
  mach : MachAt w w.heap.size a m.wheels.rotors.length m
  grs : Reads w w.heap.size (some ⟨g, 0, none⟩) (sv gs)
  pls : Reads w w.heap.size (some ⟨p, 0, none⟩) (iv ps)
theorem GAt.below {w w' : World} {B : Nat} {a : Option Addr} {cap : Nat} {m : Mach} {g p : Nat} {gs : List ByteArray} {ps : List Int} (h : GAt w B a cap m g p gs ps) (hb : Below w.heap.size w w') : GAt w' B a cap m g p gs ps :=
  ⟨h.box.below hb h.box.lt, (h.mach.below hb (Nat.le_refl _)).more hb.size, (h.grs.below hb (Nat.le_refl _)).more hb.size, (h.pls.below hb (Nat.le_refl _)).more hb.size⟩
theorem Reads.up1 {w w' : World} {a : Option Addr} {xs : List Value} (h : Reads w w.heap.size a xs) (hb : Below w.heap.size w w') : Reads w' w'.heap.size a xs := (h.below hb (Nat.le_refl _)).more hb.size
theorem bel_drewN1 (w : World) (n : Nat) : Below w.heap.size w (w.drewN n) := bel_drewN (Below.refl _ _) n

end Go.Proofs.Ytbeohccbflhdiaa
