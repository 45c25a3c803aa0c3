/- Several of my texts in one: Grd, GrdW. -/
import Derived.Test.YtbeohccbflhdiaaM27
import Derived.Test.YtbeohccbflhdiaaM28
import Derived.Test.YtbeohccbflhdiaaM29
import Derived.Test.YtbeohccbflhdiaaM14
/- The grounds with repeats in given places, of the program. -/
namespace Go.Proofs.Ytbeohccbflhdiaa
open Go.RowKit

theorem Reads.alc {w : World} {a : Option Addr} {xs : List Value} (h : Reads w w.heap.size a xs) (o : Obj) : Reads (w.alloc o) (w.alloc o).heap.size a xs :=
  (h.below ((Below.refl w.heap.size w).alloc (Nat.le_refl _) o) (Nat.le_refl _)).more (by simp)
/-- Whether there are not too many grounds, all of them windows of a valid machine. -/
def goodG (m : Mach) (gs : List ByteArray) : Bool := machB m && (decide (gs.length ≤ 12) && gs.all (setB m))
/-- Whether a ground has repeats in all of some places. -/
def allP (m : Mach) (g : ByteArray) (ps : List Int) : Bool := ps.all (hasB m g)
/-- The first k grounds that have repeats in all of some places. -/
def keepN (m : Mach) (gs : List ByteArray) (ps : List Int) (k : Nat) : List ByteArray := (gs.take k).filter fun g => allP m g ps
/-- What GroundsWithRepeats answers. -/
def keepG (m : Mach) (gs : List ByteArray) (ps : List Int) : List ByteArray := if goodG m gs = true then keepN m gs ps gs.length else []
theorem keepN_snoc {m : Mach} {gs : List ByteArray} {ps : List Int} {k : Nat} (h : k < gs.length) : keepN m gs ps (k + 1) = keepN m gs ps k ++ (if allP m gs[k] ps = true then [gs[k]] else []) := by
  simp only [keepN]
  rw [List.take_succ_eq_append_getElem h, List.filter_append]
  congr 1
  by_cases e : allP m gs[k] ps = true <;> simp [e]
theorem keepN_zero (m : Mach) (gs : List ByteArray) (ps : List Int) : keepN m gs ps 0 = [] := rfl
theorem keepN_len (m : Mach) (gs : List ByteArray) (ps : List Int) (k : Nat) : (keepN m gs ps k).length ≤ k := by
  have h := List.length_filter_le (fun g => allP m g ps) (gs.take k)
  rw [List.length_take] at h
  unfold keepN
  omega
theorem keepG_yes {m : Mach} {gs : List ByteArray} (h : goodG m gs = true) (ps : List Int) : keepG m gs ps = keepN m gs ps gs.length := by simp [keepG, h]
theorem keepG_no {m : Mach} {gs : List ByteArray} (h : goodG m gs = false) (ps : List Int) : keepG m gs ps = [] := by simp [keepG, h]
theorem goodG_len {m : Mach} {gs : List ByteArray} (h : goodG m gs = true) : gs.length ≤ 12 := by
  simp only [goodG, Bool.and_eq_true, decide_eq_true_eq] at h; exact h.2.1
theorem goodG_set {m : Mach} {gs : List ByteArray} (h : goodG m gs = true) : ∀ g ∈ gs, setB m g = true := by
  simp only [goodG, Bool.and_eq_true, List.all_eq_true] at h; exact h.2.2
theorem hasB_in {m : Mach} {g : ByteArray} {p : Nat} (h : setB m g = true) (hp : p < g.size) : hasB m g p = fixB (prodP m g p) := by
  have t0 : decide ((0 : Int) ≤ (p : Int)) = true := decide_eq_true (by omega)
  have t1 : decide ((p : Int) < (g.size : Int)) = true := decide_eq_true (by omega)
  simp only [hasB, h, t0, t1, Bool.true_and, Int.toNat_natCast]
theorem hasB_out {m : Mach} {g : ByteArray} {p : Int} (h : ¬ (0 ≤ p ∧ p < g.size)) : hasB m g p = false := by
  by_cases h0 : 0 ≤ p
  · have t1 : decide (p < (g.size : Int)) = false := decide_eq_false (by omega)
    simp only [hasB, t1, Bool.false_and, Bool.and_false]
  · have t0 : decide ((0 : Int) ≤ p) = false := decide_eq_false h0
    simp only [hasB, t0, Bool.false_and, Bool.and_false]
theorem allP_yes {m : Mach} {g : ByteArray} {ps : List Int} (h : ∀ j (hj : j < ps.length), hasB m g ps[j] = true) : allP m g ps = true := by
  simp only [allP, List.all_eq_true]
  intro x hx
  obtain ⟨j, hj, rfl⟩ := List.getElem_of_mem hx
  exact h j hj
theorem allP_no {m : Mach} {g : ByteArray} {ps : List Int} {j : Nat} (hj : j < ps.length) (h : hasB m g ps[j] = false) : allP m g ps = false := by
  rw [Bool.eq_false_iff]
  intro e
  simp only [allP, List.all_eq_true] at e
  rw [e _ (List.getElem_mem hj)] at h
  cases h
theorem at_iv {ps : List Int} {k : Nat} (h : k < ps.length) : (iv ps)[k]? = some (.int .i64 ps[k]) := by simp [iv, h]
theorem at_sv {gs : List ByteArray} {k : Nat} (h : k < gs.length) : (sv gs)[k]? = some (.string gs[k]) := by simp [sv, h]

set_option maxRecDepth 100000 in
set_option maxHeartbeats 1000000 in
theorem repeatsIn_any (a : Option Addr) (n c : Nat) (m : Mach) (g : ByteArray) (ap : Option Addr) (cp : Nat) (ps : List Int) (w : World) (h : MachAt w w.heap.size a n m) (h1 : setB m g = true) (hr : Reads w w.heap.size ap (iv ps)) (hl : ps.length ≤ 4294967296) :
    Calls Try.prog 47 #[.agg #[.slice a n c, .string m.wheels.refl, .string m.rings, .string m.plugs], .string g, .slice ap ps.length cp] w fun e w' => e = .returned (.bool (allP m g ps)) ∧ Below w.heap.size w w' := by
  have o0 := Own.new w [.slice a n c, .string m.wheels.refl, .string m.rings, .string m.plugs] 27
  have hb0 := (Below.refl w.heap.size w).alloc (Nat.le_refl _) (.cells [.slice a n c, .string m.wheels.refl, .string m.rings, .string m.plugs].toArray 27)
  have h' := h.alloc_ (.cells [.slice a n c, .string m.wheels.refl, .string m.rings, .string m.plugs].toArray 27)
  have hr' := hr.alc (.cells [.slice a n c, .string m.wheels.refl, .string m.rings, .string m.plugs].toArray 27)
  have hmb := setB_mach h1
  have hg1 := setB_1 h1
  go_enter Try.func47, Try.ntmps47
  go_wp2_with fail
  refine (dayProducts_any _ _ _ _ _ _ h' h1).mono ?_
  rintro e w2 ⟨lv, rfl, hol, hb2⟩
  obtain ⟨al, cl, rfl, hlc, -, hgl⟩ := hol.val
  obtain ⟨gP, rfl, -, og⟩ := hgl.resolve_left (by omega)
  have hr2 := (hr'.below hb2 (Nat.le_refl _)).more hb2.size
  have hbw := bt hb0 hb2
  clear o0 hb0 h' hr' hb2 hol hgl
  go_wp2_with fail
  go_loopw [9, 15] (fun _ i wr => ∃ k : Nat, k ≤ ps.length ∧ i = .int .i64 k ∧ (∀ j (hj : j < ps.length), j < k → hasB m g ps[j] = true) ∧ Own wr gP (pvs m g g.size) ∧ Reads wr wr.heap.size ap (iv ps) ∧ Below w.heap.size w wr) (fun _ i _ => ps.length - (intOf i).toNat)
  case atStart => exact ⟨0, Nat.zero_le _, rfl, fun _ _ h => absurd h (by omega), og, hr2, hbw⟩
  case round =>
    clear og hr2 hbw
    obtain ⟨k, hk, rfl, ha, og, hr2, hbw⟩ := hrel
    have HA := Lib.hid ha
    clear ha
    by_cases hlt : k < ps.length
    · obtain ⟨b, off, rfl, hbl, hcl⟩ := hr2.open_ (by rw [length_iv]; omega)
      have c0 := hcl k (by rw [length_iv]; exact hlt)
      rw [iv_at hlt] at c0
      clear hcl
      have q1 : (0 : Int) ≤ (k : Int) := by omega
      have q2 : (k : Int) < (ps.length : Int) := by omega
      have HN := Lib.hid (fun h => allP_no (m := m) (g := g) hlt h)
      have HK := Lib.hid (fun (h : hasB m g ps[k] = true) j (hj : j < ps.length) (hj2 : j < k + 1) => show hasB m g ps[j] = true from by
        by_cases e : j = k
        · subst e; exact h
        · exact HA.out j hj (by omega))
      generalize hp : ps[k] = p at *
      clear hp
      by_cases hp0 : 0 ≤ p
      · obtain ⟨i, rfl⟩ := Int.eq_ofNat_of_zero_le hp0
        have t0 : decide ((i : Int) < 0) = false := decide_eq_false (by omega)
        by_cases hpi : i < g.size
        · have t1 : decide (g.size ≤ i) = false := decide_eq_false (by omega)
          have hpp := isP_prod hmb g i
          have hzs := size_pv hpp.len
          have hc1 := pvs_cells hmb og.cells hpi
          have q3 : (0 : Int) ≤ (i : Int) := by omega
          have q4 : (i : Int) < (g.size : Int) := by omega
          have hin := hasB_in h1 hpi
          rw [hin] at HN HK
          have lg := og.lt
          have n1 := fun W => fixes_any (prodP m g i) W hpp
          clear hin hp0
          cases hf : fixB (prodP m g i) with
          | true =>
            have HK2 := Lib.hid (HK.out hf)
            rw [hf] at n1
            clear hf HN HK
            go_wp2_with (first | ((with_reducible refine wl_load 68 hc1 hzs Try.underlying68 ?_ ?_ ?_ ?_); (· rfl); (· rfl); (· rfl)) | (go_at_call 74; ((with_reducible refine (n1 _).mono ?_); rintro e w3 ⟨rfl, hb3⟩)))
            go_roundw
            case rel => exact ⟨k + 1, by omega, by go_num, HK2.out, og.below hb3 lg, (hr2.below hb3 (Nat.le_refl _)).more hb3.size, bt hbw hb3⟩
            case measure => simp [intOf]; omega
          | false =>
            have HK2 := Lib.hid (HN.out hf)
            rw [hf] at n1
            clear hf HN HK
            go_wp2_with (first | ((with_reducible refine wl_load 68 hc1 hzs Try.underlying68 ?_ ?_ ?_ ?_); (· rfl); (· rfl); (· rfl)) | (go_at_call 74; ((with_reducible refine (n1 _).mono ?_); rintro e w3 ⟨rfl, hb3⟩)))
            go_ret
            exact ⟨ret_bool HK2.out.symm, bt hbw hb3⟩
        · have t1 : decide (g.size ≤ i) = true := decide_eq_true (by omega)
          have HM := Lib.hid (HN.out (hasB_out (by omega)))
          clear HN HK
          go_wp2
          go_ret
          exact ⟨ret_bool HM.out.symm, hbw⟩
      · have t0 : decide (p < (0 : Int)) = true := decide_eq_true (by omega)
        have HM := Lib.hid (HN.out (hasB_out (by omega)))
        clear HN HK
        go_wp2
        go_ret
        exact ⟨ret_bool HM.out.symm, hbw⟩
    · have HM : Hid (allP m g ps = true) := Lib.hid (allP_yes fun j hj => HA.out j hj (by omega))
      go_wp2
      go_ret
      exact ⟨ret_bool HM.out.symm, hbw⟩
set_option maxRecDepth 100000 in
set_option maxHeartbeats 1000000 in
theorem groundsValid_any (a : Option Addr) (n c : Nat) (m : Mach) (ag : Option Addr) (cg : Nat) (gs : List ByteArray) (w : World) (h : MachAt w w.heap.size a n m) (hr : Reads w w.heap.size ag (sv gs)) (hs : ∀ g ∈ gs, g.size ≤ 4294967296) (hl : gs.length ≤ 4294967296) :
    Calls Try.prog 46 #[.agg #[.slice a n c, .string m.wheels.refl, .string m.rings, .string m.plugs], .slice ag gs.length cg] w fun e w' => e = .returned (.bool (goodG m gs)) ∧ Below w.heap.size w w' := by
  have o0 := Own.new w [.slice a n c, .string m.wheels.refl, .string m.rings, .string m.plugs] 27
  have hb0 := (Below.refl w.heap.size w).alloc (Nat.le_refl _) (.cells [.slice a n c, .string m.wheels.refl, .string m.rings, .string m.plugs].toArray 27)
  have h' := h.alloc_ (.cells [.slice a n c, .string m.wheels.refl, .string m.rings, .string m.plugs].toArray 27)
  have hr' := hr.alc (.cells [.slice a n c, .string m.wheels.refl, .string m.rings, .string m.plugs].toArray 27)
  have HS := Lib.hid hs
  clear hs
  go_enter Try.func46, Try.ntmps46
  go_wp2_with fail
  refine (implMachineValid_any _ _ _ _ _ h').mono ?_
  rintro e w1 ⟨rfl, hb1⟩
  have o1 := o0.below hb1 o0.lt
  have hM := (h'.below hb1 (Nat.le_refl _)).more hb1.size
  have hr1 := (hr'.below hb1 (Nat.le_refl _)).more hb1.size
  have hb := bt hb0 hb1
  clear o0 h' hr' hb0 hb1
  cases h1 : machB m with
  | false =>
    have HM : Hid (goodG m gs = false) := by show _ = _; simp [goodG, h1]
    clear h1
    go_wp2
    go_ret
    exact ⟨ret_bool HM.out.symm, hb⟩
  | true =>
    by_cases hgl : gs.length ≤ 12
    · have t1 : decide ((12 : Int) < (gs.length : Int)) = false := decide_eq_false (by omega)
      go_wp2_with fail
      go_loopw [6, 17] (fun _ i wr => ∃ k : Nat, k ≤ gs.length ∧ i = .int .i64 k ∧ (∀ j (hj : j < gs.length), j < k → setB m gs[j] = true) ∧ Own wr w.heap.size [.slice a n c, .string m.wheels.refl, .string m.rings, .string m.plugs] ∧ MachAt wr wr.heap.size a n m ∧ Reads wr wr.heap.size ag (sv gs) ∧ Below w.heap.size w wr) (fun _ i _ => gs.length - (intOf i).toNat)
      case atStart => exact ⟨0, Nat.zero_le _, rfl, fun _ _ h => absurd h (by omega), o1, hM, hr1, hb⟩
      case round =>
        clear o1 hM hr1 hb
        obtain ⟨k, hk, rfl, ha, o1, hM, hr1, hb⟩ := hrel
        have HA := Lib.hid ha
        clear ha
        by_cases hlt : k < gs.length
        · obtain ⟨b, off, rfl, hbl, hcl⟩ := hr1.open_ (by rw [length_sv]; omega)
          have c0 := hcl k (by rw [length_sv]; exact hlt)
          rw [at_sv hlt] at c0
          clear hcl
          have q1 : (0 : Int) ≤ (k : Int) := by omega
          have q2 : (k : Int) < (gs.length : Int) := by omega
          have f0 := o1.at_ (i := 0) rfl
          have f1 := o1.at_ (i := 1) rfl
          have f2 := o1.at_ (i := 2) rfl
          have f3 := o1.at_ (i := 3) rfl
          have hgz := HS.out gs[k] (List.getElem_mem hlt)
          have HF : Hid (setB m gs[k] = false → goodG m gs = false) := Lib.hid (fun e => by
            rw [Bool.eq_false_iff]
            intro e2
            rw [goodG_set e2 _ (List.getElem_mem hlt)] at e
            cases e)
          have HK := Lib.hid (fun (h : setB m gs[k] = true) j (hj : j < gs.length) (hj2 : j < k + 1) => show setB m gs[j] = true from by
            by_cases e : j = k
            · subst e; exact h
            · exact HA.out j hj (by omega))
          generalize hp : gs[k] = g at *
          clear hp
          go_wp2_with fail
          refine (settingValid_any _ _ _ _ _ _ hM hgz).mono ?_
          rintro e w3 ⟨rfl, hb3⟩
          have o3 := o1.below hb3 o1.lt
          have hM3 := (hM.below hb3 (Nat.le_refl _)).more hb3.size
          have hr3 := (hr1.below hb3 (Nat.le_refl _)).more hb3.size
          have hbw3 := bt hb hb3
          clear o1 hM hr1 hb f0 f1 f2 f3 hb3
          cases h2 : setB m g with
          | false =>
            have HM := Lib.hid (HF.out h2)
            clear h2 HF HK
            go_wp2
            go_ret
            exact ⟨ret_bool HM.out.symm, hbw3⟩
          | true =>
            have HM := Lib.hid (HK.out h2)
            clear h2 HF HK
            go_wp2
            go_roundw
            case rel => exact ⟨k + 1, by omega, by go_num, HM.out, o3, hM3, hr3, hbw3⟩
            case measure => simp [intOf]; omega
        · have HM : Hid (goodG m gs = true) := by
            show _ = _
            simp only [goodG, h1, Bool.true_and, Bool.and_eq_true, decide_eq_true_eq, List.all_eq_true]
            refine ⟨hgl, fun x hx => ?_⟩
            obtain ⟨j, hj, rfl⟩ := List.getElem_of_mem hx
            exact HA.out j hj (by omega)
          go_wp2
          go_ret
          exact ⟨ret_bool HM.out.symm, hb⟩
    · have t1 : decide ((12 : Int) < (gs.length : Int)) = true := decide_eq_true (by omega)
      have HM : Hid (goodG m gs = false) := by show _ = _; simp [goodG, hgl]
      clear h1
      go_wp2
      go_ret
      exact ⟨ret_bool HM.out.symm, hb⟩
set_option maxRecDepth 100000 in
set_option maxHeartbeats 1000000 in
theorem implGroundsWithRepeats_any (a : Option Addr) (n c : Nat) (m : Mach) (ag : Option Addr) (cg : Nat) (gs : List ByteArray) (ap : Option Addr) (cp : Nat) (ps : List Int) (w : World) (h : MachAt w w.heap.size a n m) (hr : Reads w w.heap.size ag (sv gs)) (hp : Reads w w.heap.size ap (iv ps)) (hs : ∀ g ∈ gs, g.size ≤ 4294967296) (hl : gs.length ≤ 4294967296) (hl2 : ps.length ≤ 4294967296) :
    Calls Try.prog 18 #[.agg #[.slice a n c, .string m.wheels.refl, .string m.rings, .string m.plugs], .slice ag gs.length cg, .slice ap ps.length cp] w (RowPost 9 1 (keepG m gs ps).length (sv (keepG m gs ps)) w) := by
  have o0 := Own.new w [.slice a n c, .string m.wheels.refl, .string m.rings, .string m.plugs] 27
  have hb0 := (Below.refl w.heap.size w).alloc (Nat.le_refl _) (.cells [.slice a n c, .string m.wheels.refl, .string m.rings, .string m.plugs].toArray 27)
  have h' := h.alloc_ (.cells [.slice a n c, .string m.wheels.refl, .string m.rings, .string m.plugs].toArray 27)
  have hr' := hr.alc (.cells [.slice a n c, .string m.wheels.refl, .string m.rings, .string m.plugs].toArray 27)
  have hp' := hp.alc (.cells [.slice a n c, .string m.wheels.refl, .string m.rings, .string m.plugs].toArray 27)
  go_enter Try.func18, Try.ntmps18
  go_wp2_with fail
  refine (groundsValid_any _ _ _ _ _ _ _ _ h' hr' hs hl).mono ?_
  rintro e w1 ⟨rfl, hb1⟩
  have o1 := o0.below hb1 o0.lt
  have hM := (h'.below hb1 (Nat.le_refl _)).more hb1.size
  have hr1 := (hr'.below hb1 (Nat.le_refl _)).more hb1.size
  have hp1 := (hp'.below hb1 (Nat.le_refl _)).more hb1.size
  have hb := bt hb0 hb1
  clear o0 h' hr' hp' hb0 hb1 hs h hr hp
  cases h1 : goodG m gs with
  | false =>
    have HG := Lib.hid (keepG_no h1 ps)
    clear h1
    go_wp2
    go_ret
    refine ⟨_, rfl, ?_, hb⟩
    rw [HG.out]
    exact World.ownsRow_nil _ _ _ _
  | true =>
    have HG := Lib.hid (keepG_yes h1 ps)
    have h12 := goodG_len h1
    have HS := Lib.hid (goodG_set h1)
    clear h1
    go_wp2_with fail
    go_loopw [7, 9, 16] (fun u _ i wr => ∃ k : Nat, k ≤ gs.length ∧ i = .int .i64 k ∧ OwR wr w1.heap.size 9 1 u (keepN m gs ps k).length (sv (keepN m gs ps k)) ∧ Own wr w.heap.size [.slice a n c, .string m.wheels.refl, .string m.rings, .string m.plugs] ∧ MachAt wr w1.heap.size a n m ∧ Reads wr w1.heap.size ag (sv gs) ∧ Reads wr w1.heap.size ap (iv ps) ∧ Below w.heap.size w wr ∧ Below w1.heap.size w1 wr) (fun _ _ i _ => gs.length - (intOf i).toNat)
    case atStart => exact ⟨0, Nat.zero_le _, rfl, World.ownsRow_nil _ _ _ _, o1, hM, hr1, hp1, hb, Below.refl _ _⟩
    case round =>
      have l1 := o1.lt
      clear o1 hM hr1 hp1 hb
      obtain ⟨k, hk, rfl, hown, o1, hM, hr1, hp1, hb, hb1⟩ := hrel
      by_cases hlt : k < gs.length
      · obtain ⟨b, off, rfl, hbl, hcl⟩ := hr1.open_ (by rw [length_sv]; omega)
        have c0 := hcl k (by rw [length_sv]; exact hlt)
        rw [at_sv hlt] at c0
        clear hcl
        have q1 : (0 : Int) ≤ (k : Int) := by omega
        have q2 : (k : Int) < (gs.length : Int) := by omega
        have f0 := o1.at_ (i := 0) rfl
        have f1 := o1.at_ (i := 1) rfl
        have f2 := o1.at_ (i := 2) rfl
        have f3 := o1.at_ (i := 3) rfl
        have hset := HS.out gs[k] (List.getElem_mem hlt)
        have hz := hb1.size
        have HK := Lib.hid (keepN_snoc (m := m) (ps := ps) hlt)
        have hlen := keepN_len m gs ps k
        generalize hg : gs[k] = g at *
        clear hg
        generalize hL : keepN m gs ps k = ls at *
        clear hL
        go_wp2_with fail
        refine (repeatsIn_any _ _ _ _ _ _ _ _ _ (hM.more hz) hset (hp1.more hz) hl2).mono ?_
        rintro e w3 ⟨rfl, hb3⟩
        have o3 := o1.below hb3 o1.lt
        have hM3 := hM.below hb3 hz
        have hr3 := hr1.below hb3 hz
        have hp3 := hp1.below hb3 hz
        have own3 := OwR.below hown hb3 (Nat.le_refl _)
        have hbw3 := bt hb hb3
        have hb13 := bt hb1 hb3
        have hz3 := hb13.size
        clear o1 hM hr1 hp1 hown hb hb1 f0 f1 f2 f3 hb3 hz c0
        cases h2 : allP m g ps with
        | true =>
          rw [h2, if_pos rfl] at HK
          clear h2
          go_wp2_with (at_builtin; ((with_reducible refine wl_push 30 9 inf_str Try.underlying30 rfl (by omega) own3 (by omega) rfl (by simp [Value.oneCell']) (by omega) (by omega) rfl rfl ?_); intro g4 cap w4 o4 b4 s4))
          go_roundw
          case rel =>
            refine ⟨k + 1, by omega, by go_num, ?_, o3.below b4 l1, hM3.below b4 (Nat.le_refl _), hr3.below b4 (Nat.le_refl _), hp3.below b4 (Nat.le_refl _), hbw3.trans (b4.mono (by omega)), hb13.trans b4⟩
            rw [HK.out, List.length_append, sv_append]
            exact o4
          case measure => simp [intOf]; omega
        | false =>
          rw [h2, if_neg (by simp)] at HK
          clear h2
          go_wp2
          go_roundw
          case rel =>
            refine ⟨k + 1, by omega, by go_num, ?_, o3, hM3, hr3, hp3, hbw3, hb13⟩
            rw [HK.out, List.append_nil]
            exact own3
          case measure => simp [intOf]; omega
      · have hk' : k = gs.length := by omega
        subst hk'
        go_wp2
        go_ret
        refine ⟨_, rfl, ?_, hb⟩
        rw [HG.out]
        exact World.ownsRow.mono hown (Nat.le_of_lt l1)
end Go.Proofs.Ytbeohccbflhdiaa

/- The walk of the law that the ground of a day is kept by its indicators. -/
namespace Go.Proofs.Ytbeohccbflhdiaa
open Go.RowKit

theorem hasB_bare {m : Mach} {g : ByteArray} {p : Int} (h : hasB m g p = true) : hasB (bareM m) g p = true := by
  simp only [hasB, Bool.and_eq_true] at h ⊢
  refine ⟨setB_bare h.1, h.2.1, h.2.2.1, ?_⟩
  rw [fix_prod_bare (setB_mach h.1)]
  exact h.2.2.2
theorem ground_kept {m : Mach} {g k : ByteArray} (h1 : setB m g = true) (h2 : setB m k = true) :
    ∃ t, keepG (bareM m) [g, k] ((repL (wd (encD m g (dg (k ++ k)))) g.size g.size).map fun n : Nat => (n : Int)) = g :: t := by
  have hg : goodG (bareM m) [g, k] = true := by
    simp [goodG, machB_bare (setB_mach h1), setB_bare h1, setB_bare h2]
  have ha : allP (bareM m) g ((repL (wd (encD m g (dg (k ++ k)))) g.size g.size).map fun n : Nat => (n : Int)) = true := by
    simp only [allP, List.all_eq_true, List.mem_map]
    rintro x ⟨p, hp, rfl⟩
    exact hasB_bare (rep_has h1 h2 hp).2
  rw [keepG_yes hg]
  simp only [keepN, List.length_cons, List.length_nil, List.take_succ_cons, List.take_nil, List.filter_cons, ha, if_true]
  exact ⟨_, rfl⟩

end Go.Proofs.Ytbeohccbflhdiaa
