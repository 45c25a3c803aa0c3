/- Several of my texts in one: Seal, Dbl, DrawN. -/
import Derived.Test.YtdmnkcmkpjmfaaaGreatM14
import Derived.Test.YtdmnkcmkpjmfaaaGreatM10
import Derived.Test.YtdmnkcmkpjmfaaaGreatM11
import Derived.Test.YtdmnkcmkpjmfaaaGreatM13
import Derived.Test.YtdmnkcmkpjmfaaaGreatM8
/- SealMessage and OpenMessage, the program's and the specification's. -/
namespace Go.Proofs.YtdmnkcmkpjmfaaaGreat
open Go.RowKit

def sealT (m : Mach) (s k u : ByteArray) : Msg × Bool := if setB m s = true ∧ setB m k = true ∧ wordB u = true then (⟨s, wd (encD m s (dg k)), wd (encD m k (dg u))⟩, true) else (⟨⟨#[]⟩, ⟨#[]⟩, ⟨#[]⟩⟩, false)
def keyM (m : Mach) (x : Msg) : ByteArray := wd (encD m x.start (dg x.ind))
def openT (m : Mach) (x : Msg) : ByteArray × ByteArray × Bool := if setB m x.start = true ∧ msgB x = true then (keyM m x, wd (encD m (keyM m x) (dg x.body)), true) else (⟨#[]⟩, ⟨#[]⟩, false)
theorem sealT_yes {m : Mach} {s k u : ByteArray} (h1 : setB m s = true) (h2 : setB m k = true) (h3 : wordB u = true) : sealT m s k u = (⟨s, wd (encD m s (dg k)), wd (encD m k (dg u))⟩, true) := by simp only [sealT, h1, h2, h3, and_self, if_true]
theorem sealT_no {m : Mach} {s k u : ByteArray} (h : ¬ (setB m s = true ∧ setB m k = true ∧ wordB u = true)) : sealT m s k u = (⟨⟨#[]⟩, ⟨#[]⟩, ⟨#[]⟩⟩, false) := by simp only [sealT, if_neg h]
theorem openT_yes {m : Mach} {x : Msg} (h1 : setB m x.start = true) (h2 : msgB x = true) : openT m x = (keyM m x, wd (encD m (keyM m x) (dg x.body)), true) := by simp only [openT, h1, h2, and_self, if_true]
theorem openT_no {m : Mach} {x : Msg} (h : ¬ (setB m x.start = true ∧ msgB x = true)) : openT m x = (⟨#[]⟩, ⟨#[]⟩, false) := by simp only [openT, if_neg h]
theorem msgB_word {x : Msg} (h : msgB x = true) : wordB x.ind = true ∧ wordB x.body = true ∧ x.ind.size = x.start.size ∧ wordB x.start = true := by
  simp only [msgB, Bool.and_eq_true, decide_eq_true_eq] at h
  exact ⟨h.1.2, h.2, h.1.1.2, h.1.1.1.2⟩
theorem setB_enc {m : Mach} {s k : ByteArray} (hs : setB m s = true) (hk : wordB k = true) (he : k.size = s.size) : setB m (wd (encD m s (dg k))) = true :=
  setB_mk (setB_mach hs) (by rw [size_wd, len_encD, len_dg, he]; exact setB_size hs) (word_wd (by rw [len_encD, len_dg]; exact wordB_size hk))
theorem setB_keyM {m : Mach} {x : Msg} (h1 : setB m x.start = true) (h2 : msgB x = true) : setB m (keyM m x) = true := setB_enc h1 (msgB_word h2).1 (msgB_word h2).2.2.1

set_option maxRecDepth 100000 in
theorem rcFits_any (a : Option Addr) (n c : Nat) (m : Mach) (v : ByteArray) (w : World) (h : MachAt w w.heap.size a n m) (hv : v.size ≤ 4294967296) :
    Calls Tryz.prog 53 #[.agg #[.slice a n c, .string m.wheels.refl, .string m.rings, .string m.plugs], .string v] w fun e w' => e = .returned (.bool (setB m v)) ∧ Below w.heap.size w w' := by
  have o0 := Own.new w [.slice a n c, .string m.wheels.refl, .string m.rings, .string m.plugs] 36
  have hb0 := (Below.refl w.heap.size w).alloc (Nat.le_refl _) (.cells [.slice a n c, .string m.wheels.refl, .string m.rings, .string m.plugs].toArray 36)
  have h' := h.alloc_ (.cells [.slice a n c, .string m.wheels.refl, .string m.rings, .string m.plugs].toArray 36)
  go_enter Tryz.func53, Tryz.ntmps53
  go_wp2_with fail
  refine (implMachineValid_any a n c m _ h').mono ?_
  rintro e w1 ⟨rfl, hb1⟩
  have o1 := o0.below hb1 o0.lt
  have hM := (h'.below hb1 (Nat.le_refl _)).more hb1.size
  have hb := bt hb0 hb1
  clear o0 hb0 hb1 h'
  cases hm : machB m with
  | false =>
    have HM : Hid (setB m v = false) := by show _ = _; simp [setB, hm]
    clear hm
    go_wp2
    go_ret
    exact ⟨ret_bool HM.out.symm, hb⟩
  | true =>
    have HM : Hid (setB m v = fitB m.wheels v) := by
      show _ = _
      have hm' : fitB m.wheels m.rings = true := by simp only [machB, Bool.and_eq_true] at hm; exact hm.1
      have hF := fitB_iff.1 hm'
      have hz := hF.size
      simp only [fitB, Bool.and_eq_true] at hm'
      simp only [setB, hm, Bool.true_and, fitB, hm'.1.1, hz]
    have f0 := o1.at_ (i := 0) rfl
    have f1 := o1.at_ (i := 1) rfl
    clear hm
    go_wp2_with fail
    refine (rcFit_any a n c m.wheels v _ hM.whl hv).mono ?_
    rintro e w2 ⟨rfl, hb2⟩
    go_wp2
    go_ret
    exact ⟨ret_bool HM.out.symm, bt hb hb2⟩
end Go.Proofs.YtdmnkcmkpjmfaaaGreat

/- DoubleIndicator, the program's and the specification's, and its draw. -/
namespace Go.Proofs.YtdmnkcmkpjmfaaaGreat
open Go.RowKit

def dblT (m : Mach) (g k : ByteArray) : ByteArray × Bool := if setB m g = true ∧ setB m k = true then (wd (encD m g (dg (k ++ k))), true) else (⟨#[]⟩, false)
theorem dblT_yes {m : Mach} {g k : ByteArray} (h1 : setB m g = true) (h2 : setB m k = true) : dblT m g k = (wd (encD m g (dg (k ++ k))), true) := by simp only [dblT, h1, h2, and_self, if_true]
theorem dblT_no {m : Mach} {g k : ByteArray} (h : ¬ (setB m g = true ∧ setB m k = true)) : dblT m g k = (⟨#[]⟩, false) := by simp only [dblT, if_neg h]
theorem setB_3 {m : Mach} {k : ByteArray} (h : setB m k = true) : k.size ≤ 3 := by
  rw [setB_len h]; exact (machB_fit (setB_mach h)).three
theorem setB_1 {m : Mach} {k : ByteArray} (h : setB m k = true) : 1 ≤ k.size := by
  rw [setB_len h]; exact (machB_fit (setB_mach h)).one
theorem wordB_dbl {k : ByteArray} (h : wordB k = true) (h3 : k.size ≤ 3) : wordB (k ++ k) = true := by
  simp only [wordB, Bool.and_eq_true, decide_eq_true_eq] at h ⊢
  refine ⟨by rw [ByteArray.size_append]; omega, ?_⟩
  rw [L_append, List.all_append, h.2]; rfl
end Go.Proofs.YtdmnkcmkpjmfaaaGreat

/- A machine, windows and a menu drawn. -/
namespace Go.Proofs.YtdmnkcmkpjmfaaaGreat
open Go.RowKit
attribute [local go_sem] Oper.semAt_some

section
variable {P : Program} {ops : Array Oper} {Q : Exit → Act → World → Prop} {md : Region.Mode} {S : World → Prop} {kp : Nat → Bool}
/-- A call whose answer is one of many. -/
theorem kr_callM (i d : Nat) {o : Oper} {f : FuncId} {args : Array Value} {R : Ending → World → Prop} {fuel : Nat} {listed : Array Bool} {a : Act} {w : World} (hr : Region.ready md ops listed = [i]) (hi : ops[i]? = some o) (hw : Region.wanted o (yielded ops a.tmps) = true)
    (hd : o.dst = some d) (he : ∀ w, (execOp a.eval o).run P w = .ok (.enter f args) w) (hc : Calls P f args w R)
    (h : ∀ e w', R e w' → ∃ v, e = .returned v ∧ S w' ∧ wpAnyK P md ops Q S kp fuel (listed.setIfInBounds i true) (a.put (some d) v) w') : wpAnyK P md ops Q S kp (fuel + 1) listed a w := by
  refine kr_one i hr hi hw ?_
  simp only [Oper.wp, he, Oper.upon]
  refine hc.mono ?_
  intro e w' hT
  obtain ⟨v, rfl, h1, h2⟩ := h e w' hT
  rw [hd]
  exact ⟨fun _ => h1, h2⟩
end
/-- A machine, windows that fit it, and a menu. -/
def FitL (R c : Nat) (w : World) (e : Ending) (w' : World) : Prop :=
  ∃ (m : Mach) (u : ByteArray) (ms : List Lnk) (g cp gm cm : Nat), GoodW3 m.wheels ∧ setB m u = true ∧ e = .returned (.tuple #[.agg #[.slice (some ⟨g, 0, none⟩) m.wheels.rotors.length cp, .string m.wheels.refl, .string m.rings, .string m.plugs], .string u, .slice (some ⟨gm, 0, none⟩) ms.length cm]) ∧
    OwR w' w.heap.size 159 2 (.slice (some ⟨g, 0, none⟩) m.wheels.rotors.length cp) m.wheels.rotors.length (rvs m.wheels.rotors) ∧ w.heap.size < g ∧ 1 ≤ ms.length ∧ ms.length ≤ 12 ∧ (∀ x ∈ ms, x.p.size ≤ 10 ∧ x.c.size ≤ 10) ∧ OwR w' w.heap.size 72 3 (.slice (some ⟨gm, 0, none⟩) ms.length cm) ms.length (lks ms) ∧ gm ≠ g ∧ w.heap.size < gm ∧ Rd w' R c ∧ Moved R w w'
set_option maxRecDepth 100000 in
set_option maxHeartbeats 2000000 in
theorem l13Some_any (R : Nat) (c : Nat) (w : World) (h : Rd w R c) (hc : c ≤ 5000000) :
    Calls Tryz.prog 129 #[.pointer (some ⟨R, 0, none⟩)] w (FitL R (c + 900) w) := by
  have hltR := h.lt
  have o0 := Own.new w [.slice none 0 0, .string ⟨#[]⟩, .string ⟨#[]⟩, .string ⟨#[]⟩] 36
  have hr0 := h.alloc (.cells #[.slice none 0 0, .string ⟨#[]⟩, .string ⟨#[]⟩, .string ⟨#[]⟩] 36)
  have hm0 := (Moved.refl R w).alloc (.cells #[.slice none 0 0, .string ⟨#[]⟩, .string ⟨#[]⟩, .string ⟨#[]⟩] 36)
  go_enter Tryz.func129, Tryz.ntmps129
  go_wp2_with fail
  refine (l8Any_any R c _ hr0 (by omega)).mono ?_
  rintro e w2 ⟨m, v, g, cp, hx, hset, rfl, hown2, hg, hr2, hm2⟩
  have o2 := o0.grown hm2 (by simp; omega)
  have hmw2 := hm0.trans hm2
  have hv3 := setB_3 hset
  have hv1 := setB_1 hset
  rw [World.size_alloc] at hown2 hg
  clear o0 hr0 hm0 hm2 h
  generalize hB0 : w.heap.size = B0 at *
  have HB0 := Lib.hid hB0
  clear hB0
  have p2 := Own.new w2 [.slice (some ⟨g, 0, none⟩) m.wheels.rotors.length cp, .string m.wheels.refl, .string m.rings, .string m.plugs] 36
  have o2' := o2.alloc (.cells [.slice (some ⟨g, 0, none⟩) m.wheels.rotors.length cp, .string m.wheels.refl, .string m.rings, .string m.plugs].toArray 36)
  have hr2' := hr2.alloc (.cells [.slice (some ⟨g, 0, none⟩) m.wheels.rotors.length cp, .string m.wheels.refl, .string m.rings, .string m.plugs].toArray 36)
  have hown2' := World.ownsRow.alloc hown2 (.cells [.slice (some ⟨g, 0, none⟩) m.wheels.rotors.length cp, .string m.wheels.refl, .string m.rings, .string m.plugs].toArray 36)
  have hm2' := hmw2.alloc (.cells [.slice (some ⟨g, 0, none⟩) m.wheels.rotors.length cp, .string m.wheels.refl, .string m.rings, .string m.plugs].toArray 36)
  have l2 := o2.lt
  have lg := (World.ownsRow.lt hown2 g rfl).2
  go_wp2_with fail
  generalize (w2.alloc (.cells [.slice (some ⟨g, 0, none⟩) m.wheels.rotors.length cp, .string m.wheels.refl, .string m.rings, .string m.plugs].toArray 36)) = W2 at *
  generalize w2.heap.size = B2 at *
  clear o2 hr2 hown2 hmw2
  refine (pick_any R _ _ _ hr2' (by omega) (by omega) (by omega)).mono ?_
  rintro e w3 ⟨x, rfl, hx0, hx1, _, hr3, hm3⟩
  have o3 := o2'.grown hm3 (by simp; omega)
  have p3 := p2.grown hm3 (by simp; omega)
  have hown3 := OwR.moved (R := R) (base := B0 + 1) hown2' hm3 (by omega)
  have hmw3 := hm2'.trans hm3
  have l3 := p3.lt
  clear o2' p2 hown2' hm2' hm3 hr2' hx1
  by_cases e0 : x = 0
  · have t0 : (x == 0) = true := by simp [e0]
    clear e0
    go_wp2_with fail
    refine wp_onlyN ?_
    refine wp_region_any (by kernel_rfl) ?_
    refine wpAny_of_K (S := fun w' => w'.rangeAt B2 0 [.slice (some ⟨g, 0, none⟩) m.wheels.rotors.length cp, .string m.wheels.refl, .string m.rings, .string m.plugs]) (kp := fun _ => true) _ _ _ _ ?_
    have hbd : Below w3.heap.size w3 w3.drew := (Below.refl _ _).drew
    have hS : w3.drew.rangeAt B2 0 [.slice (some ⟨g, 0, none⟩) m.wheels.rotors.length cp, .string m.wheels.refl, .string m.rings, .string m.plugs] := (p3.below hbd l3).cells.range
    refine kr_take 0 21 (v := .agg #[.slice (some ⟨g, 0, none⟩) m.wheels.rotors.length cp, .string m.wheels.refl, .string m.rings, .string m.plugs]) rfl (by kernel_rfl) (by kernel_rfl) (by kernel_rfl) (by kernel_rfl) (fun _ _ _ h => by cases h.1) rfl hS (yieldsIf_load_mid (by rfl) _ _ rfl _ _ rfl _ _ (fun _ h => h) Tryz.underlying36 rfl (by kernel_rfl)) ?_
    simp only [Act.put, List.setIfInBounds_toArray, List.set_cons_succ, List.set_cons_zero]
    refine kr_take 1 22 (v := .string v) rfl (by kernel_rfl) (by kernel_rfl) (by kernel_rfl) (by kernel_rfl) (fun _ _ _ h => by cases h.1) rfl hS (Or.inl ⟨by rfl, fun _ _ => rfl⟩) ?_
    simp only [Act.put, List.setIfInBounds_toArray, List.set_cons_succ, List.set_cons_zero]
    refine kr_take 2 23 (v := .pointer (some ⟨R, 0, none⟩)) rfl (by kernel_rfl) (by kernel_rfl) (by kernel_rfl) (by kernel_rfl) (fun _ _ _ h => by cases h.1) rfl hS (Or.inl ⟨by rfl, fun _ _ => rfl⟩) ?_
    simp only [Act.put, List.setIfInBounds_toArray, List.set_cons_succ, List.set_cons_zero]
    refine kr_callM 3 24 (by kernel_rfl) rfl (by rfl) rfl (fun w => by simp [go_sem]) (l12Menu_any R _ w3.drew hr3.drew (by omega)) (fun e w4 hT => ?_)
    obtain ⟨ms, gm, cm, rfl, hl1, hl2, hsm, hrow, hr4, hm4⟩ := hT
    have o4 := o3.drew.grown hm4 (by simp; omega)
    have p4 := p3.drew.grown hm4 (by simp; omega)
    have hown4 := OwR.moved (w := w3.drew) hown3 hm4 (by omega)
    have hmw4 := hmw3.drew.trans hm4
    have hgm := (World.ownsRow.lt hrow gm rfl).1
    have hgm' : w3.heap.size ≤ gm := hgm
    have hz4 := hm4.size
    refine ⟨_, rfl, p4.cells.range, ?_⟩
    simp only [Act.put, List.setIfInBounds_toArray, List.set_cons_succ, List.set_cons_zero]
    have c0 := o4.at_ (i := 0) rfl
    have c1 := o4.at_ (i := 1) rfl
    have c2 := o4.at_ (i := 2) rfl
    have c3 := o4.at_ (i := 3) rfl
    have b0 := o4.free 0 (by simp)
    have b1 := o4.free 1 (by simp)
    have b2 := o4.free 2 (by simp)
    have b3 := o4.free 3 (by simp)
    refine kr_one 4 (by kernel_rfl) rfl (by rfl) ?_
    simp [Oper.wp, Oper.upon, go_sem, c0, c1, c2, c3, b0, b1, b2, b3]
    have p5 := (((p4.far (p := ⟨B0, 0, none⟩) (by simp; omega) (.slice (some ⟨g, 0, none⟩) m.wheels.rotors.length cp)).far (p := ⟨B0, 1, none⟩) (by simp; omega) (.string m.wheels.refl)).far (p := ⟨B0, 2, none⟩) (by simp; omega) (.string m.rings)).far (p := ⟨B0, 3, none⟩) (by simp; omega) (.string m.plugs)
    have hS5 := p5.cells.range
    refine ⟨hS5, ?_⟩
    refine kr_take 5 3 (v := .string v) rfl (by kernel_rfl) (by kernel_rfl) (by kernel_rfl) (by kernel_rfl) (fun _ _ _ h => by cases h.1) rfl hS5 (Or.inl ⟨by rfl, fun _ _ => rfl⟩) ?_
    simp only [Act.put, List.setIfInBounds_toArray, List.set_cons_succ, List.set_cons_zero]
    refine kr_take 6 4 (v := .slice (some ⟨gm, 0, none⟩) ms.length cm) rfl (by kernel_rfl) (by kernel_rfl) (by kernel_rfl) (by kernel_rfl) (fun _ _ _ h => by cases h.1) rfl hS5 (Or.inl ⟨by rfl, fun _ _ => rfl⟩) ?_
    simp only [Act.put, List.setIfInBounds_toArray, List.set_cons_succ, List.set_cons_zero]
    refine ⟨by kernel_rfl, onlyN_mk ?_⟩
    have oz := o4.set4 (.slice (some ⟨g, 0, none⟩) m.wheels.rotors.length cp) (.string m.wheels.refl) (.string m.rings) (.string m.plugs)
    have k0 := oz.at_ (i := 0) rfl
    have k1 := oz.at_ (i := 1) rfl
    have k2 := oz.at_ (i := 2) rfl
    have k3 := oz.at_ (i := 3) rfl
    unfold set4 at k0 k1 k2 k3
    go_wp2
    refine bodyPost_ret (v := .tuple #[.agg #[.slice (some ⟨g, 0, none⟩) m.wheels.rotors.length cp, .string m.wheels.refl, .string m.rings, .string m.plugs], .string v, .slice (some ⟨gm, 0, none⟩) ms.length cm]) (by simp [results, Tryz.results129, go_sem, k0, k1, k2, k3]) rfl ?_
    refine ⟨m, v, ms, g, cp, gm, cm, hx, hset, rfl, ?_, by rw [HB0.out]; omega, hl1, hl2, hsm, ?_, by omega, by rw [HB0.out]; omega, (hr4.set4 (by omega) _ _ _ _).more (by omega), hmw4.set4 (by rw [HB0.out]; exact Nat.le_refl _) _ _ _ _⟩
    · rw [HB0.out]
      exact World.ownsRow.mono (OwR.set4 hown4 (by omega) _ _ _ _) (by omega)
    · rw [HB0.out]
      exact World.ownsRow.mono (OwR.set4 hrow (by omega) _ _ _ _) (by show B0 ≤ w3.heap.size; omega)
  · have t0 : (x == 0) = false := by simp [e0]
    clear e0
    clear hx0
    go_wp2_with fail
    refine (pick_any R _ _ _ hr3 (by omega) (by omega) (by omega)).mono ?_
    rintro e w4 ⟨x1, rfl, hx10, hx11, _, hr4, hm4⟩
    have hx1z := hx11 (by omega)
    have o4 := o3.grown hm4 (by simp; omega)
    have p4 := p3.grown hm4 (by simp; omega)
    have hown4 := OwR.moved (R := R) hown3 hm4 (by omega)
    have hmw4 := hmw3.trans hm4
    clear o3 p3 hown3 hmw3 hm4 hr3 hx11
    obtain ⟨a1, rfl⟩ := Int.eq_ofNat_of_zero_le hx10
    obtain ⟨L1, hL1⟩ : ∃ L1 : Nat, L1 = 2 + a1 := ⟨_, rfl⟩
    have hadd1 : IntKind.i64.wrap (2 + (a1 : Int)) = (L1 : Int) := by rw [IntWalk.i64_in _ (by omega)]; omega
    have hL1b : 2 ≤ L1 ∧ L1 ≤ 10 := by omega
    clear hL1
    go_wp2_with fail
    refine (l1Some_any R L1 _ _ hr4 (by omega) (by omega)).mono ?_
    rintro e w5 ⟨s, hs, rfl, hr5, hm5⟩
    have o5 := o4.grown hm5 (by simp; omega)
    have p5 := p4.grown hm5 (by simp; omega)
    have hown5 := OwR.moved (R := R) hown4 hm5 (by omega)
    have hmw5 := hmw4.trans hm5
    clear o4 p4 hown4 hmw4 hm5 hr4
    go_wp2_with fail
    refine (pick_any R _ _ _ hr5 (by omega) (by omega) (by omega)).mono ?_
    rintro e w6 ⟨x2, rfl, _, _, _, hr6, hm6⟩
    have o6 := o5.grown hm6 (by simp; omega)
    have p6 := p5.grown hm6 (by simp; omega)
    have hown6 := OwR.moved (R := R) hown5 hm6 (by omega)
    have hmw6 := hmw5.trans hm6
    clear o5 p5 hown5 hmw5 hm6 hr5
    have l6 := p6.lt
    go_upto_if 32 with (fail)
    go_cut [7] (fun u wr => ∃ (s : ByteArray) (L1 : Nat), u = .string s ∧ Wd L1 s ∧ 2 ≤ L1 ∧ L1 ≤ 10 ∧ Own wr B0 [.slice none 0 0, .string ⟨#[]⟩, .string ⟨#[]⟩, .string ⟨#[]⟩] ∧ Own wr B2 [.slice (some ⟨g, 0, none⟩) m.wheels.rotors.length cp, .string m.wheels.refl, .string m.rings, .string m.plugs] ∧ OwR wr (B0 + 1) 159 2 (.slice (some ⟨g, 0, none⟩) m.wheels.rotors.length cp) m.wheels.rotors.length (rvs m.wheels.rotors) ∧ Rd wr R (c + 700) ∧ Moved R w wr)
    case first =>
      by_cases e2 : x2 = 0
      · have t2 : (x2 == 0) = true := by simp [e2]
        clear e2
        go_wp2_with fail
        refine (pick_any R _ _ _ hr6 (by omega) (by omega) (by omega)).mono ?_
        rintro e w7 ⟨x3, rfl, _, _, _, hr7, hm7⟩
        have o7 := o6.grown hm7 (by simp; omega)
        have p7 := p6.grown hm7 (by simp; omega)
        have hown7 := OwR.moved (R := R) hown6 hm7 (by omega)
        have hmw7 := hmw6.trans hm7
        clear o6 p6 hown6 hmw6 hm7 hr6
        go_wp2_with fail
        refine (l1Letter_any _ _).mono ?_
        rintro e w8 ⟨rfl, hb8⟩
        have o8 := o7.below hb8 o7.lt
        have p8 := p7.below hb8 p7.lt
        have hown8 := OwR.below hown7 hb8 (Nat.le_refl _)
        have hr8 := hr7.below hb8 hr7.lt
        have hmw8 := hmw7.below hb8
        clear o7 p7 hown7 hmw7 hb8 hr7
        have l8 := p8.lt
        go_wp2_with fail
        refine (pick_any R _ _ _ hr8 (by omega) (by omega) (by omega)).mono ?_
        rintro e w9 ⟨x4, rfl, hx40, hx41, _, hr9, hm9⟩
        have hx4z := hx41 (by omega)
        have o9 := o8.grown hm9 (by simp; omega)
        have p9 := p8.grown hm9 (by simp; omega)
        have hown9 := OwR.moved (R := R) hown8 hm9 (by omega)
        have hmw9 := hmw8.trans hm9
        clear o8 p8 hown8 hmw8 hm9 hr8 hx41
        obtain ⟨a4, rfl⟩ := Int.eq_ofNat_of_zero_le hx40
        obtain ⟨L2, hL2⟩ : ∃ L2 : Nat, L2 = 2 + a4 := ⟨_, rfl⟩
        have hadd2 : IntKind.i64.wrap (2 + (a4 : Int)) = (L2 : Int) := by rw [IntWalk.i64_in _ (by omega)]; omega
        have hL2b : 2 ≤ L2 ∧ L2 ≤ 10 := by omega
        clear hL2
        have nrep := fun W => l21Many_rep (letr x3) L2 W (by omega)
        have hwd := wd_repS (isL_letr x3) (n := L2) (by omega)
        go_wp2_with (go_at_call 134; ((with_reducible refine (nrep _).mono ?_); rintro e w' ⟨rfl, rfl⟩))
        go_meet
        exact ⟨_, L2, rfl, hwd, hL2b.1, hL2b.2, o9, p9, World.ownsRow.mono hown9 (by omega), hr9.more (by omega), hmw9⟩
      · have t2 : (x2 == 0) = false := by simp [e2]
        clear e2
        go_wp2_with fail
        go_meet
        exact ⟨s, L1, rfl, hs, hL1b.1, hL1b.2, o6, p6, World.ownsRow.mono hown6 (by omega), hr6.more (by omega), hmw6⟩
    case rest =>
    clear o6 p6 hown6 hmw6 hr6 l6 hs hL1b
    obtain ⟨s, L1, rfl, hs, hL1, hL2, o6, p6, hown6, hr6, hmw6⟩ := hcut
    have l6 := p6.lt
    go_wp2_with fail
    refine (pick_any R _ _ _ hr6 (by omega) (by omega) (by omega)).mono ?_
    rintro e w7 ⟨x5, rfl, hx50, hx51, _, hr7, hm7⟩
    have hx5z := hx51 (by omega)
    have o7 := o6.grown hm7 (by simp; omega)
    have p7 := p6.grown hm7 (by simp; omega)
    have hown7 := OwR.moved (R := R) hown6 hm7 (by omega)
    have hmw7 := hmw6.trans hm7
    clear o6 p6 hown6 hmw6 hm7 hr6 hx51
    obtain ⟨q, rfl⟩ := Int.eq_ofNat_of_zero_le hx50
    have hsz := hs.2
    have hs2 : 2 ≤ s.size := by omega
    have hs10 : s.size ≤ 10 := by omega
    have hws := hs.1
    obtain ⟨N, hN⟩ : ∃ N : Nat, N = q + s.size := ⟨_, rfl⟩
    have hadd5 : IntKind.i64.wrap ((q : Int) + (s.size : Int)) = (N : Int) := by rw [IntWalk.i64_in _ (by omega)]; omega
    have hN1 : q + s.size ≤ N := by omega
    have hN2 : N ≤ 20 := by omega
    clear hsz hN hs hL1 hL2
    have f0 := p7.at_ (i := 0) rfl
    have f1 := p7.at_ (i := 1) rfl
    have f2 := p7.at_ (i := 2) rfl
    have f3 := p7.at_ (i := 3) rfl
    have hmb := setB_mach hset
    have hat : MachAt w7 w7.heap.size (some ⟨g, 0, none⟩) m.wheels.rotors.length m := ⟨hx.small.at_ (Reads.of_own (OwR.own hown7) (OwR.own hown7).lt), by rw [(machB_fit hmb).size]; have := hx.2.1; omega, by rw [permB_size (plugB_perm (machB_plug hmb))]; omega⟩
    go_wp2_with fail
    refine (l8Perms_any _ _ _ m v N w7 hat hset (by omega)).mono ?_
    rintro e w8 ⟨lv, rfl, hol, hb8⟩
    obtain ⟨al, cl2, rfl, hlc, -, hgl⟩ := hol.val
    rw [len_keyS] at *
    obtain ⟨gK, rfl, hgK, ok⟩ := hgl.resolve_left (by omega)
    have o8 := o7.below hb8 o7.lt
    have p8 := p7.below hb8 p7.lt
    have hown8 := OwR.below hown7 hb8 (Nat.le_refl _)
    have hr8 := hr7.below hb8 hr7.lt
    have hmw8 := hmw7.below hb8
    have l7 := p7.lt
    have hzz := hb8.size
    clear o7 p7 hown7 hmw7 hb8 hr7 f0 f1 f2 f3 hat hol hgl
    have o9 := o8.alloc (.cells #[] 72)
    have p9 := p8.alloc (.cells #[] 72)
    have ok9 := ok.alloc (.cells #[] 72)
    have hown9 := World.ownsRow.alloc hown8 (.cells #[] 72)
    have hr9 := hr8.alloc (.cells #[] 72)
    have hmw9 := hmw8.alloc (.cells #[] 72)
    have z9 := World.ownsRow_lit (base := w8.heap.size) (e := 72) (size := 3) w8 #[] 0 (Nat.le_refl _) (by unfold maxLen; omega) (by simp)
    have hlg := (World.ownsRow.lt hown8 g rfl).2
    have lK := ok.lt
    have l8 := p8.lt
    clear o8 p8 ok hown8 hr8 hmw8
    go_wp2_with fail
    generalize (w8.alloc (.cells #[] 72)) = W8 at *
    generalize w8.heap.size = BL at *
    have z9' : OwR W8 BL 72 3 (.slice (some ⟨BL, 0, none⟩) 0 0) 0 (lks []) := z9
    go_loopw [10, 11, 12] (fun u i _ wr => ∃ (k : Nat) (ms : List Lnk) (gm cm : Nat), k ≤ s.size ∧ i = .int .i64 k ∧ ms.length = k ∧ u = .slice (some ⟨gm, 0, none⟩) ms.length cm ∧ (∀ x ∈ ms, x.p.size ≤ 10 ∧ x.c.size ≤ 10) ∧ OwR wr BL 72 3 (.slice (some ⟨gm, 0, none⟩) ms.length cm) ms.length (lks ms) ∧ Own wr gK (sv (keyS m v N)) ∧ Own wr B0 [.slice none 0 0, .string ⟨#[]⟩, .string ⟨#[]⟩, .string ⟨#[]⟩] ∧ Own wr B2 [.slice (some ⟨g, 0, none⟩) m.wheels.rotors.length cp, .string m.wheels.refl, .string m.rings, .string m.plugs] ∧ OwR wr (B0 + 1) 159 2 (.slice (some ⟨g, 0, none⟩) m.wheels.rotors.length cp) m.wheels.rotors.length (rvs m.wheels.rotors) ∧ Rd wr R (c + 701) ∧ Moved R w wr) (fun _ i _ _ => s.size - (intOf i).toNat)
    case atStart => exact ⟨0, [], BL, 0, Nat.zero_le _, rfl, rfl, rfl, by simp, z9', ok9, o9, p9, hown9, hr9.more (by omega), hmw9⟩
    case round =>
      clear z9 z9' ok9 o9 p9 hown9 hr9 hmw9
      obtain ⟨k, ms, gm, cm, hk, rfl, hml, rfl, hsm, hrow, ok, o9, p9, hown9, hr9, hmw9⟩ := hrel
      have HSM := Lib.hid hsm
      have HML := Lib.hid hml
      clear hsm
      by_cases hlt : k < s.size
      · obtain ⟨j, hj⟩ : ∃ j : Nat, j = q + k := ⟨_, rfl⟩
        have haddj : IntKind.i64.wrap ((q : Int) + (k : Int)) = (j : Int) := by rw [IntWalk.i64_in _ (by omega)]; omega
        have hjN : j < N := by omega
        have ck := ok.at_ (at_keyS m v hjN)
        have lk := ok.lt
        have d0 := fun (cc : Cls wr.heap.size wr) => (cc.cell gK j lk).trans ck
        have hdg := wordB_at hws k hlt
        obtain ⟨d, hd⟩ := Int.eq_ofNat_of_zero_le hdg.1
        have hd10 : d < 10 := by omega
        have nd := fun W => l1Digit_any s (k : Int) W (by omega) (by omega) (by omega)
        simp only [Int.toNat_natCast] at nd
        rw [hd] at nd
        have hkk := isP_keyN hmb v j
        have ni := fun W => l2Image_any (wd (keyN m v j)) d W (permB_wd hkk) hd10
        rw [dg_wd hkk.lt] at ni
        have hdl := hkk.at_lt hd10
        have hw10 : (s.extract k (k + 1)).size ≤ 10 := by rw [one_extract hlt, size_S]; simp
        have q1 : (0 : Int) ≤ (k : Int) := by omega
        have q2 : (k : Int) ≤ (k : Int) + 1 := by omega
        have q3 : (k : Int) + 1 ≤ (s.size : Int) := by omega
        have q4 : (0 : Int) ≤ (j : Int) := by omega
        have q5 : (j : Int) < (N : Int) := by omega
        clear hj hdg hd hkk ck
        generalize wd (keyN m v j) = y at *
        generalize pAt (keyN m v j) d = d2 at *
        have nl := fun W => l1Letter_any (d2 : Int) W
        go_wp2_with fail
        refine wp_region_cls (by kernel_rfl) (by kernel_rfl) ?_
        repeat (go_big_quiet_step (first | (go_at_call 90; with_reducible exact cls_same (nd _)) | (go_at_call 89; with_reducible exact cls_same (ni _)) | (go_at_call 95; with_reducible exact cls_of (Nat.le_refl _) (nl _))))
        refine wpQuiet_nil ?_
        intro wc hbc
        have o10 := o9.below hbc o9.lt
        have p10 := p9.below hbc p9.lt
        have ok10 := ok.below hbc lk
        have hown10 := OwR.below hown9 hbc (Nat.le_refl _)
        have hrow10 := OwR.below hrow hbc (Nat.le_refl _)
        have hr10 := hr9.below hbc hr9.lt
        have hmw10 := hmw9.below hbc
        have hbz : BL ≤ wc.heap.size := by have := (World.ownsRow.lt hrow10 gm rfl); omega
        clear o9 p9 ok hown9 hrow hr9 hmw9 d0 hbc
        go_wp2_with (at_builtin; ((with_reducible refine wl_push 38 72 inf_lnk Tryz.underlying38 rfl (by omega) hrow10 (by omega) rfl (one_lnk _ _ _) (by omega) (by omega) rfl rfl ?_); intro g9 cap9 w9 o9 b9 s9))
        go_roundw
        case rel =>
          refine ⟨k + 1, ms ++ [⟨s.extract k (k + 1), S [letr (d2 : Int)], (j : Int) + 1⟩], g9, cap9, by omega, by go_num, by rw [List.length_append, HML.out]; rfl, by rw [List.length_append, HML.out]; rfl, sml_snoc HSM.out hw10 (size_letr1 _), ?_, ok10.below b9 (by omega), o10.below b9 (by omega), p10.below b9 (by omega), OwR.same hown10 (b9.block g (by omega)), hr10.below b9 (by omega), hmw10.bel b9 (by rw [HB0.out]; omega)⟩
          rw [lks_snoc, List.length_append]
          exact o9
        case measure => simp [intOf]; omega
      · have hk' : k = s.size := by omega
        have c0 := o9.at_ (i := 0) rfl
        have c1 := o9.at_ (i := 1) rfl
        have c2 := o9.at_ (i := 2) rfl
        have c3 := o9.at_ (i := 3) rfl
        have b0 := o9.free 0 (by simp)
        have b1 := o9.free 1 (by simp)
        have b2 := o9.free 2 (by simp)
        have b3 := o9.free 3 (by simp)
        have f0 := p9.at_ (i := 0) rfl
        have f1 := p9.at_ (i := 1) rfl
        have f2 := p9.at_ (i := 2) rfl
        have f3 := p9.at_ (i := 3) rfl
        have hgm := (World.ownsRow.lt hrow gm rfl).1
        go_wp2
        have oz := o9.set4 (.slice (some ⟨g, 0, none⟩) m.wheels.rotors.length cp) (.string m.wheels.refl) (.string m.rings) (.string m.plugs)
        have k0 := oz.at_ (i := 0) rfl
        have k1 := oz.at_ (i := 1) rfl
        have k2 := oz.at_ (i := 2) rfl
        have k3 := oz.at_ (i := 3) rfl
        refine bodyPost_ret (v := .tuple #[.agg #[.slice (some ⟨g, 0, none⟩) m.wheels.rotors.length cp, .string m.wheels.refl, .string m.rings, .string m.plugs], .string v, .slice (some ⟨gm, 0, none⟩) ms.length cm]) (by unfold set4 at *; simp [results, Tryz.results129, go_sem, k0, k1, k2, k3]) rfl ?_
        refine ⟨m, v, ms, g, cp, gm, cm, hx, hset, rfl, ?_, by rw [HB0.out]; omega, by omega, by omega, HSM.out, ?_, by omega, by rw [HB0.out]; omega, (hr9.set4 (by omega) _ _ _ _).more (by omega), hmw9.set4 (by rw [HB0.out]; exact Nat.le_refl _) _ _ _ _⟩
        · rw [HB0.out]
          exact World.ownsRow.mono (OwR.set4 hown9 (by omega) _ _ _ _) (by omega)
        · rw [HB0.out]
          exact World.ownsRow.mono (OwR.set4 hrow (by omega) _ _ _ _) (by omega)
end Go.Proofs.YtdmnkcmkpjmfaaaGreat
