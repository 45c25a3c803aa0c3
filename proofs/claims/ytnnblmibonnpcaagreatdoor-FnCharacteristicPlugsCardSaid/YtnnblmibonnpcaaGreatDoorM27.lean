/- Several of my texts in one: DrawN, With, WithG, CpW. -/
import Derived.Test.YtnnblmibonnpcaaGreatDoorM26
import Derived.Test.YtnnblmibonnpcaaGreatDoorM8
import Derived.Test.YtnnblmibonnpcaaGreatDoorM20
import Derived.Test.YtnnblmibonnpcaaGreatDoorM3
import Derived.Test.YtnnblmibonnpcaaGreatDoorM24
import Derived.Test.YtnnblmibonnpcaaGreatDoorM23
import Derived.Lib.SliceRun
import Derived.Test.YtnnblmibonnpcaaGreatDoorM17
import Derived.Test.YtnnblmibonnpcaaGreatDoorM25
import Derived.Test.YtnnblmibonnpcaaGreatDoorM5
/- A machine, windows and a menu drawn. -/
namespace Go.Proofs.YtnnblmibonnpcaaGreatDoor
open Go.RowKit
attribute [local go_sem] Oper.semAt_some

section
variable {P : Program} {ops : Array Oper} {Q : Exit → Act → World → Prop} {md : Region.Mode} {S : World → Prop} {kp : Nat → Bool}
/-- A call whose answer is one of many. -/
theorem kr_callM (i d : Nat) {o : Oper} {f : FuncId} {args : Array Value} {R : Ending → World → Prop} {fuel : Nat} {listed : Array Bool} {a : Act} {w : World} (hr : Region.ready md ops listed = [i]) (hi : ops[i]? = some o) (hw : Region.wanted o (yielded ops a.tmps) = true)
    (hd : o.dst = some d) (he : ∀ w, (execOp a.eval o).run P w = .ok (.enter f args) w) (hc : Calls P f args w R)
    (h : ∀ e w', R e w' → ∃ v, e = .returned v ∧ S w' ∧ wpAnyK P md ops Q S kp fuel (listed.setIfInBounds i true) (a.put (some d) v) w') : wpAnyK P md ops Q S kp (fuel + 1) listed a w := by
  refine kr_one i hr hi hw ?_
  simp only [Oper.wp, he, Oper.upon]
  refine hc.mono ?_
  intro e w' hT
  obtain ⟨v, rfl, h1, h2⟩ := h e w' hT
  rw [hd]
  exact ⟨fun _ => h1, h2⟩
end
end Go.Proofs.YtnnblmibonnpcaaGreatDoor

/- Contracts: a machine is given another plugboard. -/
namespace Go.Proofs.YtnnblmibonnpcaaGreatDoor
open Go.RowKit
attribute [local go_sem] Oper.semAt_some

theorem rvs_one_cell : ∀ (rs : List Rot), ∀ u ∈ rvs rs, u.oneCell' = true
  | [], u, h => by simp [rvs] at h
  | r :: rs, u, h => by
    simp only [rvs, List.mem_cons] at h
    rcases h with rfl | rfl | h
    · rfl
    · rfl
    · exact rvs_one_cell rs u h
/-- A copy of a list of rotors. -/
def CloneP (rs : List Rot) (w : World) (e : Ending) (w' : World) : Prop :=
  ∃ g c, e = .returned (.slice (some ⟨g, 0, none⟩) rs.length c) ∧ w.heap.size ≤ g ∧ Own w' g (rvs rs) ∧ Below w.heap.size w w'
theorem sClone_any (a : Option Addr) (c : Nat) (rs : List Rot) (w : World) (h : Reads w w.heap.size a (rvs rs)) (h1 : 1 ≤ rs.length) (hl : rs.length ≤ 1000000) :
    Calls Tryz.prog 77 #[.slice a rs.length c] w (CloneP rs w) := by
  obtain ⟨b, off, rfl, hb, hc⟩ := h.open_ (by rw [len_rvs]; omega)
  have qT : ∀ (w : World) (a : Option Addr) (n c n' c' : Nat), (binOp .eql 23 (.slice a n c) (.slice none n' c')).run Tryz.prog w = .ok (.bool a.isNone) w := fun w a n c n' c' => Lib.run_eql_slice_nil w _ _ a n c n' c' Tryz.underlying23
  have hb0 := (Below.refl w.heap.size w).alloc (Nat.le_refl _) (.cells #[] 94)
  have own : OwR (w.alloc (.cells #[] 94)) w.heap.size 94 2 (.slice (some ⟨w.heap.size, 0, none⟩) 0 0) 0 [] := by
    simpa using World.ownsRow_lit (base := w.heap.size) (e := 94) (size := 2) w #[] 0 (by simp) (by unfold maxLen; omega) (by simp)
  have hl1 : (rvs rs).length = rs.length * 2 := by rw [len_rvs]; omega
  have hn1 : ∀ j u, (rvs rs)[j]? = some u → (w.alloc (.cells #[] 94)).cell? ((⟨b, off, none⟩ : Addr).add j) = some u := fun j u hu => by
    rw [add_none, hb0.cell (p := ⟨b, off + j, none⟩) hb, hc j (List.getElem?_eq_some_iff.1 hu).1]; exact hu
  have HC := Lib.hid hc
  clear hc h
  go_enter Tryz.func77, Tryz.ntmps77
  go_wp2_with (at_builtin; ((with_reducible refine wl_pushs 23 94 inf_rotor Tryz.underlying23 rfl (by omega) own (by simp) hl1 hn1 (rvs_one_cell rs) (by omega) (by omega) (by omega) rfl rfl ?_); intro g cap w2 o2 b2 k2))
  go_ret
  rw [List.nil_append, Nat.zero_add] at o2
  exact ⟨g, cap, rfl, (World.ownsRow.lt o2 g rfl).1, OwR.own o2, hb0.trans b2⟩
/-- A copy of wheels. -/
def WhlCloneP (x : Whl) (w : World) (e : Ending) (w' : World) : Prop :=
  ∃ g c', e = .returned (.agg #[.slice (some ⟨g, 0, none⟩) x.rotors.length c', .string x.refl]) ∧ w.heap.size ≤ g ∧ Own w' g (rvs x.rotors) ∧ Below w.heap.size w w'
theorem whlClone_any (a : Option Addr) (c : Nat) (x : Whl) (w : World) (h : Reads w w.heap.size a (rvs x.rotors)) (h1 : 1 ≤ x.rotors.length) (hl : x.rotors.length ≤ 1000000) :
    Calls Tryz.prog 42 #[.agg #[.slice a x.rotors.length c, .string x.refl]] w (WhlCloneP x w) := by
  have o0 := (Own.new w [.slice a x.rotors.length c, .string x.refl] 25).alloc (.cells #[.slice none 0 0, .string ⟨#[]⟩] 25)
  have p0 := Own.new (w.alloc (.cells [.slice a x.rotors.length c, .string x.refl].toArray 25)) [.slice none 0 0, .string ⟨#[]⟩] 25
  have hb0 := ((Below.refl w.heap.size w).alloc (Nat.le_refl _) (.cells [.slice a x.rotors.length c, .string x.refl].toArray 25)).alloc (by simp) (.cells #[.slice none 0 0, .string ⟨#[]⟩] 25)
  rw [World.size_alloc] at p0
  have hr := (h.below hb0 (Nat.le_refl _)).more hb0.size
  clear h
  go_enter Tryz.func42, Tryz.ntmps42
  go_wp2_with fail
  generalize ((w.alloc (.cells [.slice a x.rotors.length c, .string x.refl].toArray 25)).alloc (.cells #[.slice none 0 0, .string ⟨#[]⟩] 25)) = W at *
  generalize hB : w.heap.size = B at *
  have l0 := p0.lt
  have l1 := o0.lt
  have HB := Lib.hid hB
  clear hB
  refine wp_onlyN ?_
  refine wp_region_any (by kernel_rfl) ?_
  refine wpAny_of_K (S := fun w' => w'.cell? ⟨B, 0, none⟩ = some (.slice a x.rotors.length c) ∧ w'.cell? ⟨B, 1, none⟩ = some (.string x.refl)) (kp := fun _ => true) _ _ _ _ ?_
  have hS : (fun w' : World => w'.cell? ⟨B, 0, none⟩ = some (.slice a x.rotors.length c) ∧ w'.cell? ⟨B, 1, none⟩ = some (.string x.refl)) W.drew := ⟨o0.drew.at_ (i := 0) rfl, o0.drew.at_ (i := 1) rfl⟩
  refine kr_take 0 3 (v := .pointer (some ⟨B, 0, none⟩)) rfl (by kernel_rfl) (by kernel_rfl) (by kernel_rfl) (by kernel_rfl) (fun _ _ _ h => by cases h.1) rfl hS (Or.inl ⟨by rfl, fun _ _ => by simp [go_sem]⟩) ?_; simp only [Act.put, List.setIfInBounds_toArray, List.set_cons_succ, List.set_cons_zero]
  refine kr_take 1 4 (v := .slice a x.rotors.length c) rfl (by kernel_rfl) (by kernel_rfl) (by kernel_rfl) (by kernel_rfl) (fun _ _ _ h => by cases h.1) rfl hS (Or.inl ⟨by rfl, fun w' hw' => by have hw1 := hw'.1; simp [go_sem, hw1]⟩) ?_; simp only [Act.put, List.setIfInBounds_toArray, List.set_cons_succ, List.set_cons_zero]
  refine kr_take 3 6 (v := .pointer (some ⟨B, 1, none⟩)) rfl (by kernel_rfl) (by kernel_rfl) (by kernel_rfl) (by kernel_rfl) (fun _ _ _ h => by cases h.1) rfl hS (Or.inl ⟨by rfl, fun _ _ => by simp [go_sem]⟩) ?_; simp only [Act.put, List.setIfInBounds_toArray, List.set_cons_succ, List.set_cons_zero]
  refine kr_take 4 7 (v := .string x.refl) rfl (by kernel_rfl) (by kernel_rfl) (by kernel_rfl) (by kernel_rfl) (fun _ _ _ h => by cases h.1) rfl hS (Or.inl ⟨by rfl, fun w' hw' => by have hw1 := hw'.2; simp [go_sem, hw1]⟩) ?_; simp only [Act.put, List.setIfInBounds_toArray, List.set_cons_succ, List.set_cons_zero]
  refine kr_callM 2 5 (by kernel_rfl) rfl (by rfl) rfl (fun w => by simp [go_sem]) (sClone_any a c x.rotors W.drew (hr.keep (fun _ _ => rfl)) h1 hl) (fun e w1 hT => ?_)
  obtain ⟨g, c', rfl, hg, og, hb1⟩ := hT
  have hgW : W.heap.size ≤ g := hg
  have o1 := o0.drew.below hb1 o0.lt
  have p1 := p0.drew.below hb1 p0.lt
  have hS1 : (fun w' : World => w'.cell? ⟨B, 0, none⟩ = some (.slice a x.rotors.length c) ∧ w'.cell? ⟨B, 1, none⟩ = some (.string x.refl)) w1 := ⟨o1.at_ (i := 0) rfl, o1.at_ (i := 1) rfl⟩
  refine ⟨_, rfl, hS1, ?_⟩
  simp only [Act.put, List.setIfInBounds_toArray, List.set_cons_succ, List.set_cons_zero]
  have hS := hS1
  refine kr_take 5 8 (v := .agg #[.slice (some ⟨g, 0, none⟩) x.rotors.length c', .string x.refl]) rfl (by kernel_rfl) (by kernel_rfl) (by kernel_rfl) (by kernel_rfl) (fun _ _ _ h => by cases h.1) rfl hS (Or.inl ⟨by rfl, fun _ _ => by simp [go_sem]⟩) ?_; simp only [Act.put, List.setIfInBounds_toArray, List.set_cons_succ, List.set_cons_zero]
  have e0 := p1.at_ (i := 0) rfl
  have e1 := p1.at_ (i := 1) rfl
  have g0 := p1.free 0 (by simp)
  have g1 := p1.free 1 (by simp)
  refine kr_one 6 (by kernel_rfl) rfl (by rfl) ?_
  simp [Oper.wp, Oper.upon, go_sem, e0, e1, g0, g1]
  have pz := (p1.set_ (i := 0) (by simp) (.slice (some ⟨g, 0, none⟩) x.rotors.length c')).set_ (i := 1) (by simp) (.string x.refl)
  refine ⟨hS1, ?_⟩
  refine ⟨by kernel_rfl, onlyN_mk ?_⟩
  have k0 := pz.at_ (i := 0) rfl
  have k1 := pz.at_ (i := 1) rfl
  go_wp2
  refine bodyPost_ret (v := .agg #[.slice (some ⟨g, 0, none⟩) x.rotors.length c', .string x.refl]) (by simp [results, Tryz.results42, go_sem, k0, k1]) rfl ?_
  exact ⟨g, c', rfl, by rw [HB.out]; omega, (og.far (by simp; omega) _).far (by simp; omega) _, by rw [HB.out]; exact ((hb0.drew.trans (hb1.mono (show B ≤ W.heap.size by omega))).setCell (show B ≤ B + 1 by omega) _).setCell (show B ≤ B + 1 by omega) _⟩
/-- A machine without pairs on its plugboard, its rotors copied. -/
def WithP (m : Mach) (w : World) (e : Ending) (w' : World) : Prop :=
  ∃ g c', e = .returned (.tuple #[.agg #[.slice (some ⟨g, 0, none⟩) m.wheels.rotors.length c', .string m.wheels.refl, .string m.rings, .string (wd idP)], .bool true]) ∧ w.heap.size ≤ g ∧ Own w' g (rvs m.wheels.rotors) ∧ Below w.heap.size w w'
set_option maxHeartbeats 1000000 in
/-- A valid machine without pairs on its plugboard. -/
theorem withPlugs_any (a : Option Addr) (c : Nat) (m : Mach) (w : World) (h : MachAt w w.heap.size a m.wheels.rotors.length m) (hm : machB m = true) :
    Calls Tryz.prog 14 #[.agg #[.slice a m.wheels.rotors.length c, .string m.wheels.refl, .string m.rings, .string m.plugs], .string (wd idP)] w (WithP m w) := by
  have o0 := (Own.new w [.slice a m.wheels.rotors.length c, .string m.wheels.refl, .string m.rings, .string m.plugs] 27).alloc (.cells #[.slice none 0 0, .string ⟨#[]⟩, .string ⟨#[]⟩, .string ⟨#[]⟩] 27)
  have p0 := Own.new (w.alloc (.cells [.slice a m.wheels.rotors.length c, .string m.wheels.refl, .string m.rings, .string m.plugs].toArray 27)) [.slice none 0 0, .string ⟨#[]⟩, .string ⟨#[]⟩, .string ⟨#[]⟩] 27
  have hb0 := ((Below.refl w.heap.size w).alloc (Nat.le_refl _) (.cells [.slice a m.wheels.rotors.length c, .string m.wheels.refl, .string m.rings, .string m.plugs].toArray 27)).alloc (by simp) (.cells #[.slice none 0 0, .string ⟨#[]⟩, .string ⟨#[]⟩, .string ⟨#[]⟩] 27)
  rw [World.size_alloc] at p0
  have h' := (h.below hb0 (Nat.le_refl _)).more hb0.size
  have nm := fun W h => implMachineValid_any a m.wheels.rotors.length c m W h
  rw [hm] at nm
  have np := fun W => implPlugsValid_any (wd idP) W (by rw [size_wd]; decide)
  rw [plugB_id] at np
  have hF := machB_fit hm
  have hone := hF.one
  have hthree := hF.three
  have hsz : (Tryz.prog.info? 25).map (·.size) = some [Value.slice a m.wheels.rotors.length c, .string m.wheels.refl].length := by kernel_rfl
  go_enter Tryz.func14, Tryz.ntmps14
  go_wp2_with fail
  refine (nm _ h').mono ?_
  rintro e w1 ⟨rfl, hb1⟩
  have o1 := o0.below hb1 o0.lt
  have p1 := p0.below hb1 p0.lt
  have hbw1 := bt hb0 hb1
  clear o0 p0 hb0 hb1 h' nm
  go_wp2_with fail
  refine (np _).mono ?_
  rintro e w2 ⟨rfl, hb2⟩
  have o2 := o1.below hb2 o1.lt
  have p2 := p1.below hb2 p1.lt
  have hbw2 := bt hbw1 hb2
  have h2 := h.whl
  clear o1 p1 hbw1 hb2 np
  go_wp2_with fail
  have hr2 := (h2.reads.below hbw2 (Nat.le_refl _)).more hbw2.size
  have l1 := o2.lt
  have hS0 : w2.drew.rangeAt w.heap.size 0 [.slice a m.wheels.rotors.length c, .string m.wheels.refl] := by
    have := (o2.cells.sub 0 2 (by simp)).range
    simpa using this
  refine wp_onlyN ?_
  refine wp_region_any (by kernel_rfl) ?_
  refine wpAny_of_K (S := fun w' => w'.rangeAt w.heap.size 0 [.slice a m.wheels.rotors.length c, .string m.wheels.refl] ∧ w'.cell? ⟨w.heap.size, 2, none⟩ = some (.string m.rings)) (kp := fun _ => true) _ _ _ _ ?_
  have hS : (fun w' : World => w'.rangeAt w.heap.size 0 [.slice a m.wheels.rotors.length c, .string m.wheels.refl] ∧ w'.cell? ⟨w.heap.size, 2, none⟩ = some (.string m.rings)) w2.drew := ⟨hS0, o2.drew.at_ (i := 2) rfl⟩
  refine kr_take 0 15 (v := .pointer (some ⟨w.heap.size, 0, none⟩)) rfl (by kernel_rfl) (by kernel_rfl) (by kernel_rfl) (by kernel_rfl) (fun _ _ _ h => by cases h.1) rfl hS (Or.inl ⟨by rfl, fun _ _ => by simp [go_sem]⟩) ?_; simp only [Act.put, List.setIfInBounds_toArray, List.set_cons_succ, List.set_cons_zero]
  refine kr_take 1 16 (v := .agg #[.slice a m.wheels.rotors.length c, .string m.wheels.refl]) rfl (by kernel_rfl) (by kernel_rfl) (by kernel_rfl) (by kernel_rfl) (fun _ _ _ h => by cases h.1) rfl hS (yieldsIf_load_mid (by rfl) _ _ rfl _ _ rfl _ _ (fun _ h => h.1) Tryz.underlying25 rfl hsz) ?_; simp only [Act.put, List.setIfInBounds_toArray, List.set_cons_succ, List.set_cons_zero]
  refine kr_take 3 18 (v := .pointer (some ⟨w.heap.size, 2, none⟩)) rfl (by kernel_rfl) (by kernel_rfl) (by kernel_rfl) (by kernel_rfl) (fun _ _ _ h => by cases h.1) rfl hS (Or.inl ⟨by rfl, fun _ _ => by simp [go_sem]⟩) ?_; simp only [Act.put, List.setIfInBounds_toArray, List.set_cons_succ, List.set_cons_zero]
  refine kr_take 4 19 (v := .string m.rings) rfl (by kernel_rfl) (by kernel_rfl) (by kernel_rfl) (by kernel_rfl) (fun _ _ _ h => by cases h.1) rfl hS (Or.inl ⟨by rfl, fun w' hw' => by have hw1 := hw'.2; simp [go_sem, hw1]⟩) ?_; simp only [Act.put, List.setIfInBounds_toArray, List.set_cons_succ, List.set_cons_zero]
  refine kr_take 5 20 (v := .string (wd idP)) rfl (by kernel_rfl) (by kernel_rfl) (by kernel_rfl) (by kernel_rfl) (fun _ _ _ h => by cases h.1) rfl hS (Or.inl ⟨by rfl, fun _ _ => rfl⟩) ?_; simp only [Act.put, List.setIfInBounds_toArray, List.set_cons_succ, List.set_cons_zero]
  refine kr_callM 2 17 (by kernel_rfl) rfl (by rfl) rfl (fun w => by simp [go_sem]) (whlClone_any a c m.wheels w2.drew (hr2.keep (fun _ _ => rfl)) hone (by omega)) (fun e w3 hT => ?_)
  obtain ⟨g, c', rfl, hg, og, hb3⟩ := hT
  have hgW : w2.heap.size ≤ g := hg
  have o3 := o2.drew.below hb3 o2.lt
  have p3 := p2.drew.below hb3 p2.lt
  have hz2 := hbw2.size
  have hbw3 : Below w.heap.size w w3 := hbw2.drew.trans (hb3.mono (show w.heap.size ≤ w2.heap.size by omega))
  have l3 := p2.lt
  have hS1 : w3.rangeAt w.heap.size 0 [.slice a m.wheels.rotors.length c, .string m.wheels.refl] ∧ w3.cell? ⟨w.heap.size, 2, none⟩ = some (.string m.rings) := ⟨by simpa using (o3.cells.sub 0 2 (by simp)).range, o3.at_ (i := 2) rfl⟩
  refine ⟨_, rfl, hS1, ?_⟩
  simp only [Act.put, List.setIfInBounds_toArray, List.set_cons_succ, List.set_cons_zero]
  have hS := hS1
  refine kr_take 6 21 (v := .agg #[.slice (some ⟨g, 0, none⟩) m.wheels.rotors.length c', .string m.wheels.refl, .string m.rings, .string (wd idP)]) rfl (by kernel_rfl) (by kernel_rfl) (by kernel_rfl) (by kernel_rfl) (fun _ _ _ h => by cases h.1) rfl hS (Or.inl ⟨by rfl, fun _ _ => by simp [go_sem]⟩) ?_; simp only [Act.put, List.setIfInBounds_toArray, List.set_cons_succ, List.set_cons_zero]
  have e0 := p3.at_ (i := 0) rfl
  have e1 := p3.at_ (i := 1) rfl
  have e2 := p3.at_ (i := 2) rfl
  have e3 := p3.at_ (i := 3) rfl
  have g0 := p3.free 0 (by simp)
  have g1 := p3.free 1 (by simp)
  have g2 := p3.free 2 (by simp)
  have g3 := p3.free 3 (by simp)
  refine kr_one 7 (by kernel_rfl) rfl (by rfl) ?_
  simp [Oper.wp, Oper.upon, go_sem, e0, e1, e2, e3, g0, g1, g2, g3]
  have hn : w.heap.size ≠ w.heap.size + 1 := by omega
  have o4 := (((o3.far (p := ⟨w.heap.size + 1, 0, none⟩) hn (.slice (some ⟨g, 0, none⟩) m.wheels.rotors.length c')).far (p := ⟨w.heap.size + 1, 1, none⟩) hn (.string m.wheels.refl)).far (p := ⟨w.heap.size + 1, 2, none⟩) hn (.string m.rings)).far (p := ⟨w.heap.size + 1, 3, none⟩) hn (.string (wd idP))
  have hr4 := (o4.cells.sub 0 2 (by simp)).range
  have hk4 := o3.at_ (i := 2) rfl
  refine ⟨⟨by simpa using hr4, hk4⟩, ?_⟩
  have hS : (fun w' : World => w'.rangeAt w.heap.size 0 [.slice a m.wheels.rotors.length c, .string m.wheels.refl] ∧ w'.cell? ⟨w.heap.size, 2, none⟩ = some (.string m.rings)) ((((w3.setCell ⟨w.heap.size + 1, 0, none⟩ (.slice (some ⟨g, 0, none⟩) m.wheels.rotors.length c')).setCell ⟨w.heap.size + 1, 1, none⟩ (.string m.wheels.refl)).setCell ⟨w.heap.size + 1, 2, none⟩ (.string m.rings)).setCell ⟨w.heap.size + 1, 3, none⟩ (.string (wd idP))) := ⟨by simpa using hr4, o4.at_ (i := 2) rfl⟩
  refine kr_take 8 5 (v := .bool true) rfl (by kernel_rfl) (by kernel_rfl) (by kernel_rfl) (by kernel_rfl) (fun _ _ _ h => by cases h.1) rfl hS (Or.inl ⟨by rfl, fun _ _ => rfl⟩) ?_; simp only [Act.put, List.setIfInBounds_toArray, List.set_cons_succ, List.set_cons_zero]
  refine ⟨by kernel_rfl, onlyN_mk ?_⟩
  have pz := p3.set4 (.slice (some ⟨g, 0, none⟩) m.wheels.rotors.length c') (.string m.wheels.refl) (.string m.rings) (.string (wd idP))
  have ogz := (((og.far (p := ⟨w.heap.size + 1, 0, none⟩) (show g ≠ w.heap.size + 1 by omega) (.slice (some ⟨g, 0, none⟩) m.wheels.rotors.length c')).far (p := ⟨w.heap.size + 1, 1, none⟩) (show g ≠ w.heap.size + 1 by omega) (.string m.wheels.refl)).far (p := ⟨w.heap.size + 1, 2, none⟩) (show g ≠ w.heap.size + 1 by omega) (.string m.rings)).far (p := ⟨w.heap.size + 1, 3, none⟩) (show g ≠ w.heap.size + 1 by omega) (.string (wd idP))
  have k0 := pz.at_ (i := 0) rfl
  have k1 := pz.at_ (i := 1) rfl
  have k2 := pz.at_ (i := 2) rfl
  have k3 := pz.at_ (i := 3) rfl
  unfold set4 at k0 k1 k2 k3
  go_wp2
  refine bodyPost_ret (v := .tuple #[.agg #[.slice (some ⟨g, 0, none⟩) m.wheels.rotors.length c', .string m.wheels.refl, .string m.rings, .string (wd idP)], .bool true]) (by simp [results, Tryz.results14, go_sem, k0, k1, k2, k3]) rfl ?_
  exact ⟨g, c', rfl, by omega, ogz, bel_set4 hbw3 (Nat.le_succ _) _ _ _ _⟩
end Go.Proofs.YtnnblmibonnpcaaGreatDoor

/- Contracts: a machine is given any other plugboard. -/
namespace Go.Proofs.YtnnblmibonnpcaaGreatDoor
open Go.RowKit
attribute [local go_sem] Oper.semAt_some


/-- The answer where there is none. -/
def WithNo (w : World) (e : Ending) (w' : World) : Prop := e = .returned (.tuple #[.agg #[.slice none 0 0, .string ⟨#[]⟩, .string ⟨#[]⟩, .string ⟨#[]⟩], .bool false]) ∧ Below w.heap.size w w'
/-- A machine with another plugboard, its rotors copied. -/
def WithS (m : Mach) (s : ByteArray) (w : World) (e : Ending) (w' : World) : Prop :=
  ∃ g c', e = .returned (.tuple #[.agg #[.slice (some ⟨g, 0, none⟩) m.wheels.rotors.length c', .string m.wheels.refl, .string m.rings, .string s], .bool true]) ∧ w.heap.size ≤ g ∧ Own w' g (rvs m.wheels.rotors) ∧ Below w.heap.size w w'
set_option maxHeartbeats 1000000 in
/-- A valid machine with another plugboard. -/
theorem withPlugs_yes (a : Option Addr) (c : Nat) (m : Mach) (s : ByteArray) (w : World) (h : MachAt w w.heap.size a m.wheels.rotors.length m) (hm : machB m = true) (hs : plugB s = true) :
    Calls Tryz.prog 14 #[.agg #[.slice a m.wheels.rotors.length c, .string m.wheels.refl, .string m.rings, .string m.plugs], .string s] w (WithS m s w) := by
  have o0 := (Own.new w [.slice a m.wheels.rotors.length c, .string m.wheels.refl, .string m.rings, .string m.plugs] 27).alloc (.cells #[.slice none 0 0, .string ⟨#[]⟩, .string ⟨#[]⟩, .string ⟨#[]⟩] 27)
  have p0 := Own.new (w.alloc (.cells [.slice a m.wheels.rotors.length c, .string m.wheels.refl, .string m.rings, .string m.plugs].toArray 27)) [.slice none 0 0, .string ⟨#[]⟩, .string ⟨#[]⟩, .string ⟨#[]⟩] 27
  have hb0 := ((Below.refl w.heap.size w).alloc (Nat.le_refl _) (.cells [.slice a m.wheels.rotors.length c, .string m.wheels.refl, .string m.rings, .string m.plugs].toArray 27)).alloc (by simp) (.cells #[.slice none 0 0, .string ⟨#[]⟩, .string ⟨#[]⟩, .string ⟨#[]⟩] 27)
  rw [World.size_alloc] at p0
  have h' := (h.below hb0 (Nat.le_refl _)).more hb0.size
  have nm := fun W h => implMachineValid_any a m.wheels.rotors.length c m W h
  rw [hm] at nm
  have np := fun W => implPlugsValid_any s W (by rw [permB_size (plugB_perm hs)]; decide)
  rw [hs] at np
  have hF := machB_fit hm
  have hone := hF.one
  have hthree := hF.three
  have hsz : (Tryz.prog.info? 25).map (·.size) = some [Value.slice a m.wheels.rotors.length c, .string m.wheels.refl].length := by kernel_rfl
  go_enter Tryz.func14, Tryz.ntmps14
  go_wp2_with fail
  refine (nm _ h').mono ?_
  rintro e w1 ⟨rfl, hb1⟩
  have o1 := o0.below hb1 o0.lt
  have p1 := p0.below hb1 p0.lt
  have hbw1 := bt hb0 hb1
  clear o0 p0 hb0 hb1 h' nm
  go_wp2_with fail
  refine (np _).mono ?_
  rintro e w2 ⟨rfl, hb2⟩
  have o2 := o1.below hb2 o1.lt
  have p2 := p1.below hb2 p1.lt
  have hbw2 := bt hbw1 hb2
  have h2 := h.whl
  clear o1 p1 hbw1 hb2 np
  go_wp2_with fail
  have hr2 := (h2.reads.below hbw2 (Nat.le_refl _)).more hbw2.size
  have l1 := o2.lt
  have hS0 : w2.drew.rangeAt w.heap.size 0 [.slice a m.wheels.rotors.length c, .string m.wheels.refl] := by
    have := (o2.cells.sub 0 2 (by simp)).range
    simpa using this
  refine wp_onlyN ?_
  refine wp_region_any (by kernel_rfl) ?_
  refine wpAny_of_K (S := fun w' => w'.rangeAt w.heap.size 0 [.slice a m.wheels.rotors.length c, .string m.wheels.refl] ∧ w'.cell? ⟨w.heap.size, 2, none⟩ = some (.string m.rings)) (kp := fun _ => true) _ _ _ _ ?_
  have hS : (fun w' : World => w'.rangeAt w.heap.size 0 [.slice a m.wheels.rotors.length c, .string m.wheels.refl] ∧ w'.cell? ⟨w.heap.size, 2, none⟩ = some (.string m.rings)) w2.drew := ⟨hS0, o2.drew.at_ (i := 2) rfl⟩
  refine kr_take 0 15 (v := .pointer (some ⟨w.heap.size, 0, none⟩)) rfl (by kernel_rfl) (by kernel_rfl) (by kernel_rfl) (by kernel_rfl) (fun _ _ _ h => by cases h.1) rfl hS (Or.inl ⟨by rfl, fun _ _ => by simp [go_sem]⟩) ?_; simp only [Act.put, List.setIfInBounds_toArray, List.set_cons_succ, List.set_cons_zero]
  refine kr_take 1 16 (v := .agg #[.slice a m.wheels.rotors.length c, .string m.wheels.refl]) rfl (by kernel_rfl) (by kernel_rfl) (by kernel_rfl) (by kernel_rfl) (fun _ _ _ h => by cases h.1) rfl hS (yieldsIf_load_mid (by rfl) _ _ rfl _ _ rfl _ _ (fun _ h => h.1) Tryz.underlying25 rfl hsz) ?_; simp only [Act.put, List.setIfInBounds_toArray, List.set_cons_succ, List.set_cons_zero]
  refine kr_take 3 18 (v := .pointer (some ⟨w.heap.size, 2, none⟩)) rfl (by kernel_rfl) (by kernel_rfl) (by kernel_rfl) (by kernel_rfl) (fun _ _ _ h => by cases h.1) rfl hS (Or.inl ⟨by rfl, fun _ _ => by simp [go_sem]⟩) ?_; simp only [Act.put, List.setIfInBounds_toArray, List.set_cons_succ, List.set_cons_zero]
  refine kr_take 4 19 (v := .string m.rings) rfl (by kernel_rfl) (by kernel_rfl) (by kernel_rfl) (by kernel_rfl) (fun _ _ _ h => by cases h.1) rfl hS (Or.inl ⟨by rfl, fun w' hw' => by have hw1 := hw'.2; simp [go_sem, hw1]⟩) ?_; simp only [Act.put, List.setIfInBounds_toArray, List.set_cons_succ, List.set_cons_zero]
  refine kr_take 5 20 (v := .string s) rfl (by kernel_rfl) (by kernel_rfl) (by kernel_rfl) (by kernel_rfl) (fun _ _ _ h => by cases h.1) rfl hS (Or.inl ⟨by rfl, fun _ _ => rfl⟩) ?_; simp only [Act.put, List.setIfInBounds_toArray, List.set_cons_succ, List.set_cons_zero]
  refine kr_callM 2 17 (by kernel_rfl) rfl (by rfl) rfl (fun w => by simp [go_sem]) (whlClone_any a c m.wheels w2.drew (hr2.keep (fun _ _ => rfl)) hone (by omega)) (fun e w3 hT => ?_)
  obtain ⟨g, c', rfl, hg, og, hb3⟩ := hT
  have hgW : w2.heap.size ≤ g := hg
  have o3 := o2.drew.below hb3 o2.lt
  have p3 := p2.drew.below hb3 p2.lt
  have hz2 := hbw2.size
  have hbw3 : Below w.heap.size w w3 := hbw2.drew.trans (hb3.mono (show w.heap.size ≤ w2.heap.size by omega))
  have l3 := p2.lt
  have hS1 : w3.rangeAt w.heap.size 0 [.slice a m.wheels.rotors.length c, .string m.wheels.refl] ∧ w3.cell? ⟨w.heap.size, 2, none⟩ = some (.string m.rings) := ⟨by simpa using (o3.cells.sub 0 2 (by simp)).range, o3.at_ (i := 2) rfl⟩
  refine ⟨_, rfl, hS1, ?_⟩
  simp only [Act.put, List.setIfInBounds_toArray, List.set_cons_succ, List.set_cons_zero]
  have hS := hS1
  refine kr_take 6 21 (v := .agg #[.slice (some ⟨g, 0, none⟩) m.wheels.rotors.length c', .string m.wheels.refl, .string m.rings, .string s]) rfl (by kernel_rfl) (by kernel_rfl) (by kernel_rfl) (by kernel_rfl) (fun _ _ _ h => by cases h.1) rfl hS (Or.inl ⟨by rfl, fun _ _ => by simp [go_sem]⟩) ?_; simp only [Act.put, List.setIfInBounds_toArray, List.set_cons_succ, List.set_cons_zero]
  have e0 := p3.at_ (i := 0) rfl
  have e1 := p3.at_ (i := 1) rfl
  have e2 := p3.at_ (i := 2) rfl
  have e3 := p3.at_ (i := 3) rfl
  have g0 := p3.free 0 (by simp)
  have g1 := p3.free 1 (by simp)
  have g2 := p3.free 2 (by simp)
  have g3 := p3.free 3 (by simp)
  refine kr_one 7 (by kernel_rfl) rfl (by rfl) ?_
  simp [Oper.wp, Oper.upon, go_sem, e0, e1, e2, e3, g0, g1, g2, g3]
  have hn : w.heap.size ≠ w.heap.size + 1 := by omega
  have o4 := (((o3.far (p := ⟨w.heap.size + 1, 0, none⟩) hn (.slice (some ⟨g, 0, none⟩) m.wheels.rotors.length c')).far (p := ⟨w.heap.size + 1, 1, none⟩) hn (.string m.wheels.refl)).far (p := ⟨w.heap.size + 1, 2, none⟩) hn (.string m.rings)).far (p := ⟨w.heap.size + 1, 3, none⟩) hn (.string s)
  have hr4 := (o4.cells.sub 0 2 (by simp)).range
  have hk4 := o3.at_ (i := 2) rfl
  refine ⟨⟨by simpa using hr4, hk4⟩, ?_⟩
  have hS : (fun w' : World => w'.rangeAt w.heap.size 0 [.slice a m.wheels.rotors.length c, .string m.wheels.refl] ∧ w'.cell? ⟨w.heap.size, 2, none⟩ = some (.string m.rings)) ((((w3.setCell ⟨w.heap.size + 1, 0, none⟩ (.slice (some ⟨g, 0, none⟩) m.wheels.rotors.length c')).setCell ⟨w.heap.size + 1, 1, none⟩ (.string m.wheels.refl)).setCell ⟨w.heap.size + 1, 2, none⟩ (.string m.rings)).setCell ⟨w.heap.size + 1, 3, none⟩ (.string s)) := ⟨by simpa using hr4, o4.at_ (i := 2) rfl⟩
  refine kr_take 8 5 (v := .bool true) rfl (by kernel_rfl) (by kernel_rfl) (by kernel_rfl) (by kernel_rfl) (fun _ _ _ h => by cases h.1) rfl hS (Or.inl ⟨by rfl, fun _ _ => rfl⟩) ?_; simp only [Act.put, List.setIfInBounds_toArray, List.set_cons_succ, List.set_cons_zero]
  refine ⟨by kernel_rfl, onlyN_mk ?_⟩
  have pz := p3.set4 (.slice (some ⟨g, 0, none⟩) m.wheels.rotors.length c') (.string m.wheels.refl) (.string m.rings) (.string s)
  have ogz := (((og.far (p := ⟨w.heap.size + 1, 0, none⟩) (show g ≠ w.heap.size + 1 by omega) (.slice (some ⟨g, 0, none⟩) m.wheels.rotors.length c')).far (p := ⟨w.heap.size + 1, 1, none⟩) (show g ≠ w.heap.size + 1 by omega) (.string m.wheels.refl)).far (p := ⟨w.heap.size + 1, 2, none⟩) (show g ≠ w.heap.size + 1 by omega) (.string m.rings)).far (p := ⟨w.heap.size + 1, 3, none⟩) (show g ≠ w.heap.size + 1 by omega) (.string s)
  have k0 := pz.at_ (i := 0) rfl
  have k1 := pz.at_ (i := 1) rfl
  have k2 := pz.at_ (i := 2) rfl
  have k3 := pz.at_ (i := 3) rfl
  unfold set4 at k0 k1 k2 k3
  go_wp2
  refine bodyPost_ret (v := .tuple #[.agg #[.slice (some ⟨g, 0, none⟩) m.wheels.rotors.length c', .string m.wheels.refl, .string m.rings, .string s], .bool true]) (by simp [results, Tryz.results14, go_sem, k0, k1, k2, k3]) rfl ?_
  exact ⟨g, c', rfl, by omega, ogz, bel_set4 hbw3 (Nat.le_succ _) _ _ _ _⟩

set_option maxHeartbeats 1000000 in
theorem withPlugs_no (a : Option Addr) (c : Nat) (m : Mach) (s : ByteArray) (w : World) (h : MachAt w w.heap.size a m.wheels.rotors.length m) (hsz : s.size ≤ 4294967296) (hno : machB m = false ∨ plugB s = false) :
    Calls Tryz.prog 14 #[.agg #[.slice a m.wheels.rotors.length c, .string m.wheels.refl, .string m.rings, .string m.plugs], .string s] w (WithNo w) := by
  have o0 := (Own.new w [.slice a m.wheels.rotors.length c, .string m.wheels.refl, .string m.rings, .string m.plugs] 27).alloc (.cells #[.slice none 0 0, .string ⟨#[]⟩, .string ⟨#[]⟩, .string ⟨#[]⟩] 27)
  have p0 := Own.new (w.alloc (.cells [.slice a m.wheels.rotors.length c, .string m.wheels.refl, .string m.rings, .string m.plugs].toArray 27)) [.slice none 0 0, .string ⟨#[]⟩, .string ⟨#[]⟩, .string ⟨#[]⟩] 27
  have hb0 := ((Below.refl w.heap.size w).alloc (Nat.le_refl _) (.cells [.slice a m.wheels.rotors.length c, .string m.wheels.refl, .string m.rings, .string m.plugs].toArray 27)).alloc (by simp) (.cells #[.slice none 0 0, .string ⟨#[]⟩, .string ⟨#[]⟩, .string ⟨#[]⟩] 27)
  rw [World.size_alloc] at p0
  have h' := (h.below hb0 (Nat.le_refl _)).more hb0.size
  go_enter Tryz.func14, Tryz.ntmps14
  go_wp2_with fail
  refine (implMachineValid_any a m.wheels.rotors.length c m _ h').mono ?_
  rintro e w1 ⟨rfl, hb1⟩
  have p1 := p0.below hb1 p0.lt
  have hbw1 := bt hb0 hb1
  clear o0 p0 hb0 hb1 h'
  cases hm : machB m with
  | false =>
    clear hno hm
    have e0 := p1.free 0 (by simp)
    have e1 := p1.free 1 (by simp)
    have e2 := p1.free 2 (by simp)
    have e3 := p1.free 3 (by simp)
    have k0 := p1.at_ (i := 0) rfl
    have k1 := p1.at_ (i := 1) rfl
    have k2 := p1.at_ (i := 2) rfl
    have k3 := p1.at_ (i := 3) rfl
    go_wp2
    have pz := p1.set4 (.slice none 0 0) (.string ⟨#[]⟩) (.string ⟨#[]⟩) (.string ⟨#[]⟩)
    have k0 := pz.at_ (i := 0) rfl
    have k1 := pz.at_ (i := 1) rfl
    have k2 := pz.at_ (i := 2) rfl
    have k3 := pz.at_ (i := 3) rfl
    refine bodyPost_ret (v := .tuple #[.agg #[.slice none 0 0, .string ⟨#[]⟩, .string ⟨#[]⟩, .string ⟨#[]⟩], .bool false]) (by unfold set4 at *; simp [results, Tryz.results14, go_sem, k0, k1, k2, k3]) rfl ?_
    exact ⟨rfl, bel_set4 hbw1 (Nat.le_succ _) _ _ _ _⟩
  | true =>
    have hp : plugB s = false := by
      rcases hno with h | h
      · rw [hm] at h; cases h
      · exact h
    clear hno hm
    go_wp2_with fail
    refine (implPlugsValid_any s _ hsz).mono ?_
    rw [hp]
    rintro e w2 ⟨rfl, hb2⟩
    have p2 := p1.below hb2 p1.lt
    have hbw2 := bt hbw1 hb2
    clear p1 hbw1 hb2 hp
    have e0 := p2.free 0 (by simp)
    have e1 := p2.free 1 (by simp)
    have e2 := p2.free 2 (by simp)
    have e3 := p2.free 3 (by simp)
    have k0 := p2.at_ (i := 0) rfl
    have k1 := p2.at_ (i := 1) rfl
    have k2 := p2.at_ (i := 2) rfl
    have k3 := p2.at_ (i := 3) rfl
    go_wp2
    have pz := p2.set4 (.slice none 0 0) (.string ⟨#[]⟩) (.string ⟨#[]⟩) (.string ⟨#[]⟩)
    have k0 := pz.at_ (i := 0) rfl
    have k1 := pz.at_ (i := 1) rfl
    have k2 := pz.at_ (i := 2) rfl
    have k3 := pz.at_ (i := 3) rfl
    refine bodyPost_ret (v := .tuple #[.agg #[.slice none 0 0, .string ⟨#[]⟩, .string ⟨#[]⟩, .string ⟨#[]⟩], .bool false]) (by unfold set4 at *; simp [results, Tryz.results14, go_sem, k0, k1, k2, k3]) rfl ?_
    exact ⟨rfl, bel_set4 hbw2 (Nat.le_succ _) _ _ _ _⟩
end Go.Proofs.YtnnblmibonnpcaaGreatDoor

/- The walk of the law that a machine has the same characteristic with every plugboard. -/
namespace Go.Proofs.YtnnblmibonnpcaaGreatDoor
open Go.RowKit
attribute [local go_sem] Oper.semAt_some

theorem IsRow.below_ {k : IntKind} {w w' : World} {a : Option Addr} {len cap : Nat} {zs : List Int} (h : IsRow k w a len cap zs) (hb : Below w.heap.size w w') : IsRow k w' a len cap zs := by
  rcases h with h | ⟨x, h1, h2, h3, h4, h5, h6⟩
  · exact .inl h
  · exact .inr ⟨x, h1, h2, h3, h4, fun i hi => by
      have := h5 i hi
      rw [hb.cell (World.block_lt_of_cell? w _ this)]
      exact this, h6⟩
/-- Any two plugboards. -/
theorem chT_plugs {m : Mach} {v s : ByteArray} (h : setB m v = true) (hs : plugB s = true) : chT ⟨m.wheels, m.rings, s⟩ v = chT m v := by
  rw [← chT_bare h, ← chT_bare (setB_plugs h hs)]
  rfl
theorem chT_some {m : Mach} {v : ByteArray} (h : (chT m v).length ≠ 0) : setB m v = true := by
  unfold chT chP at h
  by_cases e : setB m v = true
  · exact e
  · rw [if_neg e] at h; simp at h
theorem chT_le3 {m : Mach} {v : ByteArray} (hv : v.size ≤ 300) : (chT m v).length ≤ 1048576 := by
  unfold chT chP
  rw [List.length_map]
  split
  · simp [prods]; omega
  · simp
/-- Machine and characteristic in memory. -/
structure CpAt (w0 w : World) (B : Nat) (a1 : Option Addr) (cap1 : Nat) (m : Mach) (al : Option Addr) (ls : List ByteArray) : Prop where
  box : Own w B [.slice a1 m.wheels.rotors.length cap1, .string m.wheels.refl, .string m.rings, .string m.plugs]
  mach : MachAt w w.heap.size a1 m.wheels.rotors.length m
  rl : Reads w w.heap.size al (sv ls)
  bel : Below w0.heap.size w0 w
theorem CpAt.below {w0 w w' : World} {B : Nat} {a1 : Option Addr} {cap1 : Nat} {m : Mach} {al : Option Addr} {ls : List ByteArray} (h : CpAt w0 w B a1 cap1 m al ls) (hb : Below w.heap.size w w') : CpAt w0 w' B a1 cap1 m al ls :=
  ⟨h.box.below hb h.box.lt, (h.mach.below hb (Nat.le_refl _)).more hb.size, (h.rl.below hb (Nat.le_refl _)).more hb.size, bt h.bel hb⟩
theorem bel_drewC (w : World) (n : Nat) : Below w.heap.size w (w.drewN n) := bel_drewN (Below.refl _ _) n
theorem bel_alloc (w : World) (o : Obj) : Below w.heap.size w (w.alloc o) := (Below.refl _ _).alloc (Nat.le_refl _) o
set_option maxRecDepth 100000 in
set_option maxHeartbeats 4000000 in
theorem characteristicPlugs_walk (a : Option Addr) (len cap : Nat) (zs : List Int) (a2 : Option Addr) (len2 cap2 : Nat) (zs2 : List Int) (w : World) (h : IsRow .u8 w a len cap zs) (h2 : IsRow .u8 w a2 len2 cap2 zs2) :
    Calls Tryz.prog 3 #[.slice a len cap, .slice a2 len2 cap2] w fun e w' => e = .returned (.bool true) ∧ Below w.heap.size w w' := by
  have hlen : len ≤ 9223372036854775807 := by
    rcases h with ⟨_, rfl, _⟩ | ⟨x, _, hl, hm, _⟩
    · omega
    · unfold maxLen at hm; omega
  have hlen2 : len2 ≤ 9223372036854775807 := by
    rcases h2 with ⟨_, rfl, _⟩ | ⟨x, _, hl, hm, _⟩
    · omega
    · unfold maxLen at hm; omega
  by_cases hl : 1048576 < len
  · clear h2
    go_enter Tryz.func3, Tryz.ntmps3
    go_wp2
    go_ret
    exact ⟨rfl, Below.refl _ _⟩
  by_cases hl2 : 1048576 < len2
  · clear h2
    go_enter Tryz.func3, Tryz.ntmps3
    go_wp2
    go_ret
    exact ⟨rfl, Below.refl _ _⟩
  have H2 := Lib.hid h2
  clear h2
  go_enter Tryz.func3, Tryz.ntmps3
  go_wp2_with fail
  refine (DrawCharacteristic_any a len cap zs _ h (by omega)).mono ?_
  rintro e w1 ⟨m, v, a1, cap1, ⟨hsm, hrd, -, hb1⟩, hv, rfl⟩
  have o1 := Own.new w1 [.slice a1 m.wheels.rotors.length cap1, .string m.wheels.refl, .string m.rings, .string m.plugs] 27
  have hba := bel_alloc w1 (.cells [.slice a1 m.wheels.rotors.length cap1, .string m.wheels.refl, .string m.rings, .string m.plugs].toArray 27)
  have hbw1 := hb1.alloc hb1.size (.cells [.slice a1 m.wheels.rotors.length cap1, .string m.wheels.refl, .string m.rings, .string m.plugs].toArray 27)
  have A1 : CpAt w (w1.alloc (.cells [.slice a1 m.wheels.rotors.length cap1, .string m.wheels.refl, .string m.rings, .string m.plugs].toArray 27)) w1.heap.size a1 cap1 m none [] := ⟨o1, (hsm.at_ hrd).alloc_ _, Reads.nil_, hbw1⟩
  have HSM := Lib.hid hsm
  clear hrd hb1 h hba o1 hbw1 hsm
  go_wp2_with fail
  generalize (w1.alloc (.cells [.slice a1 m.wheels.rotors.length cap1, .string m.wheels.refl, .string m.rings, .string m.plugs].toArray 27)) = W1 at *
  generalize w1.heap.size = B1 at *
  have f0 := A1.box.at_ (i := 0) rfl
  have f1 := A1.box.at_ (i := 1) rfl
  have f2 := A1.box.at_ (i := 2) rfl
  have f3 := A1.box.at_ (i := 3) rfl
  have nsp := fun W h => specCharacteristic_any a1 m.wheels.rotors.length cap1 m v W h (by omega)
  have hl3 := chT_le3 (m := m) hv
  have HSB := Lib.hid (fun h => @chT_some m v h)
  have HPL := Lib.hid (fun s h1 h2 => @chT_plugs m v s h1 h2)
  refine (implCharacteristic_any a1 m.wheels.rotors.length cap1 m v _ A1.mach (by omega)).mono ?_
  rintro e w2 ⟨lv, rfl, ol, hb2⟩
  obtain ⟨al, cl, rfl, hlc, hrl2, -⟩ := OwR.val ol
  have A2' := A1.below hb2
  have A2 : CpAt w w2 B1 a1 cap1 m al (chT m v) := ⟨A2'.box, A2'.mach, hrl2, A2'.bel⟩
  clear A1 A2' ol hlc hb2 hrl2 f0 f1 f2 f3
  have f0 := A2.box.at_ (i := 0) rfl
  have f1 := A2.box.at_ (i := 1) rfl
  have f2 := A2.box.at_ (i := 2) rfl
  have f3 := A2.box.at_ (i := 3) rfl
  generalize hgl : chT m v = ls at *
  clear hgl
  go_wp2_with fail
  refine (nsp _ A2.mach).mono ?_
  rintro e w3 ⟨lv, rfl, ol, hb3⟩
  obtain ⟨al3, cl3, rfl, hlc, hrl3, -⟩ := OwR.val ol
  have A3 := A2.below hb3
  clear A2 ol hlc hb3 f0 f1 f2 f3
  go_wp2_with fail
  have hrt := rcTexts_any al al3 cl cl3 ls ls w3 A3.rl hrl3 (by omega)
  rw [decide_eq_true rfl] at hrt
  refine hrt.mono ?_
  rintro e w' ⟨rfl, n4, rfl⟩
  have hb4 := bel_drewC w3 n4
  generalize w3.drewN n4 = w4 at *
  have A4 := A3.below hb4
  clear A3 hrl3 hrt hb4 n4
  by_cases h0 : ls.length = 0
  · have t0 : ((ls.length : Int) == 0) = true := by rw [beq_iff_eq]; omega
    have hls : ls = [] := List.length_eq_zero_iff.1 h0
    clear h0 HSB HPL
    subst hls
    have f0 := A4.box.at_ (i := 0) rfl
    have f1 := A4.box.at_ (i := 1) rfl
    have f2 := A4.box.at_ (i := 2) rfl
    have f3 := A4.box.at_ (i := 3) rfl
    go_wp2_with fail
    refine (nsp _ A4.mach).mono ?_
    rintro e w5 ⟨lv, rfl, ol, hb5⟩
    obtain ⟨al5, cl5, rfl, hlc, hrl5, -⟩ := OwR.val ol
    have A5 := A4.below hb5
    clear A4 ol hlc hb5 f0 f1 f2 f3 nsp
    go_wp2_with fail
    have hrt := rcTexts_any al al5 cl cl5 [] [] w5 A5.rl hrl5 (by simp)
    rw [decide_eq_true rfl] at hrt
    refine hrt.mono ?_
    rintro e w' ⟨rfl, n6, rfl⟩
    have hb6 := bel_drewC w5 n6
    have A6 := A5.below hb6
    generalize w5.drewN n6 = w6 at *
    clear A5 hrl5 hrt hb6
    go_wp2
    go_ret
    exact ⟨rfl, A6.bel⟩
  · have t0 : ((ls.length : Int) == 0) = false := by rw [beq_eq_false_iff_ne]; omega
    have hsb := HSB.out h0
    have HSB2 := Lib.hid hsb
    clear h0 HSB nsp hsb
    go_wp2_with fail
    refine (DrawWithPlugs_any a2 len2 cap2 zs2 _ (H2.out.below_ A4.bel) (by omega)).mono ?_
    rintro e w5 ⟨x, v2, a3, cap3, ⟨hsx, hrx, -, hb5⟩, hv2, rfl⟩
    have A5' := A4.below hb5
    have ox := Own.new w5 [.slice a3 x.wheels.rotors.length cap3, .string x.wheels.refl, .string x.rings, .string x.plugs] 27
    have A5 := A5'.below (bel_alloc w5 (.cells [.slice a3 x.wheels.rotors.length cap3, .string x.wheels.refl, .string x.rings, .string x.plugs].toArray 27))
    clear A4 A5' hb5 hrx H2
    go_wp2_with fail
    generalize (w5.alloc (.cells [.slice a3 x.wheels.rotors.length cap3, .string x.wheels.refl, .string x.rings, .string x.plugs].toArray 27)) = W5 at *
    generalize w5.heap.size = B5 at *
    have f3 := ox.at_ (i := 3) rfl
    have hxp := hsx.plugs
    clear hsx
    go_wp2_with fail
    refine (implPlugsValid_any x.plugs _ (by omega)).mono ?_
    rintro e w6 ⟨rfl, hb6⟩
    have A6 := A5.below hb6
    have ox6 := ox.below hb6 ox.lt
    clear A5 ox hb6 f3
    have f3 := ox6.at_ (i := 3) rfl
    go_upto_if 51 with (fail)
    go_cut [9] (fun o wr => ∃ s, o = .string s ∧ s.size ≤ 1001 ∧ CpAt w wr B1 a1 cap1 m al ls)
    case first =>
      cases hpx : plugB x.plugs with
      | true =>
        clear hpx
        go_wp2_with fail
        go_meet
        exact ⟨_, rfl, by omega, A6⟩
      | false =>
        clear hpx
        go_wp2_with fail
        go_meet
        exact ⟨_, rfl, hv2, A6⟩
    case rest =>
      clear A6 ox6 f3 hxp hv2
      obtain ⟨s, rfl, hs, A6⟩ := hcut
      have f0 := A6.box.at_ (i := 0) rfl
      have f1 := A6.box.at_ (i := 1) rfl
      have f2 := A6.box.at_ (i := 2) rfl
      have f3 := A6.box.at_ (i := 3) rfl
      cases hp : plugB s with
      | true =>
        have hmb := setB_mach HSB2.out
        have HCH := Lib.hid (HPL.out s HSB2.out hp)
        have hsz := permB_size (plugB_perm hp)
        have HP := Lib.hid hp
        clear hp
        go_wp2_with fail
        refine (withPlugs_yes a1 cap1 m s _ A6.mach hmb HP.out).mono ?_
        rintro e w7 ⟨gy, cy, rfl, hgy, oy, hb7⟩
        have A7 := A6.below hb7
        have hba := bel_alloc w7 (.cells [.slice (some ⟨gy, 0, none⟩) m.wheels.rotors.length cy, .string m.wheels.refl, .string m.rings, .string s].toArray 27)
        have A8 := A7.below hba
        have oy8 := oy.alloc (.cells [.slice (some ⟨gy, 0, none⟩) m.wheels.rotors.length cy, .string m.wheels.refl, .string m.rings, .string s].toArray 27)
        have ob8 := Own.new w7 [.slice (some ⟨gy, 0, none⟩) m.wheels.rotors.length cy, .string m.wheels.refl, .string m.rings, .string s] 27
        clear A6 A7 hb7 oy f0 f1 f2 f3 hmb hba
        go_wp2_with fail
        generalize (w7.alloc (.cells [.slice (some ⟨gy, 0, none⟩) m.wheels.rotors.length cy, .string m.wheels.refl, .string m.rings, .string s].toArray 27)) = W8 at *
        generalize w7.heap.size = B7 at *
        have f0 := ob8.at_ (i := 0) rfl
        have f1 := ob8.at_ (i := 1) rfl
        have f2 := ob8.at_ (i := 2) rfl
        have f3 := ob8.at_ (i := 3) rfl
        have hy : MachAt W8 W8.heap.size (some ⟨gy, 0, none⟩) m.wheels.rotors.length ⟨m.wheels, m.rings, s⟩ := SmallM.at_ (m := ⟨m.wheels, m.rings, s⟩) ⟨HSM.out.whl, HSM.out.rings, by show s.size ≤ 300; omega⟩ (Reads.of_own oy8 oy8.lt)
        have hci := implCharacteristic_any (some ⟨gy, 0, none⟩) m.wheels.rotors.length cy ⟨m.wheels, m.rings, s⟩ v W8 hy (by omega)
        rw [HCH.out] at hci
        clear hy hsz oy8 ob8 hgy
        go_wp2_with fail
        refine hci.mono ?_
        rintro e w9 ⟨lv, rfl, ol, hb9⟩
        obtain ⟨al9, cl9, rfl, hlc, hrl9, -⟩ := OwR.val ol
        have A9 := A8.below hb9
        clear A8 ol hlc hb9 f0 f1 f2 f3 hci
        go_wp2_with fail
        have hrt := rcTexts_any al9 al cl9 cl ls ls w9 hrl9 A9.rl (by omega)
        rw [decide_eq_true rfl] at hrt
        refine hrt.mono ?_
        rintro e w' ⟨rfl, n10, rfl⟩
        have A10 := A9.below (bel_drewC w9 n10)
        generalize w9.drewN n10 = w10 at *
        clear A9 hrl9 hrt
        go_wp2
        go_ret
        exact ⟨rfl, A10.bel⟩
      | false =>
        go_wp2_with fail
        refine (withPlugs_no a1 cap1 m s _ A6.mach (by omega) (.inr hp)).mono ?_
        rintro e w7 ⟨rfl, hb7⟩
        have A7 := A6.below hb7
        have A8 := A7.below (bel_alloc w7 (.cells [.slice none 0 0, .string ⟨#[]⟩, .string ⟨#[]⟩, .string ⟨#[]⟩].toArray 27))
        have hb8 := A8.bel
        clear A6 A7 A8 hb7 f0 f1 f2 f3 hp
        go_wp2
        go_ret
        exact ⟨rfl, hb8⟩
end Go.Proofs.YtnnblmibonnpcaaGreatDoor
