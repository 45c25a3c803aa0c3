/- Several of my texts in one: DrawOpen. -/
import Derived.Test.YtbeohccbflhdiaaGreatM19
import Derived.Test.YtbeohccbflhdiaaGreatM16
import Derived.Test.YtbeohccbflhdiaaGreatM14
import Derived.Test.YtbeohccbflhdiaaGreatM3
/- The contract of DrawOpenMessage. -/
namespace Go.Proofs.YtbeohccbflhdiaaGreat
open Go.RowKit

def DrawnO (w : World) (e : Ending) (w' : World) : Prop :=
  ∃ (m : Mach) (x : Msg) (a : Option Addr) (cap : Nat), DrawnM w m a w' ∧ x.start.size ≤ 300 ∧ x.ind.size ≤ 300 ∧ x.body.size ≤ 300 ∧
    e = .returned (.tuple #[.agg #[.slice a m.wheels.rotors.length cap, .string m.wheels.refl, .string m.rings, .string m.plugs], .agg #[.string x.start, .string x.ind, .string x.body]])
theorem OwR.drew {w : World} {base n sz : Nat} {e : TypeId} {v : Value} {xs : List Value} (h : OwR w base e sz v n xs) : OwR w.drew base e sz v n xs := h
theorem own_set4b {w : World} {b k : Nat} {cs : List Value} (h : Own w k cs) (hb : k ≠ b) (v0 v1 v2 v3 : Value) : Own (set4 w b v0 v1 v2 v3) k cs := h.keep (by rw [size_set4]; exact h.lt) (blk_set4 _ _ _ _ _ _ hb)
theorem own_set3b {w : World} {b k : Nat} {cs : List Value} (h : Own w k cs) (hb : k ≠ b) (v0 v1 v2 : Value) : Own (set3 w b v0 v1 v2) k cs := h.keep (by rw [size_set3]; exact h.lt) (blk_set3 _ _ _ _ _ hb)
section
variable {P : Program} {ops : Array Oper} {Q : Exit → Act → World → Prop} {md : Region.Mode} {S : World → Prop} {fuel : Nat} {listed : Array Bool} {a : Act} {w : World}
/-- The one operation that may come up is a call; its answer is not fixed. -/
theorem hr_call2 (i d : Nat) {o : Oper} {f : FuncId} {args : Array Value} {T : Ending → World → Prop} (hr : Region.ready md ops listed = [i]) (hi : ops[i]? = some o) (hw : Region.wanted o (yielded ops a.tmps) = true)
    (hd : o.dst = some d) (he : ∀ w, (execOp a.eval o).run P w = .ok (.enter f args) w) (hc : Calls P f args w T)
    (h : ∀ e w', T e w' → ∃ v, e = .returned v ∧ S w' ∧ wpAnyH P md ops Q S fuel (listed.setIfInBounds i true) (a.put (some d) v) w') : wpAnyH P md ops Q S (fuel + 1) listed a w := by
  refine wpAnyH_all hr (by simp) fun j hj => ?_
  have : j = i := by simpa using hj
  subst this
  unfold wpOp
  simp only [hi, hw, if_true, Oper.wp, he, Oper.upon]
  refine .inl (hc.mono ?_)
  intro e w' hT
  obtain ⟨v, rfl, h1⟩ := h e w' hT
  rw [hd]
  exact h1
end
set_option maxRecDepth 100000 in
set_option maxHeartbeats 4000000 in
theorem DrawOpenMessage_any (a0 : Option Addr) (len cap : Nat) (zs : List Int) (w : World) (h : IsRow .u8 w a0 len cap zs) (hl : len ≤ 1048576) :
    Calls Tryz.prog 38 #[.slice a0 len cap] w (DrawnO w) := by
  have o0 := (Own.new w [.slice none 0 0, .string ⟨#[]⟩, .string ⟨#[]⟩, .string ⟨#[]⟩] 27).alloc (.cells #[.string ⟨#[]⟩, .string ⟨#[]⟩, .string ⟨#[]⟩] 48)
  have t0 := Own.new (w.alloc (.cells #[.slice none 0 0, .string ⟨#[]⟩, .string ⟨#[]⟩, .string ⟨#[]⟩] 27)) [.string ⟨#[]⟩, .string ⟨#[]⟩, .string ⟨#[]⟩] 48
  have hb0 := ((Below.refl w.heap.size w).alloc (Nat.le_refl _) (.cells #[.slice none 0 0, .string ⟨#[]⟩, .string ⟨#[]⟩, .string ⟨#[]⟩] 27)).alloc (by simp) (.cells #[.string ⟨#[]⟩, .string ⟨#[]⟩, .string ⟨#[]⟩] 48)
  rw [World.size_alloc] at t0
  go_enter Tryz.func38, Tryz.ntmps38
  go_wp2_with fail
  refine (l21Open_any a0 len cap zs _ ((h.alloc_ _).alloc_ _) hl).mono ?_
  rintro e w1 ⟨rfl, hr1, hb1⟩
  have o1 := o0.below hb1 o0.lt
  have t1 := t0.below hb1 t0.lt
  have hbw1 := bt hb0 hb1
  rw [World.size_alloc, World.size_alloc] at hr1
  clear o0 t0 hb0 hb1 h
  go_wp2_with fail
  generalize hB0 : w.heap.size = B0 at *
  have HB0 := Lib.hid hB0
  clear hB0
  refine (l8Any_any (B0 + 2) 0 _ hr1 (by omega)).mono ?_
  rintro e w2 ⟨m, v, g, cp, hx, hset, rfl, hown2, hg, hr2, hm2⟩
  have l1 := hr1.lt
  have o2 := o1.grown hm2 (by simp)
  have t2 := t1.grown hm2 (by simp)
  have hbw2 : Below B0 w w2 := hbw1.trans (hm2.toBelow (by omega) (by omega))
  have hv3 : v.size ≤ 3 := by rw [setB_len hset]; exact hx.2.1
  clear o1 t1 hr1 hbw1 hm2
  have p2 := Own.new w2 [.slice (some ⟨g, 0, none⟩) m.wheels.rotors.length cp, .string m.wheels.refl, .string m.rings, .string m.plugs] 27
  have o2' := o2.alloc (.cells [.slice (some ⟨g, 0, none⟩) m.wheels.rotors.length cp, .string m.wheels.refl, .string m.rings, .string m.plugs].toArray 27)
  have t2' := t2.alloc (.cells [.slice (some ⟨g, 0, none⟩) m.wheels.rotors.length cp, .string m.wheels.refl, .string m.rings, .string m.plugs].toArray 27)
  have hr2' := hr2.alloc (.cells [.slice (some ⟨g, 0, none⟩) m.wheels.rotors.length cp, .string m.wheels.refl, .string m.rings, .string m.plugs].toArray 27)
  have hown2' := World.ownsRow.alloc hown2 (.cells [.slice (some ⟨g, 0, none⟩) m.wheels.rotors.length cp, .string m.wheels.refl, .string m.rings, .string m.plugs].toArray 27)
  have hbw2' := hbw2.alloc (by have := o2.lt; omega) (.cells [.slice (some ⟨g, 0, none⟩) m.wheels.rotors.length cp, .string m.wheels.refl, .string m.rings, .string m.plugs].toArray 27)
  have l2 := t2.lt
  have lr2 := hr2.lt
  have lg := (World.ownsRow.lt hown2 g rfl).2
  go_wp2_with fail
  generalize (w2.alloc (.cells [.slice (some ⟨g, 0, none⟩) m.wheels.rotors.length cp, .string m.wheels.refl, .string m.rings, .string m.plugs].toArray 27)) = W2 at *
  generalize w2.heap.size = B2 at *
  clear o2 t2 hr2 hown2 hbw2
  refine (l1Some_any (B0 + 2) v.size _ _ hr2' (by omega) (by omega)).mono ?_
  rintro e w3 ⟨s1, ⟨-, hs1⟩, rfl, hr3, hm3⟩
  have p3 := p2.grown hm3 (by simp; omega)
  have o3 := o2'.grown hm3 (by simp)
  have t3 := t2'.grown hm3 (by simp)
  have q3 := OwR.movedR hown2' hm3 (by simp [Value.ownBlock]; omega)
  have hbw3 := hbw2'.trans (hm3.toBelow (by omega) (by have := o2'.lt; omega))
  have hz1 : s1.size ≤ 300 := by omega
  clear p2 o2' t2' hr2' hown2' hbw2' hm3 hs1
  go_wp2_with fail
  refine (l1Word_any (B0 + 2) 10 _ _ hr3 (by omega) (by omega)).mono ?_
  rintro e w4 ⟨s2, ⟨-, hz2⟩, rfl, hr4, hm4⟩
  have p4 := (p3.grown hm4 (by simp; omega)).alloc (.cells [.string v, .string s1, .string s2].toArray 48)
  have o4 := (o3.grown hm4 (by simp)).alloc (.cells [.string v, .string s1, .string s2].toArray 48)
  have t4 := (t3.grown hm4 (by simp)).alloc (.cells [.string v, .string s1, .string s2].toArray 48)
  have x4 := Own.new w4 [.string v, .string s1, .string s2] 48
  have q4 := World.ownsRow.alloc (OwR.movedR q3 hm4 (by simp [Value.ownBlock]; omega)) (.cells [.string v, .string s1, .string s2].toArray 48)
  have hbw4 := (hbw3.trans (hm4.toBelow (by omega) (by have := o3.lt; omega))).alloc (by have := (o3.grown hm4 (by simp)).lt; omega) (.cells [.string v, .string s1, .string s2].toArray 48)
  have hr4' := hr4.alloc (.cells [.string v, .string s1, .string s2].toArray 48)
  have l3 := (p3.grown hm4 (by simp; omega)).lt
  have l4 := (World.ownsRow.lt (OwR.movedR q3 hm4 (by simp [Value.ownBlock]; omega)) g rfl).2
  clear p3 o3 t3 hr3 q3 hbw3 hm4 hr4
  go_wp2_with fail
  generalize (w4.alloc (.cells [.string v, .string s1, .string s2].toArray 48)) = W4 at *
  generalize w4.heap.size = B3 at *
  refine (pick_any (B0 + 2) _ _ _ hr4' (by omega) (by omega) (by omega)).mono ?_
  rintro e w5 ⟨y, rfl, hy0, _, _, hr5, hm5⟩
  have p5 := p4.grown hm5 (by simp; omega)
  have o5 := o4.grown hm5 (by simp)
  have t5 := t4.grown hm5 (by simp)
  have x5 := x4.grown hm5 (by simp; omega)
  have hown5 := OwR.movedR q4 hm5 (by simp [Value.ownBlock]; omega)
  have hbw5 := hbw4.trans (hm5.toBelow (by omega) (by have := o4.lt; omega))
  clear p4 o4 t4 x4 hr4' q4 hbw4 hm5
  rcases (by omega : (y = 0) ∨ (y ≠ 0)) with hy | hy
  · have t0 : (y == 0) = true := by simp [hy]
    clear hy hy0
    go_wp2_with fail
    refine (l9Message_any (B0 + 2) _ _ hr5 (by omega)).mono ?_
    rintro e wm ⟨⟨s0, u1, u2⟩, hz0, hy1, hs2, rfl, hrm, hmm⟩
    simp only at hz0 hy1 hs2
    have pm := p5.grown hmm (by simp; omega)
    have om := o5.grown hmm (by simp)
    have tm := t5.grown hmm (by simp)
    have xm := x5.grown hmm (by simp; omega)
    have hownm := OwR.movedR hown5 hmm (by simp [Value.ownBlock]; omega)
    have hbwm := hbw5.trans (hmm.toBelow (by omega) (by have := o5.lt; omega))
    clear p5 o5 t5 x5 hr5 hown5 hbw5 hmm hz1
    have hz1 := hy1
    clear hy1
    have c0 := xm.at_ (i := 0) rfl
    have c1 := xm.at_ (i := 1) rfl
    have c2 := xm.at_ (i := 2) rfl
    have b0 := xm.free 0 (by simp)
    have b1 := xm.free 1 (by simp)
    have b2 := xm.free 2 (by simp)
    have p5 := own_set3b pm (b := B3) (by omega) (.string s0) (.string u1) (.string u2)
    have o5 := own_set3b om (b := B3) (by omega) (.string s0) (.string u1) (.string u2)
    have t5 := own_set3b tm (b := B3) (by omega) (.string s0) (.string u1) (.string u2)
    have x5 := xm.set3 (.string s0) (.string u1) (.string u2)
    have hr5 := hrm.set3 (b := B3) (by omega) (.string s0) (.string u1) (.string u2)
    have hown5 : OwR (set3 wm B3 (.string s0) (.string u1) (.string u2)) w1.heap.size 137 2 (.slice (some ⟨g, 0, none⟩) m.wheels.rotors.length cp) m.wheels.rotors.length (rvs m.wheels.rotors) :=
      ((OwR.off hownm (p := ⟨B3, 0, none⟩) (by simp [Value.ownBlock]; omega) _).off (p := ⟨B3, 1, none⟩) (by simp [Value.ownBlock]; omega) _).off (p := ⟨B3, 2, none⟩) (by simp [Value.ownBlock]; omega) _
    have hbw5 := bel_set3 hbwm (b := B3) (by omega) (.string s0) (.string u1) (.string u2)
    go_wp2_with fail
    change Code.wp _ _ _ _ (set3 wm B3 (.string s0) (.string u1) (.string u2))
    generalize set3 wm B3 (.string s0) (.string u1) (.string u2) = w5 at *
    clear pm om tm xm hrm hownm hbwm c0 c1 c2 b0 b1 b2
    have g0 := p5.cells.range
    have g1 := x5.cells.range
    have nz : B0 + 1 < B2 ∧ B2 < B3 ∧ g ≠ B0 ∧ g ≠ B0 + 1 ∧ g ≠ B2 ∧ g ≠ B3 := by omega
    obtain ⟨nz1, nz2, nz3, nz4, nz5, nz6⟩ := nz
    have lx := x5.lt
    have lp := p5.lt
    refine wp_region_held (S := fun w' => w'.rangeAt B2 0 [.slice (some ⟨g, 0, none⟩) m.wheels.rotors.length cp, .string m.wheels.refl, .string m.rings, .string m.plugs] ∧ w'.rangeAt B3 0 [.string s0, .string u1, .string u2]) (by kernel_rfl) ?_
    generalize hw3 : ({ w5 with drawn := w5.drawn + 1 } : World) = w3
    have hS : w3.rangeAt B2 0 [.slice (some ⟨g, 0, none⟩) m.wheels.rotors.length cp, .string m.wheels.refl, .string m.rings, .string m.plugs] ∧ w3.rangeAt B3 0 [.string s0, .string u1, .string u2] := by subst hw3; exact ⟨g0, g1⟩
    have o6 : Own w3 B0 [.slice none 0 0, .string ⟨#[]⟩, .string ⟨#[]⟩, .string ⟨#[]⟩] := by subst hw3; exact o5.drew
    have t6 : Own w3 (B0 + 1) [.string ⟨#[]⟩, .string ⟨#[]⟩, .string ⟨#[]⟩] := by subst hw3; exact t5.drew
    have hr6 : Rd w3 (B0 + 2) 2000 := by subst hw3; exact hr5.drew.more (by omega)
    have hown6 : OwR w3 w1.heap.size 137 2 (.slice (some ⟨g, 0, none⟩) m.wheels.rotors.length cp) m.wheels.rotors.length (rvs m.wheels.rotors) := by subst hw3; exact hown5.drew
    have hbw6 : Below B0 w w3 := by subst hw3; exact hbw5.drew
    have lx3 : B3 < w3.heap.size := by subst hw3; exact lx
    clear hw3 g0 g1 o5 t5 hr5 hown5 hbw5 p5 x5
    refine hr_take 0 28 (v := .pointer (some ⟨B0 + 2, 0, none⟩)) rfl (by kernel_rfl) (by kernel_rfl) (by kernel_rfl) (fun _ _ _ h => h) rfl hS (Or.inl ⟨by rfl, fun _ _ => rfl⟩) ?_; simp only [Act.put, List.setIfInBounds_toArray, List.set_cons_succ, List.set_cons_zero]
    refine hr_take 1 29 rfl (by kernel_rfl) (by kernel_rfl) (by kernel_rfl) (fun _ _ _ h => h) rfl hS (yieldsIf_load_mid (by rfl) _ _ rfl _ _ rfl _ _ (fun _ h => h.1) Tryz.underlying27 rfl (info_mach (some ⟨g, 0, none⟩) m.wheels.rotors.length cp m.wheels.refl m.rings m.plugs)) ?_; simp only [Act.put, List.setIfInBounds_toArray, List.set_cons_succ, List.set_cons_zero]
    refine hr_take 3 31 rfl (by kernel_rfl) (by kernel_rfl) (by kernel_rfl) (fun _ _ _ h => h) rfl hS (yieldsIf_load_mid (by rfl) _ _ rfl _ _ rfl _ _ (fun _ h => h.2) Tryz.underlying48 rfl (info_msg s0 u1 u2)) ?_; simp only [Act.put, List.setIfInBounds_toArray, List.set_cons_succ, List.set_cons_zero]
    refine hr_call2 2 30 (by kernel_rfl) rfl (by rfl) rfl (fun _ => by simp [go_sem]) (l8Bad_any (B0 + 2) g cp w1.heap.size m v 2000 w3 hr6 (by omega) hx hset hown6 (by omega)) ?_
    rintro e w6 ⟨m6, a6, cap6, hm6, rfl, hrd6, hbl6, hr7, ht6⟩
    refine ⟨_, rfl, ?_⟩
    have hS' : w6.rangeAt B2 0 [.slice (some ⟨g, 0, none⟩) m.wheels.rotors.length cp, .string m.wheels.refl, .string m.rings, .string m.plugs] ∧ w6.rangeAt B3 0 [.string s0, .string u1, .string u2] :=
      ⟨fun j v hv => (World.cell?_of_block (w := w3) (ht6.block B2 (by omega) (by omega) (by omega))).trans (hS.1 j v hv), fun j v hv => (World.cell?_of_block (w := w3) (ht6.block B3 (by omega) (by omega) (by omega))).trans (hS.2 j v hv)⟩
    refine ⟨hS', ?_⟩
    clear hS
    have o7 := o6.tu ht6 (by omega) (by omega)
    have t7 := t6.tu ht6 (by omega) (by omega)
    have hbw7 : Below B0 w w6 := hbw6.trans (ht6.toBelow (by omega) (by omega) (by omega))
    have hbl : ∀ ad, a6 = some ad → B0 + 1 < ad.block := fun ad h => by have := hbl6 ad h; omega
    clear hbl6 hr6 hr7 hown6 hbw6 ht6 o6 t6
    simp only [Act.put, List.setIfInBounds_toArray, List.set_cons_succ, List.set_cons_zero]
    refine hr_store 4 (by kernel_rfl) rfl (by rfl) rfl rfl rfl rfl (o7.there_ (by simp)) (info_mach a6 m6.wheels.rotors.length cap6 m6.wheels.refl m6.rings m6.plugs) (one_mach a6 m6.wheels.rotors.length cap6 m6.wheels.refl m6.rings m6.plugs) ?_
    have t8 := own_set4b t7 (b := B0) (by omega) (.slice a6 m6.wheels.rotors.length cap6) (.string m6.wheels.refl) (.string m6.rings) (.string m6.plugs)
    have o8 := o7.set4 (.slice a6 m6.wheels.rotors.length cap6) (.string m6.wheels.refl) (.string m6.rings) (.string m6.plugs)
    have hbw8 := bel_set4 hbw7 (Nat.le_refl B0) (.slice a6 m6.wheels.rotors.length cap6) (.string m6.wheels.refl) (.string m6.rings) (.string m6.plugs)
    have hrd8 := Reads.set4 hrd6 (b := B0) (fun ad h => by have := hbl ad h; omega) (.slice a6 m6.wheels.rotors.length cap6) (.string m6.wheels.refl) (.string m6.rings) (.string m6.plugs)
    refine ⟨⟨World.rangeAt_setCells_apart hS'.1 _ _ _ (.inl (by omega)), World.rangeAt_setCells_apart hS'.2 _ _ _ (.inl (by omega))⟩, ?_⟩
    have hs8 : (set4 w6 B0 (.slice a6 m6.wheels.rotors.length cap6) (.string m6.wheels.refl) (.string m6.rings) (.string m6.plugs)).heap.size = w6.heap.size := size_set4 _ _ _ _ _ _
    change wpAnyH _ _ _ _ _ _ _ _ (set4 w6 B0 (.slice a6 m6.wheels.rotors.length cap6) (.string m6.wheels.refl) (.string m6.rings) (.string m6.plugs))
    have hS8 : (set4 w6 B0 (.slice a6 m6.wheels.rotors.length cap6) (.string m6.wheels.refl) (.string m6.rings) (.string m6.plugs)).rangeAt B2 0 [.slice (some ⟨g, 0, none⟩) m.wheels.rotors.length cp, .string m.wheels.refl, .string m.rings, .string m.plugs] ∧ (set4 w6 B0 (.slice a6 m6.wheels.rotors.length cap6) (.string m6.wheels.refl) (.string m6.rings) (.string m6.plugs)).rangeAt B3 0 [.string s0, .string u1, .string u2] :=
      ⟨fun j v hv => (World.cell?_of_block (w := w6) (blk_set4 _ _ _ _ _ _ (k := B2) (by omega))).trans (hS'.1 j v hv), fun j v hv => (World.cell?_of_block (w := w6) (blk_set4 _ _ _ _ _ _ (k := B3) (by omega))).trans (hS'.2 j v hv)⟩
    rw [← hs8] at hrd8
    clear hS' o7 t7 hbw7 hrd6 hs8
    generalize (set4 w6 B0 (.slice a6 m6.wheels.rotors.length cap6) (.string m6.wheels.refl) (.string m6.rings) (.string m6.plugs)) = w8 at *
    refine hr_store 5 (by kernel_rfl) rfl (by rfl) rfl rfl rfl rfl (t8.there_ (by simp)) (info_msg s0 u1 u2) (one_msg s0 u1 u2) ?_
    refine ⟨⟨World.rangeAt_setCells_apart hS8.1 _ _ _ (.inl (by omega)), World.rangeAt_setCells_apart hS8.2 _ _ _ (.inl (by omega))⟩, ?_⟩
    have o9 := own_set3b o8 (b := B0 + 1) (by omega) (.string s0) (.string u1) (.string u2)
    have t9 := t8.set3 (.string s0) (.string u1) (.string u2)
    have hbw9 := bel_set3 hbw8 (by omega : B0 ≤ B0 + 1) (.string s0) (.string u1) (.string u2)
    have hrd9 := Reads.set3 hrd8 (b := B0 + 1) (fun ad h => by have := hbl ad h; omega) (.string s0) (.string u1) (.string u2)
    change wpAnyH _ _ _ _ _ _ _ _ (set3 w8 (B0 + 1) (.string s0) (.string u1) (.string u2))
    rw [← size_set3 w8 (B0 + 1) (.string s0) (.string u1) (.string u2)] at hrd9
    generalize (set3 w8 (B0 + 1) (.string s0) (.string u1) (.string u2)) = w9 at *
    refine wpAnyH_done (by kernel_rfl) ?_ _
    go_wp2
    have k0 := o9.at_ (i := 0) rfl
    have k1 := o9.at_ (i := 1) rfl
    have k2 := o9.at_ (i := 2) rfl
    have k3 := o9.at_ (i := 3) rfl
    have k4 := t9.at_ (i := 0) rfl
    have k5 := t9.at_ (i := 1) rfl
    have k6 := t9.at_ (i := 2) rfl
    refine bodyPost_ret (v := .tuple #[.agg #[.slice a6 m6.wheels.rotors.length cap6, .string m6.wheels.refl, .string m6.rings, .string m6.plugs], .agg #[.string s0, .string u1, .string u2]]) (by simp [results, Tryz.results38, go_sem, k0, k1, k2, k3, k4, k5, k6]) rfl ?_
    refine ⟨m6, ⟨s0, u1, u2⟩, a6, cap6, ⟨hm6, hrd9, fun ad h => by have := hbl ad h; have := HB0.out; omega, by rw [HB0.out]; exact hbw9⟩, hz0, hz1, hs2, rfl⟩
  · have t0 : (y == 0) = false := by simp [hy]
    clear hy hy0
    have hz0 : v.size ≤ 300 := by omega
    generalize hs0 : v = s0 at x5 hz0
    have hs2 : s2.size ≤ 300 := by omega
    have g0 := p5.cells.range
    have g1 := x5.cells.range
    have nz : B0 + 1 < B2 ∧ B2 < B3 ∧ g ≠ B0 ∧ g ≠ B0 + 1 ∧ g ≠ B2 ∧ g ≠ B3 := by omega
    obtain ⟨nz1, nz2, nz3, nz4, nz5, nz6⟩ := nz
    have lx := x5.lt
    have lp := p5.lt
    go_upto_region 6 with (fail)
    refine wp_region_held (S := fun w' => w'.rangeAt B2 0 [.slice (some ⟨g, 0, none⟩) m.wheels.rotors.length cp, .string m.wheels.refl, .string m.rings, .string m.plugs] ∧ w'.rangeAt B3 0 [.string s0, .string s1, .string s2]) (by kernel_rfl) ?_
    generalize hw3 : ({ w5 with drawn := w5.drawn + 1 } : World) = w3
    have hS : w3.rangeAt B2 0 [.slice (some ⟨g, 0, none⟩) m.wheels.rotors.length cp, .string m.wheels.refl, .string m.rings, .string m.plugs] ∧ w3.rangeAt B3 0 [.string s0, .string s1, .string s2] := by subst hw3; exact ⟨g0, g1⟩
    have o6 : Own w3 B0 [.slice none 0 0, .string ⟨#[]⟩, .string ⟨#[]⟩, .string ⟨#[]⟩] := by subst hw3; exact o5.drew
    have t6 : Own w3 (B0 + 1) [.string ⟨#[]⟩, .string ⟨#[]⟩, .string ⟨#[]⟩] := by subst hw3; exact t5.drew
    have hr6 : Rd w3 (B0 + 2) 2000 := by subst hw3; exact hr5.drew.more (by omega)
    have hown6 : OwR w3 w1.heap.size 137 2 (.slice (some ⟨g, 0, none⟩) m.wheels.rotors.length cp) m.wheels.rotors.length (rvs m.wheels.rotors) := by subst hw3; exact hown5.drew
    have hbw6 : Below B0 w w3 := by subst hw3; exact hbw5.drew
    have lx3 : B3 < w3.heap.size := by subst hw3; exact lx
    clear hw3 g0 g1 o5 t5 hr5 hown5 hbw5 p5 x5
    refine hr_take 0 28 (v := .pointer (some ⟨B0 + 2, 0, none⟩)) rfl (by kernel_rfl) (by kernel_rfl) (by kernel_rfl) (fun _ _ _ h => h) rfl hS (Or.inl ⟨by rfl, fun _ _ => rfl⟩) ?_; simp only [Act.put, List.setIfInBounds_toArray, List.set_cons_succ, List.set_cons_zero]
    refine hr_take 1 29 rfl (by kernel_rfl) (by kernel_rfl) (by kernel_rfl) (fun _ _ _ h => h) rfl hS (yieldsIf_load_mid (by rfl) _ _ rfl _ _ rfl _ _ (fun _ h => h.1) Tryz.underlying27 rfl (info_mach (some ⟨g, 0, none⟩) m.wheels.rotors.length cp m.wheels.refl m.rings m.plugs)) ?_; simp only [Act.put, List.setIfInBounds_toArray, List.set_cons_succ, List.set_cons_zero]
    refine hr_take 3 31 rfl (by kernel_rfl) (by kernel_rfl) (by kernel_rfl) (fun _ _ _ h => h) rfl hS (yieldsIf_load_mid (by rfl) _ _ rfl _ _ rfl _ _ (fun _ h => h.2) Tryz.underlying48 rfl (info_msg s0 s1 s2)) ?_; simp only [Act.put, List.setIfInBounds_toArray, List.set_cons_succ, List.set_cons_zero]
    refine hr_call2 2 30 (by kernel_rfl) rfl (by rfl) rfl (fun _ => by simp [go_sem]) (l8Bad_any (B0 + 2) g cp w1.heap.size m v 2000 w3 hr6 (by omega) hx hset hown6 (by omega)) ?_
    rintro e w6 ⟨m6, a6, cap6, hm6, rfl, hrd6, hbl6, hr7, ht6⟩
    refine ⟨_, rfl, ?_⟩
    have hS' : w6.rangeAt B2 0 [.slice (some ⟨g, 0, none⟩) m.wheels.rotors.length cp, .string m.wheels.refl, .string m.rings, .string m.plugs] ∧ w6.rangeAt B3 0 [.string s0, .string s1, .string s2] :=
      ⟨fun j v hv => (World.cell?_of_block (w := w3) (ht6.block B2 (by omega) (by omega) (by omega))).trans (hS.1 j v hv), fun j v hv => (World.cell?_of_block (w := w3) (ht6.block B3 (by omega) (by omega) (by omega))).trans (hS.2 j v hv)⟩
    refine ⟨hS', ?_⟩
    clear hS
    have o7 := o6.tu ht6 (by omega) (by omega)
    have t7 := t6.tu ht6 (by omega) (by omega)
    have hbw7 : Below B0 w w6 := hbw6.trans (ht6.toBelow (by omega) (by omega) (by omega))
    have hbl : ∀ ad, a6 = some ad → B0 + 1 < ad.block := fun ad h => by have := hbl6 ad h; omega
    clear hbl6 hr6 hr7 hown6 hbw6 ht6 o6 t6
    simp only [Act.put, List.setIfInBounds_toArray, List.set_cons_succ, List.set_cons_zero]
    refine hr_store 4 (by kernel_rfl) rfl (by rfl) rfl rfl rfl rfl (o7.there_ (by simp)) (info_mach a6 m6.wheels.rotors.length cap6 m6.wheels.refl m6.rings m6.plugs) (one_mach a6 m6.wheels.rotors.length cap6 m6.wheels.refl m6.rings m6.plugs) ?_
    have t8 := own_set4b t7 (b := B0) (by omega) (.slice a6 m6.wheels.rotors.length cap6) (.string m6.wheels.refl) (.string m6.rings) (.string m6.plugs)
    have o8 := o7.set4 (.slice a6 m6.wheels.rotors.length cap6) (.string m6.wheels.refl) (.string m6.rings) (.string m6.plugs)
    have hbw8 := bel_set4 hbw7 (Nat.le_refl B0) (.slice a6 m6.wheels.rotors.length cap6) (.string m6.wheels.refl) (.string m6.rings) (.string m6.plugs)
    have hrd8 := Reads.set4 hrd6 (b := B0) (fun ad h => by have := hbl ad h; omega) (.slice a6 m6.wheels.rotors.length cap6) (.string m6.wheels.refl) (.string m6.rings) (.string m6.plugs)
    refine ⟨⟨World.rangeAt_setCells_apart hS'.1 _ _ _ (.inl (by omega)), World.rangeAt_setCells_apart hS'.2 _ _ _ (.inl (by omega))⟩, ?_⟩
    have hs8 : (set4 w6 B0 (.slice a6 m6.wheels.rotors.length cap6) (.string m6.wheels.refl) (.string m6.rings) (.string m6.plugs)).heap.size = w6.heap.size := size_set4 _ _ _ _ _ _
    change wpAnyH _ _ _ _ _ _ _ _ (set4 w6 B0 (.slice a6 m6.wheels.rotors.length cap6) (.string m6.wheels.refl) (.string m6.rings) (.string m6.plugs))
    have hS8 : (set4 w6 B0 (.slice a6 m6.wheels.rotors.length cap6) (.string m6.wheels.refl) (.string m6.rings) (.string m6.plugs)).rangeAt B2 0 [.slice (some ⟨g, 0, none⟩) m.wheels.rotors.length cp, .string m.wheels.refl, .string m.rings, .string m.plugs] ∧ (set4 w6 B0 (.slice a6 m6.wheels.rotors.length cap6) (.string m6.wheels.refl) (.string m6.rings) (.string m6.plugs)).rangeAt B3 0 [.string s0, .string s1, .string s2] :=
      ⟨fun j v hv => (World.cell?_of_block (w := w6) (blk_set4 _ _ _ _ _ _ (k := B2) (by omega))).trans (hS'.1 j v hv), fun j v hv => (World.cell?_of_block (w := w6) (blk_set4 _ _ _ _ _ _ (k := B3) (by omega))).trans (hS'.2 j v hv)⟩
    rw [← hs8] at hrd8
    clear hS' o7 t7 hbw7 hrd6 hs8
    generalize (set4 w6 B0 (.slice a6 m6.wheels.rotors.length cap6) (.string m6.wheels.refl) (.string m6.rings) (.string m6.plugs)) = w8 at *
    refine hr_store 5 (by kernel_rfl) rfl (by rfl) rfl rfl rfl rfl (t8.there_ (by simp)) (info_msg s0 s1 s2) (one_msg s0 s1 s2) ?_
    refine ⟨⟨World.rangeAt_setCells_apart hS8.1 _ _ _ (.inl (by omega)), World.rangeAt_setCells_apart hS8.2 _ _ _ (.inl (by omega))⟩, ?_⟩
    have o9 := own_set3b o8 (b := B0 + 1) (by omega) (.string s0) (.string s1) (.string s2)
    have t9 := t8.set3 (.string s0) (.string s1) (.string s2)
    have hbw9 := bel_set3 hbw8 (by omega : B0 ≤ B0 + 1) (.string s0) (.string s1) (.string s2)
    have hrd9 := Reads.set3 hrd8 (b := B0 + 1) (fun ad h => by have := hbl ad h; omega) (.string s0) (.string s1) (.string s2)
    change wpAnyH _ _ _ _ _ _ _ _ (set3 w8 (B0 + 1) (.string s0) (.string s1) (.string s2))
    rw [← size_set3 w8 (B0 + 1) (.string s0) (.string s1) (.string s2)] at hrd9
    generalize (set3 w8 (B0 + 1) (.string s0) (.string s1) (.string s2)) = w9 at *
    refine wpAnyH_done (by kernel_rfl) ?_ _
    go_wp2
    have k0 := o9.at_ (i := 0) rfl
    have k1 := o9.at_ (i := 1) rfl
    have k2 := o9.at_ (i := 2) rfl
    have k3 := o9.at_ (i := 3) rfl
    have k4 := t9.at_ (i := 0) rfl
    have k5 := t9.at_ (i := 1) rfl
    have k6 := t9.at_ (i := 2) rfl
    refine bodyPost_ret (v := .tuple #[.agg #[.slice a6 m6.wheels.rotors.length cap6, .string m6.wheels.refl, .string m6.rings, .string m6.plugs], .agg #[.string s0, .string s1, .string s2]]) (by simp [results, Tryz.results38, go_sem, k0, k1, k2, k3, k4, k5, k6]) rfl ?_
    refine ⟨m6, ⟨s0, s1, s2⟩, a6, cap6, ⟨hm6, hrd9, fun ad h => by have := hbl ad h; have := HB0.out; omega, by rw [HB0.out]; exact hbw9⟩, hz0, hz1, hs2, rfl⟩
end Go.Proofs.YtbeohccbflhdiaaGreat
