/- Several of my texts in one: GwS, ExGroundsWith. -/
import Derived.Test.YtnnblmibonnpcaaGreatDoorM21
import Derived.Test.YtnnblmibonnpcaaGreatDoorM8
import Derived.Test.YtnnblmibonnpcaaGreatDoorM18
/- The grounds with a characteristic, in the specification. -/
namespace Go.Proofs.YtnnblmibonnpcaaGreatDoor
open Go.RowKit
attribute [local go_sem] Oper.semAt_some
section
variable {P : Program} {ops : Array Oper} {Q : Exit → Act → World → Prop} {md : Region.Mode} {S : World → Prop} {kp : Nat → Bool}
/-- A call whose answer is one of many. -/
theorem kr_callQ (i d : Nat) {o : Oper} {f : FuncId} {args : Array Value} {R : Ending → World → Prop} {fuel : Nat} {listed : Array Bool} {a : Act} {w : World} (hr : Region.ready md ops listed = [i]) (hi : ops[i]? = some o) (hw : Region.wanted o (yielded ops a.tmps) = true)
    (hd : o.dst = some d) (he : ∀ w, (execOp a.eval o).run P w = .ok (.enter f args) w) (hc : Calls P f args w R)
    (h : ∀ e w', R e w' → ∃ v, e = .returned v ∧ S w' ∧ wpAnyK P md ops Q S kp fuel (listed.setIfInBounds i true) (a.put (some d) v) w') : wpAnyK P md ops Q S kp (fuel + 1) listed a w := by
  refine kr_one i hr hi hw ?_
  simp only [Oper.wp, he, Oper.upon]
  refine hc.mono ?_
  intro e w' hT
  obtain ⟨v, rfl, h1, h2⟩ := h e w' hT
  rw [hd]
  exact ⟨fun _ => h1, h2⟩
end
theorem gwN_zero (m : Mach) (gs : List ByteArray) (ps : List ByteArray) : gwN m gs ps 0 = [] := rfl
theorem l10Same_any (a b : Option Addr) (c d : Nat) (ss tt : List ByteArray) (w : World) (h1 : Reads w w.heap.size a (sv ss)) (h2 : Reads w w.heap.size b (sv tt)) (l1 : ss.length ≤ 4294967296) :
    Calls Tryz.prog 45 #[.slice a ss.length c, .slice b tt.length d] w fun e w' => e = .returned (.bool (decide (ss = tt))) ∧ ∃ n, w' = w.drewN n := by
  by_cases hl : ss.length = tt.length
  · have t0 : ((ss.length : Int) != (tt.length : Int)) = false := by simp [hl]
    have g1 : ss.length ≤ tt.length := by omega
    have g2 : tt.length ≤ ss.length := by omega
    have HR1 := Lib.hid h1
    have HR2 := Lib.hid h2
    clear hl h1 h2
    go_enter Tryz.func45, Tryz.ntmps45
    go_wp2
    go_loopw [5] (fun i wr => ∃ k n : Nat, k ≤ ss.length ∧ i = .int .i64 k ∧ rcTo ss tt k ∧ wr = w.drewN n) (fun i _ => ss.length - (intOf i).toNat)
    case atStart => exact ⟨0, 0, Nat.zero_le _, rfl, fun _ _ _ h => absurd h (by omega), rfl⟩
    case round =>
      obtain ⟨k, n, hk, rfl, ha, rfl⟩ := hrel
      by_cases hlt : k < ss.length
      · obtain ⟨b1, off1, rfl, hb1, hc1⟩ := HR1.out.open_ (by rw [length_sv]; omega)
        obtain ⟨b2, off2, rfl, hb2, hc2⟩ := HR2.out.open_ (by rw [length_sv]; omega)
        have d1 := hc1 k (by rw [length_sv]; exact hlt)
        have d2 := hc2 k (by rw [length_sv]; omega)
        rw [sv_at hlt] at d1
        rw [sv_at (by omega)] at d2
        clear hc1 hc2
        have q1 : (k : Int) < (ss.length : Int) := by omega
        have q2 : (k : Int) < (tt.length : Int) := by omega
        by_cases he : ss[k] = tt[k]'(by omega)
        · have te : (ss[k].toList == (tt[k]'(by omega)).toList) = true := by rw [he]; simp
          have He := Lib.hid he
          clear he
          go_wp2_with fail
          go_quiet (fail)
          go_wp2
          go_roundw
          case rel =>
            refine ⟨k + 1, _, by omega, by go_num, fun j hj1 hj2 hlt' => ?_, rfl⟩
            by_cases e : j = k
            · subst e; exact He.out
            · exact ha j hj1 hj2 (by omega)
          case measure => simp [intOf]; omega
        · have te : (ss[k].toList == (tt[k]'(by omega)).toList) = false := by
            rw [toList_L, toList_L, beq_eq_false_iff_ne]
            exact fun h => he (L_inj h)
          go_wp2_with fail
          go_quiet (fail)
          go_wp2
          go_ret
          exact ⟨ret_bool (by simp; intro h; exact he (by simp [h])), n + nq, by rw [World.drewN_drewN]⟩
      · go_wp2
        go_ret
        refine ⟨ret_bool ?_, n, rfl⟩
        have : ss = tt := List.ext_getElem (by omega) fun j hj1 hj2 => ha j hj1 hj2 (by omega)
        simp [this]
  · have t0 : ((ss.length : Int) != (tt.length : Int)) = true := by rw [bne_iff_ne]; omega
    have T : Hid (decide (ss = tt) = false) := by show _ = _; simp; intro h; exact hl (by rw [h])
    clear hl
    go_enter Tryz.func45, Tryz.ntmps45
    go_wp2
    go_ret
    exact ⟨ret_bool T.out.symm, 0, rfl⟩
set_option maxRecDepth 100000 in
set_option maxHeartbeats 1000000 in
theorem specGroundsWith_any (a : Option Addr) (n c : Nat) (m : Mach) (ag : Option Addr) (cg : Nat) (gs : List ByteArray) (ap : Option Addr) (cp : Nat) (ps : List ByteArray) (w : World) (h : MachAt w w.heap.size a n m) (hr : Reads w w.heap.size ag (sv gs)) (hp : Reads w w.heap.size ap (sv ps)) (hs : ∀ g ∈ gs, g.size ≤ 4294967296) (hl : gs.length ≤ 4294967296) (_hl2 : ps.length ≤ 4294967296) :
    Calls Tryz.prog 17 #[.agg #[.slice a n c, .string m.wheels.refl, .string m.rings, .string m.plugs], .slice ag gs.length cg, .slice ap ps.length cp] w (RowPost 9 1 (gwG m gs ps).length (sv (gwG m gs ps)) w) := by
  have o0 := (Own.new w [.slice a n c, .string m.wheels.refl, .string m.rings, .string m.plugs] 27).alloc (.cells #[] 9)
  have z0 := World.ownsRow_lit (base := w.heap.size + 1) (e := 9) (size := 1) (w.alloc (.cells [.slice a n c, .string m.wheels.refl, .string m.rings, .string m.plugs].toArray 27)) #[] 0 (by simp) (by unfold maxLen; omega) (by simp)
  have hb0 := ((Below.refl w.heap.size w).alloc (Nat.le_refl _) (.cells [.slice a n c, .string m.wheels.refl, .string m.rings, .string m.plugs].toArray 27)).alloc (by simp) (.cells #[] 9)
  have h' := h.below hb0 (Nat.le_refl _)
  have hr' := hr.below hb0 (Nat.le_refl _)
  have hp' := hp.below hb0 (Nat.le_refl _)
  have z1 : OwR ((w.alloc (.cells [.slice a n c, .string m.wheels.refl, .string m.rings, .string m.plugs].toArray 27)).alloc (.cells #[] 9)) (w.heap.size + 1) 9 1 (.slice (some ⟨w.heap.size + 1, 0, none⟩) 0 0) (gwN m gs ps 0).length (sv (gwN m gs ps 0)) := by
    simpa [sv, gwN_zero] using z0
  have HS := Lib.hid hs
  have HR := Lib.hid (fun (wr : World) (hb : Below w.heap.size w wr) => And.intro (h.below hb (Nat.le_refl _)) (And.intro (hr.below hb (Nat.le_refl _)) (hp.below hb (Nat.le_refl _))))
  clear h hr hp h' hr' hp' z0 hs
  go_enter Tryz.func17, Tryz.ntmps17
  go_wp2_with fail
  generalize ((w.alloc (.cells [.slice a n c, .string m.wheels.refl, .string m.rings, .string m.plugs].toArray 27)).alloc (.cells #[] 9)) = W0 at *
  go_loopw [7, 8] (fun u i wr => ∃ k : Nat, k ≤ gs.length ∧ i = .int .i64 k ∧ (k = 0 ∨ goodG m gs = true) ∧ OwR wr (w.heap.size + 1) 9 1 u (gwN m gs ps k).length (sv (gwN m gs ps k)) ∧ Own wr w.heap.size [.slice a n c, .string m.wheels.refl, .string m.rings, .string m.plugs] ∧ Below w.heap.size w wr) (fun _ i _ => gs.length - (intOf i).toNat)
  case atStart => exact ⟨0, Nat.zero_le _, rfl, .inl rfl, z1, o0, hb0⟩
  case round =>
    clear z1 o0 hb0
    obtain ⟨k, hk, rfl, hgood, hown, o0, hb0⟩ := hrel
    obtain ⟨hM, hr, hp⟩ := HR.out _ hb0
    have HG := Lib.hid hgood
    clear hgood
    by_cases hlt : k < gs.length
    · have f0 := o0.at_ (i := 0) rfl
      have f1 := o0.at_ (i := 1) rfl
      have f2 := o0.at_ (i := 2) rfl
      have f3 := o0.at_ (i := 3) rfl
      have hz := hb0.size
      go_wp2_with fail
      refine (l10Grounds_any _ _ _ _ _ _ _ _ (hM.more hz) (hr.more hz) HS.out hl).mono ?_
      rintro e w3 ⟨rfl, hb3⟩
      have o3 := o0.below hb3 o0.lt
      have own3 := OwR.below hown hb3 (Nat.le_refl _)
      have hbw3 := bt hb0 hb3
      clear o0 hown hb0 f0 f1 f2 f3 hb3 hz hM hr hp
      cases h1 : goodG m gs with
      | false =>
        have hk0 : k = 0 := by
          rcases HG.out with h | h
          · exact h
          · rw [h1] at h; cases h
        subst hk0
        have HE := Lib.hid (gwG_no h1 ps)
        clear h1
        go_wp2
        go_ret
        refine ⟨_, rfl, ?_, hbw3⟩
        rw [HE.out]
        exact World.ownsRow.mono own3 (Nat.le_succ _)
      | true =>
        have h12 := goodG_len h1
        have HGd := Lib.hid h1
        have hsz := HS.out gs[k] (List.getElem_mem hlt)
        clear h1 HG
        obtain ⟨hM, hr, hp⟩ := HR.out _ hbw3
        obtain ⟨b, off, rfl, hbl, hcl⟩ := hr.open_ (by rw [length_sv]; omega)
        have c0 := hcl k (by rw [length_sv]; exact hlt)
        rw [at_sv hlt] at c0
        clear hcl
        have q1 : (0 : Int) ≤ (k : Int) := by omega
        have q2 : (k : Int) < (gs.length : Int) := by omega
        have hz := hbw3.size
        have HK := Lib.hid (gwN_snoc (m := m) (ps := ps) hlt)
        have hlen := gwN_len m gs ps k
        have lo := o3.lt
        generalize hg : gs[k] = g at *
        clear hg
        generalize hL : gwN m gs ps k = ls at *
        clear hL
        have HSS : Hid (∀ W' : World, Below w3.heap.size w3 W' → W'.rangeAt w.heap.size 0 [.slice a n c, .string m.wheels.refl, .string m.rings, .string m.plugs] ∧ W'.cell? ⟨b, off + k, none⟩ = some (.string g)) := Lib.hid (fun W' hb => ⟨(o3.below hb lo).cells.range, (hb.cell (p := ⟨b, off + k, none⟩) (show b < w3.heap.size by omega)).trans c0⟩)
        have HCH := Lib.hid (fun (W' : World) (hb : Below w3.heap.size w3 W') => specCharacteristic_any a n c m g W' ((hM.below hb hz).more (Nat.le_trans hz hb.size)) hsz)
        have HPS := Lib.hid (fun (W' : World) (hb : Below w3.heap.size w3 W') => (hp.below hb hz).more (Nat.le_trans hz hb.size))
        have HGB : Hid (decide (chT m g = ps) = gwB m g ps) := Lib.hid rfl
        have hc3 := chT_le m g
        clear c0 hM hp
        cases hf : gwB m g ps with
        | true =>
          rw [hf, if_pos rfl] at HK
          rw [hf] at HGB
          clear hf
          go_wp2_with fail
          refine wp_onlyN ?_
          refine wp_region_any (by kernel_rfl) ?_
          refine wpAny_of_K (S := fun w' => w'.rangeAt w.heap.size 0 [.slice a n c, .string m.wheels.refl, .string m.rings, .string m.plugs] ∧ w'.cell? ⟨b, off + k, none⟩ = some (.string g)) (kp := fun _ => true) _ _ _ _ ?_
          have hbd : Below w3.heap.size w3 w3.drew := (Below.refl _ _).drew
          have hS := HSS.out w3.drew hbd
          refine kr_take 0 21 (v := .agg #[.slice a n c, .string m.wheels.refl, .string m.rings, .string m.plugs]) rfl (by kernel_rfl) (by kernel_rfl) (by kernel_rfl) (by kernel_rfl) (fun _ _ _ h => by cases h.1) rfl hS (yieldsIf_load_mid (by rfl) _ _ rfl _ _ rfl _ _ (fun _ h => h.1) Tryz.underlying27 rfl (by kernel_rfl)) ?_; simp only [Act.put, List.setIfInBounds_toArray, List.set_cons_succ, List.set_cons_zero]
          refine kr_take 1 22 (v := .slice (some ⟨b, off, none⟩) gs.length cg) rfl (by kernel_rfl) (by kernel_rfl) (by kernel_rfl) (by kernel_rfl) (fun _ _ _ h => by cases h.1) rfl hS (Or.inl ⟨by rfl, fun _ _ => rfl⟩) ?_; simp only [Act.put, List.setIfInBounds_toArray, List.set_cons_succ, List.set_cons_zero]
          refine kr_take 2 23 (v := .int .i64 (k : Int)) rfl (by kernel_rfl) (by kernel_rfl) (by kernel_rfl) (by kernel_rfl) (fun _ _ _ h => by cases h.1) rfl hS (Or.inl ⟨by rfl, fun _ _ => rfl⟩) ?_; simp only [Act.put, List.setIfInBounds_toArray, List.set_cons_succ, List.set_cons_zero]
          refine kr_take 3 24 (v := .pointer (some ⟨b, off + k, none⟩)) rfl (by kernel_rfl) (by kernel_rfl) (by kernel_rfl) (by kernel_rfl) (fun _ _ _ h => by cases h.1) rfl hS (Or.inl ⟨by rfl, fun w' hw' => by simp [go_sem, q1, q2]⟩) ?_; simp only [Act.put, List.setIfInBounds_toArray, List.set_cons_succ, List.set_cons_zero]
          refine kr_take 4 25 (v := .string g) rfl (by kernel_rfl) (by kernel_rfl) (by kernel_rfl) (by kernel_rfl) (fun _ _ _ h => by cases h.1) rfl hS (Or.inl ⟨by rfl, fun w' hw' => by have hw1 := hw'.2; simp [go_sem, hw1]⟩) ?_; simp only [Act.put, List.setIfInBounds_toArray, List.set_cons_succ, List.set_cons_zero]
          refine kr_take 6 27 (v := .slice ap ps.length cp) rfl (by kernel_rfl) (by kernel_rfl) (by kernel_rfl) (by kernel_rfl) (fun _ _ _ h => by cases h.1) rfl hS (Or.inl ⟨by rfl, fun _ _ => rfl⟩) ?_; simp only [Act.put, List.setIfInBounds_toArray, List.set_cons_succ, List.set_cons_zero]
          refine kr_callQ 5 26 (by kernel_rfl) rfl (by rfl) rfl (fun w => by simp [go_sem]) (HCH.out w3.drew hbd) (fun e w4 hT => ?_)
          obtain ⟨lv, rfl, hol, hb4⟩ := hT
          obtain ⟨la, lc, rfl, -, hrl, -⟩ := OwR.val hol
          have hb34 := hbd.trans (hb4.mono hbd.size)
          refine ⟨_, rfl, HSS.out _ hb34, ?_⟩
          simp only [Act.put, List.setIfInBounds_toArray, List.set_cons_succ, List.set_cons_zero]
          have hsm := l10Same_any la ap lc cp (chT m g) ps w4 hrl (HPS.out _ hb34) hc3
          rw [HGB.out] at hsm
          refine kr_callQ 7 28 (by kernel_rfl) rfl (by rfl) rfl (fun w => by simp [go_sem]) hsm (fun e w5 hT => ?_)
          obtain ⟨rfl, nq, rfl⟩ := hT
          have hbc : Below w3.heap.size w3 (w4.drewN nq) := bel_drewN hb34 nq
          refine ⟨_, rfl, HSS.out _ hbc, ?_⟩
          simp only [Act.put, List.setIfInBounds_toArray, List.set_cons_succ, List.set_cons_zero]
          generalize w4.drewN nq = wc at *
          refine ⟨by kernel_rfl, onlyN_mk ?_⟩
          have d4 := (HSS.out _ hbc).2
          have oc := o3.below hbc lo
          have ownc := OwR.below own3 hbc (Nat.le_refl _)
          have hbwc := bt hbw3 hbc
          have c1 : wc.cell? ⟨b, off + k, none⟩ = some (.string g) := d4
          have hzc := hbwc.size
          have loc := oc.lt
          clear o3 own3 hbw3
          go_wp2_with (at_builtin; ((with_reducible refine wl_push 30 9 inf_str Tryz.underlying30 rfl (by omega) ownc (by omega) rfl (by simp [Value.oneCell']) (by omega) (by omega) rfl rfl ?_); intro g4 cap w4 o4 b4 s4))
          go_roundw
          case rel =>
            refine ⟨k + 1, by omega, by go_num, .inr HGd.out, ?_, oc.below b4 (Nat.lt_succ_self _), hbwc.trans (b4.mono (Nat.le_succ _))⟩
            rw [HK.out, List.length_append, sv_append]
            exact o4
          case measure => simp [intOf]; omega
        | false =>
          rw [hf, if_neg (by simp)] at HK
          rw [hf] at HGB
          clear hf
          go_wp2_with fail
          refine wp_onlyN ?_
          refine wp_region_any (by kernel_rfl) ?_
          refine wpAny_of_K (S := fun w' => w'.rangeAt w.heap.size 0 [.slice a n c, .string m.wheels.refl, .string m.rings, .string m.plugs] ∧ w'.cell? ⟨b, off + k, none⟩ = some (.string g)) (kp := fun _ => true) _ _ _ _ ?_
          have hbd : Below w3.heap.size w3 w3.drew := (Below.refl _ _).drew
          have hS := HSS.out w3.drew hbd
          refine kr_take 0 21 (v := .agg #[.slice a n c, .string m.wheels.refl, .string m.rings, .string m.plugs]) rfl (by kernel_rfl) (by kernel_rfl) (by kernel_rfl) (by kernel_rfl) (fun _ _ _ h => by cases h.1) rfl hS (yieldsIf_load_mid (by rfl) _ _ rfl _ _ rfl _ _ (fun _ h => h.1) Tryz.underlying27 rfl (by kernel_rfl)) ?_; simp only [Act.put, List.setIfInBounds_toArray, List.set_cons_succ, List.set_cons_zero]
          refine kr_take 1 22 (v := .slice (some ⟨b, off, none⟩) gs.length cg) rfl (by kernel_rfl) (by kernel_rfl) (by kernel_rfl) (by kernel_rfl) (fun _ _ _ h => by cases h.1) rfl hS (Or.inl ⟨by rfl, fun _ _ => rfl⟩) ?_; simp only [Act.put, List.setIfInBounds_toArray, List.set_cons_succ, List.set_cons_zero]
          refine kr_take 2 23 (v := .int .i64 (k : Int)) rfl (by kernel_rfl) (by kernel_rfl) (by kernel_rfl) (by kernel_rfl) (fun _ _ _ h => by cases h.1) rfl hS (Or.inl ⟨by rfl, fun _ _ => rfl⟩) ?_; simp only [Act.put, List.setIfInBounds_toArray, List.set_cons_succ, List.set_cons_zero]
          refine kr_take 3 24 (v := .pointer (some ⟨b, off + k, none⟩)) rfl (by kernel_rfl) (by kernel_rfl) (by kernel_rfl) (by kernel_rfl) (fun _ _ _ h => by cases h.1) rfl hS (Or.inl ⟨by rfl, fun w' hw' => by simp [go_sem, q1, q2]⟩) ?_; simp only [Act.put, List.setIfInBounds_toArray, List.set_cons_succ, List.set_cons_zero]
          refine kr_take 4 25 (v := .string g) rfl (by kernel_rfl) (by kernel_rfl) (by kernel_rfl) (by kernel_rfl) (fun _ _ _ h => by cases h.1) rfl hS (Or.inl ⟨by rfl, fun w' hw' => by have hw1 := hw'.2; simp [go_sem, hw1]⟩) ?_; simp only [Act.put, List.setIfInBounds_toArray, List.set_cons_succ, List.set_cons_zero]
          refine kr_take 6 27 (v := .slice ap ps.length cp) rfl (by kernel_rfl) (by kernel_rfl) (by kernel_rfl) (by kernel_rfl) (fun _ _ _ h => by cases h.1) rfl hS (Or.inl ⟨by rfl, fun _ _ => rfl⟩) ?_; simp only [Act.put, List.setIfInBounds_toArray, List.set_cons_succ, List.set_cons_zero]
          refine kr_callQ 5 26 (by kernel_rfl) rfl (by rfl) rfl (fun w => by simp [go_sem]) (HCH.out w3.drew hbd) (fun e w4 hT => ?_)
          obtain ⟨lv, rfl, hol, hb4⟩ := hT
          obtain ⟨la, lc, rfl, -, hrl, -⟩ := OwR.val hol
          have hb34 := hbd.trans (hb4.mono hbd.size)
          refine ⟨_, rfl, HSS.out _ hb34, ?_⟩
          simp only [Act.put, List.setIfInBounds_toArray, List.set_cons_succ, List.set_cons_zero]
          have hsm := l10Same_any la ap lc cp (chT m g) ps w4 hrl (HPS.out _ hb34) hc3
          rw [HGB.out] at hsm
          refine kr_callQ 7 28 (by kernel_rfl) rfl (by rfl) rfl (fun w => by simp [go_sem]) hsm (fun e w5 hT => ?_)
          obtain ⟨rfl, nq, rfl⟩ := hT
          have hbc : Below w3.heap.size w3 (w4.drewN nq) := bel_drewN hb34 nq
          refine ⟨_, rfl, HSS.out _ hbc, ?_⟩
          simp only [Act.put, List.setIfInBounds_toArray, List.set_cons_succ, List.set_cons_zero]
          generalize w4.drewN nq = wc at *
          refine ⟨by kernel_rfl, onlyN_mk ?_⟩
          have d4 := (HSS.out _ hbc).2
          have oc := o3.below hbc lo
          have ownc := OwR.below own3 hbc (Nat.le_refl _)
          have hbwc := bt hbw3 hbc
          clear o3 own3 hbw3
          go_wp2
          go_roundw
          case rel =>
            refine ⟨k + 1, by omega, by go_num, .inr HGd.out, ?_, oc, hbwc⟩
            rw [HK.out, List.append_nil]
            exact ownc
          case measure => simp [intOf]; omega
    · have hk' : k = gs.length := by omega
      subst hk'
      have HE : Hid (gwG m gs ps = gwN m gs ps gs.length) := by
        show _ = _
        rcases HG.out with h | h
        · have hn := List.eq_nil_of_length_eq_zero h
          subst hn
          unfold gwG
          split <;> rfl
        · exact gwG_yes h ps
      clear HG
      go_wp2
      go_ret
      refine ⟨_, rfl, ?_, hb0⟩
      rw [HE.out]
      exact World.ownsRow.mono hown (Nat.le_succ _)
end Go.Proofs.YtnnblmibonnpcaaGreatDoor

/- The walk of the law that both GroundsWith answer alike (printed by wip/genexact.py). -/
namespace Go.Proofs.YtnnblmibonnpcaaGreatDoor
open Go.RowKit

theorem gwG_le (m : Mach) (gs : List ByteArray) (ps : List ByteArray) : (gwG m gs ps).length ≤ 12 := by
  by_cases h : goodG m gs = true
  · rw [gwG_yes h]
    have := gwN_len m gs ps gs.length
    have := goodG_len h
    omega
  · rw [gwG_no (by simpa using h)]
    simp
set_option maxRecDepth 100000 in
set_option maxHeartbeats 4000000 in
theorem exactGroundsWith_walk (am : Option Addr) (cm : Nat) (m : Mach) (ags : Option Addr) (cgs : Nat) (gs : List ByteArray) (aps : Option Addr) (cps : Nat) (ps : List ByteArray) (w : World) (hm : Reads w w.heap.size am (rvs m.wheels.rotors)) (hz : BigR m.wheels.rotors) (hrf : m.wheels.refl.size ≤ 9223372036854775807) (hrg : m.rings.size ≤ 9223372036854775807) (hpl : m.plugs.size ≤ 9223372036854775807) (hgs : Reads w w.heap.size ags (sv gs)) (zgs : ∀ s ∈ gs, s.size ≤ 9223372036854775807) (lgs : gs.length ≤ 9223372036854775807) (hps : Reads w w.heap.size aps (sv ps)) (zps : ∀ s ∈ ps, s.size ≤ 9223372036854775807) (lps : ps.length ≤ 9223372036854775807) :
    Calls Tryz.prog 4 #[.agg #[.slice am m.wheels.rotors.length cm, .string m.wheels.refl, .string m.rings, .string m.plugs], .slice ags gs.length cgs, .slice aps ps.length cps] w fun e w' => e = .returned (.bool true) ∧ Below w.heap.size w w' := by
  have o0 := Own.new w [.slice am m.wheels.rotors.length cm, .string m.wheels.refl, .string m.rings, .string m.plugs] 41
  have hb0 := (Below.refl w.heap.size w).alloc (Nat.le_refl _) (.cells [.slice am m.wheels.rotors.length cm, .string m.wheels.refl, .string m.rings, .string m.plugs].toArray 41)
  go_enter Tryz.func4, Tryz.ntmps4
  go_wp2_with fail
  generalize (w.alloc (.cells [.slice am m.wheels.rotors.length cm, .string m.wheels.refl, .string m.rings, .string m.plugs].toArray 41)) = W at *
  have K0 := ((((⟨hb0, by simp, by simp⟩ : Kept w W [] []).addR (hps.below hb0 (Nat.le_refl _)) hb0.size).addR (hgs.below hb0 (Nat.le_refl _)) hb0.size).addR (hm.below hb0 (Nat.le_refl _)) hb0.size).addO o0
  clear o0 hb0 hm hgs hps
  refine (szMachine_any am cm m 1048576 W (K0.r0) hz hrf hrg hpl (by omega) (by omega)).mono ?_
  rintro e w2 ⟨q1, rfl, hb, hq⟩
  have K1 := K0.below hb
  clear K0 hb
  rcases hq with rfl | ⟨q1a, q1b, hsm⟩
  · go_wp2
    go_ret
    exact ⟨rfl, K1.bel⟩
  have HSM := Lib.hid hsm
  clear hsm hz hrf hrg hpl
  go_wp2_with fail
  refine (szStringS_any ags cgs gs q1 w2 (K1.r1) zgs lgs (by omega) (by omega)).mono ?_
  rintro e w4 ⟨q3, rfl, hw, hq⟩
  subst hw
  rcases hq with rfl | ⟨q3a, q3b, q3c, q3d⟩
  · go_wp2
    go_ret
    exact ⟨rfl, K1.bel⟩
  have hgs : ∀ s ∈ gs, s.size ≤ 4294967296 := fun s hs => by have := q3d s hs; omega
  have HGS := Lib.hid hgs
  have kgs : gs.length ≤ 1048576 := by omega
  clear hgs q3d zgs lgs
  go_wp2_with fail
  refine (szStringS_any aps cps ps q3 w2 (K1.r2) zps lps (by omega) (by omega)).mono ?_
  rintro e w6 ⟨q5, rfl, hw, hq⟩
  subst hw
  rcases hq with rfl | ⟨q5a, q5b, q5c, q5d⟩
  · go_wp2
    go_ret
    exact ⟨rfl, K1.bel⟩
  have hgs : ∀ s ∈ ps, s.size ≤ 4294967296 := fun s hs => by have := q5d s hs; omega
  have HG2 := Lib.hid hgs
  have kps : ps.length ≤ 1048576 := by omega
  clear hgs q5d zps lps
  have hbig : (gwG m gs ps).length ≤ 12 := gwG_le m gs ps
  have f0 : w2.cell? ⟨w.heap.size, 0, none⟩ = some (.slice am m.wheels.rotors.length cm) := (K1.o0).at_ (i := 0) rfl
  have f1 : w2.cell? ⟨w.heap.size, 1, none⟩ = some (.string m.wheels.refl) := (K1.o0).at_ (i := 1) rfl
  have f2 : w2.cell? ⟨w.heap.size, 2, none⟩ = some (.string m.rings) := (K1.o0).at_ (i := 2) rfl
  have f3 : w2.cell? ⟨w.heap.size, 3, none⟩ = some (.string m.plugs) := (K1.o0).at_ (i := 3) rfl
  go_wp2_with fail
  refine (toMachine_any am cm m w2 (K1.r0) HSM.out).mono ?_
  rintro e w7 ⟨g8, hg8, rfl, og, hb⟩
  have K2 := (K1.below hb).addO og
  clear K1 hb og f0 f1 f2 f3
  go_wp2_with fail
  refine (toStringS_any ags cgs gs w7 (K2.r1) kgs).mono ?_
  rintro e w9 ⟨g10, hg10, rfl, og, hb⟩
  have K3 := (K2.below hb).addO og
  clear K2 hb og 
  go_wp2_with fail
  refine (toStringS_any aps cps ps w9 (K3.r2) kps).mono ?_
  rintro e w11 ⟨g12, hg12, rfl, og, hb⟩
  have K4 := (K3.below hb).addO og
  clear K3 hb og 
  go_wp2_with fail
  refine (specGroundsWith_any _ _ _ m _ _ gs _ _ ps w11 (HSM.out.at_ (Reads.of_own K4.o2 K4.o2.lt)) (Reads.of_own K4.o1 K4.o1.lt) (Reads.of_own K4.o0 K4.o0.lt) HGS.out (by omega) (by omega)).mono ?_
  rintro e w13 ⟨v5, rfl, hown5, hb⟩
  obtain ⟨a5, c5, rfl, -, hr5, -⟩ := OwR.val hown5
  have K5 := ((K4.below hb).tailO.tailO.tailO).addR hr5 (Nat.le_refl _)
  clear K4 hb hr5 hown5
  have nn0 := K5.o0.lt
  have f0 : w13.cell? ⟨w.heap.size, 0, none⟩ = some (.slice am m.wheels.rotors.length cm) := (K5.o0).at_ (i := 0) rfl
  have f1 : w13.cell? ⟨w.heap.size, 1, none⟩ = some (.string m.wheels.refl) := (K5.o0).at_ (i := 1) rfl
  have f2 : w13.cell? ⟨w.heap.size, 2, none⟩ = some (.string m.rings) := (K5.o0).at_ (i := 2) rfl
  have f3 : w13.cell? ⟨w.heap.size, 3, none⟩ = some (.string m.plugs) := (K5.o0).at_ (i := 3) rfl
  go_wp2_with fail
  refine (toMachine_any am cm m w13 (K5.r1) HSM.out).mono ?_
  rintro e w14 ⟨g15, hg15, rfl, og, hb⟩
  have K6 := (K5.below hb).addO og
  clear K5 hb og f0 f1 f2 f3
  have ng15 := K6.o0.lt
  go_wp2_with fail
  have nw := Own.new w14 [.slice (some ⟨g15, 0, none⟩) m.wheels.rotors.length m.wheels.rotors.length, .string m.wheels.refl, .string m.rings, .string m.plugs] 27
  have bw := (Below.refl w14.heap.size w14).alloc (Nat.le_refl _) (.cells [.slice (some ⟨g15, 0, none⟩) m.wheels.rotors.length m.wheels.rotors.length, .string m.wheels.refl, .string m.rings, .string m.plugs].toArray 27)
  have sw : (w14.alloc (.cells [.slice (some ⟨g15, 0, none⟩) m.wheels.rotors.length m.wheels.rotors.length, .string m.wheels.refl, .string m.rings, .string m.plugs].toArray 27)).heap.size = w14.heap.size + 1 := by simp
  generalize (w14.alloc (.cells [.slice (some ⟨g15, 0, none⟩) m.wheels.rotors.length m.wheels.rotors.length, .string m.wheels.refl, .string m.rings, .string m.plugs].toArray 27)) = w16 at *
  have K7 := (K6.below bw).addO nw
  clear K6 bw nw
  generalize hBX : w14.heap.size = BX at *
  have nBX := K7.o0.lt
  go_wp2_with fail
  refine (toStringS_any ags cgs gs w16 (K7.r2) kgs).mono ?_
  rintro e w17 ⟨g18, hg18, rfl, og, hb⟩
  have K8 := (K7.below hb).addO og
  clear K7 hb og 
  have ng18 := K8.o0.lt
  go_wp2_with fail
  refine (toStringS_any aps cps ps w17 (K8.r3) kps).mono ?_
  rintro e w19 ⟨g20, hg20, rfl, og, hb⟩
  have K9 := (K8.below hb).addO og
  clear K8 hb og 
  have ng20 := K9.o0.lt
  have k0 : w19.cell? ⟨BX, 0, none⟩ = some (.slice (some ⟨g15, 0, none⟩) m.wheels.rotors.length m.wheels.rotors.length) := (K9.o2).at_ (i := 0) rfl
  have k1 : w19.cell? ⟨BX, 1, none⟩ = some (.string m.wheels.refl) := (K9.o2).at_ (i := 1) rfl
  have k2 : w19.cell? ⟨BX, 2, none⟩ = some (.string m.rings) := (K9.o2).at_ (i := 2) rfl
  have k3 : w19.cell? ⟨BX, 3, none⟩ = some (.string m.plugs) := (K9.o2).at_ (i := 3) rfl
  go_wp2_with fail
  refine (implGroundsWith_any _ _ _ m _ _ gs _ _ ps w19 (HSM.out.at_ (Reads.of_own K9.o3 K9.o3.lt)) (Reads.of_own K9.o1 K9.o1.lt) (Reads.of_own K9.o0 K9.o0.lt) HGS.out (by omega) (by omega)).mono ?_
  rintro e w21 ⟨v6, rfl, hown, hb⟩
  obtain ⟨a6, c6, rfl, -, hr6, -⟩ := OwR.val hown
  have K10 := K9.below hb
  clear K9 hb k0 k1 k2 k3
  generalize hss : gwG m gs ps = ss at *
  have HSS := Lib.hid hss
  clear hss
  go_wp2_with fail
  refine (eqStringS_any a6 a5 c6 c5 ss ss w21 hr6 K10.r0 (by omega)).mono ?_
  rintro e w22 ⟨rfl, n23, rfl⟩
  simp only [decide_true]
  generalize hw : w21.drewN n23 = w24
  have hb : Below w21.heap.size w21 w24 := hw ▸ drewN_below n23
  clear hw
  have hown1 := OwR.below hown hb (Nat.le_refl _)
  have K11 := K10.below hb
  clear K10 hb hr6 hown
  have f0 : w24.cell? ⟨w.heap.size, 0, none⟩ = some (.slice am m.wheels.rotors.length cm) := (K11.o4).at_ (i := 0) rfl
  have f1 : w24.cell? ⟨w.heap.size, 1, none⟩ = some (.string m.wheels.refl) := (K11.o4).at_ (i := 1) rfl
  have f2 : w24.cell? ⟨w.heap.size, 2, none⟩ = some (.string m.rings) := (K11.o4).at_ (i := 2) rfl
  have f3 : w24.cell? ⟨w.heap.size, 3, none⟩ = some (.string m.plugs) := (K11.o4).at_ (i := 3) rfl
  have k0 : w24.cell? ⟨BX, 0, none⟩ = some (.slice (some ⟨g15, 0, none⟩) m.wheels.rotors.length m.wheels.rotors.length) := (K11.o2).at_ (i := 0) rfl
  have k1 : w24.cell? ⟨BX, 1, none⟩ = some (.string m.wheels.refl) := (K11.o2).at_ (i := 1) rfl
  have k2 : w24.cell? ⟨BX, 2, none⟩ = some (.string m.rings) := (K11.o2).at_ (i := 2) rfl
  have k3 : w24.cell? ⟨BX, 3, none⟩ = some (.string m.plugs) := (K11.o2).at_ (i := 3) rfl
  have lt0 := (K11.o4).lt
  have lt5 := (K11.o2).lt
  go_wp2_with fail
  have hRd : Reads w24.drew w24.drew.heap.size am (rvs m.wheels.rotors) := K11.r1
  have hRy : Reads w24.drew w24.drew.heap.size (some ⟨g15, 0, none⟩) (rvs m.wheels.rotors) := Reads.of_own (K11.o3).drew (K11.o3).lt
  go_region_held3 (fun w' => w'.cell? ⟨w.heap.size, 0, none⟩ = some (Value.slice am m.wheels.rotors.length cm) ∧ w'.cell? ⟨w.heap.size, 1, none⟩ = some (Value.string m.wheels.refl) ∧ w'.cell? ⟨w.heap.size, 2, none⟩ = some (Value.string m.rings) ∧ w'.cell? ⟨w.heap.size, 3, none⟩ = some (Value.string m.plugs) ∧ w'.cell? ⟨BX, 0, none⟩ = some (Value.slice (some ⟨g15, 0, none⟩) m.wheels.rotors.length m.wheels.rotors.length) ∧ w'.cell? ⟨BX, 1, none⟩ = some (Value.string m.wheels.refl) ∧ w'.cell? ⟨BX, 2, none⟩ = some (Value.string m.rings) ∧ w'.cell? ⟨BX, 3, none⟩ = some (Value.string m.plugs))
    (first | go_keep | exact keep8 f0 f1 f2 f3 k0 k1 k2 k3 lt0 lt5 (bt hb8 hb9) | exact keep8 f0 f1 f2 f3 k0 k1 k2 k3 lt0 lt5 hb8)
    (first | (go_at_call 18; refine (toMachine_any am cm m _ hRd HSM.out).mono ?_; rintro e wy8 ⟨g8, hg8, rfl, og8, hb8⟩) | (go_at_call 22; refine (eqMachine_any (some ⟨g15, 0, none⟩) (some ⟨g8, 0, none⟩) _ _ m _ ((hRy.below hb8 (Nat.le_refl _)).more hb8.size) (Reads.of_own og8 og8.lt) HSM.out.whl.few).mono ?_; rintro e wy9 ⟨rfl, hb9⟩))
  have hb : Below w24.heap.size w24 wy9 := bt (a := w24) (b := wy8) ⟨hb8.os, hb8.tape, hb8.output, hb8.size, hb8.block⟩ hb9
  have hown1' := OwR.below hown1 hb (Nat.le_refl _)
  have K12 := K11.below hb
  clear K11 hb hb8 hb9 f0 f1 f2 f3 k0 k1 k2 k3 lt0 lt5 hRd hRy og8 hg8 hown1
  go_wp2_with fail
  refine (toStringS_any ags cgs gs wy9 (K12.r2) kgs).mono ?_
  rintro e w25 ⟨g26, hg26, rfl, og, hb⟩
  have hown1'' := OwR.below hown1' hb (Nat.le_refl _)
  clear hown1'
  have K13 := (K12.below hb).addO og
  clear K12 hb og 
  go_wp2_with fail
  refine (eqStringS_any (some ⟨g18, 0, none⟩) (some ⟨g26, 0, none⟩) gs.length gs.length gs gs w25 (Reads.of_own K13.o2 K13.o2.lt) (Reads.of_own K13.o0 K13.o0.lt) kgs).mono ?_
  rintro e w27 ⟨rfl, n28, rfl⟩
  simp only [decide_true]
  generalize hw : w25.drewN n28 = w29
  have hb : Below w25.heap.size w25 w29 := hw ▸ drewN_below n28
  clear hw
  have hown1''' := OwR.below hown1'' hb (Nat.le_refl _)
  clear hown1''
  have K14 := (K13.below hb).tailO
  clear K13 hb
  go_wp2_with fail
  refine (toStringS_any aps cps ps w29 (K14.r3) kps).mono ?_
  rintro e w30 ⟨g31, hg31, rfl, og, hb⟩
  have hown1'''' := OwR.below hown1''' hb (Nat.le_refl _)
  clear hown1'''
  have K15 := (K14.below hb).addO og
  clear K14 hb og 
  go_wp2_with fail
  refine (eqStringS_any (some ⟨g20, 0, none⟩) (some ⟨g31, 0, none⟩) ps.length ps.length ps ps w30 (Reads.of_own K15.o1 K15.o1.lt) (Reads.of_own K15.o0 K15.o0.lt) kps).mono ?_
  rintro e w32 ⟨rfl, n33, rfl⟩
  simp only [decide_true]
  generalize hw : w30.drewN n33 = w34
  have hb : Below w30.heap.size w30 w34 := hw ▸ drewN_below n33
  clear hw
  have hown1''''' := OwR.below hown1'''' hb (Nat.le_refl _)
  clear hown1''''
  have K16 := (K15.below hb).tailO
  clear K15 hb
  have base0 : OwR w34 _ 9 1 (.slice a6 ss.length c6) ss.length (sv ss) := hown1'''''
  clear hown1'''''
  have k0 : w34.cell? ⟨BX, 0, none⟩ = some (.slice (some ⟨g15, 0, none⟩) m.wheels.rotors.length m.wheels.rotors.length) := (K16.o2).at_ (i := 0) rfl
  have k1 : w34.cell? ⟨BX, 1, none⟩ = some (.string m.wheels.refl) := (K16.o2).at_ (i := 1) rfl
  have k2 : w34.cell? ⟨BX, 2, none⟩ = some (.string m.rings) := (K16.o2).at_ (i := 2) rfl
  have k3 : w34.cell? ⟨BX, 3, none⟩ = some (.string m.plugs) := (K16.o2).at_ (i := 3) rfl
  go_wp2_with fail
  refine (markMachine_to g15 _ m 1 w34 (K16.o3) HSM.out.whl.few (by omega) (by omega)).mono ?_
  rintro e w35 ⟨rfl, gr⟩
  have R36_b : 1 + 2 * m.wheels.rotors.length ≤ 3145731 := by have := HSM.out.whl.few; omega
  have R36_c : 1 ≤ 1 + 2 * m.wheels.rotors.length := by omega
  generalize 1 + 2 * m.wheels.rotors.length = R36 at *
  have base1 := base0.moved gr (by omega)
  have K17 := (K16.subO (ows' := [(g20, sv ps), (g18, sv gs), (w.heap.size, [.slice am m.wheels.rotors.length cm, .string m.wheels.refl, .string m.rings, .string m.plugs])]) (by simp)).grown gr (by omega) (by simp; omega) (by simp; omega)
  clear K16 gr base0 k0 k1 k2 k3
  go_wp2_with fail
  refine (markStringS_own g18 _ R36 gs.length _ w35 (K17.o1) (length_sv _) kgs (by omega) (by omega)).mono ?_
  rintro e w37 ⟨rfl, gr⟩
  have R38_b : R36 + gs.length ≤ 6291461 := by omega
  have R38_c : 1 ≤ R36 + gs.length := by omega
  generalize R36 + gs.length = R38 at *
  have base2 := base1.moved gr (by omega)
  have K18 := (K17.subO (ows' := [(g20, sv ps), (w.heap.size, [.slice am m.wheels.rotors.length cm, .string m.wheels.refl, .string m.rings, .string m.plugs])]) (by simp)).grown gr (by omega) (by simp; omega) (by simp; omega)
  clear K17 gr base1 
  go_wp2_with fail
  refine (markStringS_own g20 _ R38 ps.length _ w37 (K18.o0) (length_sv _) kps (by omega) (by omega)).mono ?_
  rintro e w39 ⟨rfl, gr⟩
  have R40_b : R38 + ps.length ≤ 9437191 := by omega
  have R40_c : 1 ≤ R38 + ps.length := by omega
  generalize R38 + ps.length = R40 at *
  have base3 := base2.moved gr (by omega)
  have K19 := (K18.subO (ows' := [(w.heap.size, [.slice am m.wheels.rotors.length cm, .string m.wheels.refl, .string m.rings, .string m.plugs])]) (by simp)).grown gr (by omega) (by simp; omega) (by simp; omega)
  clear K18 gr base2 
  have tr : decide (((R40 : Nat) : Int) < 0) = false := by simp
  obtain ⟨a7, c7, he, -, hr6, -⟩ := OwR.val base3
  injection he with ea _ ec
  subst ea
  clear ec
  go_wp2_with fail
  refine (eqStringS_any a6 a5 c6 c5 ss ss w39 hr6 K19.r0 (by omega)).mono ?_
  rintro e w41 ⟨rfl, n42, rfl⟩
  simp only [decide_true]
  generalize hw : w39.drewN n42 = w43
  have hb : Below w39.heap.size w39 w43 := hw ▸ drewN_below n42
  clear hw
  have base4 := OwR.below base3 hb (Nat.le_refl _)
  have K20 := K19.below hb
  clear K19 hb hr6 base3
  go_wp2_with fail
  refine (markStringS_any _ ss _ 1 w43 base4 (by omega) (by omega) (by omega)).mono ?_
  rintro e w44 ⟨rfl, hown12, hb⟩
  obtain ⟨a7, c7, he, -, hr8, -⟩ := OwR.val hown12
  injection he with ea _ ec
  subst ea
  clear ec
  have KM : Kept w w44 [(w.heap.size, [.slice am m.wheels.rotors.length cm, .string m.wheels.refl, .string m.rings, .string m.plugs])] [(w13.heap.size, a5, sv ss), (w.heap.size, am, rvs m.wheels.rotors), (w.heap.size, ags, sv gs), (w.heap.size, aps, sv ps)] := K20.low hb (by simp; omega) (by simp; omega) (by omega)
  have K21 := KM.addR hr8 (Nat.le_refl _)
  clear K20 KM hb hr8 hown12 base4
  generalize hMN : (1 + ss.length : Nat) = MN
  have hMNb : MN ≤ 13 := by omega
  have HMN := Lib.hid hMN
  clear hMN
  have hh := heldStringS_any a6 c6 1 ss.length w44 K21.r0 (by omega) (by omega) (by omega)
  rw [HMN.out] at hh
  go_wp2_with fail
  refine hh.mono ?_
  rintro e w45 ⟨rfl, hb⟩
  have K22 := K21.below hb
  clear K21 hb hh
  have f0 : w45.cell? ⟨w.heap.size, 0, none⟩ = some (.slice am m.wheels.rotors.length cm) := (K22.o0).at_ (i := 0) rfl
  have f1 : w45.cell? ⟨w.heap.size, 1, none⟩ = some (.string m.wheels.refl) := (K22.o0).at_ (i := 1) rfl
  have f2 : w45.cell? ⟨w.heap.size, 2, none⟩ = some (.string m.rings) := (K22.o0).at_ (i := 2) rfl
  have f3 : w45.cell? ⟨w.heap.size, 3, none⟩ = some (.string m.plugs) := (K22.o0).at_ (i := 3) rfl
  go_wp2_with fail
  refine (toMachine_any am cm m w45 (K22.r2) HSM.out).mono ?_
  rintro e w46 ⟨g47, hg47, rfl, og, hb⟩
  have K23 := (K22.below hb).addO og
  clear K22 hb og f0 f1 f2 f3
  go_wp2_with fail
  refine (toStringS_any ags cgs gs w46 (K23.r3) kgs).mono ?_
  rintro e w48 ⟨g49, hg49, rfl, og, hb⟩
  have K24 := (K23.below hb).addO og
  clear K23 hb og 
  go_wp2_with fail
  refine (toStringS_any aps cps ps w48 (K24.r4) kps).mono ?_
  rintro e w50 ⟨g51, hg51, rfl, og, hb⟩
  have K25 := (K24.below hb).addO og
  clear K24 hb og 
  go_wp2_with fail
  refine (implGroundsWith_any _ _ _ m _ _ gs _ _ ps w50 (HSM.out.at_ (Reads.of_own K25.o2 K25.o2.lt)) (Reads.of_own K25.o1 K25.o1.lt) (Reads.of_own K25.o0 K25.o0.lt) HGS.out (by omega) (by omega)).mono ?_
  rintro e w52 ⟨v12, rfl, hown15, hb⟩
  rw [HSS.out] at hown15
  obtain ⟨a12, c12, rfl, -, hr6, -⟩ := OwR.val hown15
  have K26 := K25.below hb
  clear K25 hb hown15
  go_wp2_with fail
  refine (eqStringS_any a12 a5 c12 c5 ss ss w52 hr6 K26.r1 (by omega)).mono ?_
  rintro e w53 ⟨rfl, n54, rfl⟩
  simp only [decide_true]
  generalize hw : w52.drewN n54 = w55
  have hb : Below w52.heap.size w52 w55 := hw ▸ drewN_below n54
  clear hw
  have K27 := K26.below hb
  clear K26 hb hr6
  have hh := heldStringS_any a6 c6 1 ss.length w55 K27.r0 (by omega) (by omega) (by omega)
  rw [HMN.out] at hh
  go_wp2_with fail
  refine hh.mono ?_
  rintro e w56 ⟨rfl, hb⟩
  have K28 := K27.below hb
  clear K27 hb hh
  go_wp2
  go_ret
  exact ⟨rfl, K28.bel⟩
end Go.Proofs.YtnnblmibonnpcaaGreatDoor
