/- Several of my texts in one: GrgW. -/
import Derived.Test.YtbeohccbflhdiaaGreatM31
/- The walk of the law that exactly the grounds with all repeats are kept. -/
namespace Go.Proofs.YtbeohccbflhdiaaGreat
open Go.RowKit

theorem goodG_of (m : Mach) (gs : List ByteArray) : goodG m gs = ((machB m && decide (gs.length ≤ 12)) && (gs.take gs.length).all (setB m)) := by
  rw [List.take_length]; simp only [goodG, Bool.and_assoc]
theorem all_take {P : ByteArray → Bool} {gs : List ByteArray} {k : Nat} (h : k < gs.length) : (gs.take (k + 1)).all P = ((gs.take k).all P && P gs[k]) := by
  rw [List.take_succ_eq_append_getElem h, List.all_append]; simp
theorem all_takeI {P : Int → Bool} {ps : List Int} {k : Nat} (h : k < ps.length) : (ps.take (k + 1)).all P = ((ps.take k).all P && P ps[k]) := by
  rw [List.take_succ_eq_append_getElem h, List.all_append]; simp
set_option maxRecDepth 100000 in
set_option maxHeartbeats 4000000 in
theorem groundsRepeats_walk (a : Option Addr) (len cap : Nat) (zs : List Int) (w : World) (h : IsRow .u8 w a len cap zs) :
    Calls Tryz.prog 14 #[.slice a len cap] w fun e w' => e = .returned (.bool true) ∧ Below w.heap.size w w' := by
  have hlen : len ≤ 9223372036854775807 := by
    rcases h with ⟨_, rfl, _⟩ | ⟨x, _, hl, hm, _⟩
    · omega
    · unfold maxLen at hm; omega
  by_cases hl : 1048576 < len
  · go_enter Tryz.func14, Tryz.ntmps14
    go_wp2
    go_ret
    exact ⟨rfl, Below.refl _ _⟩
  · go_enter Tryz.func14, Tryz.ntmps14
    go_wp2_with fail
    refine (DrawGroundsWithRepeats_any a len cap zs _ h (by omega)).mono ?_
    rintro e w1 ⟨m, gs, ps, a1, cap1, gg, gc, pg, pc, ⟨hsm, hrd, -, hb1⟩, hgs, hgl, hpl, hpc, hgr, hpr, rfl⟩
    have o1 := Own.new w1 [.slice a1 m.wheels.rotors.length cap1, .string m.wheels.refl, .string m.rings, .string m.plugs] 27
    have hb1' := hb1.alloc hb1.size (.cells [.slice a1 m.wheels.rotors.length cap1, .string m.wheels.refl, .string m.rings, .string m.plugs].toArray 27)
    have A1 : GAt (w1.alloc (.cells [.slice a1 m.wheels.rotors.length cap1, .string m.wheels.refl, .string m.rings, .string m.plugs].toArray 27)) w1.heap.size a1 cap1 m gg pg gs ps :=
      ⟨o1, (hsm.at_ hrd).alloc_ _, hgr.alc _, hpr.alc _⟩
    have HGS : Hid (∀ x ∈ gs, x.size ≤ 4294967296) := Lib.hid (fun x hx => by have := hgs x hx; omega)
    clear hrd hb1 h o1 hgs hgr hpr hsm
    go_wp2_with fail
    generalize (w1.alloc (.cells [.slice a1 m.wheels.rotors.length cap1, .string m.wheels.refl, .string m.rings, .string m.plugs].toArray 27)) = W1 at *
    generalize w1.heap.size = B1 at *
    refine (implGroundsWithRepeats_any a1 _ cap1 m _ gc gs _ pc ps _ A1.mach A1.grs A1.pls HGS.out (by omega) (by omega)).mono ?_
    rintro e w2 ⟨lv, rfl, hol, hb2⟩
    have A2 := A1.below hb2
    have hbw2 := bt hb1' hb2
    obtain ⟨al, cl, rfl, hlc, hrl, -⟩ := hol.val
    have HKL : Hid ((keepG m gs ps).length ≤ 13) := Lib.hid (by
      unfold keepG
      split
      · have := keepN_len m gs ps gs.length; omega
      · simp)
    have HKY := Lib.hid (fun h => keepG_yes (m := m) (gs := gs) h ps)
    have HKN := Lib.hid (fun h => keepG_no (m := m) (gs := gs) h ps)
    clear A1 hb1' hb2 hol
    have hsp := fun W h1 h2 h3 => specGroundsWithRepeats_any a1 m.wheels.rotors.length cap1 m (some ⟨gg, 0, none⟩) gc gs (some ⟨pg, 0, none⟩) pc ps W h1 h2 h3 HGS.out (by omega) (by omega)
    generalize keepG m gs ps = K at *
    have hkl := HKL.out
    have f0 := A2.box.at_ (i := 0) rfl
    have f1 := A2.box.at_ (i := 1) rfl
    have f2 := A2.box.at_ (i := 2) rfl
    have f3 := A2.box.at_ (i := 3) rfl
    go_wp2_with fail
    refine (hsp _ A2.mach A2.grs A2.pls).mono ?_
    rintro e w3 ⟨lv, rfl, hol, hb3⟩
    obtain ⟨al3, cl3, rfl, hlc3, hrl3, -⟩ := hol.val
    have A3 := A2.below hb3
    have hbw3 := bt hbw2 hb3
    have hrlb := hrl.up1 hb3
    clear A2 hbw2 hrl f0 f1 f2 f3 hol hb3 hsp
    go_wp2_with fail
    have hrt := rcTexts_any al al3 cl cl3 K K w3 hrlb hrl3 (by omega)
    rw [decide_eq_true rfl] at hrt
    refine hrt.mono ?_
    rintro e w' ⟨rfl, n4, rfl⟩
    have hb4 := bel_drewN1 w3 n4
    have A4 := A3.below hb4
    have hbw4 := bt hbw3 hb4
    have hrl4 := hrlb.up1 hb4
    clear A3 hbw3 hrlb hb4 hrl3 hrt
    generalize w3.drewN n4 = w4 at *
    have HG := Lib.hid (goodG_of m gs)
    go_upto_region 7 with (fail)
    go_cut [7] (fun b wr => ∃ x : Bool, b = .bool x ∧ x = (machB m && decide (gs.length ≤ 12)) ∧ GAt wr B1 a1 cap1 m gg pg gs ps ∧ Below w.heap.size w wr ∧ Reads wr wr.heap.size al (sv K))
    case first =>
      have f0 := A4.box.at_ (i := 0) rfl
      have f1 := A4.box.at_ (i := 1) rfl
      have f2 := A4.box.at_ (i := 2) rfl
      have f3 := A4.box.at_ (i := 3) rfl
      go_wp2_with fail
      refine (implMachineValid_any _ _ _ _ _ A4.mach).mono ?_
      rintro e w5 ⟨rfl, hb5⟩
      have A5 := A4.below hb5
      have hbw5 := bt hbw4 hb5
      have hrl5 := hrl4.up1 hb5
      clear A4 hbw4 hrl4 hb5 f0 f1 f2 f3
      cases hm : machB m with
      | false =>
        go_wp2_with fail
        go_meet
        exact ⟨_, rfl, by rw [hm]; rfl, A5, hbw5, hrl5⟩
      | true =>
        go_wp2_with fail
        go_meet
        exact ⟨_, rfl, by rw [hm, Bool.true_and, Bool.eq_iff_iff, decide_eq_true_eq, decide_eq_true_eq]; omega, A5, hbw5, hrl5⟩
    case rest =>
      clear A4 hbw4 hrl4
      obtain ⟨x, rfl, hx, A5, hbw5, hrl5⟩ := hcut
      have HX0 := Lib.hid hx
      clear hx
      go_wp2_with fail
      go_loopw [7, 8] (fun b i wr => ∃ (k : Nat) (y : Bool), k ≤ gs.length ∧ i = .int .i64 k ∧ b = .bool y ∧ y = (x && (gs.take k).all (setB m)) ∧ GAt wr B1 a1 cap1 m gg pg gs ps ∧ Below w.heap.size w wr ∧ Reads wr wr.heap.size al (sv K)) (fun _ i _ => gs.length - (intOf i).toNat)
      case atStart => exact ⟨0, x, Nat.zero_le _, rfl, rfl, by simp, A5, hbw5, hrl5⟩
      case round =>
        clear A5 hbw5 hrl5
        obtain ⟨k, y, hk, rfl, rfl, hy, A5, hbw5, hrl5⟩ := hrel
        have HY := Lib.hid hy
        clear hy
        by_cases hlt : k < gs.length
        · have HAT := Lib.hid (all_take (P := setB m) hlt)
          obtain ⟨b, off, hbb, hbl, hcl⟩ := A5.grs.open_ (by rw [length_sv]; omega)
          cases hbb
          have c0 := hcl k (by rw [length_sv]; exact hlt)
          rw [at_sv hlt, Nat.zero_add] at c0
          clear hcl
          have q1 : (0 : Int) ≤ (k : Int) := by omega
          have q2 : (k : Int) < (gs.length : Int) := by omega
          have hgz := HGS.out gs[k] (List.getElem_mem hlt)
          generalize gs[k] = g at *
          have lo := A5.box.lt
          have d0 := fun (cc : Cls wr.heap.size wr) => (cc.cell B1 0 lo).trans (A5.box.at_ (i := 0) rfl)
          have d1 := fun (cc : Cls wr.heap.size wr) => (cc.cell B1 1 lo).trans (A5.box.at_ (i := 1) rfl)
          have d2 := fun (cc : Cls wr.heap.size wr) => (cc.cell B1 2 lo).trans (A5.box.at_ (i := 2) rfl)
          have d3 := fun (cc : Cls wr.heap.size wr) => (cc.cell B1 3 lo).trans (A5.box.at_ (i := 3) rfl)
          have d4 := fun (cc : Cls wr.heap.size wr) => (cc.cell gg k hbl).trans c0
          have n1 := fun (cc : Cls wr.heap.size wr) => rcFits_any a1 m.wheels.rotors.length cap1 m g cc.w (A5.below cc.bel).mach hgz
          clear c0
          cases y with
          | true =>
            go_wp2_with fail
            refine wp_region_cls (by kernel_rfl) (by kernel_rfl) ?_
            repeat (go_big_quiet_step (first | (go_at_call 29; with_reducible exact cls_of (Nat.le_refl _) (n1 _))))
            refine wpQuiet_nil ?_
            intro wc hbc
            go_wp2
            go_roundw
            case rel => exact ⟨k + 1, setB m g, by omega, by go_num, rfl, by rw [HAT.out, ← Bool.and_assoc, ← HY.out, Bool.true_and], A5.below hbc, bt hbw5 hbc, hrl5.up1 hbc⟩
            case measure => simp [intOf]; omega
          | false =>
            go_wp2_with fail
            refine wp_region_cls (by kernel_rfl) (by kernel_rfl) ?_
            repeat (go_big_quiet_step (first | (go_at_call 29; with_reducible exact cls_of (Nat.le_refl _) (n1 _))))
            refine wpQuiet_nil ?_
            intro wc hbc
            go_wp2
            go_roundw
            case rel => exact ⟨k + 1, false, by omega, by go_num, rfl, by rw [HAT.out, ← Bool.and_assoc, ← HY.out, Bool.false_and], A5.below hbc, bt hbw5 hbc, hrl5.up1 hbc⟩
            case measure => simp [intOf]; omega
        · have hk' : k = gs.length := by omega
          subst hk'
          have hgood : goodG m gs = y := by rw [HG.out, ← HX0.out, ← HY.out]
          have HGD := Lib.hid hgood
          clear hgood
          go_wp2_with fail
          go_loopw [9, 10, 11, 12] (fun n i _ _ wr => ∃ k c : Nat, k ≤ gs.length ∧ i = .int .i64 k ∧ n = .int .i64 c ∧ c = ((gs.take k).filter fun g => allP m g ps).length ∧ (k = 0 ∨ y = true) ∧ GAt wr B1 a1 cap1 m gg pg gs ps ∧ Below w.heap.size w wr ∧ Reads wr wr.heap.size al (sv K)) (fun _ i _ _ _ => gs.length - (intOf i).toNat)
          case atStart => exact ⟨0, 0, Nat.zero_le _, rfl, rfl, rfl, .inl rfl, A5, hbw5, hrl5⟩
          case round =>
            clear A5 hbw5 hrl5
            obtain ⟨k, c, hk, rfl, rfl, hc, hky, A5, hbw5, hrl5⟩ := hrel
            have HC := Lib.hid hc
            have HKY0 := Lib.hid hky
            clear hc hky
            cases y with
            | false =>
              have hk0 : k = 0 := by
                rcases HKY0.out with h | h
                · exact h
                · cases h
              subst hk0
              have hc0 : c = 0 := HC.out
              subst hc0
              have hK0 : K.length = 0 := by rw [HKN.out HGD.out]; rfl
              have t0 : ((0 : Int) == (K.length : Int)) = true := by rw [hK0]; rfl
              clear hK0
              by_cases hl0 : 0 < gs.length
              · go_wp2_with fail
                go_ret
                exact ⟨ret_bool (by first | exact t0.symm | simp), hbw5⟩
              · go_wp2_with fail
                go_ret
                exact ⟨ret_bool (by first | exact t0.symm | simp), hbw5⟩
            | true =>
              have HKF : Hid (K = gs.filter fun g => allP m g ps) := Lib.hid (by rw [HKY.out HGD.out]; simp only [keepN, List.take_length])
              by_cases hlt : k < gs.length
              · have q1 : (0 : Int) ≤ (k : Int) := by omega
                have q2 : (k : Int) < (gs.length : Int) := by omega
                have hgz := HGS.out gs[k] (List.getElem_mem hlt)
                have HTY := Lib.hid (fun h => take_filter_yes (P := fun g => allP m g ps) hlt h)
                have HTN := Lib.hid (fun h => take_filter_no (P := fun g => allP m g ps) hlt h)
                have HAG := Lib.hid (at_sv hlt)
                generalize gs[k] = g at *
                go_wp2_with fail
                go_loopw [11, 12] (fun b i wr => ∃ (j : Nat) (z : Bool), j ≤ ps.length ∧ i = .int .i64 j ∧ b = .bool z ∧ z = (ps.take j).all (hasB m g) ∧ GAt wr B1 a1 cap1 m gg pg gs ps ∧ Below w.heap.size w wr ∧ Reads wr wr.heap.size al (sv K)) (fun _ i _ => ps.length - (intOf i).toNat)
                case atStart => exact ⟨0, true, Nat.zero_le _, rfl, rfl, by simp, A5, hbw5, hrl5⟩
                case round =>
                  clear A5 hbw5 hrl5
                  obtain ⟨j, z, hj, rfl, rfl, hz, A5, hbw5, hrl5⟩ := hrel
                  have HZ := Lib.hid hz
                  clear hz
                  obtain ⟨b, off, hbb, hbl, hcl⟩ := A5.grs.open_ (by rw [length_sv]; omega)
                  cases hbb
                  have c0 := hcl k (by rw [length_sv]; exact hlt)
                  rw [HAG.out, Nat.zero_add] at c0
                  clear hcl
                  by_cases hjl : j < ps.length
                  · have HAT := Lib.hid (all_takeI (P := hasB m g) hjl)
                    obtain ⟨b2, off2, hbb2, hbl2, hcl2⟩ := A5.pls.open_ (by rw [length_iv]; omega)
                    cases hbb2
                    have c1 := hcl2 j (by rw [length_iv]; exact hjl)
                    rw [iv_at hjl, Nat.zero_add] at c1
                    clear hcl2
                    have q3 : (0 : Int) ≤ (j : Int) := by omega
                    have q4 : (j : Int) < (ps.length : Int) := by omega
                    generalize ps[j] = p at *
                    have lo := A5.box.lt
                    have d0 := fun (cc : Cls wr.heap.size wr) => (cc.cell B1 0 lo).trans (A5.box.at_ (i := 0) rfl)
                    have d1 := fun (cc : Cls wr.heap.size wr) => (cc.cell B1 1 lo).trans (A5.box.at_ (i := 1) rfl)
                    have d2 := fun (cc : Cls wr.heap.size wr) => (cc.cell B1 2 lo).trans (A5.box.at_ (i := 2) rfl)
                    have d3 := fun (cc : Cls wr.heap.size wr) => (cc.cell B1 3 lo).trans (A5.box.at_ (i := 3) rfl)
                    have d4 := fun (cc : Cls wr.heap.size wr) => (cc.cell gg k hbl).trans c0
                    have d5 := fun (cc : Cls wr.heap.size wr) => (cc.cell pg j hbl2).trans c1
                    have n1 := fun (cc : Cls wr.heap.size wr) => implHasRepeat_any a1 m.wheels.rotors.length cap1 m g p cc.w (A5.below cc.bel).mach hgz
                    clear c0 c1
                    cases z with
                    | true =>
                      go_wp2_with fail
                      refine wp_region_cls (by kernel_rfl) (by kernel_rfl) ?_
                      repeat (go_big_quiet_step (first | (go_at_call 46; with_reducible exact cls_of (Nat.le_refl _) (n1 _))))
                      refine wpQuiet_nil ?_
                      intro wc hbc
                      go_wp2
                      go_roundw
                      case rel => exact ⟨j + 1, hasB m g p, by omega, by go_num, rfl, by rw [HAT.out, ← HZ.out, Bool.true_and], A5.below hbc, bt hbw5 hbc, hrl5.up1 hbc⟩
                      case measure => simp [intOf]; omega
                    | false =>
                      go_wp2_with fail
                      refine wp_region_cls (by kernel_rfl) (by kernel_rfl) ?_
                      repeat (go_big_quiet_step (first | (go_at_call 46; with_reducible exact cls_of (Nat.le_refl _) (n1 _))))
                      refine wpQuiet_nil ?_
                      intro wc hbc
                      go_wp2
                      go_roundw
                      case rel => exact ⟨j + 1, false, by omega, by go_num, rfl, by rw [HAT.out, ← HZ.out, Bool.false_and], A5.below hbc, bt hbw5 hbc, hrl5.up1 hbc⟩
                      case measure => simp [intOf]; omega
                  · have hj' : j = ps.length := by omega
                    subst hj'
                    have hza : allP m g ps = z := by rw [HZ.out, List.take_length]; rfl
                    cases z with
                    | true =>
                      obtain ⟨e1, e2, e3⟩ := HTY.out hza
                      rw [← HC.out, ← HKF.out] at e1 e2
                      rw [← HC.out] at e3
                      obtain ⟨b2, off2, rfl, hbl2, hcl2⟩ := hrl5.open_ (by rw [length_sv]; omega)
                      have c1 := hcl2 c (by rw [length_sv]; exact e1)
                      rw [show (sv K)[c]? = some (.string g) by simp [sv, e2]] at c1
                      have HE3 := Lib.hid e3
                      clear hcl2 e2 e3 hza
                      have q5 : (c : Int) < (K.length : Int) := by omega
                      have q6 : (0 : Int) ≤ (c : Int) := by omega
                      have q7 : decide (K.length ≤ c) = false := decide_eq_false (by omega)
                      have te : (g.toList != g.toList) = false := by simp
                      go_wp2_with fail
                      go_quiet (fail)
                      go_wp2
                      go_roundw
                      case rel => exact ⟨k + 1, c + 1, by omega, by go_num, by go_num, HE3.out.symm, .inr trivial, A5.below (bel_drewN1 _ _), bel_drewN hbw5 _, hrl5⟩
                      case measure => simp [intOf]; omega
                    | false =>
                      obtain ⟨-, e3⟩ := HTN.out hza
                      rw [← HC.out] at e3
                      have HE3 := Lib.hid e3
                      clear e3 hza
                      go_wp2
                      go_roundw
                      case rel => exact ⟨k + 1, c, by omega, by go_num, rfl, HE3.out.symm, .inr trivial, A5, hbw5, hrl5⟩
                      case measure => simp [intOf]; omega
              · have hk' : k = gs.length := by omega
                subst hk'
                have hcc := HC.out
                rw [List.take_length, ← HKF.out] at hcc
                have t2 : ((c : Int) == (K.length : Int)) = true := by rw [beq_iff_eq]; omega
                clear hcc
                go_wp2
                go_ret
                exact ⟨ret_bool (by first | exact t2.symm | simp), hbw5⟩
end Go.Proofs.YtbeohccbflhdiaaGreat
