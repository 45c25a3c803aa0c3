/- Several of my texts in one: BsW. -/
import Derived.Test.YtdmnkcmkpjmfaaaGreatM31
import Derived.Test.YtdmnkcmkpjmfaaaGreatM42
import Derived.Test.YtdmnkcmkpjmfaaaGreatM36
/- The walk of the law that the settings are named, in their order, whose hypotheses are not empty. -/
namespace Go.Proofs.YtdmnkcmkpjmfaaaGreat
open Go.RowKit
attribute [local go_sem] Oper.semAt_some

/-- What is kept of a row, up to a place. -/
theorem filter_at {P : ByteArray → Bool} {vs : List ByteArray} {k : Nat} (h : k < vs.length) (hp : P vs[k] = true) :
    ∃ hj : ((vs.take k).filter P).length < (vs.filter P).length, (vs.filter P)[((vs.take k).filter P).length]'hj = vs[k] := by
  have e : vs.filter P = (vs.take k).filter P ++ vs[k] :: (vs.drop (k + 1)).filter P := by
    have e0 : vs = vs.take k ++ vs[k] :: vs.drop (k + 1) := by
      rw [← List.drop_eq_getElem_cons h]
      exact (List.take_append_drop k vs).symm
    have e1 := congrArg (List.filter P) e0
    rw [List.filter_append, List.filter_cons, if_pos hp] at e1
    exact e1
  refine ⟨by rw [e, List.length_append, List.length_cons]; omega, ?_⟩
  have : (vs.filter P)[((vs.take k).filter P).length]? = some vs[k] := by
    rw [e, List.getElem?_append_right (Nat.le_refl _), Nat.sub_self]; rfl
  exact (List.getElem?_eq_some_iff.1 this).2
theorem take_all {P : ByteArray → Bool} {vs : List ByteArray} {k : Nat} (h : k < vs.length) : (vs.take (k + 1)).all P = ((vs.take k).all P && P vs[k]) := by
  rw [List.take_succ_eq_append_getElem h, List.all_append]; simp
/-- Machine, menu, settings and stops in memory. -/
structure BsAt (w0 w : World) (B : Nat) (a1 : Option Addr) (cap1 : Nat) (m : Mach) (am : Option Addr) (ms : List Lnk) (av : Option Addr) (vs : List ByteArray) (al : Option Addr) (ls : List ByteArray) : Prop where
  at_ : LAt w B a1 cap1 m am ms
  rv : Reads w w.heap.size av (sv vs)
  rl : Reads w w.heap.size al (sv ls)
  bel : Below w0.heap.size w0 w
theorem BsAt.below {w0 w w' : World} {B : Nat} {a1 : Option Addr} {cap1 : Nat} {m : Mach} {am : Option Addr} {ms : List Lnk} {av : Option Addr} {vs : List ByteArray} {al : Option Addr} {ls : List ByteArray} (h : BsAt w0 w B a1 cap1 m am ms av vs al ls) (hb : Below w.heap.size w w') : BsAt w0 w' B a1 cap1 m am ms av vs al ls :=
  ⟨h.at_.below hb, (h.rv.below hb (Nat.le_refl _)).more hb.size, (h.rl.below hb (Nat.le_refl _)).more hb.size, bt h.bel hb⟩
set_option maxRecDepth 100000 in
set_option maxHeartbeats 4000000 in
theorem bombeStops_walk (a : Option Addr) (len cap : Nat) (zs : List Int) (w : World) (h : IsRow .u8 w a len cap zs) :
    Calls Tryz.prog 19 #[.slice a len cap] w fun e w' => e = .returned (.bool true) ∧ Below w.heap.size w w' := by
  have hlen : len ≤ 9223372036854775807 := by
    rcases h with ⟨_, rfl, _⟩ | ⟨x, _, hl, hm, _⟩
    · omega
    · unfold maxLen at hm; omega
  by_cases hl : 1048576 < len
  · go_enter Tryz.func19, Tryz.ntmps19
    go_wp2
    go_ret
    exact ⟨rfl, Below.refl _ _⟩
  · go_enter Tryz.func19, Tryz.ntmps19
    go_wp2_with fail
    refine (DrawBombeStops_any a len cap zs _ h (by omega)).mono ?_
    rintro e w1 ⟨m, vs, ms, a1, am, cap1, g, gc, cm, ⟨hsm, hrd, -, hb1⟩, hv, hv13, hst, ⟨hl24, -⟩, hrm, hrv, rfl⟩
    have o1 := Own.new w1 [.slice a1 m.wheels.rotors.length cap1, .string m.wheels.refl, .string m.rings, .string m.plugs] 36
    have hba : Below w1.heap.size w1 (w1.alloc (.cells [.slice a1 m.wheels.rotors.length cap1, .string m.wheels.refl, .string m.rings, .string m.plugs].toArray 36)) := (Below.refl _ _).alloc (Nat.le_refl _) _
    have hbw1 := hb1.alloc hb1.size (.cells [.slice a1 m.wheels.rotors.length cap1, .string m.wheels.refl, .string m.rings, .string m.plugs].toArray 36)
    have A1 : BsAt w (w1.alloc (.cells [.slice a1 m.wheels.rotors.length cap1, .string m.wheels.refl, .string m.rings, .string m.plugs].toArray 36)) w1.heap.size a1 cap1 m am ms (some ⟨g, 0, none⟩) vs none [] := ⟨⟨o1, (hsm.at_ hrd).alloc_ _, (hrm.below hba (Nat.le_refl _)).more hba.size⟩, (hrv.below hba (Nat.le_refl _)).more hba.size, Reads.nil_, hbw1⟩
    have hsl := hst.smL
    have HV := Lib.hid hv
    have hv2 : ∀ s ∈ vs, s.size ≤ 4294967296 := fun s hs => by have := hv s hs; omega
    clear hrd hb1 h hsm hrm hba o1 hrv hbw1 hv
    go_wp2_with fail
    generalize (w1.alloc (.cells [.slice a1 m.wheels.rotors.length cap1, .string m.wheels.refl, .string m.rings, .string m.plugs].toArray 36)) = W1 at *
    generalize w1.heap.size = B1 at *
    have f0 := A1.at_.box.at_ (i := 0) rfl
    have f1 := A1.at_.box.at_ (i := 1) rfl
    have f2 := A1.at_.box.at_ (i := 2) rfl
    have f3 := A1.at_.box.at_ (i := 3) rfl
    have nsp := fun W h1 h2 h3 => specBombeStops_any a1 cap1 m (some ⟨g, 0, none⟩) gc vs am cm ms W h1 h2 hv2 (by omega) h3 (by omega)
    have hl12 := stpT_len m vs ms
    have HNO := Lib.hid (fun h => @stpT_no m vs ms h)
    have HYES := Lib.hid (fun h => @stpT_yes m vs ms h)
    have HEMP : Hid (vs = [] → stpT m vs ms = []) := Lib.hid (fun h0 => by subst h0; unfold stpT; split <;> rfl)
    refine (implBombeStops_any a1 cap1 m (some ⟨g, 0, none⟩) gc vs am cm ms _ A1.at_.mach A1.rv hv2 (by omega) A1.at_.menu hsl (by omega)).mono ?_
    rintro e w2 ⟨lv, rfl, ol, hb2⟩
    obtain ⟨al, cl, rfl, hlc, hrl2, -⟩ := OwR.val ol
    have A2' := A1.below hb2
    have A2 : BsAt w w2 B1 a1 cap1 m am ms (some ⟨g, 0, none⟩) vs al (stpT m vs ms) := ⟨A2'.at_, A2'.rv, hrl2, A2'.bel⟩
    clear A1 A2' ol hlc hb2 hrl2 f0 f1 f2 f3
    have f0 := A2.at_.box.at_ (i := 0) rfl
    have f1 := A2.at_.box.at_ (i := 1) rfl
    have f2 := A2.at_.box.at_ (i := 2) rfl
    have f3 := A2.at_.box.at_ (i := 3) rfl
    generalize hgl : stpT m vs ms = ls at *
    clear hgl
    go_wp2_with fail
    refine (nsp _ A2.at_.mach A2.rv A2.at_.menu).mono ?_
    rintro e w3 ⟨lv, rfl, ol, hb3⟩
    obtain ⟨al3, cl3, rfl, hlc, hrl3, -⟩ := OwR.val ol
    have A3 := A2.below hb3
    clear A2 ol hlc hb3 nsp f0 f1 f2 f3
    go_wp2_with fail
    have hrt := rcTexts_any al al3 cl cl3 ls ls w3 A3.rl hrl3 (by omega)
    rw [decide_eq_true rfl] at hrt
    refine hrt.mono ?_
    rintro e w' ⟨rfl, n4, rfl⟩
    have hb4 := bel_drewM w3 n4
    generalize w3.drewN n4 = w4 at *
    have A4 := A3.below hb4
    clear A3 hrl3 hrt hb4 n4
    go_upto_region 7 with (fail)
    go_cut [7] (fun o wr => o = .bool (menuB ms && decide (vs.length ≤ 12)) ∧ BsAt w wr B1 a1 cap1 m am ms (some ⟨g, 0, none⟩) vs al ls)
    case first =>
      go_wp2_with fail
      refine (implMenuValid_any am cm ms _ A4.at_.menu hsl (by omega)).mono ?_
      rintro e w5 ⟨rfl, hb5⟩
      have A5 := A4.below hb5
      clear A4 hb5
      cases h2 : menuB ms with
      | false =>
        have H2 := Lib.hid h2
        clear h2
        go_wp2_with fail
        go_meet
        exact ⟨by rw [H2.out]; rfl, A5⟩
      | true =>
        have H2 := Lib.hid h2
        clear h2
        by_cases h12 : vs.length ≤ 12
        · have t12 : decide ((vs.length : Int) ≤ 12) = true := decide_eq_true (by omega)
          have e12 := decide_eq_true h12
          clear h12
          go_wp2_with fail
          go_meet
          exact ⟨by rw [H2.out, e12]; rfl, A5⟩
        · have t12 : decide ((vs.length : Int) ≤ 12) = false := decide_eq_false (by omega)
          have e12 := decide_eq_false h12
          clear h12
          go_wp2_with fail
          go_meet
          exact ⟨by rw [H2.out, e12]; rfl, A5⟩
    case rest =>
      clear A4
      obtain ⟨rfl, A4⟩ := hcut
      have HC : Hid (∀ c0, menuB ms && decide (vs.length ≤ 12) = c0 → menuB ms && decide (vs.length ≤ 12) = c0) := Lib.hid (fun _ h => h)
      generalize hc0 : (menuB ms && decide (vs.length ≤ 12)) = c0 at *
      have HC0 := Lib.hid hc0
      clear hc0 HC
      go_wp2_with fail
      go_loopw [7, 8] (fun o i wr => ∃ k : Nat, k ≤ vs.length ∧ i = .int .i64 k ∧ o = .bool (c0 && (vs.take k).all (setB m)) ∧ BsAt w wr B1 a1 cap1 m am ms (some ⟨g, 0, none⟩) vs al ls) (fun _ i _ => vs.length - (intOf i).toNat)
      case atStart => exact ⟨0, Nat.zero_le _, rfl, by simp, A4⟩
      case round =>
        clear A4
        obtain ⟨k, hk, rfl, rfl, A4⟩ := hrel
        by_cases hlt : k < vs.length
        · have HTA := Lib.hid (take_all (P := setB m) hlt)
          generalize (vs.take k).all (setB m) = ck at *
          obtain ⟨b, off, he, hbl, hcl⟩ := A4.rv.open_ (by rw [length_sv]; omega)
          cases he
          have c1 := hcl k (by rw [length_sv]; exact hlt)
          rw [sv_at hlt, Nat.zero_add] at c1
          clear hcl
          have q1 : (0 : Int) ≤ (k : Int) := by omega
          have q2 : (k : Int) < (vs.length : Int) := by omega
          have hsz := HV.out vs[k] (List.getElem_mem hlt)
          generalize vs[k] = v at *
          have l1 := A4.at_.box.lt
          cases hc : (c0 && ck) with
          | false =>
            have HE : Hid ((c0 && (ck && setB m v)) = false) := Lib.hid (by rw [← Bool.and_assoc, hc]; rfl)
            clear hc c1
            go_wp2_with fail
            go_quiet (fail)
            have hbq := bel_drewM wr nq
            have A5 := A4.below hbq
            clear A4 hbq
            generalize wr.drewN nq = w5 at *
            go_wp2
            go_roundw
            case rel => exact ⟨k + 1, by omega, by go_num, by rw [HTA.out, HE.out], A5⟩
            case measure => simp [intOf]; omega
          | true =>
            have HE : Hid ((c0 && (ck && setB m v)) = setB m v) := Lib.hid (by rw [← Bool.and_assoc, hc]; rfl)
            clear hc
            have HL := Lib.hid (fun (cc : Cls wr.heap.size wr) => rcFits_any a1 m.wheels.rotors.length cap1 m v cc.w (A4.below cc.bel).at_.mach (by omega))
            have d0 := fun (cc : Cls wr.heap.size wr) => (cc.cell B1 0 l1).trans (A4.at_.box.at_ (i := 0) rfl)
            have d1 := fun (cc : Cls wr.heap.size wr) => (cc.cell B1 1 l1).trans (A4.at_.box.at_ (i := 1) rfl)
            have d2 := fun (cc : Cls wr.heap.size wr) => (cc.cell B1 2 l1).trans (A4.at_.box.at_ (i := 2) rfl)
            have d3 := fun (cc : Cls wr.heap.size wr) => (cc.cell B1 3 l1).trans (A4.at_.box.at_ (i := 3) rfl)
            have d4 := fun (cc : Cls wr.heap.size wr) => (cc.cell g k (by omega)).trans c1
            clear c1
            generalize setB m v = sb at *
            go_wp2_with fail
            refine wp_region_cls (by kernel_rfl) (by kernel_rfl) ?_
            repeat (go_big_quiet_step (first | (go_at_call 53; with_reducible exact cls_of (Nat.le_refl _) (HL.out _))))
            refine wpQuiet_nil ?_
            intro wc hbc
            have A5 := A4.below hbc
            clear A4 d0 d1 d2 d3 d4 HL
            go_wp2
            go_roundw
            case rel => exact ⟨k + 1, by omega, by go_num, by rw [HTA.out, HE.out], A5⟩
            case measure => simp [intOf]; omega
        · have hk' : k = vs.length := by omega
          subst hk'
          rw [List.take_length]
          go_wp2_with fail
          cases hc : (c0 && vs.all (setB m)) with
          | false =>
            have hnil : ls = [] := by
              apply HNO.out
              rw [Bool.eq_false_iff]
              intro e
              simp only [Bool.and_eq_true, decide_eq_true_eq] at e
              rw [e.2.2.2, ← HC0.out, e.2.1, decide_eq_true e.2.2.1] at hc
              cases hc
            subst hnil
            clear hc
            go_wp2_with fail
            go_loopw [9, 10] (fun q i wr => q = .int .i64 0 ∧ i = .int .i64 0 ∧ BsAt w wr B1 a1 cap1 m am ms (some ⟨g, 0, none⟩) vs al []) (fun _ _ _ => 0)
            case atStart => exact ⟨rfl, rfl, A4⟩
            case round =>
              clear A4
              obtain ⟨rfl, rfl, A4⟩ := hrel
              by_cases h0 : (0 : Int) < (vs.length : Int)
              · go_wp2
                go_ret
                exact ⟨rfl, A4.bel⟩
              · go_wp2
                go_ret
                exact ⟨rfl, A4.bel⟩
          | true =>
            have hfil : ls = vs.filter (anyH m ms) := by
              by_cases h0 : vs = []
              · rw [HEMP.out h0, h0]; rfl
              · apply HYES.out
                rw [← HC0.out] at hc
                simp only [Bool.and_eq_true, decide_eq_true_eq] at hc ⊢
                have hp : 0 < vs.length := List.length_pos_iff.2 h0
                exact ⟨setB_mach (List.all_eq_true.1 hc.2 _ (List.getElem_mem hp)), hc.1.1, hc.1.2, hc.2⟩
            have HSB : Hid (∀ j (h : j < vs.length), setB m vs[j] = true) := Lib.hid (fun j h => by
              simp only [Bool.and_eq_true] at hc
              exact List.all_eq_true.1 hc.2 _ (List.getElem_mem h))
            have HMB : Hid (0 < vs.length → menuB ms = true) := Lib.hid (fun _ => by
              rw [← HC0.out] at hc
              simp only [Bool.and_eq_true] at hc
              exact hc.1.1)
            have HAT : Hid (∀ j (h : j < vs.length), anyH m ms vs[j] = true → ∃ hj : ((vs.take j).filter (anyH m ms)).length < ls.length, ls[((vs.take j).filter (anyH m ms)).length]'hj = vs[j]) := Lib.hid (fun j h hp => by subst hfil; exact filter_at h hp)
            have HFIL := Lib.hid hfil
            clear hc hfil
            go_wp2_with fail
            go_loopw [9, 10] (fun q i wr => ∃ k : Nat, k ≤ vs.length ∧ i = .int .i64 k ∧ q = .int .i64 (((vs.take k).filter (anyH m ms)).length : Int) ∧ BsAt w wr B1 a1 cap1 m am ms (some ⟨g, 0, none⟩) vs al ls) (fun _ i _ => vs.length - (intOf i).toNat)
            case atStart => exact ⟨0, Nat.zero_le _, rfl, rfl, A4⟩
            case round =>
              clear A4 hk hlt
              obtain ⟨k, hk, rfl, rfl, A4⟩ := hrel
              by_cases hlt : k < vs.length
              · obtain ⟨b, off, he, hbl, hcl⟩ := A4.rv.open_ (by rw [length_sv]; omega)
                cases he
                have c1 := hcl k (by rw [length_sv]; exact hlt)
                rw [sv_at hlt, Nat.zero_add] at c1
                clear hcl
                have q1 : (0 : Int) ≤ (k : Int) := by omega
                have q2 : (k : Int) < (vs.length : Int) := by omega
                have hsz := HV.out vs[k] (List.getElem_mem hlt)
                have HF := Lib.hid (filter_takeS (P := anyH m ms) hlt)
                have hat := HAT.out k hlt
                have HSS := Lib.hid (HSB.out k hlt)
                have HMM := Lib.hid (HMB.out (by omega))
                generalize vs[k] = v at *
                generalize hfl : ((vs.take k).filter (anyH m ms)).length = j at *
                have HFL := Lib.hid hfl
                clear hfl
                have l1 := A4.at_.box.lt
                have HL := Lib.hid (fun (cc : Cls wr.heap.size wr) => implHypotheses_any a1 cap1 m v am cm ms cc.w (A4.below cc.bel).at_.mach (by omega) (A4.below cc.bel).at_.menu hsl (by omega))
                have d0 := fun (cc : Cls wr.heap.size wr) => (cc.cell B1 0 l1).trans (A4.at_.box.at_ (i := 0) rfl)
                have d1 := fun (cc : Cls wr.heap.size wr) => (cc.cell B1 1 l1).trans (A4.at_.box.at_ (i := 1) rfl)
                have d2 := fun (cc : Cls wr.heap.size wr) => (cc.cell B1 2 l1).trans (A4.at_.box.at_ (i := 2) rfl)
                have d3 := fun (cc : Cls wr.heap.size wr) => (cc.cell B1 3 l1).trans (A4.at_.box.at_ (i := 3) rfl)
                have d4 := fun (cc : Cls wr.heap.size wr) => (cc.cell g k (by omega)).trans c1
                by_cases hy : anyH m ms v = true
                · have hne := (anyH_iff HSS.out HMM.out).1 hy
                  obtain ⟨hj, hjv⟩ := hat hy
                  rw [if_pos hy] at HF
                  clear hy
                  have HFN := Lib.hid (show ((vs.take (k + 1)).filter (anyH m ms)).length = j + 1 from by rw [HF.out, List.length_append, HFL.out]; rfl)
                  have ht : ls.length ≤ j ↔ False := by constructor <;> intro h; omega; exact h.elim
                  obtain ⟨e1, e2⟩ := ne_empty hne
                  clear hne HF ht
                  generalize hypT m v ms = hs at *
                  go_wp2_with fail
                  refine wp_region_cls (by kernel_rfl) (by kernel_rfl) ?_
                  repeat (go_big_quiet_step (first | (go_at_call 40; with_reducible exact cls_of (Nat.le_refl _) (HL.out _))))
                  refine wpQuiet_nil ?_
                  intro wc hbc
                  have A5 := A4.below hbc
                  have c2 := (hbc.cell (p := ⟨g, k, none⟩) (show g < wr.heap.size by omega)).trans c1
                  obtain ⟨b2, off2, rfl, hbl2, hcl2⟩ := A5.rl.open_ (by rw [length_sv]; omega)
                  have c3 := hcl2 j (by rw [length_sv]; exact hj)
                  rw [sv_at hj, hjv] at c3
                  have q3 : (0 : Int) ≤ (j : Int) := by omega
                  have q4 : (j : Int) < (ls.length : Int) := by omega
                  have t5 : decide ((ls.length : Int) ≤ (j : Int)) = false := decide_eq_false (by omega)
                  have t6 : decide (ls.length ≤ j) = false := decide_eq_false (by omega)
                  have te : (v.toList == v.toList) = true := by simp
                  clear A4 d0 d1 d2 d3 d4 c1 HL hjv hcl2
                  go_wp2_with fail
                  go_quiet (fail)
                  have hbq := bel_drewM wc nq
                  have A6 := A5.below hbq
                  clear A5 hbq c2 c3
                  generalize wc.drewN nq = w6 at *
                  go_wp2
                  go_roundw
                  case rel => exact ⟨k + 1, by omega, by go_num, by rw [HFN.out]; go_num, A6⟩
                  case measure => simp [intOf]; omega
                · have hne : (hypT m v ms).size = 0 := by
                    rcases Nat.eq_zero_or_pos (hypT m v ms).size with h | h
                    · exact h
                    · exact absurd ((anyH_iff HSS.out HMM.out).2 (by omega)) hy
                  rw [if_neg hy, List.append_nil] at HF
                  clear hy
                  have HFN := Lib.hid (show ((vs.take (k + 1)).filter (anyH m ms)).length = j from by rw [HF.out, HFL.out])
                  obtain ⟨e1, e2⟩ := is_empty hne
                  clear hne HF
                  generalize hypT m v ms = hs at *
                  go_wp2_with fail
                  refine wp_region_cls (by kernel_rfl) (by kernel_rfl) ?_
                  repeat (go_big_quiet_step (first | (go_at_call 40; with_reducible exact cls_of (Nat.le_refl _) (HL.out _))))
                  refine wpQuiet_nil ?_
                  intro wc hbc
                  have A5 := A4.below hbc
                  clear A4 d0 d1 d2 d3 d4 c1 HL
                  go_wp2
                  go_roundw
                  case rel => exact ⟨k + 1, by omega, by go_num, by rw [HFN.out], A5⟩
                  case measure => simp [intOf]; omega
              · have hk' : k = vs.length := by omega
                subst hk'
                rw [List.take_length, ← HFIL.out]
                go_wp2
                go_ret
                exact ⟨rfl, A4.bel⟩
end Go.Proofs.YtdmnkcmkpjmfaaaGreat
