/- Several of my texts in one: RepW. -/
import Derived.Test.YtbeohccbflhdiaaGreatM27
import Derived.Test.YtbeohccbflhdiaaGreatM11
import Derived.Test.YtbeohccbflhdiaaGreatM28
/- The walk of the law that an indicator repeats a letter only where it can. -/
namespace Go.Proofs.YtbeohccbflhdiaaGreat
open Go.RowKit

theorem letr_inj {a b : Nat} (ha : a < 10) (hb : b < 10) (h : letr (a : Int) = letr (b : Int)) : a = b := by
  have := congrArg dig h
  rw [dig_letr, dig_letr] at this
  omega
theorem rep_has {m : Mach} {g k : ByteArray} {p : Nat} (h1 : setB m g = true) (h2 : setB m k = true) (hp : p ∈ repL (wd (encD m g (dg (k ++ k)))) g.size g.size) : p < g.size ∧ hasB m g p = true := by
  have hmb := setB_mach h1
  have hk : k.size = g.size := by rw [setB_size h2, setB_size h1]
  simp only [repL, List.mem_filter, List.mem_range, beq_iff_eq] at hp
  obtain ⟨hpn, he⟩ := hp
  have hsz : (wd (encD m g (dg (k ++ k)))).size = (k ++ k).size := by rw [size_wd, len_encD, len_dg]
  have hu : (k ++ k).size = k.size + k.size := ByteArray.size_append
  have i1 : p < (k ++ k).size := by omega
  have i2 : p + g.size < (k ++ k).size := by omega
  have a1 := enc_at (m := m) g i1
  have a2 := enc_at (m := m) g i2
  have b1 : (L (wd (encD m g (dg (k ++ k)))))[p]? = some ((wd (encD m g (dg (k ++ k))))[p]'(by omega)) := by rw [getElem_L]; exact List.getElem?_eq_getElem _
  have b2 : (L (wd (encD m g (dg (k ++ k)))))[p + g.size]? = some ((wd (encD m g (dg (k ++ k))))[p + g.size]'(by omega)) := by rw [getElem_L]; exact List.getElem?_eq_getElem _
  rw [b1, b2, a1, a2] at he
  have hc : (k ++ k)[p + g.size] = (k ++ k)[p] := by
    rw [getElem_L, getElem_L]
    simp only [L_append]
    rw [List.getElem_append_right (by rw [size_L]; omega), List.getElem_append_left (by rw [size_L]; omega)]
    congr 1
    rw [size_L]; omega
  have hd : pAt (dg (k ++ k)) (p + g.size) = pAt (dg (k ++ k)) p := by
    have e1 := dg_at i1
    have e2 := dg_at i2
    rw [hc] at e2
    omega
  have hw2 := wordB_dbl (setB_word h2) (setB_3 h2)
  have hd10 : pAt (dg (k ++ k)) p < 10 := by
    rw [pAt_get (by rw [len_dg]; exact i1)]
    exact word_dg_lt hw2 _ (List.getElem_mem _)
  rw [hd] at he
  have hfx := fix_of_repeat hmb g p hd10 (letr_inj ((isP_keyN hmb g p).at_lt hd10) ((isP_keyN hmb g _).at_lt hd10) (by simpa using he))
  refine ⟨hpn, ?_⟩
  simp only [hasB, h1, Int.toNat_natCast, hfx, Bool.and_true, Bool.true_and, Bool.and_eq_true, decide_eq_true_eq]
  omega
set_option maxRecDepth 100000 in
set_option maxHeartbeats 4000000 in
theorem repeatIndicator_walk (a : Option Addr) (len cap : Nat) (zs : List Int) (w : World) (h : IsRow .u8 w a len cap zs) :
    Calls Tryz.prog 9 #[.slice a len cap] w fun e w' => e = .returned (.bool true) ∧ Below w.heap.size w w' := by
  have hlen : len ≤ 9223372036854775807 := by
    rcases h with ⟨_, rfl, _⟩ | ⟨x, _, hl, hm, _⟩
    · omega
    · unfold maxLen at hm; omega
  by_cases hl : 1048576 < len
  · go_enter Tryz.func9, Tryz.ntmps9
    go_wp2
    go_ret
    exact ⟨rfl, Below.refl _ _⟩
  · go_enter Tryz.func9, Tryz.ntmps9
    go_wp2_with fail
    refine (DrawDoubleIndicator_any a len cap zs _ h (by omega)).mono ?_
    rintro e w1 ⟨m, v, u, a1, cap1, ⟨hsm, hrd, -, hb1⟩, hv, hu, rfl⟩
    have o1 := Own.new w1 [.slice a1 m.wheels.rotors.length cap1, .string m.wheels.refl, .string m.rings, .string m.plugs] 27
    have hb1' := hb1.alloc hb1.size (.cells [.slice a1 m.wheels.rotors.length cap1, .string m.wheels.refl, .string m.rings, .string m.plugs].toArray 27)
    have hat := (hsm.at_ hrd).alloc_ (.cells [.slice a1 m.wheels.rotors.length cap1, .string m.wheels.refl, .string m.rings, .string m.plugs].toArray 27)
    clear hrd hb1 h
    go_wp2_with fail
    generalize (w1.alloc (.cells [.slice a1 m.wheels.rotors.length cap1, .string m.wheels.refl, .string m.rings, .string m.plugs].toArray 27)) = W1 at *
    generalize w1.heap.size = B1 at *
    refine (implDoubleIndicator_any a1 _ cap1 m v u _ hat (by omega) (by omega)).mono ?_
    rintro e w2 ⟨rfl, hb2⟩
    have o2 := o1.below hb2 o1.lt
    have hbw2 := bt hb1' hb2
    have hat2 := (hat.below hb2 (Nat.le_refl _)).more hb2.size
    clear o1 hb1' hat hb2
    have f0 := o2.at_ (i := 0) rfl
    have f1 := o2.at_ (i := 1) rfl
    have f2 := o2.at_ (i := 2) rfl
    have f3 := o2.at_ (i := 3) rfl
    go_wp2_with fail
    refine (specDoubleIndicator_any a1 _ cap1 m v u _ hat2 (by omega) (by omega)).mono ?_
    rintro e w3 ⟨rfl, hb3⟩
    have o3 := o2.below hb3 o2.lt
    have hbw3 := bt hbw2 hb3
    have hat3 := (hat2.below hb3 (Nat.le_refl _)).more hb3.size
    clear o2 hbw2 hat2 hb3 f0 f1 f2 f3
    have HT := Lib.hid (fun h1 h2 => dblT_yes (m := m) (g := v) (k := u) h1 h2)
    have HF := Lib.hid (fun h => dblT_no (m := m) (g := v) (k := u) h)
    have HR := Lib.hid (fun p h1 h2 hp => rep_has (m := m) (g := v) (k := u) (p := p) h1 h2 hp)
    generalize dblT m v u = T at *
    by_cases hyes : setB m v = true ∧ setB m u = true
    · obtain ⟨hs1, hs2⟩ := hyes
      have HE := HT.out hs1 hs2
      subst HE
      clear HT HF
      have hv3 := setB_3 hs1
      have hv1 := setB_1 hs1
      have hu3 := setB_3 hs2
      have hsz : (u ++ u).size = v.size + v.size := by
        have e1 := setB_size hs1
        have e2 := setB_size hs2
        rw [ByteArray.size_append]; omega
      have hwd : wordB (wd (encD m v (dg (u ++ u)))) = true := word_wd (by rw [len_encD, len_dg]; omega)
      have z1 : (wd (encD m v (dg (u ++ u)))).size ≤ 2 * v.size := by rw [size_wd, len_encD, len_dg]; omega
      have z2 : 2 * v.size ≤ (wd (encD m v (dg (u ++ u)))).size := by rw [size_wd, len_encD, len_dg]; omega
      have HRP := Lib.hid (fun p hp => HR.out p hs1 hs2 hp)
      have n1 := fun W => implRepeatPlaces_yes (wd (encD m v (dg (u ++ u)))) v.size W hwd z1 z2 hv1 hv3
      have n2 := fun W => specRepeatPlaces_yes (wd (encD m v (dg (u ++ u)))) v.size W hwd z1 z2 hv1 hv3
      clear HR hsz hwd z1 z2
      generalize wd (encD m v (dg (u ++ u))) = y at *
      have hrl := repL_len y v.size v.size
      have HL := Lib.hid hrl
      generalize hrp : repL y v.size v.size = ls at *
      go_wp2_with fail
      refine (n1 _).mono ?_
      rintro e w4 ⟨lv, rfl, hol, hb4⟩
      obtain ⟨al, cl, rfl, hlc, hrd, hgl⟩ := hol.val
      have o4 := o3.below hb4 o3.lt
      have hbw4 := bt hbw3 hb4
      have hat4 := (hat3.below hb4 (Nat.le_refl _)).more hb4.size
      clear o3 hbw3 hat3 hb4 hol
      have hg0 : ls.length = 0 ∨ ∃ g, al = some ⟨g, 0, none⟩ ∧ Own w4 g (ov ls) := hgl.imp id fun ⟨g, h1, _, h2⟩ => ⟨g, h1, h2⟩
      clear hgl
      go_wp2_with fail
      go_loopw [11] (fun i wr => ∃ k : Nat, k ≤ ls.length ∧ i = .int .i64 k ∧ Own wr B1 [.slice a1 m.wheels.rotors.length cap1, .string m.wheels.refl, .string m.rings, .string m.plugs] ∧ MachAt wr wr.heap.size a1 m.wheels.rotors.length m ∧ (ls.length = 0 ∨ ∃ g, al = some ⟨g, 0, none⟩ ∧ Own wr g (ov ls)) ∧ Reads wr wr.heap.size al (ov ls) ∧ Below w.heap.size w wr) (fun i _ => ls.length - (intOf i).toNat)
      case atStart => exact ⟨0, Nat.zero_le _, rfl, o4, hat4, hg0, hrd, hbw4⟩
      case round =>
        clear o4 hat4 hg0 hrd hbw4
        obtain ⟨k, hk, rfl, o4, hat4, hg0, hrd, hbw4⟩ := hrel
        by_cases hlt : k < ls.length
        · obtain ⟨g, rfl, og⟩ := hg0.resolve_left (by omega)
          have hhas := HRP.out ls[k] (List.getElem_mem hlt)
          have n3 := fun (cc : Cls wr.heap.size wr) => implHasRepeat_any a1 _ cap1 m v (ls[k] : Int) cc.w ((hat4.below cc.bel (Nat.le_refl _)).more cc.bel.size) (by omega)
          rw [hhas.2] at n3
          have lg := og.lt
          have lo := o4.lt
          have hcell : (ov ls)[k]? = some (.int .i64 (ls[k] : Int)) := by simp [ov, hlt]
          have d0 := fun (cc : Cls wr.heap.size wr) => (cc.cell B1 0 lo).trans (o4.at_ (i := 0) rfl)
          have d1 := fun (cc : Cls wr.heap.size wr) => (cc.cell B1 1 lo).trans (o4.at_ (i := 1) rfl)
          have d2 := fun (cc : Cls wr.heap.size wr) => (cc.cell B1 2 lo).trans (o4.at_ (i := 2) rfl)
          have d3 := fun (cc : Cls wr.heap.size wr) => (cc.cell B1 3 lo).trans (o4.at_ (i := 3) rfl)
          have d4 := fun (cc : Cls wr.heap.size wr) => (cc.cell g k lg).trans (og.at_ hcell)
          have q1 : (0 : Int) ≤ (k : Int) := by omega
          have q2 : (k : Int) < (ls.length : Int) := by omega
          clear hhas hcell
          generalize ls[k] = pp at *
          go_wp2_with fail
          refine wp_region_cls (by kernel_rfl) (by kernel_rfl) ?_
          repeat (go_big_quiet_step (first | (go_at_call 46; with_reducible exact cls_of (Nat.le_refl _) (n3 _))))
          refine wpQuiet_nil ?_
          intro wc hbc
          go_wp2
          go_roundw
          case rel => exact ⟨k + 1, by omega, by go_num, o4.below hbc lo, (hat4.below hbc (Nat.le_refl _)).more hbc.size, .inr ⟨g, rfl, og.below hbc lg⟩, (hrd.below hbc (Nat.le_refl _)).more hbc.size, bt hbw4 hbc⟩
          case measure => simp [intOf]; omega
        · go_wp2_with fail
          refine (n2 _).mono ?_
          rintro e w5 ⟨lv2, rfl, hol2, hb5⟩
          obtain ⟨al2, cl2, rfl, hlc2, hrd2, -⟩ := hol2.val
          have hl5 := HL.out
          go_wp2_with fail
          refine (rcInts_same al al2 cl cl2 ls _ ((hrd.below hb5 (Nat.le_refl _)).more hb5.size) hrd2 (by omega)).mono ?_
          rintro e w' ⟨rfl, n6, rfl⟩
          go_wp2
          go_ret
          exact ⟨by simp, bel_drewN (bt hbw4 hb5) n6⟩
    · have HE := HF.out hyes
      subst HE
      go_wp2
      go_ret
      exact ⟨by simp, hbw3⟩
end Go.Proofs.YtbeohccbflhdiaaGreat
