/- Several of my texts in one: SfP, Rev, SfW. -/
import Derived.Test.YtdmnkcmkpjmfaaaGreatM31
import Derived.Test.YtdmnkcmkpjmfaaaGreatM3
import Derived.Deep.RegionLaw
import Derived.Test.YtdmnkcmkpjmfaaaGreatM32
import Derived.Test.YtdmnkcmkpjmfaaaGreatM34
/- What the law on the pairs that follow from a pair tells: order, the pair itself, its letters exchanged: plain. -/
namespace Go.Proofs.YtdmnkcmkpjmfaaaGreat
open Go.RowKit

theorem letr_lt {a b : Nat} (ha : a < 10) (hb : b < 10) : decide (letr (a : Int) < letr (b : Int)) = decide (a < b) := by
  rw [decide_eq_decide, UInt8.lt_iff_toNat_lt, letr_toNat, letr_toNat]; omega
theorem letr_beq {a b : Nat} (ha : a < 10) (hb : b < 10) : (letr (a : Int) == letr (b : Int)) = decide (a = b) := by
  rw [Bool.eq_iff_iff, beq_iff_eq, decide_eq_true_eq]
  exact ⟨letr_inj ha hb, fun e => by rw [e]⟩
theorem L_wd2 (a b : Nat) : L (wd [a, b]) = [letr (a : Int), letr (b : Int)] := L_S _
theorem lex_less {a b c d : Nat} (ha : a < 10) (hb : b < 10) (hc : c < 10) (hd : d < 10) : Op.bytesLess (L (wd [a, b])) (L (wd [c, d])) = (decide (a < c) || (decide (a = c) && decide (b < d))) := by
  rw [L_wd2, L_wd2]
  simp only [Op.bytesLess, letr_lt ha hc, letr_lt hb hd, letr_beq ha hc, Bool.and_false, Bool.or_false]
theorem lex_eq {a b c d : Nat} (ha : a < 10) (hb : b < 10) (hc : c < 10) (hd : d < 10) : (L (wd [a, b]) == L (wd [c, d])) = (decide (a = c) && decide (b = d)) := by
  rw [L_wd2, L_wd2]
  rw [Bool.eq_iff_iff]
  simp only [beq_iff_eq, List.cons.injEq, and_true, Bool.and_eq_true, decide_eq_true_eq]
  exact ⟨fun h => ⟨letr_inj ha hc h.1, letr_inj hb hd h.2⟩, fun h => ⟨by rw [h.1], by rw [h.2]⟩⟩
theorem imp_pos {m : Mach} {v : ByteArray} {ms : List Lnk} {s : ByteArray} (h1 : setB m v = true) (h2 : menuB ms = true) (h3 : pairB s = true) : pw (norm (pAt (dg s) 0) (pAt (dg s) 1)) ∈ impT m v ms s := by
  obtain ⟨l0, l1⟩ := pairB_lt h3
  rw [impT_is h1 h2 h3]
  refine List.mem_map.2 ⟨_, mem_impP.2 ⟨(norm_lt l0 l1).1, norm_ord _ _, (norm_lt l0 l1).2, ?_⟩, rfl⟩
  exact impB_iff.2 Imp.base.norm
theorem imp_none {m : Mach} {v : ByteArray} {ms : List Lnk} {s : ByteArray} (h : ¬ (setB m v = true ∧ menuB ms = true ∧ pairB s = true)) : impT m v ms s = [] := by
  refine List.eq_nil_iff_forall_not_mem.2 fun t ht => h ?_
  obtain ⟨h1, h2, h3, -⟩ := impT_mem ht
  exact ⟨h1, h2, h3⟩
/-- Texts ascend. -/
def ascS (ls : List ByteArray) : Prop := ∀ (i : Nat) (hi : i < ls.length) (_ : 0 < i), (Op.bytesLess (L ls[i]) (L (ls[i - 1]'(by omega))) || L ls[i] == L (ls[i - 1]'(by omega))) = false
/-- Texts of two letters, of which the first is not greater. -/
def frmS (ls : List ByteArray) : Prop := ∀ t ∈ ls, ∃ h2 : t.size = 2, ¬ (t[1]'(by omega)).toNat < (t[0]'(by omega)).toNat
theorem imp_asc (m : Mach) (v : ByteArray) (ms : List Lnk) (s : ByteArray) (i : Nat) (hi : i < (impT m v ms s).length) (h0 : 0 < i) :
    (Op.bytesLess (L (impT m v ms s)[i]) (L ((impT m v ms s)[i - 1]'(by omega))) || L (impT m v ms s)[i] == L ((impT m v ms s)[i - 1]'(by omega))) = false := by
  obtain ⟨h1, h2, h3, -⟩ := impT_mem (List.getElem_mem hi)
  have e := impT_is h1 h2 h3 (m := m) (v := v)
  have hp := List.pairwise_iff_getElem.1 (asc_impP (impG m v ms (pAt (dg s) 0) (pAt (dg s) 1)) 10)
  generalize hP : impP (impG m v ms (pAt (dg s) 0) (pAt (dg s) 1)) 10 = P at e hp
  have hlen : (impT m v ms s).length = P.length := by rw [e, List.length_map]
  have e1 : (impT m v ms s)[i] = pw (P[i]'(by omega)) := by simp only [e, List.getElem_map]
  have e2 : (impT m v ms s)[i - 1]'(by omega) = pw (P[i - 1]'(by omega)) := by simp only [e, List.getElem_map]
  have h4 := hp (i - 1) i (by omega) (by omega) (by omega)
  have hr : ∀ j (h : j < P.length), P[j].1 < 10 ∧ P[j].2 < 10 := fun j h => by
    have hm : P[j] ∈ impP (impG m v ms (pAt (dg s) 0) (pAt (dg s) 1)) 10 := by rw [hP]; exact List.getElem_mem h
    have := mem_impP.1 hm
    omega
  obtain ⟨a1, a2⟩ := hr i (by omega)
  obtain ⟨b1, b2⟩ := hr (i - 1) (by omega)
  rw [e1, e2]
  unfold pw
  rw [lex_less a1 a2 b1 b2, lex_eq a1 a2 b1 b2]
  rcases h4 with h4 | ⟨h4, h5⟩
  · rw [decide_eq_false (by omega), decide_eq_false (show ¬ (P[i]'(by omega)).1 = (P[i - 1]'(by omega)).1 by omega)]; rfl
  · rw [decide_eq_false (by omega), decide_eq_false (show ¬ (P[i]'(by omega)).2 < (P[i - 1]'(by omega)).2 by omega), decide_eq_false (show ¬ (P[i]'(by omega)).2 = (P[i - 1]'(by omega)).2 by omega)]; simp
theorem wd2_b0 (a b : Nat) (h : 0 < (wd [a, b]).size) : (wd [a, b])[0] = letr (a : Int) := by
  rw [getElem_L]; simp only [L_wd2, List.getElem_cons_zero]
theorem wd2_b1 (a b : Nat) (h : 1 < (wd [a, b]).size) : (wd [a, b])[1] = letr (b : Int) := by
  rw [getElem_L]; simp only [L_wd2, List.getElem_cons_succ, List.getElem_cons_zero]
theorem imp_form {m : Mach} {v : ByteArray} {ms : List Lnk} {s t : ByteArray} (h : t ∈ impT m v ms s) : ∃ h2 : t.size = 2, ¬ (t[1]'(by omega)).toNat < (t[0]'(by omega)).toNat := by
  obtain ⟨-, -, -, q, rfl, q1, q2, q3, -⟩ := impT_mem h
  refine ⟨size_wd _, ?_⟩
  unfold pw
  rw [wd2_b0, wd2_b1, letr_toNat, letr_toNat]; omega
theorem pair_wd {s : ByteArray} (h : pairB s = true) : s = wd [pAt (dg s) 0, pAt (dg s) 1] := by
  have h2 := pairB_size h
  have hw := wordB_at (pairB_word h)
  refine L_inj ?_
  rw [L_wd2]
  have hl : (L s).length = 2 := by rw [size_L]; exact h2
  refine List.ext_getElem (by rw [hl]; rfl) fun i i1 i2 => ?_
  have hi : i < s.size := by rw [size_L] at i1; exact i1
  have e1 : letr (pAt (dg s) i : Int) = s[i] := by
    have := hw i hi
    rw [dg_at hi, Int.toNat_of_nonneg (by omega)]
    refine letr_dig ⟨?_, ?_⟩ <;> omega
  rw [← getElem_L s i hi, ← e1]
  rcases (by omega : i = 0 ∨ i = 1) with rfl | rfl <;> rfl
theorem imp_rev {m : Mach} {v : ByteArray} {ms : List Lnk} {x y : Nat} (hx : x < 10) (hy : y < 10) (h1 : setB m v = true) (h2 : menuB ms = true) : impT m v ms (wd [y, x]) = impT m v ms (wd [x, y]) := by
  rw [impT_is h1 h2 pairB_wd, impT_is h1 h2 pairB_wd, dg2 hy hx, dg2 hx hy]
  show (impP (impB (menG m v ms) y x) 10).map pw = (impP (impB (menG m v ms) x y) 10).map pw
  rw [impB_turn]
end Go.Proofs.YtdmnkcmkpjmfaaaGreat

/- ReverseWord of the program, for words of two letters. -/
namespace Go.Proofs.YtdmnkcmkpjmfaaaGreat
open Go.RowKit
attribute [local go_sem] Oper.semAt_some

set_option maxRecDepth 100000 in
set_option maxHeartbeats 1000000 in
theorem reverse2_any (g cap : Nat) (a b : UInt8) (w : World) (o : Own w g (bv [a, b])) :
    Calls Tryz.prog 110 #[.slice (some ⟨g, 0, none⟩) 2 cap] w fun e w' => e = .returned (.tuple #[]) ∧ Own w' g (bv [b, a]) ∧ Below g w w' := by
  have lg := o.lt
  go_enter Tryz.func110, Tryz.ntmps110
  go_wp2_with fail
  go_loopw [2, 3] (fun i j wr => (i = .int .i64 0 ∧ j = .int .i64 1 ∧ Own wr g (bv [a, b]) ∧ Below g w wr) ∨ (i = .int .i64 1 ∧ j = .int .i64 0 ∧ Own wr g (bv [b, a]) ∧ Below g w wr)) (fun i _ _ => 2 - (intOf i).toNat)
  case atStart => exact .inl ⟨rfl, rfl, o, Below.refl _ _⟩
  case round =>
    clear o
    rcases hrel with ⟨rfl, rfl, o, hb⟩ | ⟨rfl, rfl, o, hb⟩
    · have f0 := o.at_ (i := 0) (u := .int .u8 (a.toNat : Int)) rfl
      have f1 := o.at_ (i := 1) (u := .int .u8 (b.toNat : Int)) rfl
      have g0 := o.free 0 (by simp [bv])
      have g1 := o.free 1 (by simp [bv])
      have lw := o.lt
      go_wp2_with fail
      go_region_law (fail)
      all_goals
       go_wp2
       go_roundw
       case rel =>
        refine .inr ⟨rfl, rfl, ?_, ?_⟩
        · exact ((o.set_ (i := 0) (by simp [bv]) (.int .u8 (b.toNat : Int))).set_ (i := 1) (by simp [bv]) (.int .u8 (a.toNat : Int))).drew
        · exact ((hb.setCell (by simp) _).setCell (by simp) _).drew
       case measure => simp [intOf]
    · go_wp2
      go_end0
      exact ⟨rfl, o, hb⟩
set_option maxRecDepth 100000 in
theorem implReverseWord_two (x y : Nat) (w : World) :
    Calls Tryz.prog 57 #[.string (wd [x, y])] w fun e w' => e = .returned (.string (wd [y, x])) ∧ Below w.heap.size w w' := by
  have h2 : (wd [x, y]).size = 2 := size_wd _
  have hw : wordB (wd [x, y]) = true := word_wd (by simp)
  have hL : L (wd [x, y]) = [letr (x : Int), letr (y : Int)] := L_S _
  have n3 := fun W => implWordValid_any (wd [x, y]) W (by omega)
  rw [hw] at n3
  obtain ⟨cap, w3, hcv, o3, hb3, s3, hcap⟩ := conv_bytes w (wd [x, y])
  rw [hL] at o3
  rw [h2] at hcv
  clear hL hw
  go_enter Tryz.func57, Tryz.ntmps57
  generalize wd [x, y] = s at *
  go_wp2_with (go_at_call 55; ((with_reducible refine (n3 _).mono ?_); rintro e w' ⟨rfl, rfl⟩))
  refine (reverse2_any w.heap.size cap _ _ w3 o3).mono ?_
  rintro e w4 ⟨rfl, o4, hb4⟩
  have hcv4 := o4.conv (P := Tryz.prog) 47 9 5 Tryz.underlying47 Tryz.underlying5 Tryz.underlying9 (n := 2) rfl cap
  clear hcv o3
  go_wp2
  go_ret
  exact ⟨rfl, hb3.trans hb4⟩
end Go.Proofs.YtdmnkcmkpjmfaaaGreat

/- The walk of the law on the order of the pairs that follow, the pair itself and its letters exchanged. -/
namespace Go.Proofs.YtdmnkcmkpjmfaaaGreat
open Go.RowKit
attribute [local go_sem] Oper.semAt_some

theorem leq_str (a b : ByteArray) (W : World) : Sem.run Tryz.prog (Go.binOp .leq 9 (.string a) (.string b)) W = .ok (.bool (Op.bytesLess (L a) (L b) || L a == L b)) W := by
  rw [show L a = a.toList from (Lib.toList_data a).symm, show L b = b.toList from (Lib.toList_data b).symm]
  rfl
set_option maxRecDepth 100000 in
set_option maxHeartbeats 2000000 in
theorem impliedSelf_walk (a : Option Addr) (len cap : Nat) (zs : List Int) (w : World) (h : IsRow .u8 w a len cap zs) :
    Calls Tryz.prog 13 #[.slice a len cap] w fun e w' => e = .returned (.bool true) ∧ Below w.heap.size w w' := by
  have hlen : len ≤ 9223372036854775807 := by
    rcases h with ⟨_, rfl, _⟩ | ⟨x, _, hl, hm, _⟩
    · omega
    · unfold maxLen at hm; omega
  by_cases hl : 1048576 < len
  · go_enter Tryz.func13, Tryz.ntmps13
    go_wp2
    go_ret
    exact ⟨rfl, Below.refl _ _⟩
  · go_enter Tryz.func13, Tryz.ntmps13
    go_wp2_with fail
    refine (DrawImpliedPairs_any a len cap zs _ h (by omega)).mono ?_
    rintro e w1 ⟨m, v, ms, a1, am, cap1, cm, s, ⟨hsm, hrd, -, hb1⟩, hv, hst, hl24, hrm, hs, rfl⟩
    have o1 := Own.new w1 [.slice a1 m.wheels.rotors.length cap1, .string m.wheels.refl, .string m.rings, .string m.plugs] 36
    have hba : Below w1.heap.size w1 (w1.alloc (.cells [.slice a1 m.wheels.rotors.length cap1, .string m.wheels.refl, .string m.rings, .string m.plugs].toArray 36)) := (Below.refl _ _).alloc (Nat.le_refl _) _
    have hbw1 := hb1.alloc hb1.size (.cells [.slice a1 m.wheels.rotors.length cap1, .string m.wheels.refl, .string m.rings, .string m.plugs].toArray 36)
    have A1 : LAt (w1.alloc (.cells [.slice a1 m.wheels.rotors.length cap1, .string m.wheels.refl, .string m.rings, .string m.plugs].toArray 36)) w1.heap.size a1 cap1 m am ms := ⟨o1, (hsm.at_ hrd).alloc_ _, (hrm.below hba (Nat.le_refl _)).more hba.size⟩
    have hsl := hst.smL
    clear hrd hb1 h hsm hrm hba o1
    go_wp2_with fail
    generalize (w1.alloc (.cells [.slice a1 m.wheels.rotors.length cap1, .string m.wheels.refl, .string m.rings, .string m.plugs].toArray 36)) = W1 at *
    generalize w1.heap.size = B1 at *
    have f0 := A1.box.at_ (i := 0) rfl
    have f1 := A1.box.at_ (i := 1) rfl
    have f2 := A1.box.at_ (i := 2) rfl
    have f3 := A1.box.at_ (i := 3) rfl
    have HIP := Lib.hid (fun t W h1 h2 (ht : t.size ≤ 4294967296) => implImpliedPairs_any a1 cap1 m v am cm ms t W h1 (by omega) h2 hsl (by omega) ht)
    have hls := impT_len m v ms s
    refine (HIP.out s _ A1.mach A1.menu (by omega)).mono ?_
    rintro e w2 ⟨lv, rfl, ol, hb2⟩
    obtain ⟨al, cl, rfl, hlc, hrl2, -⟩ := OwR.val ol
    have A2 := A1.below hb2
    have hbw2 := bt hbw1 hb2
    clear A1 hbw1 ol hlc hb2 f0 f1 f2 f3
    have HNO := Lib.hid (fun (h : (setB m v && (menuB ms && pairB s)) = false) => show (impT m v ms s).length = 0 by
      rw [imp_none (fun k => by rw [k.1, k.2.1, k.2.2] at h; cases h)]; rfl)
    have HYES := Lib.hid (fun (h : (setB m v && (menuB ms && pairB s)) = true) => show pw (norm (pAt (dg s) 0) (pAt (dg s) 1)) ∈ impT m v ms s from by
      simp only [Bool.and_eq_true] at h
      exact imp_pos h.1 h.2.1 h.2.2)
    have HASC : Hid (ascS (impT m v ms s)) := Lib.hid (imp_asc m v ms s)
    have HFRM : Hid (frmS (impT m v ms s)) := Lib.hid (fun t h => imp_form h)
    have HREV := Lib.hid (fun (h : (setB m v && (menuB ms && pairB s)) = true) => show impT m v ms (wd [pAt (dg s) 1, pAt (dg s) 0]) = impT m v ms s from by
      simp only [Bool.and_eq_true] at h
      obtain ⟨l0, l1⟩ := pairB_lt h.2.2
      rw [imp_rev l0 l1 h.1 h.2.1, ← pair_wd h.2.2])
    have hls := impT_len m v ms s
    have nsp := fun W h1 h2 => specImpliedPairs_any a1 cap1 m v am cm ms s W h1 (by omega) h2 (by omega) (by omega)
    generalize hgl : impT m v ms s = ls at *
    have HGL := Lib.hid hgl
    clear hgl
    have f0 := A2.box.at_ (i := 0) rfl
    have f1 := A2.box.at_ (i := 1) rfl
    have f2 := A2.box.at_ (i := 2) rfl
    have f3 := A2.box.at_ (i := 3) rfl
    go_upto_region 5 with (fail)
    go_cut [8] (fun s8 wr => s8 = .bool (setB m v && (menuB ms && pairB s)) ∧ LAt wr B1 a1 cap1 m am ms ∧ Reads wr wr.heap.size al (sv ls) ∧ Below w.heap.size w wr)
    case first =>
      go_wp2_with fail
      refine (rcFits_any a1 _ cap1 m v _ A2.mach (by omega)).mono ?_
      rintro e w3 ⟨rfl, hb3⟩
      have A3 := A2.below hb3
      have hbw3 := bt hbw2 hb3
      have hrl3 := (hrl2.below hb3 (Nat.le_refl _)).more hb3.size
      clear A2 hbw2 hrl2 hb3 f0 f1 f2 f3
      cases h1 : setB m v with
      | false =>
        have HG : Hid ((setB m v && (menuB ms && pairB s)) = false) := Lib.hid (by rw [h1]; rfl)
        clear h1
        go_wp2_with fail
        go_meet
        exact ⟨by rw [HG.out], A3, hrl3, hbw3⟩
      | true =>
        have H1 := Lib.hid h1
        clear h1
        go_wp2_with fail
        refine (implMenuValid_any am cm ms _ A3.menu hsl (by omega)).mono ?_
        rintro e w4 ⟨rfl, hb4⟩
        have A4 := A3.below hb4
        have hbw4 := bt hbw3 hb4
        have hrl4 := (hrl3.below hb4 (Nat.le_refl _)).more hb4.size
        clear A3 hbw3 hrl3 hb4
        cases h2 : menuB ms with
        | false =>
          have HG : Hid ((setB m v && (menuB ms && pairB s)) = false) := Lib.hid (by rw [h2]; simp)
          clear h2
          go_wp2_with fail
          go_meet
          exact ⟨by rw [HG.out], A4, hrl4, hbw4⟩
        | true =>
          have H2 := Lib.hid h2
          clear h2
          by_cases hs2 : s.size = 2
          · have t2 : ((s.size : Int) == 2) = true := by rw [hs2]; rfl
            have n3 := implWordValid_any s w4 (by omega)
            have HP : Hid (pairB s = wordB s) := Lib.hid (by unfold pairB; rw [decide_eq_true hs2, Bool.true_and])
            clear hs2
            go_wp2_with (go_at_call 55; ((with_reducible refine (n3).mono ?_); rintro e w' ⟨rfl, rfl⟩))
            go_meet
            exact ⟨by rw [H1.out, H2.out, HP.out]; rfl, A4, hrl4, hbw4⟩
          · have t2 : ((s.size : Int) == 2) = false := by rw [beq_eq_false_iff_ne]; omega
            have HP : Hid (pairB s = false) := Lib.hid (by unfold pairB; rw [decide_eq_false hs2, Bool.false_and])
            clear hs2
            go_wp2_with fail
            go_meet
            exact ⟨by rw [H1.out, H2.out, HP.out]; rfl, A4, hrl4, hbw4⟩
    case rest =>
      clear A2 hbw2 hrl2 f0 f1 f2 f3
      obtain ⟨rfl, A2, hrl, hbw2⟩ := hcut
      have f0 := A2.box.at_ (i := 0) rfl
      have f1 := A2.box.at_ (i := 1) rfl
      have f2 := A2.box.at_ (i := 2) rfl
      have f3 := A2.box.at_ (i := 3) rfl
      cases hG : (setB m v && (menuB ms && pairB s)) with
      | false =>
        have hz := HNO.out hG
        have t1 : decide (0 < ls.length) = false := decide_eq_false (by omega)
        clear hG hz
        go_wp2_with fail
        refine (nsp _ A2.mach A2.menu).mono ?_
        rintro e w3 ⟨lv, rfl, ol, hb3⟩
        obtain ⟨al3, cl3, rfl, hlc, hrl3, -⟩ := OwR.val ol
        have A3 := A2.below hb3
        have hbw3 := bt hbw2 hb3
        have hrl' := (hrl.below hb3 (Nat.le_refl _)).more hb3.size
        clear A2 hbw2 ol hlc hb3 hrl f0 f1 f2 f3
        go_wp2_with fail
        have hrt := rcTexts_any al al3 cl cl3 ls ls w3 hrl' hrl3 (by omega)
        rw [decide_eq_true rfl] at hrt
        refine hrt.mono ?_
        rintro e w' ⟨rfl, n4, rfl⟩
        have hb4 := bel_drewM w3 n4
        generalize w3.drewN n4 = w4 at *
        have A4 := A3.below hb4
        have hbw4 := bt hbw3 hb4
        have hrl4 := (hrl'.below hb4 (Nat.le_refl _)).more hb4.size
        clear A3 hbw3 hrl' hrl3 hrt hb4 n4
        have f0 := A4.box.at_ (i := 0) rfl
        have f1 := A4.box.at_ (i := 1) rfl
        have f2 := A4.box.at_ (i := 2) rfl
        have f3 := A4.box.at_ (i := 3) rfl
        go_wp2_with fail
        refine (nsp _ A4.mach A4.menu).mono ?_
        rintro e w5 ⟨lv, rfl, ol, hb5⟩
        obtain ⟨al5, cl5, rfl, hlc5, hrl5, -⟩ := OwR.val ol
        have hrl6 := (hrl4.below hb5 (Nat.le_refl _)).more hb5.size
        have hbw5 := bt hbw4 hb5
        go_wp2_with fail
        have hrt := rcTexts_any al al5 cl cl5 ls ls w5 hrl6 hrl5 (by omega)
        rw [decide_eq_true rfl] at hrt
        refine hrt.mono ?_
        rintro e w' ⟨rfl, n6, rfl⟩
        go_wp2
        go_ret
        exact ⟨rfl, bel_drewN hbw5 n6⟩
      | true =>
        have hmem := HYES.out hG
        have hrev := HREV.out hG
        simp only [Bool.and_eq_true] at hG
        have hpos : 0 < ls.length := List.length_pos_of_mem hmem
        have t1 : decide (0 < ls.length) = true := decide_eq_true (by omega)
        obtain ⟨l0, l1⟩ := pairB_lt hG.2.2
        have hsd := pair_wd hG.2.2
        have hs2 := pairB_size hG.2.2
        generalize pAt (dg s) 0 = x at *
        generalize pAt (dg s) 1 = y at *
        have HSD := Lib.hid hsd
        have HMEM := Lib.hid hmem
        have HREV2 := Lib.hid hrev
        clear HNO HYES HREV hG hmem hrev hsd
        go_wp2_with fail
        refine (nsp _ A2.mach A2.menu).mono ?_
        rintro e w3 ⟨lv, rfl, ol, hb3⟩
        obtain ⟨al3, cl3, rfl, hlc, hrl3, -⟩ := OwR.val ol
        have A3 := A2.below hb3
        have hbw3 := bt hbw2 hb3
        have hrl' := (hrl.below hb3 (Nat.le_refl _)).more hb3.size
        clear A2 hbw2 ol hlc hb3 hrl f0 f1 f2 f3
        go_wp2_with fail
        have hrt := rcTexts_any al al3 cl cl3 ls ls w3 hrl' hrl3 (by omega)
        rw [decide_eq_true rfl] at hrt
        refine hrt.mono ?_
        rintro e w' ⟨rfl, n4, rfl⟩
        have hb4 := bel_drewM w3 n4
        generalize w3.drewN n4 = w4 at *
        have A4 := A3.below hb4
        have hbw4 := bt hbw3 hb4
        have hrl4 := (hrl'.below hb4 (Nat.le_refl _)).more hb4.size
        clear A3 hbw3 hrl' hrl3 hrt hb4 n4 nsp
        go_wp2_with fail
        go_loopw [9] (fun i wr => ∃ k : Nat, k ≤ ls.length ∧ i = .int .i64 k ∧ LAt wr B1 a1 cap1 m am ms ∧ Reads wr wr.heap.size al (sv ls) ∧ Below w.heap.size w wr) (fun i _ => ls.length - (intOf i).toNat)
        case atStart => exact ⟨0, Nat.zero_le _, rfl, A4, hrl4, hbw4⟩
        case round =>
          clear A4 hrl4 hbw4
          obtain ⟨k, hk, rfl, A4, hrl4, hbw4⟩ := hrel
          by_cases hlt : k < ls.length
          · have tk : decide ((k : Int) < (ls.length : Int)) = true := decide_eq_true (by omega)
            obtain ⟨b, off, rfl, hbl', hcl⟩ := hrl4.cells (by simp [sv]; omega)
            have c0 := hcl.at_ (i := k) (sv_at hlt)
            obtain ⟨Y, hY⟩ : ∃ Y, Y = ls[k] := ⟨_, rfl⟩
            have hf := HFRM.out _ (List.getElem_mem hlt)
            rw [← hY] at c0 hf
            obtain ⟨hy2, hnl⟩ := hf
            have q0 : (0 : Int) ≤ (k : Int) := by omega
            have q1 : (k : Int) < (ls.length : Int) := by omega
            have t3 : ((Y.size : Int) != 2) = false := by rw [hy2]; rfl
            have z0 : 0 < Y.size := by omega
            have z1 : 1 < Y.size := by omega
            have z2 : (1 : Int) < (Y.size : Int) := by omega
            have t4 : decide ((Y[1]'z1).toNat < (Y[0]'z0).toNat) = false := decide_eq_false hnl
            clear hy2 hnl
            by_cases hk0 : 0 < k
            · have t5 : decide (0 < k) = true := decide_eq_true hk0
              have c1 := hcl.at_ (i := k - 1) (sv_at (show k - 1 < ls.length by omega))
              obtain ⟨Z, hZ⟩ : ∃ Z, Z = ls[k - 1]'(by omega) := ⟨_, rfl⟩
              have ha := HASC.out k hlt hk0
              rw [← hZ] at c1 ha
              rw [← hY] at ha
              have hle := fun W => leq_str Y Z W
              rw [ha] at hle
              have q2 : (0 : Int) ≤ ((k - 1 : Nat) : Int) := by omega
              have q3 : ((k - 1 : Nat) : Int) < (ls.length : Int) := by omega
              have hw1 : IntKind.i64.wrap ((k : Int) - 1) = ((k - 1 : Nat) : Int) := by rw [IntWalk.i64_in _ (by omega)]; omega
              clear ha hcl hY hZ hk0
              generalize k - 1 = k1 at *
              go_wp2_with fail
              go_quiet (fail)
              have hbq := bel_drewM wr nq
              have A5 := A4.below hbq
              have hrl5 := (hrl4.below hbq (Nat.le_refl _)).more hbq.size
              have hbw5 := bt hbw4 hbq
              clear A4 hrl4 hbw4 hbq c1 c0 hle
              generalize wr.drewN nq = w5 at *
              go_wp2
              go_roundw
              case rel => exact ⟨k + 1, by omega, by go_num, A5, hrl5, hbw5⟩
              case measure => simp [intOf]; omega
            · have t5 : decide (0 < k) = false := decide_eq_false hk0
              clear hcl hY hk0
              go_wp2_with fail
              go_quiet (fail)
              have hbq := bel_drewM wr nq
              have A5 := A4.below hbq
              have hrl5 := (hrl4.below hbq (Nat.le_refl _)).more hbq.size
              have hbw5 := bt hbw4 hbq
              clear A4 hrl4 hbw4 hbq c0
              generalize wr.drewN nq = w5 at *
              go_wp2
              go_roundw
              case rel => exact ⟨k + 1, by omega, by go_num, A5, hrl5, hbw5⟩
              case measure => simp [intOf]; omega
          · have tk : decide ((k : Int) < (ls.length : Int)) = false := decide_eq_false (by omega)
            have e0 : s.extract 0 1 = wd [x] := by rw [HSD.out]; exact wd_at (l := [x, y]) (k := 0) (by simp)
            have e1 : s.extract 1 s.size = wd [y] := by rw [hs2, HSD.out]; exact wd_at (l := [x, y]) (k := 1) (by simp)
            have npr := fun W => rcPair_any x y l0 l1 W
            rw [← e0, ← e1] at npr
            have nrv := fun W => implReverseWord_two x y W
            have hlo := A4.box.lt
            have hys : (wd [y, x]).size = 2 := size_wd _
            have nip := fun W h1 h2 => implImpliedPairs_any a1 cap1 m v am cm ms (wd [y, x]) W h1 (by omega) h2 hsl (by omega) (by omega)
            rw [HREV2.out] at nip
            have HMM := HMEM.out
            rw [← HSD.out] at nrv
            clear e0 e1
            generalize wd [y, x] = s2 at *
            generalize pw (norm x y) = pp at *
            have nin := fun W (h : Reads W W.heap.size al (sv ls)) => rcIn_yes al cl ls pp W h (by omega) HMM
            have HSS : Hid (∀ W' : World, Below wr.heap.size wr W' → W'.rangeAt B1 0 [.slice a1 m.wheels.rotors.length cap1, .string m.wheels.refl, .string m.rings, .string m.plugs]) := Lib.hid (fun W' hb => (A4.box.below hb hlo).cells.range)
            have HA := Lib.hid (fun (W' : World) (hb : Below wr.heap.size wr W') => A4.below hb)
            have HRL := Lib.hid (fun (W' : World) (hb : Below wr.heap.size wr W') => (hrl4.below hb (Nat.le_refl _)).more hb.size)
            clear A4 hrl4 HMM
            go_wp2_with fail
            refine wp_onlyN ?_
            refine wp_region_any (by kernel_rfl) ?_
            refine wpAny_of_K (S := fun w' => w'.rangeAt B1 0 [.slice a1 m.wheels.rotors.length cap1, .string m.wheels.refl, .string m.rings, .string m.plugs]) (kp := fun _ => true) _ _ _ _ ?_
            have hbd : Below wr.heap.size wr wr.drew := (Below.refl _ _).drew
            have hS := HSS.out wr.drew hbd
            have s1 : ¬ ((s.size : Int) < 1) := by omega
            refine kr_take 0 115 (v := .slice al ls.length cl) rfl (by kernel_rfl) (by kernel_rfl) (by kernel_rfl) (by kernel_rfl) (fun _ _ _ h => by cases h.1) rfl hS (Or.inl ⟨by rfl, fun _ _ => rfl⟩) ?_; simp only [Act.put, List.setIfInBounds_toArray, List.set_cons_succ, List.set_cons_zero]
            refine kr_take 1 116 (v := .string s) rfl (by kernel_rfl) (by kernel_rfl) (by kernel_rfl) (by kernel_rfl) (fun _ _ _ h => by cases h.1) rfl hS (Or.inl ⟨by rfl, fun _ _ => rfl⟩) ?_; simp only [Act.put, List.setIfInBounds_toArray, List.set_cons_succ, List.set_cons_zero]
            refine kr_take 2 117 (v := .string (s.extract 0 1)) rfl (by kernel_rfl) (by kernel_rfl) (by kernel_rfl) (by kernel_rfl) (fun _ _ _ h => by cases h.1) rfl hS (Or.inl ⟨by rfl, fun w' hw' => by simp [go_sem, s1]⟩) ?_; simp only [Act.put, List.setIfInBounds_toArray, List.set_cons_succ, List.set_cons_zero]
            refine kr_take 3 118 (v := .string s) rfl (by kernel_rfl) (by kernel_rfl) (by kernel_rfl) (by kernel_rfl) (fun _ _ _ h => by cases h.1) rfl hS (Or.inl ⟨by rfl, fun _ _ => rfl⟩) ?_; simp only [Act.put, List.setIfInBounds_toArray, List.set_cons_succ, List.set_cons_zero]
            refine kr_take 4 119 (v := .string (s.extract 1 s.size)) rfl (by kernel_rfl) (by kernel_rfl) (by kernel_rfl) (by kernel_rfl) (fun _ _ _ h => by cases h.1) rfl hS (Or.inl ⟨by rfl, fun w' hw' => by simp [go_sem, s1]⟩) ?_; simp only [Act.put, List.setIfInBounds_toArray, List.set_cons_succ, List.set_cons_zero]
            refine kr_callM 5 120 (by kernel_rfl) rfl (by rfl) rfl (fun w => by simp [go_sem]) (npr wr.drew) (fun e w' hT => ?_)
            obtain ⟨rfl, rfl⟩ := hT
            refine ⟨_, rfl, hS, ?_⟩
            simp only [Act.put, List.setIfInBounds_toArray, List.set_cons_succ, List.set_cons_zero]
            refine kr_callM 6 121 (by kernel_rfl) rfl (by rfl) rfl (fun w => by simp [go_sem]) (nin wr.drew (HRL.out _ hbd)) (fun e w' hT => ?_)
            obtain ⟨rfl, rfl⟩ := hT
            refine ⟨_, rfl, hS, ?_⟩
            simp only [Act.put, List.setIfInBounds_toArray, List.set_cons_succ, List.set_cons_zero]
            refine kr_take 7 122 (v := .bool true) rfl (by kernel_rfl) (by kernel_rfl) (by kernel_rfl) (by kernel_rfl) (fun _ _ _ h => by cases h.1) rfl hS (Or.inl ⟨by rfl, fun _ _ => rfl⟩) ?_; simp only [Act.put, List.setIfInBounds_toArray, List.set_cons_succ, List.set_cons_zero]
            refine kr_take 8 123 (v := .agg #[.slice a1 m.wheels.rotors.length cap1, .string m.wheels.refl, .string m.rings, .string m.plugs]) rfl (by kernel_rfl) (by kernel_rfl) (by kernel_rfl) (by kernel_rfl) (fun _ _ _ h => by cases h.1) rfl hS (yieldsIf_load_mid (by rfl) _ _ rfl _ _ rfl _ _ (fun _ h => h) Tryz.underlying36 rfl (by kernel_rfl)) ?_; simp only [Act.put, List.setIfInBounds_toArray, List.set_cons_succ, List.set_cons_zero]
            refine kr_take 9 124 (v := .string v) rfl (by kernel_rfl) (by kernel_rfl) (by kernel_rfl) (by kernel_rfl) (fun _ _ _ h => by cases h.1) rfl hS (Or.inl ⟨by rfl, fun _ _ => rfl⟩) ?_; simp only [Act.put, List.setIfInBounds_toArray, List.set_cons_succ, List.set_cons_zero]
            refine kr_take 10 125 (v := .slice am ms.length cm) rfl (by kernel_rfl) (by kernel_rfl) (by kernel_rfl) (by kernel_rfl) (fun _ _ _ h => by cases h.1) rfl hS (Or.inl ⟨by rfl, fun _ _ => rfl⟩) ?_; simp only [Act.put, List.setIfInBounds_toArray, List.set_cons_succ, List.set_cons_zero]
            refine kr_take 11 126 (v := .string s) rfl (by kernel_rfl) (by kernel_rfl) (by kernel_rfl) (by kernel_rfl) (fun _ _ _ h => by cases h.1) rfl hS (Or.inl ⟨by rfl, fun _ _ => rfl⟩) ?_; simp only [Act.put, List.setIfInBounds_toArray, List.set_cons_succ, List.set_cons_zero]
            refine kr_take 14 129 (v := .slice al ls.length cl) rfl (by kernel_rfl) (by kernel_rfl) (by kernel_rfl) (by kernel_rfl) (fun _ _ _ h => by cases h.1) rfl hS (Or.inl ⟨by rfl, fun _ _ => rfl⟩) ?_; simp only [Act.put, List.setIfInBounds_toArray, List.set_cons_succ, List.set_cons_zero]
            refine kr_callM 12 127 (by kernel_rfl) rfl (by rfl) rfl (fun w => by simp [go_sem]) (nrv wr.drew) (fun e w5 hT => ?_)
            obtain ⟨rfl, hb5⟩ := hT
            have hbw5 := hbd.trans (hb5.mono hbd.size)
            refine ⟨_, rfl, HSS.out _ hbw5, ?_⟩
            simp only [Act.put, List.setIfInBounds_toArray, List.set_cons_succ, List.set_cons_zero]
            refine kr_callM 13 128 (by kernel_rfl) rfl (by rfl) rfl (fun w => by simp [go_sem]) (nip w5 (HA.out _ hbw5).mach (HA.out _ hbw5).menu) (fun e w6 hT => ?_)
            obtain ⟨lv, rfl, ol, hb6⟩ := hT
            obtain ⟨al6, cl6, rfl, hlc6, hrl6, -⟩ := OwR.val ol
            have hbw6 := hbw5.trans (hb6.mono hbw5.size)
            refine ⟨_, rfl, HSS.out _ hbw6, ?_⟩
            simp only [Act.put, List.setIfInBounds_toArray, List.set_cons_succ, List.set_cons_zero]
            have hrt := rcTexts_any al6 al cl6 cl ls ls w6 hrl6 (HRL.out _ hbw6) (by omega)
            rw [decide_eq_true rfl] at hrt
            refine kr_callM 15 130 (by kernel_rfl) rfl (by rfl) rfl (fun w => by simp [go_sem]) hrt (fun e w7 hT => ?_)
            obtain ⟨rfl, n7, rfl⟩ := hT
            have hbw7 := hbw6.trans ((bel_drewM w6 n7).mono hbw6.size)
            generalize w6.drewN n7 = w7 at *
            refine ⟨_, rfl, HSS.out _ hbw7, ?_⟩
            simp only [Act.put, List.setIfInBounds_toArray, List.set_cons_succ, List.set_cons_zero]
            have hS := HSS.out _ hbw7
            refine kr_take 16 131 (v := .bool true) rfl (by kernel_rfl) (by kernel_rfl) (by kernel_rfl) (by kernel_rfl) (fun _ _ _ h => by cases h.1) rfl hS (Or.inl ⟨by rfl, fun _ _ => rfl⟩) ?_; simp only [Act.put, List.setIfInBounds_toArray, List.set_cons_succ, List.set_cons_zero]
            refine kr_take 17 2 (v := .bool true) rfl (by kernel_rfl) (by kernel_rfl) (by kernel_rfl) (by kernel_rfl) (fun _ _ _ h => by cases h.1) rfl hS (Or.inl ⟨by rfl, fun _ _ => rfl⟩) ?_; simp only [Act.put, List.setIfInBounds_toArray, List.set_cons_succ, List.set_cons_zero]
            refine ⟨by kernel_rfl, onlyN_mk ?_⟩
            have hbwE := bt hbw4 hbw7
            clear hS hrt
            go_wp2
            go_ret
            exact ⟨rfl, hbwE⟩
end Go.Proofs.YtdmnkcmkpjmfaaaGreat
