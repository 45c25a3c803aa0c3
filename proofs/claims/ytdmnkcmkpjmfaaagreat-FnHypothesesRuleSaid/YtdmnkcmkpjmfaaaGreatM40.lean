/- Several of my texts in one: BrdI, HrW. -/
import Derived.Test.YtdmnkcmkpjmfaaaGreatM25
import Derived.Test.YtdmnkcmkpjmfaaaGreatM5
import Derived.Test.YtdmnkcmkpjmfaaaGreatM39
import Derived.Test.YtdmnkcmkpjmfaaaGreatM31
/- PairsBoard of the program. -/
namespace Go.Proofs.YtdmnkcmkpjmfaaaGreat
open Go.RowKit
attribute [local go_sem] Oper.semAt_some

set_option maxRecDepth 100000 in
set_option maxHeartbeats 2000000 in
theorem implPairsBoard_any (a : Option Addr) (c : Nat) (ps : List (Nat × Nat)) (w : World) (hr : Reads w w.heap.size a (sv (ps.map pw))) (ho : ∀ z ∈ ps, z.1 < 10 ∧ z.2 < 10) (hl : ps.length ≤ 1000) :
    Calls Tryz.prog 62 #[.slice a ps.length c] w fun e w' => e = .returned (.tuple #[.string (brdT (setP ps)).1, .bool (brdT (setP ps)).2]) ∧ Below w.heap.size w w' := by
  have z0 := Own.new w (psv fun _ _ => false) 127
  have hb0 := (Below.refl w.heap.size w).alloc (Nat.le_refl _) (.cells (psv fun _ _ => false).toArray 127)
  rw [psv_none] at z0 hb0
  have z1 : Own (w.alloc (.cells #[.int .u64 0, .int .u64 0, .int .u64 0, .int .u64 0, .int .u64 0, .int .u64 0, .int .u64 0, .int .u64 0, .int .u64 0, .int .u64 0] 127)) w.heap.size (psv (setP [])) := by
    have : psv (setP []) = psv fun _ _ => false := rfl
    rw [this, psv_none2]; exact z0
  have HR := Lib.hid (fun (wr : World) (hb : Below w.heap.size w wr) => (hr.below hb (Nat.le_refl _)))
  have HO := Lib.hid ho
  clear hr z0 ho
  go_enter Tryz.func62, Tryz.ntmps62
  go_wp2_with fail
  go_loopw [6, 9] (fun _ i wr => ∃ k : Nat, k ≤ ps.length ∧ i = .int .i64 k ∧ Own wr w.heap.size (psv (setP (ps.take k))) ∧ Below w.heap.size w wr) (fun _ i _ => ps.length - (intOf i).toNat)
  case atStart => exact ⟨0, Nat.zero_le _, rfl, z1, hb0⟩
  case round =>
    clear z1 hb0
    obtain ⟨k, hk, rfl, oS, hb⟩ := hrel
    by_cases hlt : k < ps.length
    · have tk : decide ((k : Int) < (ps.length : Int)) = true := decide_eq_true (by omega)
      obtain ⟨b, off, rfl, hbl, hcl⟩ := (HR.out wr hb).cells (by simp [sv]; omega)
      have hc := hcl.at_ (i := k) (u := .string (pw ps[k])) (by rw [sv_at (by simpa using hlt)]; simp)
      have hq := HO.out _ (List.getElem_mem hlt)
      have HNX : Hid (setP (ps.take (k + 1)) = addR (setP (ps.take k)) ps[k].1 ps[k].2) := Lib.hid (by rw [List.take_succ_eq_append_getElem hlt, setP_snoc])
      generalize ps[k] = q at *
      have h2 : (pw q).size = 2 := size_wd _
      have hw : wordB (pw q) = true := pairB_word pairB_wd
      have n3 := fun W => implWordValid_any (pw q) W (by omega)
      rw [hw] at n3
      have hz := hb.size
      have q0 : (0 : Int) ≤ (k : Int) := by omega
      have q1 : (k : Int) < (ps.length : Int) := by omega
      have z0 : 0 < (pw q).size := by omega
      have z1 : (1 : Int) < ((pw q).size : Int) := by omega
      have z2 : 1 < (pw q).size := by omega
      have hL : L (pw q) = [letr (q.1 : Int), letr (q.2 : Int)] := L_S _
      have b0 : (pw q)[0]'z0 = letr (q.1 : Int) := by rw [getElem_L]; simp only [hL, List.getElem_cons_zero]
      have b1 : (pw q)[1]'z2 = letr (q.2 : Int) := by rw [getElem_L]; simp only [hL, List.getElem_cons_succ, List.getElem_cons_zero]
      have n1 := fun W => implNumber_any ((pw q)[0]'z0) W (by rw [b0, letr_toNat]; omega)
      have n2 := fun W => implNumber_any ((pw q)[1]'z2) W (by rw [b1, letr_toNat]; omega)
      rw [show dig ((pw q)[0]'z0) = (q.1 : Int) by rw [b0, dig_letr]; omega] at n1
      rw [show dig ((pw q)[1]'z2) = (q.2 : Int) by rw [b1, dig_letr]; omega] at n2
      have t2 : (((pw q).size : Int) != 2) = false := by rw [h2]; rfl
      have nad := fun W h => pairAdd_any w.heap.size (setP (ps.take k)) q.1 q.2 W h hq.1 hq.2 (setP_symm _)
      clear hcl hw hL b0 b1 h2
      generalize pw q = s at *
      go_wp2_with (go_at_call 55; ((with_reducible refine (n3 _).mono ?_); rintro e w' ⟨rfl, rfl⟩))
      refine wp_onlyN ?_
      refine wp_region_any (by kernel_rfl) ?_
      refine wpAny_of_K (S := fun _ => True) (kp := fun _ => true) _ _ _ _ ?_
      have hS : True := trivial
      refine kr_take 0 21 (v := .string s) rfl (by kernel_rfl) (by kernel_rfl) (by kernel_rfl) (by kernel_rfl) (fun _ _ _ h => by cases h.1) rfl hS (Or.inl ⟨by rfl, fun _ _ => rfl⟩) ?_; simp only [Act.put, List.setIfInBounds_toArray, List.set_cons_succ, List.set_cons_zero]
      refine kr_take 1 22 (v := .int .u8 ((s[0]'z0).toNat : Int)) rfl (by kernel_rfl) (by kernel_rfl) (by kernel_rfl) (by kernel_rfl) (fun _ _ _ h => by cases h.1) rfl hS (Or.inl ⟨by rfl, fun w' hw' => by simp [go_sem, z0]⟩) ?_; simp only [Act.put, List.setIfInBounds_toArray, List.set_cons_succ, List.set_cons_zero]
      refine kr_take 3 24 (v := .string s) rfl (by kernel_rfl) (by kernel_rfl) (by kernel_rfl) (by kernel_rfl) (fun _ _ _ h => by cases h.1) rfl hS (Or.inl ⟨by rfl, fun _ _ => rfl⟩) ?_; simp only [Act.put, List.setIfInBounds_toArray, List.set_cons_succ, List.set_cons_zero]
      refine kr_take 4 25 (v := .int .u8 ((s[1]'z2).toNat : Int)) rfl (by kernel_rfl) (by kernel_rfl) (by kernel_rfl) (by kernel_rfl) (fun _ _ _ h => by cases h.1) rfl hS (Or.inl ⟨by rfl, fun w' hw' => by simp [go_sem, z1]⟩) ?_; simp only [Act.put, List.setIfInBounds_toArray, List.set_cons_succ, List.set_cons_zero]
      refine kr_callM 2 23 (by kernel_rfl) rfl (by rfl) rfl (fun w => by simp [go_sem]) (n1 wr.drew) (fun e w' hT => ?_)
      obtain ⟨rfl, rfl⟩ := hT
      refine ⟨_, rfl, trivial, ?_⟩
      simp only [Act.put, List.setIfInBounds_toArray, List.set_cons_succ, List.set_cons_zero]
      refine kr_callM 5 26 (by kernel_rfl) rfl (by rfl) rfl (fun w => by simp [go_sem]) (n2 wr.drew) (fun e w' hT => ?_)
      obtain ⟨rfl, rfl⟩ := hT
      refine ⟨_, rfl, trivial, ?_⟩
      simp only [Act.put, List.setIfInBounds_toArray, List.set_cons_succ, List.set_cons_zero]
      refine kr_callM 6 27 (by kernel_rfl) rfl (by rfl) rfl (fun w => by simp [go_sem]) (nad wr.drew oS.drew) (fun e w3 hT => ?_)
      obtain ⟨rfl, o3, hg3⟩ := hT
      refine ⟨_, rfl, trivial, ?_⟩
      simp only [Act.put, List.setIfInBounds_toArray, List.set_cons_succ, List.set_cons_zero]
      refine ⟨by kernel_rfl, onlyN_mk ?_⟩
      have hb3 : Below w.heap.size w w3 := hb.trans (Moved.toBelow (R := w.heap.size) (a := wr) ⟨hg3.os, hg3.tape, hg3.output, hg3.size, hg3.block⟩ (Nat.le_refl _) hz)
      rw [← HNX.out] at o3
      clear oS hb hg3
      go_wp2
      go_roundw
      case rel => exact ⟨k + 1, by omega, by go_num, o3, hb3⟩
      case measure => simp [intOf]; omega
    · have tk : decide ((k : Int) < (ps.length : Int)) = false := decide_eq_false (by omega)
      have hk' : k = ps.length := by omega
      rw [hk', List.take_length] at oS
      have hz := hb.size
      go_wp2_with fail
      refine (pairBoard_any w.heap.size (setP ps) _ oS (setP_symm ps)).mono ?_
      rintro e w2 ⟨rfl, hb2⟩
      go_wp2
      go_ret2
      exact ⟨rfl, hb.trans (hb2.mono hz)⟩
end Go.Proofs.YtdmnkcmkpjmfaaaGreat

/- The walk of the law that a letter is a hypothesis exactly if the pairs that follow make a plugboard. -/
namespace Go.Proofs.YtdmnkcmkpjmfaaaGreat
open Go.RowKit
attribute [local go_sem] Oper.semAt_some

/-- What PairsBoard makes of all pairs of a set. -/
theorem brd_impP {R : Nat → Nat → Bool} (hs : ∀ a b, R a b = R b a) : brdT (setP (impP R 10)) = brdT R := brdT_congr fun _ _ ha hb => setP_impP hs ha hb
theorem brdT_ok (R : Nat → Nat → Bool) : (brdT R).2 = oneB R := by
  unfold brdT
  cases h : oneB R <;> simp
theorem hyp_is {m : Mach} {v : ByteArray} {ms : List Lnk} (h1 : setB m v = true) (h2 : menuB ms = true) : hypT m v ms = wd (hypL m v ms) := by
  unfold hypT; rw [if_pos (by rw [h1, h2]; rfl)]
theorem hyp_mem {m : Mach} {v : ByteArray} {ms : List Lnk} {k : Nat} (hk : k < 10) : k ∈ hypL m v ms ↔ oneB (impG m v ms (cenN ms) k) = true := by
  unfold hypL; rw [List.mem_filter]; simp [hk]
theorem hyp_lt {m : Mach} {v : ByteArray} {ms : List Lnk} : ∀ a ∈ hypL m v ms, a < 10 := fun a ha => by
  have := (List.mem_filter.1 ha).1
  simpa using this
theorem hyp_asc (m : Mach) (v : ByteArray) (ms : List Lnk) : (hypL m v ms).Pairwise (· < ·) := List.Pairwise.filter _ List.pairwise_lt_range
/-- The bytes of a string ascend. -/
def ascT (T : ByteArray) : Prop := ∀ i (hi : i < T.size) (_ : 0 < i), ¬ T[i].toNat ≤ (T[i - 1]'(by omega)).toNat
theorem hyp_ascT {m : Mach} {v : ByteArray} {ms : List Lnk} : ascT (wd (hypL m v ms)) := by
  intro i hi h0
  have hl : i < (hypL m v ms).length := by rw [size_wd] at hi; exact hi
  have h := List.pairwise_iff_getElem.1 (hyp_asc m v ms) (i - 1) i (by omega) hl (by omega)
  have h1 := hyp_lt _ (List.getElem_mem hl)
  rw [wd_byte hi, wd_byte (by omega), letr_toNat, letr_toNat]
  omega
set_option maxRecDepth 100000 in
set_option maxHeartbeats 4000000 in
theorem hypothesesRule_walk (a : Option Addr) (len cap : Nat) (zs : List Int) (w : World) (h : IsRow .u8 w a len cap zs) :
    Calls Tryz.prog 16 #[.slice a len cap] w fun e w' => e = .returned (.bool true) ∧ Below w.heap.size w w' := by
  have hlen : len ≤ 9223372036854775807 := by
    rcases h with ⟨_, rfl, _⟩ | ⟨x, _, hl, hm, _⟩
    · omega
    · unfold maxLen at hm; omega
  by_cases hl : 1048576 < len
  · go_enter Tryz.func16, Tryz.ntmps16
    go_wp2
    go_ret
    exact ⟨rfl, Below.refl _ _⟩
  · go_enter Tryz.func16, Tryz.ntmps16
    go_wp2_with fail
    refine (DrawHypotheses_any a len cap zs _ h (by omega)).mono ?_
    rintro e w1 ⟨m, v, ms, a1, am, cap1, cm, ⟨hsm, hrd, -, hb1⟩, hv, hst, hl24, hrm, rfl⟩
    have o1 := Own.new w1 [.slice a1 m.wheels.rotors.length cap1, .string m.wheels.refl, .string m.rings, .string m.plugs] 36
    have hba : Below w1.heap.size w1 (w1.alloc (.cells [.slice a1 m.wheels.rotors.length cap1, .string m.wheels.refl, .string m.rings, .string m.plugs].toArray 36)) := (Below.refl _ _).alloc (Nat.le_refl _) _
    have hbw1 := hb1.alloc hb1.size (.cells [.slice a1 m.wheels.rotors.length cap1, .string m.wheels.refl, .string m.rings, .string m.plugs].toArray 36)
    have A1 : LAt (w1.alloc (.cells [.slice a1 m.wheels.rotors.length cap1, .string m.wheels.refl, .string m.rings, .string m.plugs].toArray 36)) w1.heap.size a1 cap1 m am ms := ⟨o1, (hsm.at_ hrd).alloc_ _, (hrm.below hba (Nat.le_refl _)).more hba.size⟩
    have hsl := hst.smL
    clear hrd hb1 h hsm hrm hba o1
    go_wp2_with fail
    generalize (w1.alloc (.cells [.slice a1 m.wheels.rotors.length cap1, .string m.wheels.refl, .string m.rings, .string m.plugs].toArray 36)) = W1 at *
    generalize w1.heap.size = B1 at *
    have f0 := A1.box.at_ (i := 0) rfl
    have f1 := A1.box.at_ (i := 1) rfl
    have f2 := A1.box.at_ (i := 2) rfl
    have f3 := A1.box.at_ (i := 3) rfl
    refine (implHypotheses_any a1 cap1 m v am cm ms _ A1.mach (by omega) A1.menu hsl (by omega)).mono ?_
    rintro e w2 ⟨rfl, hb2⟩
    have A2 := A1.below hb2
    have hbw2 := bt hbw1 hb2
    clear A1 hbw1 hb2 f0 f1 f2 f3
    have f0 := A2.box.at_ (i := 0) rfl
    have f1 := A2.box.at_ (i := 1) rfl
    have f2 := A2.box.at_ (i := 2) rfl
    have f3 := A2.box.at_ (i := 3) rfl
    have nsp := fun W h1 h2 => specHypotheses_any a1 cap1 m v am cm ms W h1 (by omega) h2 (by omega)
    have HHI := Lib.hid (fun h1 h2 => @hyp_is m v ms h1 h2)
    generalize hT : hypT m v ms = T at *
    have HT := Lib.hid hT
    clear hT
    go_wp2_with fail
    refine (nsp _ A2.mach A2.menu).mono ?_
    rintro e w3 ⟨rfl, hb3⟩
    have A3 := A2.below hb3
    have hbw3 := bt hbw2 hb3
    clear A2 hbw2 hb3 f0 f1 f2 f3
    have f0 := A3.box.at_ (i := 0) rfl
    have f1 := A3.box.at_ (i := 1) rfl
    have f2 := A3.box.at_ (i := 2) rfl
    have f3 := A3.box.at_ (i := 3) rfl
    go_wp2_with fail
    refine (rcFits_any a1 _ cap1 m v _ A3.mach (by omega)).mono ?_
    rintro e w4 ⟨rfl, hb4⟩
    have A4 := A3.below hb4
    have hbw4 := bt hbw3 hb4
    clear A3 hbw3 hb4 f0 f1 f2 f3
    have f0 := A4.box.at_ (i := 0) rfl
    have f1 := A4.box.at_ (i := 1) rfl
    have f2 := A4.box.at_ (i := 2) rfl
    have f3 := A4.box.at_ (i := 3) rfl
    cases h1 : setB m v with
    | false =>
      clear h1
      go_wp2_with fail
      refine (nsp _ A4.mach A4.menu).mono ?_
      rintro e w5 ⟨rfl, hb5⟩
      go_wp2
      go_ret
      exact ⟨rfl, bt hbw4 hb5⟩
    | true =>
      have H1 := Lib.hid h1
      clear h1
      go_wp2_with fail
      refine (implMenuValid_any am cm ms _ A4.menu hsl (by omega)).mono ?_
      rintro e w5 ⟨rfl, hb5⟩
      have A5 := A4.below hb5
      have hbw5 := bt hbw4 hb5
      clear A4 hbw4 hb5 f0 f1 f2 f3
      have f0 := A5.box.at_ (i := 0) rfl
      have f1 := A5.box.at_ (i := 1) rfl
      have f2 := A5.box.at_ (i := 2) rfl
      have f3 := A5.box.at_ (i := 3) rfl
      cases h2 : menuB ms with
      | false =>
        clear h2
        go_wp2_with fail
        refine (nsp _ A5.mach A5.menu).mono ?_
        rintro e w6 ⟨rfl, hb6⟩
        go_wp2
        go_ret
        exact ⟨rfl, bt hbw5 hb6⟩
      | true =>
        have H2 := Lib.hid h2
        clear h2
        have hTL := HHI.out H1.out H2.out
        have hcn := cenN_lt ms
        have hT10 : T.size ≤ 10 := by
          rw [hTL, size_wd]
          exact Nat.le_trans (List.length_filter_le _ _) (by simp)
        have HASC : Hid (ascT T) := Lib.hid (by rw [hTL]; exact hyp_ascT)
        have HIX : Hid (∀ k : Nat, k < 10 → decide (0 ≤ Lib.indexByte (L T) (letr (k : Int))) = oneB (impG m v ms (cenN ms) k)) := Lib.hid (fun k hk => by
          rw [Bool.eq_iff_iff, decide_eq_true_eq, hTL, find_iff hk hyp_lt, hyp_mem hk])
        clear nsp hTL HT HHI f0 f1 f2 f3
        go_wp2_with fail
        refine (implCentralLetter_yes am cm ms _ A5.menu hsl (by omega) H2.out).mono ?_
        rintro e w6 ⟨rfl, hb6⟩
        have A6 := A5.below hb6
        have hbw6 := bt hbw5 hb6
        clear A5 hbw5 hb6
        obtain ⟨cc, hcc⟩ : ∃ cc, cc = wd [cenN ms] := ⟨_, rfl⟩
        rw [← hcc]
        have HCC := Lib.hid hcc
        have hcs : cc.size = 1 := by rw [hcc]; exact size_wd _
        have HCS := Lib.hid hcs
        clear hcc hcs
        go_wp2_with fail
        go_loopw [8, 9, 10, 11] (fun i _ _ _ wr => ∃ k : Nat, k ≤ 10 ∧ i = .int .i64 k ∧ LAt wr B1 a1 cap1 m am ms ∧ Below w.heap.size w wr) (fun i _ _ _ _ => 10 - (intOf i).toNat)
        case atStart => exact ⟨0, Nat.zero_le _, rfl, A6, hbw6⟩
        case round =>
          clear A6 hbw6
          obtain ⟨k, hk, rfl, A6, hbw6⟩ := hrel
          by_cases hlt : k < 10
          · have tk : decide ((k : Int) < 10) = true := decide_eq_true (by omega)
            have hz0 := A6.box.lt
            go_wp2_with fail
            refine (rcLetter_any k _ (by omega)).mono ?_
            rintro e w7 ⟨rfl, hb7⟩
            have A7 := A6.below hb7
            have hbw7 := bt hbw6 hb7
            clear A6 hbw6 hb7
            rw [show S [letr (k : Int)] = wd [k] from rfl]
            have hcat : cc ++ wd [k] = wd [cenN ms, k] := by rw [HCC.out]; exact wd_app _ _
            have hsum : cc.size + (wd [k]).size ≤ 9223372036854775807 := by rw [HCS.out, size_wd]; simp
            have hdg : dg (wd [cenN ms, k]) = [cenN ms, k] := dg2 hcn hlt
            have himp : impT m v ms (cc ++ wd [k]) = (impP (impG m v ms (cenN ms) k) 10).map pw := by
              rw [hcat, impT_is H1.out H2.out pairB_wd, hdg]
              rfl
            have hiz : (cc ++ wd [k]).size ≤ 4294967296 := by rw [ByteArray.size_append, HCS.out, size_wd]; simp
            have nip := fun W h1 h2 => implImpliedPairs_any a1 cap1 m v am cm ms (cc ++ wd [k]) W h1 (by omega) h2 hsl (by omega) hiz
            rw [himp, List.length_map] at nip
            have HBR := Lib.hid (@brd_impP (impG m v ms (cenN ms) k) (impG_symm m v ms (cenN ms) k))
            have HRG := Lib.hid (fun z (hz : z ∈ impP (impG m v ms (cenN ms) k) 10) => show z.1 < 10 ∧ z.2 < 10 by
              have := mem_impP.1 hz
              omega)
            have hpl := impP_len (impG m v ms (cenN ms) k) 10
            have hik := HIX.out k hlt
            generalize impP (impG m v ms (cenN ms) k) 10 = ps at *
            have f0 := A7.box.at_ (i := 0) rfl
            have f1 := A7.box.at_ (i := 1) rfl
            have f2 := A7.box.at_ (i := 2) rfl
            have f3 := A7.box.at_ (i := 3) rfl
            clear hcat himp hdg hiz
            have hk0 : 0 < (wd [k]).size := by rw [size_wd]; simp
            have hkb : (wd [k])[0]'hk0 = letr (k : Int) := by rw [getElem_L]; simp only [wd, L_S]; rfl
            have nf := fun W => rcFind_any T (letr (k : Int)) W (by omega)
            rw [← hkb] at nf hik
            clear hkb
            generalize hkk : wd [k] = kk at *
            go_wp2_with fail
            refine (nip _ A7.mach A7.menu).mono ?_
            rintro e w8 ⟨lv, rfl, ol, hb8⟩
            obtain ⟨al, cl, rfl, hlc, hrl, -⟩ := OwR.val ol
            have A8 := A7.below hb8
            have hbw8 := bt hbw7 hb8
            clear A7 hbw7 hb8 ol hlc nip f0 f1 f2 f3
            have npb := implPairsBoard_any al cl ps w8 hrl HRG.out (by omega)
            rw [HBR.out] at npb
            have hok := brdT_ok (impG m v ms (cenN ms) k)
            rw [hok] at npb
            clear hok HBR hkk
            generalize oneB (impG m v ms (cenN ms) k) = ob at *
            generalize (brdT (impG m v ms (cenN ms) k)).1 = btx at *
            generalize Lib.indexByte (L T) (kk[0]'hk0) = ix at *
            go_wp2_with fail
            refine npb.mono ?_
            rintro e w9 ⟨rfl, hb9⟩
            have A9 := A8.below hb9
            have hbw9 := bt hbw8 hb9
            clear A8 hbw8 hb9 hrl npb
            go_wp2_with (go_at_call 50; ((with_reducible refine (nf _).mono ?_); rintro e w' ⟨rfl, rfl⟩))
            go_roundw
            case rel => exact ⟨k + 1, by omega, by go_num, A9, hbw9⟩
            case measure => simp [intOf]; omega
          · have tk : decide ((k : Int) < 10) = false := decide_eq_false (by omega)
            clear A6
            go_wp2_with fail
            go_loopw [12] (fun i wr => ∃ k : Nat, 1 ≤ k ∧ k ≤ T.size + 1 ∧ i = .int .i64 (k : Int) ∧ Below w.heap.size w wr) (fun i _ => T.size + 1 - (intOf i).toNat)
            case atStart => exact ⟨1, Nat.le_refl _, by omega, rfl, hbw6⟩
            case round =>
              clear hbw6
              obtain ⟨k, hk1, hk2, rfl, hbw6⟩ := hrel
              by_cases hlt2 : k < T.size
              · have tk2 : decide ((k : Int) < (T.size : Int)) = true := decide_eq_true (by omega)
                have ha := HASC.out k hlt2 (by omega)
                have ta := decide_eq_false ha
                have hw1 : IntKind.i64.wrap ((k : Int) - 1) = ((k - 1 : Nat) : Int) := by rw [IntWalk.i64_in _ (by omega)]; omega
                have q0 : (0 : Int) ≤ (k : Int) := by omega
                have q1 : (k : Int) < (T.size : Int) := by omega
                have q2 : (0 : Int) ≤ ((k - 1 : Nat) : Int) := by omega
                have q3 : ((k - 1 : Nat) : Int) < (T.size : Int) := by omega
                clear ha
                go_wp2_with fail
                go_quiet (fail)
                have hbq := bel_drewM wr nq
                have hbw7 := bt hbw6 hbq
                clear hbw6 hbq
                generalize wr.drewN nq = w7 at *
                go_wp2
                go_roundw
                case rel => exact ⟨k + 1, by omega, by omega, by go_num, hbw7⟩
                case measure => simp [intOf]; omega
              · have tk2 : decide ((k : Int) < (T.size : Int)) = false := decide_eq_false (by omega)
                go_wp2
                go_ret
                exact ⟨rfl, hbw6⟩
end Go.Proofs.YtdmnkcmkpjmfaaaGreat
