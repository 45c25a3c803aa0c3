/- Several of my texts in one: MkW. -/
import Derived.Test.YtdmnkcmkpjmfaaaGreatM38
import Derived.Deep.RegionLaw
/- The walk of the law that a machine with a returned plugboard keeps the links of the central letter's part. -/
namespace Go.Proofs.YtdmnkcmkpjmfaaaGreat
open Go.RowKit
attribute [local go_sem] Oper.semAt_some

theorem find_iff {l : List Nat} {x : Nat} (hx : x < 10) (hl : ∀ a ∈ l, a < 10) : 0 ≤ Lib.indexByte (L (wd l)) (letr (x : Int)) ↔ x ∈ l := ⟨find_in hx hl, find_wd⟩
/-- With a board a machine keeps the links of the part with the central letter. -/
def keepB (m : Mach) (v : ByteArray) (ms : List Lnk) (B : ByteArray) : Prop := ∀ ps, Parts ms ps → ∀ p ∈ ps, cenN ms ∈ p → chkT (plugM m B) v (subM ms p) = true
theorem mbd_some {m : Mach} {v : ByteArray} {ms : List Lnk} (h : (mbdT m v ms).length ≠ 0) : setB m v = true ∧ menuB ms = true := by
  unfold mbdT at h
  split at h
  · rename_i hc; simpa using hc
  · simp at h
theorem mbd_keep {m : Mach} {v : ByteArray} {ms : List Lnk} {B : ByteArray} (h : B ∈ mbdT m v ms) : keepB m v ms B := by
  have hne : (mbdT m v ms).length ≠ 0 := by have := List.length_pos_of_mem h; omega
  obtain ⟨h1, h2⟩ := mbd_some hne
  have e : mbdT m v ms = (hypL m v ms).map fun y => wd (boardL (impG m v ms (cenN ms) y)) := by
    unfold mbdT; rw [if_pos (by rw [h1, h2]; rfl)]
  rw [e] at h
  obtain ⟨y, hy, rfl⟩ := List.mem_map.1 h
  exact fun ps hp p hpm hc => subM_chk h1 h2 hp hpm hc hy
theorem subM_take {ms : List Lnk} {k : Nat} (h : k < ms.length) (p : List Nat) : subM (ms.take (k + 1)) p = subM (ms.take k) p ++ if lkA ms[k].p ∈ p then [ms[k]] else [] := by
  unfold subM
  rw [List.take_succ_eq_append_getElem h, List.filter_append]
  congr 1
  by_cases hp : lkA ms[k].p ∈ p <;> simp [hp]
theorem subM_len (ms : List Lnk) (p : List Nat) : (subM ms p).length ≤ ms.length := List.length_filter_le _ _
theorem MachAt.plug {w : World} {B : Nat} {a : Option Addr} {n : Nat} {m : Mach} (h : MachAt w B a n m) {Y : ByteArray} (hY : Y.size ≤ 4294967296) : MachAt w B a n (plugM m Y) := ⟨h.whl, h.rings, hY⟩
set_option maxRecDepth 100000 in
set_option maxHeartbeats 40000000 in
theorem menuBoardsKeep_walk (a : Option Addr) (len cap : Nat) (zs : List Int) (w : World) (h : IsRow .u8 w a len cap zs) :
    Calls Tryz.prog 20 #[.slice a len cap] w fun e w' => e = .returned (.bool true) ∧ Below w.heap.size w w' := by
  have hlen : len ≤ 9223372036854775807 := by
    rcases h with ⟨_, rfl, _⟩ | ⟨x, _, hl, hm, _⟩
    · omega
    · unfold maxLen at hm; omega
  by_cases hl : 1048576 < len
  · go_enter Tryz.func20, Tryz.ntmps20
    go_wp2
    go_ret
    exact ⟨rfl, Below.refl _ _⟩
  · go_enter Tryz.func20, Tryz.ntmps20
    go_wp2_with fail
    refine (DrawMenuBoards_any a len cap zs _ h (by omega)).mono ?_
    rintro e w1 ⟨m, v, ms, a1, am, cap1, cm, ⟨hsm, hrd, -, hb1⟩, hv, hst, hl24, hrm, rfl⟩
    have o1 := Own.new w1 [.slice a1 m.wheels.rotors.length cap1, .string m.wheels.refl, .string m.rings, .string m.plugs] 36
    have hba : Below w1.heap.size w1 (w1.alloc (.cells [.slice a1 m.wheels.rotors.length cap1, .string m.wheels.refl, .string m.rings, .string m.plugs].toArray 36)) := (Below.refl _ _).alloc (Nat.le_refl _) _
    have hbw1 := hb1.alloc hb1.size (.cells [.slice a1 m.wheels.rotors.length cap1, .string m.wheels.refl, .string m.rings, .string m.plugs].toArray 36)
    have A1 : LAt (w1.alloc (.cells [.slice a1 m.wheels.rotors.length cap1, .string m.wheels.refl, .string m.rings, .string m.plugs].toArray 36)) w1.heap.size a1 cap1 m am ms := ⟨o1, (hsm.at_ hrd).alloc_ _, (hrm.below hba (Nat.le_refl _)).more hba.size⟩
    have hsl := hst.smL
    clear hrd hb1 h hsm hrm hba o1
    go_wp2_with fail
    generalize (w1.alloc (.cells [.slice a1 m.wheels.rotors.length cap1, .string m.wheels.refl, .string m.rings, .string m.plugs].toArray 36)) = W1 at *
    generalize w1.heap.size = B1 at *
    have f0 := A1.box.at_ (i := 0) rfl
    have f1 := A1.box.at_ (i := 1) rfl
    have f2 := A1.box.at_ (i := 2) rfl
    have f3 := A1.box.at_ (i := 3) rfl
    refine (implMenuBoards_any a1 cap1 m v am cm ms _ A1.mach (by omega) A1.menu hsl (by omega)).mono ?_
    rintro e w2 ⟨lv, rfl, ol, hb2⟩
    obtain ⟨al, cl, rfl, hlc, hrl, -⟩ := OwR.val ol
    have A2 := A1.below hb2
    have hbw2 := bt hbw1 hb2
    clear A1 hbw1 ol hlc hb2 f0 f1 f2 f3
    have f0 := A2.box.at_ (i := 0) rfl
    have f1 := A2.box.at_ (i := 1) rfl
    have f2 := A2.box.at_ (i := 2) rfl
    have f3 := A2.box.at_ (i := 3) rfl
    have nsp := fun W h1 h2 => specMenuBoards_any a1 cap1 m v am cm ms W h1 (by omega) h2 (by omega)
    go_wp2_with fail
    refine (nsp _ A2.mach A2.menu).mono ?_
    rintro e w3 ⟨lv, rfl, ol, hb3⟩
    obtain ⟨al3, cl3, rfl, hlc, hrl3, -⟩ := OwR.val ol
    have A3 := A2.below hb3
    have hbw3 := bt hbw2 hb3
    have hrl' := (hrl.below hb3 (Nat.le_refl _)).more hb3.size
    clear A2 hbw2 ol hlc hb3 hrl f0 f1 f2 f3
    have HKB := Lib.hid (fun B (hB : B ∈ mbdT m v ms) => mbd_keep hB)
    have HSOME := Lib.hid (@mbd_some m v ms)
    have hlz : (mbdT m v ms).length ≤ 10 := by
      have := @boards_at m v ms
      omega
    have HSZ := Lib.hid (fun k (h : k < (mbdT m v ms).length) => ((@boards_at m v ms).2.2 k h).1)
    generalize mbdT m v ms = ls at *
    go_wp2_with fail
    have hrt := rcTexts_any al al3 cl cl3 ls ls w3 hrl' hrl3 (by omega)
    rw [decide_eq_true rfl] at hrt
    refine hrt.mono ?_
    rintro e w' ⟨rfl, n4, rfl⟩
    have hb4 := bel_drewM w3 n4
    generalize w3.drewN n4 = w4 at *
    have A4 := A3.below hb4
    have hbw4 := bt hbw3 hb4
    have hrl4 := (hrl'.below hb4 (Nat.le_refl _)).more hb4.size
    clear A3 hbw3 hrl' hrl3 hrt hb4 n4
    have f0 := A4.box.at_ (i := 0) rfl
    have f1 := A4.box.at_ (i := 1) rfl
    have f2 := A4.box.at_ (i := 2) rfl
    have f3 := A4.box.at_ (i := 3) rfl
    by_cases hz : ls.length = 0
    · have tz : ((ls.length : Int) == 0) = true := by simp [hz]
      clear hz
      go_wp2_with fail
      refine (nsp _ A4.mach A4.menu).mono ?_
      rintro e w5 ⟨lv, rfl, ol, hb5⟩
      obtain ⟨al5, cl5, rfl, hlc5, hrl5, -⟩ := OwR.val ol
      have hrl6 := (hrl4.below hb5 (Nat.le_refl _)).more hb5.size
      have hbw5 := bt hbw4 hb5
      go_wp2_with fail
      have hrt := rcTexts_any al al5 cl cl5 ls ls w5 hrl6 hrl5 (by omega)
      rw [decide_eq_true rfl] at hrt
      refine hrt.mono ?_
      rintro e w' ⟨rfl, n6, rfl⟩
      go_wp2
      go_ret
      exact ⟨rfl, bel_drewN hbw5 n6⟩
    · have tz : ((ls.length : Int) == 0) = false := by rw [beq_eq_false_iff_ne]; omega
      obtain ⟨h1, h2⟩ := HSOME.out hz
      have H1 := Lib.hid h1
      have H2 := Lib.hid h2
      have hfew := (menuB_asc h2).few
      have HLK := Lib.hid (menuB_lnk h2)
      have HCP := Lib.hid (fun ps (hp : Parts ms ps) => cen_part h2 hp)
      have hcn := cenN_lt ms
      have HCAT : Hid (∀ h, (wd [cenN ms])[0]'h = letr (cenN ms : Int)) := Lib.hid (fun h => by rw [getElem_L]; simp only [wd, L_S]; rfl)
      clear hz h1 h2 nsp f0 f1 f2 f3 HSOME
      have z9 := World.ownsRow_lit (base := w4.heap.size) (e := 72) (size := 3) w4 #[] 0 (Nat.le_refl _) (by unfold maxLen; omega) (by simp)
      have hb8 := (Below.refl w4.heap.size w4).alloc (Nat.le_refl _) (.cells #[] 72)
      have hlo := A4.box.lt
      have HA := Lib.hid (fun (W' : World) (hb : Below w4.heap.size w4 W') => A4.below hb)
      have HRL := Lib.hid (fun (W' : World) (hb : Below w4.heap.size w4 W') => (hrl4.below hb (Nat.le_refl _)).more hb.size)
      have HWW := Lib.hid hbw4
      clear A4 hrl4 hbw4
      go_wp2_with fail
      generalize hW8 : (w4.alloc (.cells #[] 72)) = W8 at *
      have hW8s : W8.heap.size = w4.heap.size + 1 := by rw [← hW8]; simp
      clear hW8
      generalize hBL : w4.heap.size = BL at *
      have z9' : OwR W8 BL 72 3 (.slice (some ⟨BL, 0, none⟩) 0 0) 0 (lks []) := z9
      clear z9
      refine (implMenuParts_yes am cm ms W8 (HA.out _ hb8).menu hsl (by omega) H2.out).mono ?_
      rintro e w9 ⟨ps, hps, lv, rfl, ol, hb9⟩
      obtain ⟨i0, hi0, hc0, hun⟩ := HCP.out ps hps
      obtain ⟨ap, cp, rfl, hcp, -, hor⟩ := OwR.val ol
      rcases hor with hor | ⟨gp, rfl, hgp, oP⟩
      · omega
      have HPS := Lib.hid hps
      have hpsl := hps.few
      have HI0 := Lib.hid hi0
      obtain ⟨p0, hp0⟩ : ∃ p0, p0 = ps[i0] := ⟨_, rfl⟩
      replace hc0 : cenN ms ∈ p0 := by rw [hp0]; exact hc0
      have hpm0 : p0 ∈ ps := by rw [hp0]; exact List.getElem_mem _
      have HP0 : Hid (∀ k (h : k < ps.length), k = i0 → ps[k] = p0) := Lib.hid (fun k h e => by subst e; exact hp0.symm)
      have HC0 := Lib.hid hc0
      have HUN := Lib.hid hun
      have z10 := OwR.below z9' hb9 (Nat.le_refl _)
      have hb10 : Below BL w4 w9 := hb8.trans (hb9.mono (by omega))
      have lgp := oP.lt
      clear hp0 hps hi0 hc0 hun z9' hb8 hb9 ol hcp
      have HCK : Hid (∀ B ∈ ls, chkT (plugM m B) v (subM ms p0) = true) := Lib.hid (fun B hB => HKB.out B hB ps HPS.out _ hpm0 HC0.out)
      go_wp2_with fail
      go_loopw [7, 9, 10] (fun u i _ wr => ∃ (k : Nat) (ts : List Lnk) (gm c2 : Nat), k ≤ ps.length ∧ i = .int .i64 k ∧ ts = (if i0 < k then subM ms p0 else []) ∧ gm ≠ gp ∧ ts.length ≤ 12 ∧ u = .slice (some ⟨gm, 0, none⟩) ts.length c2 ∧ OwR wr BL 72 3 (.slice (some ⟨gm, 0, none⟩) ts.length c2) ts.length (lks ts) ∧ Own wr gp (sv (pts ps)) ∧ Below BL w4 wr) (fun _ i _ _ => ps.length - (intOf i).toNat)
      case atStart => exact ⟨0, [], BL, 0, Nat.zero_le _, rfl, by rw [if_neg (by omega)], by omega, by simp, rfl, z10, oP, hb10⟩
      case round =>
        clear z10 oP hb10
        obtain ⟨k, ts, gm, c2, hk, rfl, hts, hgm, htl, rfl, hrow, oP, hb⟩ := hrel
        have HTS := Lib.hid hts
        clear hts
        by_cases hlt : k < ps.length
        · have tk : decide ((k : Int) < (ps.length : Int)) = true := decide_eq_true (by omega)
          obtain ⟨p, hP⟩ : ∃ p, p = ps[k] := ⟨_, rfl⟩
          have hpm : p ∈ ps := by rw [hP]; exact List.getElem_mem _
          have hlp : k < (pts ps).length := by rw [len_pts]; exact hlt
          have c2' := oP.at_ (sv_at hlp)
          rw [show (pts ps)[k] = wd p by rw [hP]; simp [pts]] at c2'
          have hpl := HPS.out.low p hpm
          have hpsz : (wd p).size ≤ 10 := by rw [size_wd]; exact hpl
          have HUNK : Hid (cenN ms ∈ p → k = i0) := Lib.hid (fun h => HUN.out k hlt (by rw [← hP]; exact h))
          have HPK : Hid (k = i0 → p = p0) := Lib.hid (fun e => by rw [hP]; exact HP0.out k hlt e)
          have HC0K : Hid (k = i0 → cenN ms ∈ p) := Lib.hid (fun e => by rw [HPK.out e]; exact HC0.out)
          have hx0 : 0 < (wd [cenN ms]).size := by rw [size_wd]; simp
          have nf := fun W => rcFind_any (wd p) (letr (cenN ms : Int)) W (by omega)
          rw [← HCAT.out hx0] at nf
          have HFI : Hid (0 ≤ Lib.indexByte (L (wd p)) ((wd [cenN ms])[0]'hx0) ↔ cenN ms ∈ p) := Lib.hid (by
            rw [HCAT.out]
            exact find_iff hcn (HPS.out.rng p hpm))
          have hzr : BL ≤ wr.heap.size := by have := hb.size; omega
          have nc := fun (cc : Cls wr.heap.size wr) => implCentralLetter_yes am cm ms cc.w (HA.out cc.w (hb.trans (cc.bel.mono hzr))).menu hsl (by omega) H2.out
          have q2 : (0 : Int) ≤ (k : Int) := by omega
          have q3 : (k : Int) < (ps.length : Int) := by omega
          have d5 := fun (cc : Cls wr.heap.size wr) => (cc.cell gp k oP.lt).trans c2'
          clear hP hlp
          generalize Lib.indexByte (L (wd p)) ((wd [cenN ms])[0]'hx0) = ix at *
          go_wp2_with fail
          refine wp_region_cls (by kernel_rfl) (by kernel_rfl) ?_
          repeat (go_big_quiet_step (first | (go_at_call 47; with_reducible exact cls_of (Nat.le_refl _) (nc _)) | (go_at_call 50; with_reducible exact cls_same (nf _))))
          refine wpQuiet_nil ?_
          intro wc hbc
          have hrow9 := OwR.below hrow hbc (Nat.le_refl _)
          have oP9 := oP.below hbc oP.lt
          have hb9 := hb.trans (hbc.mono hzr)
          clear hrow oP hb hbc nf nc d5 c2'
          rename World => w9
          by_cases hx : 0 ≤ ix
          · have tx : decide (0 ≤ ix) = true := decide_eq_true hx
            have hcm := HFI.out.1 hx
            have hki := HUNK.out hcm
            have hts0 : ts = [] := by rw [HTS.out, if_neg (by omega)]
            subst hts0
            have hpe := HPK.out hki
            have HKI := Lib.hid hki
            clear HTS htl HUNK HPK HC0K HFI hki
            subst hpe
            go_wp2_with fail
            clear tx hx
            rename 0 ≤ ix => hq9
            clear hq9
            go_loopw [7, 10] (fun u i wr => ∃ (j : Nat) (ts : List Lnk) (gm c2 : Nat), j ≤ ms.length ∧ i = .int .i64 j ∧ ts = subM (ms.take j) p ∧ gm ≠ gp ∧ u = .slice (some ⟨gm, 0, none⟩) ts.length c2 ∧ OwR wr BL 72 3 (.slice (some ⟨gm, 0, none⟩) ts.length c2) ts.length (lks ts) ∧ Own wr gp (sv (pts ps)) ∧ Below BL w4 wr) (fun _ i _ => ms.length - (intOf i).toNat)
            case atStart => exact ⟨0, [], gm, c2, Nat.zero_le _, rfl, by simp [subM], hgm, rfl, hrow9, oP9, hb9⟩
            case round =>
              clear hrow9 oP9 hb9 hgm
              obtain ⟨j, ts, gm, c2, hj, rfl, hts, hgm, rfl, hrow, oP, hb⟩ := hrel
              have htl : ts.length ≤ 12 := by
                have := subM_len (ms.take j) p
                rw [← hts, List.length_take] at this
                omega
              have HTS := Lib.hid hts
              clear hts
              by_cases hlt2 : j < ms.length
              · have tj : decide ((j : Int) < (ms.length : Int)) = true := decide_eq_true (by omega)
                obtain ⟨b, off, rfl, hbl, hcl⟩ := (HA.out _ hb).menu.open_ (by rw [len_lks]; omega)
                have g0 := hcl (j * 3) (by rw [len_lks]; omega)
                have g1 := hcl (j * 3 + 1) (by rw [len_lks]; omega)
                have g2 := hcl (j * 3 + 2) (by rw [len_lks]; omega)
                rw [lks_at0 _ _ hlt2] at g0
                rw [lks_at1 _ _ hlt2, ← Nat.add_assoc] at g1
                rw [lks_at2 _ _ hlt2, ← Nat.add_assoc] at g2
                have hok := HLK.out ms[j] (List.getElem_mem hlt2)
                have HSB := Lib.hid (subM_take hlt2 p)
                clear hcl
                generalize ms[j] = x at *
                have hx1 := hok.p1
                have hxl := hok.pl
                have s1 : 0 < x.p.size := by omega
                have hxb : x.p[0]'s1 = letr (lkA x.p : Int) := by
                  have hw2 := word_two hok.wd
                  obtain ⟨d1, -, d3⟩ := lk_letter hx1 hw2.1
                  rw [← d1]
                  have hi : isL (x.p[0]'s1) = true := hw2.1 _ (by rw [getElem_L]; exact List.getElem_mem _)
                  have h5 := (isL_iff _).1 hi
                  exact (letr_dig ⟨h5.1, h5.2⟩).symm
                have nf := fun W => rcFind_any (wd p) (x.p[0]'s1) W (by omega)
                have HFI : Hid (0 ≤ Lib.indexByte (L (wd p)) (x.p[0]'s1) ↔ lkA x.p ∈ p) := Lib.hid (by
                  rw [hxb]
                  exact find_iff hxl (HPS.out.rng p hpm))
                have hlp : k < (pts ps).length := by rw [len_pts]; exact hlt
                have c2' := oP.at_ (sv_at hlp)
                rw [show (pts ps)[k] = wd p by rw [← HP0.out k hlt HKI.out]; simp [pts]] at c2'
                have hzr : BL ≤ wr.heap.size := by have := hb.size; omega
                have q4 : (0 : Int) ≤ (j : Int) := by omega
                have q5 : (j : Int) < (ms.length : Int) := by omega
                have d5 := fun (cc : Cls wr.heap.size wr) => (cc.cell gp k oP.lt).trans c2'
                have d6 := fun (cc : Cls wr.heap.size wr) => (cc.cell b (off + j * 3) hbl).trans g0
                have G0 := Lib.hid g0
                have G1 := Lib.hid g1
                have G2 := Lib.hid g2
                clear hok hxb hlp hx1 g0 g1 g2
                generalize Lib.indexByte (L (wd p)) (x.p[0]'s1) = iy at *
                go_wp2_with fail
                refine wp_region_cls (by kernel_rfl) (by kernel_rfl) ?_
                repeat (go_big_quiet_step (first | (go_at_call 50; with_reducible exact cls_same (nf _))))
                refine wpQuiet_nil ?_
                intro wc hbc
                have hrow9 := OwR.below hrow hbc (Nat.le_refl _)
                have oP9 := oP.below hbc oP.lt
                have hb9 := hb.trans (hbc.mono hzr)
                have g0 := (hbc.cell hbl).trans G0.out
                have g1 := (hbc.cell hbl).trans G1.out
                have g2 := (hbc.cell hbl).trans G2.out
                have hzw : BL ≤ wc.heap.size := by have := hbc.size; omega
                have hgpw := oP9.lt
                clear hrow oP hb hbc nf d5 d6 c2' G0 G1 G2
                rename World => w9
                by_cases hy : 0 ≤ iy
                · have ty : decide (0 ≤ iy) = true := decide_eq_true hy
                  have HNX : Hid (subM (ms.take (j + 1)) p = ts ++ [x]) := Lib.hid (by rw [HSB.out, ← HTS.out, if_pos (HFI.out.1 hy)])
                  have hlk : lks (ts ++ [x]) = lks ts ++ [.string x.p, .string x.c, .int .i64 x.k] := by rw [lks_append]; rfl
                  have HLKS := Lib.hid hlk
                  clear hlk HSB HTS HFI
                  go_wp2_with ((at_builtin; ((with_reducible refine wl_pushG 38 72 inf_lnk Tryz.underlying38 rfl (by omega) hrow9 hzw rfl (one_lnk _ _ _) (by omega) (by omega) rfl rfl ?_); intro g7 cap7 w7 o7 m7 n7 z7 k7)))
                  have oP7 := oP9.grownO m7 (by simp [Value.ownBlock]; exact hgm)
                  have hb7 := hb9.grown m7 hzw (fun y e => by have := (World.ownsRow.lt hrow9 y e).1; omega)
                  have hg7 : g7 ≠ gp := by
                    rcases n7 with h | h
                    · simp [Value.ownBlock] at h; omega
                    · omega
                  clear oP9 hb9 hrow9 m7 n7 k7 g0 g1 g2
                  go_roundw
                  case rel =>
                    have hln : (ts ++ [x]).length = ts.length + 1 := by simp
                    rw [← HLKS.out, ← hln] at o7
                    exact ⟨j + 1, ts ++ [x], g7, cap7, by omega, by go_num, HNX.out.symm, hg7, by rw [hln], o7, oP7, hb7⟩
                  case measure => simp [intOf]; omega
                · have ty : decide (0 ≤ iy) = false := decide_eq_false hy
                  have HNX : Hid (ts = subM (ms.take (j + 1)) p) := Lib.hid (by rw [HSB.out, ← HTS.out, if_neg (fun h => hy (HFI.out.2 h)), List.append_nil])
                  clear HSB HTS HFI
                  go_wp2
                  go_roundw
                  case rel => exact ⟨j + 1, ts, gm, c2, by omega, by go_num, HNX.out, hgm, rfl, hrow9, oP9, hb9⟩
                  case measure => simp [intOf]; omega
              · have tj : decide ((j : Int) < (ms.length : Int)) = false := decide_eq_false (by omega)
                have hj' : j = ms.length := by omega
                have HT2 : Hid (ts = (if i0 < k + 1 then subM ms p else [])) := Lib.hid (by rw [if_pos (by have := HKI.out; omega), HTS.out, hj', List.take_length])
                go_wp2
                go_roundw
                case rel => exact ⟨k + 1, ts, gm, c2, by omega, by go_num, HT2.out, hgm, htl, rfl, hrow, oP, hb⟩
                case measure => simp [intOf]; omega
          · have tx : decide (0 ≤ ix) = false := decide_eq_false hx
            have HT2 : Hid (ts = (if i0 < k + 1 then subM ms p0 else [])) := Lib.hid (by
              have hne : k ≠ i0 := fun e => hx (HFI.out.2 (HC0K.out e))
              rw [HTS.out]
              by_cases h : i0 < k
              · rw [if_pos h, if_pos (by omega)]
              · rw [if_neg h, if_neg (by omega)])
            go_wp2
            go_roundw
            case rel => exact ⟨k + 1, ts, gm, c2, by omega, by go_num, HT2.out, hgm, htl, rfl, hrow9, oP9, hb9⟩
            case measure => simp [intOf]; omega
        · have tk : decide ((k : Int) < (ps.length : Int)) = false := decide_eq_false (by omega)
          have hts2 : ts = subM ms p0 := by rw [HTS.out, if_pos (by have := HI0.out; omega)]
          have HCK2 : Hid (∀ B ∈ ls, chkT (plugM m B) v ts = true) := Lib.hid (by rw [hts2]; exact HCK.out)
          have hslt : SmL ts := fun x hx => by
            rw [hts2] at hx
            exact hsl x (List.mem_filter.1 hx).1
          clear hts2 HTS HCK oP
          go_wp2_with fail
          go_loopw [11, 12] (fun i _ wr => ∃ k : Nat, k ≤ ls.length ∧ i = .int .i64 k ∧ OwR wr BL 72 3 (.slice (some ⟨gm, 0, none⟩) ts.length c2) ts.length (lks ts) ∧ Below BL w4 wr) (fun i _ _ => ls.length - (intOf i).toNat)
          case atStart => exact ⟨0, Nat.zero_le _, rfl, hrow, hb⟩
          case round =>
            clear hrow hb
            obtain ⟨k, hk, rfl, hrow, hb⟩ := hrel
            by_cases hlt3 : k < ls.length
            · have tk3 : decide ((k : Int) < (ls.length : Int)) = true := decide_eq_true (by omega)
              have A := HA.out wr hb
              obtain ⟨b, off, rfl, hbl, hcl⟩ := (HRL.out wr hb).cells (by simp [sv]; omega)
              obtain ⟨Y, hY⟩ : ∃ Y, Y = ls[k] := ⟨_, rfl⟩
              have c0 := hcl.at_ (i := k) (sv_at hlt3)
              rw [← hY] at c0
              have hys : Y.size = 10 := by rw [hY]; exact HSZ.out k hlt3
              have HCY : Hid (chkT (plugM m Y) v ts = true) := Lib.hid (HCK2.out Y (by rw [hY]; exact List.getElem_mem _))
              have HYS := Lib.hid hys
              have q0 : (0 : Int) ≤ (k : Int) := by omega
              have q1 : (k : Int) < (ls.length : Int) := by omega
              have f0 := A.box.at_ (i := 0) rfl
              have f1 := A.box.at_ (i := 1) rfl
              have f2 := A.box.at_ (i := 2) rfl
              have f3 := A.box.at_ (i := 3) rfl
              have hzr : BL ≤ wr.heap.size := by have := hb.size; omega
              have hR2 : wr.rangeAt B1 0 [.slice a1 m.wheels.rotors.length cap1, .string m.wheels.refl] := (A.box.cells.sub 0 2 (by simp)).range
              have HSS : Hid (∀ W' : World, Below wr.heap.size wr W' → W'.rangeAt B1 0 [.slice a1 m.wheels.rotors.length cap1, .string m.wheels.refl] ∧ W'.cell? ⟨B1, 2, none⟩ = some (.string m.rings) ∧ W'.cell? ⟨b, off + k, none⟩ = some (.string Y)) := Lib.hid (fun W' hb => ⟨((A.box.below hb A.box.lt).cells.sub 0 2 (by simp)).range, (A.box.below hb A.box.lt).at_ (i := 2) rfl, (hb.cell hbl).trans c0⟩)
              clear hcl hY hys A f0 f1 f2 f3 c0 hR2
              go_wp2_with fail
              refine wp_onlyN ?_
              refine wp_region_any (by kernel_rfl) ?_
              refine wpAny_of_K (S := fun w' => w'.rangeAt B1 0 [.slice a1 m.wheels.rotors.length cap1, .string m.wheels.refl] ∧ w'.cell? ⟨B1, 2, none⟩ = some (.string m.rings) ∧ w'.cell? ⟨b, off + k, none⟩ = some (.string Y)) (kp := fun _ => true) _ _ _ _ ?_
              have hbd : Below wr.heap.size wr wr.drew := (Below.refl _ _).drew
              have hS := HSS.out wr.drew hbd
              refine kr_take 0 93 (v := .pointer (some ⟨B1, 0, none⟩)) rfl (by kernel_rfl) (by kernel_rfl) (by kernel_rfl) (by kernel_rfl) (fun _ _ _ h => by cases h.1) rfl hS (Or.inl ⟨by rfl, fun _ _ => by simp [go_sem]⟩) ?_; simp only [Act.put, List.setIfInBounds_toArray, List.set_cons_succ, List.set_cons_zero]
              refine kr_take 1 94 (v := .agg #[.slice a1 m.wheels.rotors.length cap1, .string m.wheels.refl]) rfl (by kernel_rfl) (by kernel_rfl) (by kernel_rfl) (by kernel_rfl) (fun _ _ _ h => by cases h.1) rfl hS (yieldsIf_load_mid (by rfl) _ _ rfl _ _ rfl _ _ (fun _ h => h.1) Tryz.underlying34 rfl (by kernel_rfl)) ?_; simp only [Act.put, List.setIfInBounds_toArray, List.set_cons_succ, List.set_cons_zero]
              refine kr_take 2 95 (v := .pointer (some ⟨B1, 2, none⟩)) rfl (by kernel_rfl) (by kernel_rfl) (by kernel_rfl) (by kernel_rfl) (fun _ _ _ h => by cases h.1) rfl hS (Or.inl ⟨by rfl, fun _ _ => by simp [go_sem]⟩) ?_; simp only [Act.put, List.setIfInBounds_toArray, List.set_cons_succ, List.set_cons_zero]
              refine kr_take 3 96 (v := .string m.rings) rfl (by kernel_rfl) (by kernel_rfl) (by kernel_rfl) (by kernel_rfl) (fun _ _ _ h => by cases h.1) rfl hS (Or.inl ⟨by rfl, fun w' hw' => by have hw1 := hw'.2.1; simp [go_sem, hw1]⟩) ?_; simp only [Act.put, List.setIfInBounds_toArray, List.set_cons_succ, List.set_cons_zero]
              refine kr_take 4 97 (v := .slice (some ⟨b, off, none⟩) ls.length cl) rfl (by kernel_rfl) (by kernel_rfl) (by kernel_rfl) (by kernel_rfl) (fun _ _ _ h => by cases h.1) rfl hS (Or.inl ⟨by rfl, fun _ _ => rfl⟩) ?_; simp only [Act.put, List.setIfInBounds_toArray, List.set_cons_succ, List.set_cons_zero]
              refine kr_take 5 98 (v := .int .i64 (k : Int)) rfl (by kernel_rfl) (by kernel_rfl) (by kernel_rfl) (by kernel_rfl) (fun _ _ _ h => by cases h.1) rfl hS (Or.inl ⟨by rfl, fun _ _ => rfl⟩) ?_; simp only [Act.put, List.setIfInBounds_toArray, List.set_cons_succ, List.set_cons_zero]
              refine kr_take 6 99 (v := .pointer (some ⟨b, off + k, none⟩)) rfl (by kernel_rfl) (by kernel_rfl) (by kernel_rfl) (by kernel_rfl) (fun _ _ _ h => by cases h.1) rfl hS (Or.inl ⟨by rfl, fun w' hw' => by simp [go_sem, q0, q1]⟩) ?_; simp only [Act.put, List.setIfInBounds_toArray, List.set_cons_succ, List.set_cons_zero]
              refine kr_take 7 100 (v := .string Y) rfl (by kernel_rfl) (by kernel_rfl) (by kernel_rfl) (by kernel_rfl) (fun _ _ _ h => by cases h.1) rfl hS (Or.inl ⟨by rfl, fun w' hw' => by have hw1 := hw'.2.2; simp [go_sem, hw1]⟩) ?_; simp only [Act.put, List.setIfInBounds_toArray, List.set_cons_succ, List.set_cons_zero]
              refine kr_take 8 101 (v := .agg #[.slice a1 m.wheels.rotors.length cap1, .string m.wheels.refl, .string m.rings, .string Y]) rfl (by kernel_rfl) (by kernel_rfl) (by kernel_rfl) (by kernel_rfl) (fun _ _ _ h => by cases h.1) rfl hS (Or.inl ⟨by rfl, fun _ _ => by simp [go_sem]⟩) ?_; simp only [Act.put, List.setIfInBounds_toArray, List.set_cons_succ, List.set_cons_zero]
              refine kr_value 9 12 (v := .pointer (some ⟨wr.heap.size, 0, none⟩)) (w' := wr.drew.alloc (.cells #[.slice none 0 0, .string ⟨#[]⟩, .string ⟨#[]⟩, .string ⟨#[]⟩] 36)) (by kernel_rfl) rfl (by rfl) rfl (by simp [go_sem]) ⟨HSS.out _ (hbd.alloc hbd.size _), ?_⟩
              simp only [Act.put, List.setIfInBounds_toArray, List.set_cons_succ, List.set_cons_zero]
              refine kr_one 10 (by kernel_rfl) rfl (by rfl) ?_
              simp [Oper.wp, Oper.upon, go_sem]
              have hbA : Below wr.heap.size wr (wr.alloc (.cells #[.slice a1 m.wheels.rotors.length cap1, .string m.wheels.refl, .string m.rings, .string Y] 36)) := (Below.refl _ _).alloc (Nat.le_refl _) _
              refine ⟨HSS.out _ hbA, ?_⟩
              refine ⟨by kernel_rfl, onlyN_mk ?_⟩
              have o5 : Own (wr.alloc (.cells #[.slice a1 m.wheels.rotors.length cap1, .string m.wheels.refl, .string m.rings, .string Y] 36)).drew wr.heap.size [.slice a1 m.wheels.rotors.length cap1, .string m.wheels.refl, .string m.rings, .string Y] := (Own.new wr [.slice a1 m.wheels.rotors.length cap1, .string m.wheels.refl, .string m.rings, .string Y] 36).drew
              have hbB := hbA.drew
              have hb5 := hb.trans (hbB.mono hzr)
              have A5 := HA.out _ hb5
              have hrow5 := OwR.below hrow hbB (Nat.le_refl _)
              have hz5 : BL ≤ (wr.alloc (.cells #[.slice a1 m.wheels.rotors.length cap1, .string m.wheels.refl, .string m.rings, .string Y] 36)).drew.heap.size := by have := hb5.size; omega
              clear hS hbd hb hrow hbA hbB HSS
              generalize wr.heap.size = G at *
              generalize (wr.alloc (.cells #[.slice a1 m.wheels.rotors.length cap1, .string m.wheels.refl, .string m.rings, .string Y] 36)).drew = w5 at *
              have f0 := o5.at_ (i := 0) rfl
              have f1 := o5.at_ (i := 1) rfl
              have f2 := o5.at_ (i := 2) rfl
              have f3 := o5.at_ (i := 3) rfl
              have hrt : Reads w5 w5.heap.size (some ⟨gm, 0, none⟩) (lks ts) := by
                obtain ⟨a', c', he2, -, hrd, -⟩ := OwR.val hrow5
                injection he2 with ea _ ec
                subst ea
                exact hrd
              have ncm := implCheckMenu_any a1 m.wheels.rotors.length cap1 (plugM m Y) v (some ⟨gm, 0, none⟩) c2 ts w5 (A5.mach.plug (by have := HYS.out; omega)) (by omega) hrt hslt (by omega)
              rw [HCY.out] at ncm
              go_wp2_with fail
              refine ncm.mono ?_
              rintro e w6 ⟨rfl, hb6⟩
              have hrow6 := OwR.below hrow5 hb6 (Nat.le_refl _)
              have hb7 := hb5.trans (hb6.mono hz5)
              clear ncm hrt f0 f1 f2 f3 o5 A5
              go_wp2
              go_roundw
              case rel => exact ⟨k + 1, by omega, by go_num, hrow6, hb7⟩
              case measure => simp [intOf]; omega
            · have tk3 : decide ((k : Int) < (ls.length : Int)) = false := decide_eq_false (by omega)
              go_wp2
              go_ret
              exact ⟨rfl, bt HWW.out (by rw [hBL]; exact hb)⟩
end Go.Proofs.YtdmnkcmkpjmfaaaGreat
