/- Several of my texts in one: MtW. -/
import Derived.Test.YtdmnkcmkpjmfaaaGreatM37
import Derived.Test.YtdmnkcmkpjmfaaaGreatM30
import Derived.Lib.SlicesS
/- The walk of the law that the plugboard of a machine that keeps a menu agrees with a returned one. -/
namespace Go.Proofs.YtdmnkcmkpjmfaaaGreat
open Go.RowKit
attribute [local go_sem] Oper.semAt_some

theorem appV_wd {p l : List Nat} (hp : IsP p) (hl : ∀ a ∈ l, a < 10) (h200 : l.length ≤ 200) : appV (wd p) (wd l) = wd (l.map (pAt p)) := by
  rw [appV_yes (permB_wd hp) (word_wd h200), dg_wd hl, dg_wd hp.lt]
/-- A board does as the machine's plugboard to the letters that are connected with the central letter. -/
def truB (m : Mach) (ms : List Lnk) (B : ByteArray) : Prop := ∀ l : List Nat, (∀ a ∈ l, a < 10 ∧ Con ms (cenN ms) a) → l.length ≤ 200 → appV B (wd l) = appV m.plugs (wd l)
theorem board_true {m : Mach} {v : ByteArray} {ms : List Lnk} (hs : setB m v = true) (hm : menuB ms = true) (hk : ms.all (chk1 m v) = true) : ∃ i, i < (mbdT m v ms).length ∧ ∀ k (h : k < (mbdT m v ms).length), k = i → truB m ms (mbdT m v ms)[k] := by
  have h := setB_mach hs
  have e : mbdT m v ms = (hypL m v ms).map fun y => wd (boardL (impG m v ms (cenN ms) y)) := by
    unfold mbdT; rw [if_pos (by rw [hs, hm]; rfl)]
  have hh := keep_hyp (v := v) h hm hk
  obtain ⟨i, hi, hy⟩ := List.getElem_of_mem hh
  refine ⟨i, by rw [e, List.length_map]; exact hi, fun k hk2 ek l hl hll => ?_⟩
  subst ek
  simp only [e, List.getElem_map, hy]
  have hsy := impG_symm m v ms (cenN ms) (pAt (dg m.plugs) (cenN ms))
  have h1 : oneB (impG m v ms (cenN ms) (pAt (dg m.plugs) (cenN ms))) = true := keep_one h hm hk (cenN_lt ms)
  have hw : wd (dg m.plugs) = m.plugs := wd_dg (permB_word (plugB_perm (machB_plug h)))
  have h10 : ∀ a ∈ l, a < 10 := fun a ha => (hl a ha).1
  rw [appV_wd (isP_boardL hsy h1) h10 hll]
  have h2 := appV_wd (machB_plugP h) h10 hll
  rw [hw] at h2
  rw [h2]
  congr 1
  refine List.map_congr_left fun a ha => ?_
  rw [at_boardL (h10 a ha)]
  exact con_mate h hm hk (cenN_lt ms) (h10 a ha) (hl a ha).2
theorem find_in {l : List Nat} {x : Nat} (hx : x < 10) (hl : ∀ a ∈ l, a < 10) (h : 0 ≤ Lib.indexByte (L (wd l)) (letr (x : Int))) : x ∈ l := by
  have e := Lib.contains_iff_indexByte (L (wd l)) (letr (x : Int))
  rw [decide_eq_true h, List.contains_iff_mem, L_wd] at e
  obtain ⟨a, ha, e2⟩ := List.mem_map.1 e
  rw [← letr_inj (hl a ha) hx e2]; exact ha
theorem app_size (p u : ByteArray) : (appV p u).size ≤ 200 := by
  unfold appV; split
  · rename_i h
    rw [size_wd, List.length_map, len_dg]
    exact wordB_size h.2
  · rw [size_S]; simp
set_option maxRecDepth 100000 in
set_option maxHeartbeats 4000000 in
theorem menuBoardsTrue_walk (a : Option Addr) (len cap : Nat) (zs : List Int) (w : World) (h : IsRow .u8 w a len cap zs) :
    Calls Tryz.prog 10 #[.slice a len cap] w fun e w' => e = .returned (.bool true) ∧ Below w.heap.size w w' := by
  have hlen : len ≤ 9223372036854775807 := by
    rcases h with ⟨_, rfl, _⟩ | ⟨x, _, hl, hm, _⟩
    · omega
    · unfold maxLen at hm; omega
  by_cases hl : 1048576 < len
  · go_enter Tryz.func10, Tryz.ntmps10
    go_wp2
    go_ret
    exact ⟨rfl, Below.refl _ _⟩
  · go_enter Tryz.func10, Tryz.ntmps10
    go_wp2_with fail
    refine (DrawCheckMenu_any a len cap zs _ h (by omega)).mono ?_
    rintro e w1 ⟨m, v, ms, a1, am, cap1, cm, ⟨hsm, hrd, -, hb1⟩, hv, hst, hl24, hrm, rfl⟩
    have o1 := Own.new w1 [.slice a1 m.wheels.rotors.length cap1, .string m.wheels.refl, .string m.rings, .string m.plugs] 36
    have hba : Below w1.heap.size w1 (w1.alloc (.cells [.slice a1 m.wheels.rotors.length cap1, .string m.wheels.refl, .string m.rings, .string m.plugs].toArray 36)) := (Below.refl _ _).alloc (Nat.le_refl _) _
    have hb1' := hb1.alloc hb1.size (.cells [.slice a1 m.wheels.rotors.length cap1, .string m.wheels.refl, .string m.rings, .string m.plugs].toArray 36)
    have A1 : LAt (w1.alloc (.cells [.slice a1 m.wheels.rotors.length cap1, .string m.wheels.refl, .string m.rings, .string m.plugs].toArray 36)) w1.heap.size a1 cap1 m am ms := ⟨o1, (hsm.at_ hrd).alloc_ _, (hrm.below hba (Nat.le_refl _)).more hba.size⟩
    have hsl := hst.smL
    clear hrd hb1 h hsm hrm hba o1
    go_wp2_with fail
    generalize (w1.alloc (.cells [.slice a1 m.wheels.rotors.length cap1, .string m.wheels.refl, .string m.rings, .string m.plugs].toArray 36)) = W1 at *
    generalize w1.heap.size = B1 at *
    refine (implCheckMenu_any a1 _ cap1 m v am cm ms _ A1.mach (by omega) A1.menu hsl (by omega)).mono ?_
    rintro e w2 ⟨rfl, hb2⟩
    have A2 := A1.below hb2
    have hbw2 := bt hb1' hb2
    clear A1 hb1' hb2
    have nsp := fun W h1 h2 => specCheckMenu_any a1 m.wheels.rotors.length cap1 m v am cm ms W h1 (by omega) h2 (by omega)
    have HT : Hid (chkT m v ms = (setB m v && (menuB ms && ms.all (chk1 m v)))) := Lib.hid rfl
    generalize chkT m v ms = T at *
    have f0 := A2.box.at_ (i := 0) rfl
    have f1 := A2.box.at_ (i := 1) rfl
    have f2 := A2.box.at_ (i := 2) rfl
    have f3 := A2.box.at_ (i := 3) rfl
    cases T with
    | false =>
      go_wp2_with fail
      refine (nsp _ A2.mach A2.menu).mono ?_
      rintro e w3 ⟨rfl, hb3⟩
      have A3 := A2.below hb3
      have hbw3 := bt hbw2 hb3
      clear A2 hbw2 hb3 f0 f1 f2 f3
      have f0 := A3.box.at_ (i := 0) rfl
      have f1 := A3.box.at_ (i := 1) rfl
      have f2 := A3.box.at_ (i := 2) rfl
      have f3 := A3.box.at_ (i := 3) rfl
      go_wp2_with fail
      refine (nsp _ A3.mach A3.menu).mono ?_
      rintro e w4 ⟨rfl, hb4⟩
      go_wp2
      go_ret
      exact ⟨rfl, bt hbw3 hb4⟩
    | true =>
      have hT := HT.out.symm
      simp only [Bool.and_eq_true] at hT
      obtain ⟨h1, h2, hall⟩ := hT
      have H1 := Lib.hid h1
      have H2 := Lib.hid h2
      have HALL := Lib.hid hall
      have hmb := setB_mach h1
      clear HT h1 h2 hall
      go_wp2_with fail
      refine (nsp _ A2.mach A2.menu).mono ?_
      rintro e w3 ⟨rfl, hb3⟩
      have A3 := A2.below hb3
      have hbw3 := bt hbw2 hb3
      clear A2 hbw2 hb3 f0 f1 f2 f3 nsp
      have f0 := A3.box.at_ (i := 0) rfl
      have f1 := A3.box.at_ (i := 1) rfl
      have f2 := A3.box.at_ (i := 2) rfl
      have f3 := A3.box.at_ (i := 3) rfl
      go_wp2_with fail
      refine (implCentralLetter_yes am cm ms _ A3.menu hsl (by omega) H2.out).mono ?_
      rintro e w4 ⟨rfl, hb4⟩
      have A4 := A3.below hb4
      have hbw4 := bt hbw3 hb4
      clear A3 hbw3 hb4 f0 f1 f2 f3
      have f0 := A4.box.at_ (i := 0) rfl
      have f1 := A4.box.at_ (i := 1) rfl
      have f2 := A4.box.at_ (i := 2) rfl
      have f3 := A4.box.at_ (i := 3) rfl
      go_wp2_with fail
      refine (implMenuBoards_any a1 cap1 m v am cm ms _ A4.mach (by omega) A4.menu hsl (by omega)).mono ?_
      rintro e w5 ⟨lv, rfl, ol, hb5⟩
      obtain ⟨al, cl, rfl, hlc, hrl, -⟩ := OwR.val ol
      have A5 := A4.below hb5
      have hbw5 := bt hbw4 hb5
      clear A4 hbw4 hb5 ol f0 f1 f2 f3
      have hlz : (mbdT m v ms).length ≤ 10 := by
        have := @boards_at m v ms
        omega
      have HSZ := Lib.hid (fun k (h : k < (mbdT m v ms).length) => ((@boards_at m v ms).2.2 k h).1)
      obtain ⟨i0, hi0, htru⟩ := board_true (v := v) H1.out H2.out HALL.out
      have HTRU := Lib.hid htru
      have HI0 := Lib.hid hi0
      have nmp := fun W h => implMenuParts_yes am cm ms W h hsl (by omega) H2.out
      have hplz : m.plugs.size = 10 := by
        have hw : wd (dg m.plugs) = m.plugs := wd_dg (permB_word (plugB_perm (machB_plug hmb)))
        rw [← hw, size_wd, (machB_plugP hmb).len]
      have hcn := cenN_lt ms
      have hX1 : (wd [cenN ms]).size = 1 := size_wd _
      have HCAT : Hid ((wd [cenN ms])[0]'(by omega) = letr (cenN ms : Int)) := Lib.hid (by rw [getElem_L]; simp only [wd, L_S]; rfl)
      clear hi0 htru HALL
      generalize mbdT m v ms = ls at *
      go_wp2_with fail
      go_loopw [9, 10, 11, 12, 13] (fun s9 i _ _ _ wr => ∃ (k : Nat) (b : Bool), k ≤ ls.length ∧ i = .int .i64 k ∧ s9 = .bool b ∧ (i0 < k → b = true) ∧ LAt wr B1 a1 cap1 m am ms ∧ Reads wr wr.heap.size al (sv ls) ∧ Below w.heap.size w wr) (fun _ i _ _ _ _ => ls.length - (intOf i).toNat)
      case atStart => exact ⟨0, false, Nat.zero_le _, rfl, rfl, fun h => absurd h (by omega), A5, hrl, hbw5⟩
      case round =>
        clear A5 hrl hbw5
        obtain ⟨k, b9, hk, rfl, rfl, hb9, A5, hrl, hbw5⟩ := hrel
        have HB9 := Lib.hid hb9
        clear hb9
        by_cases hlt : k < ls.length
        · have tk : decide ((k : Int) < (ls.length : Int)) = true := decide_eq_true (by omega)
          obtain ⟨b, off, rfl, hbl', hcl⟩ := hrl.cells (by simp [sv]; omega)
          obtain ⟨Y, hY⟩ : ∃ Y, Y = ls[k] := ⟨_, rfl⟩
          have c0 := hcl.at_ (i := k) (sv_at hlt)
          rw [← hY] at c0
          have hys : Y.size = 10 := by rw [hY]; exact HSZ.out k hlt
          have HTR : Hid (k = i0 → truB m ms Y) := Lib.hid (fun e => by rw [hY]; exact HTRU.out k hlt e)
          have q0 : (0 : Int) ≤ (k : Int) := by omega
          have q1 : (k : Int) < (ls.length : Int) := by omega
          have na1 := fun W => implApplyPerm_any Y (wd [cenN ms]) W (by omega) (by omega)
          have na2 := fun W => implApplyPerm_any m.plugs (wd [cenN ms]) W (by omega) (by omega)
          have HAE : Hid (k = i0 → appV Y (wd [cenN ms]) = appV m.plugs (wd [cenN ms])) := Lib.hid (fun e => HTR.out e [cenN ms] (fun a ha => by
            have : a = cenN ms := by simpa using ha
            subst this
            exact ⟨hcn, .refl _⟩) (by simp))
          have d4 := fun (cc : Cls wr.heap.size wr) => (cc.cell b (off + k) hbl').trans c0
          have C0 := Lib.hid c0
          have HYS := Lib.hid hys
          clear hcl hY hys
          generalize appV Y (wd [cenN ms]) = AY at *
          generalize appV m.plugs (wd [cenN ms]) = AP at *
          have lo := A5.box.lt
          have f0 := A5.box.at_ (i := 0) rfl
          have f1 := A5.box.at_ (i := 1) rfl
          have f2 := A5.box.at_ (i := 2) rfl
          have f3 := A5.box.at_ (i := 3) rfl
          have d0 := fun (cc : Cls wr.heap.size wr) => (cc.cell B1 0 lo).trans f0
          have d1 := fun (cc : Cls wr.heap.size wr) => (cc.cell B1 1 lo).trans f1
          have d2 := fun (cc : Cls wr.heap.size wr) => (cc.cell B1 2 lo).trans f2
          have d3 := fun (cc : Cls wr.heap.size wr) => (cc.cell B1 3 lo).trans f3
          go_wp2_with fail
          refine wp_region_cls (by kernel_rfl) (by kernel_rfl) ?_
          repeat (go_big_quiet_step (first | (go_at_call 38; with_reducible exact cls_of (Nat.le_refl _) (na1 _)) | (go_at_call 38; with_reducible exact cls_of (Nat.le_refl _) (na2 _))))
          refine wpQuiet_nil ?_
          intro wc hbc
          have A7 := A5.below hbc
          have hrl7 := (hrl.below hbc (Nat.le_refl _)).more hbc.size
          have hbw7 := bt hbw5 hbc
          have C7 : Hid (wc.cell? ⟨b, off + k, none⟩ = some (.string Y)) := Lib.hid ((hbc.cell hbl').trans C0.out)
          have hbl7 : b < wc.heap.size := by have := hbc.size; omega
          obtain ⟨bE, hbE⟩ : ∃ bE : Bool, bE = (AY.toList == AP.toList) := ⟨_, rfl⟩
          have HE : Hid (k = i0 → bE = true) := Lib.hid (fun e => by rw [hbE]; exact (Go.Lib.bytes_beq_iff _ _).2 (HAE.out e))
          rw [← hbE]
          clear A5 hrl hbw5 hbc d4 na1 na2 hbE lo f0 f1 f2 f3 d0 d1 d2 d3 c0 C0 hbl' HAE
          go_wp2_with fail
          refine (nmp _ A7.menu).mono ?_
          rintro e w8 ⟨ps, hps, lv, rfl, ol, hb8⟩
          obtain ⟨ap, cp, rfl, hcp, hrp, -⟩ := OwR.val ol
          have A8 := A7.below hb8
          have hrl8 := (hrl7.below hb8 (Nat.le_refl _)).more hb8.size
          have hbw8 := bt hbw7 hb8
          have C8 : Hid (w8.cell? ⟨b, off + k, none⟩ = some (.string Y)) := Lib.hid ((hb8.cell hbl7).trans C7.out)
          have hbl8 : b < w8.heap.size := by have := hb8.size; omega
          have HPS := Lib.hid hps
          have hpsl := hps.few
          clear A7 hrl7 hbw7 hb8 C7 hbl7 ol hps
          go_wp2_with fail
          go_loopw [11, 13] (fun s11 i wr => ∃ (q : Nat) (b' : Bool), q ≤ ps.length ∧ i = .int .i64 q ∧ s11 = .bool b' ∧ (k = i0 → b' = true) ∧ LAt wr B1 a1 cap1 m am ms ∧ Reads wr wr.heap.size (some ⟨b, off, none⟩) (sv ls) ∧ Reads wr wr.heap.size ap (sv (pts ps)) ∧ wr.cell? ⟨b, off + k, none⟩ = some (.string Y) ∧ b < wr.heap.size ∧ Below w.heap.size w wr) (fun _ i _ => ps.length - (intOf i).toNat)
          case atStart => exact ⟨0, bE, Nat.zero_le _, rfl, rfl, HE.out, A8, hrl8, hrp, C8.out, hbl8, hbw8⟩
          case round =>
            clear A8 hrl8 hrp C8 hbl8 hbw8 HE
            obtain ⟨q, b', hq, rfl, rfl, hbk, A8, hrl8, hrp, c0, hbl8, hbw8⟩ := hrel
            have HBK := Lib.hid hbk
            clear hbk
            by_cases hlt2 : q < ps.length
            · have tq : decide ((q : Int) < (ps.length : Int)) = true := decide_eq_true (by omega)
              have hlp : q < (pts ps).length := by rw [len_pts]; exact hlt2
              obtain ⟨b2, off2, rfl, hbl2, hcl2⟩ := hrp.cells (by simp [sv, pts]; omega)
              obtain ⟨p, hP⟩ : ∃ p, p = ps[q] := ⟨_, rfl⟩
              have hpm : p ∈ ps := by rw [hP]; exact List.getElem_mem _
              have c2 := hcl2.at_ (i := q) (sv_at hlp)
              rw [show (pts ps)[q] = wd p by rw [hP]; simp [pts]] at c2
              have hpl := HPS.out.low p hpm
              have hpsz : (wd p).size ≤ 10 := by rw [size_wd]; exact hpl
              have hx0 : 0 < (wd [cenN ms]).size := by omega
              have nf := fun W => rcFind_any (wd p) (letr (cenN ms : Int)) W (by omega)
              rw [← HCAT.out] at nf
              have HFI : Hid (0 ≤ Lib.indexByte (L (wd p)) ((wd [cenN ms])[0]'hx0) → cenN ms ∈ p) := Lib.hid (by
                rw [HCAT.out]
                exact fun h => find_in hcn (HPS.out.rng p hpm) h)
              have q2 : (0 : Int) ≤ (q : Int) := by omega
              have q3 : (q : Int) < (ps.length : Int) := by omega
              have d5 := fun (cc : Cls wr.heap.size wr) => (cc.cell b2 (off2 + q) hbl2).trans c2
              have C2 := Lib.hid c2
              clear hcl2 hP hlp
              generalize Lib.indexByte (L (wd p)) ((wd [cenN ms])[0]'hx0) = ix at *
              go_wp2_with fail
              refine wp_region_cls (by kernel_rfl) (by kernel_rfl) ?_
              repeat (go_big_quiet_step (first | (go_at_call 50; with_reducible exact cls_same (nf _))))
              refine wpQuiet_nil ?_
              intro wc hbc
              have A9 := A8.below hbc
              have hrl9 := (hrl8.below hbc (Nat.le_refl _)).more hbc.size
              have hrp9 := (hrp.below hbc (Nat.le_refl _)).more hbc.size
              have e0 := (hbc.cell hbl8).trans c0
              have e2 := (hbc.cell hbl2).trans C2.out
              have hbl9 : b < wc.heap.size := by have := hbc.size; omega
              have hbl29 : b2 < wc.heap.size := by have := hbc.size; omega
              have hbw9 := bt hbw8 hbc
              clear A8 hrl8 hrp c0 c2 C2 d5 hbw8 hbc nf hbl8 hbl2
              rename World => w9
              by_cases hx : 0 ≤ ix
              · have tx : decide (0 ≤ ix) = true := decide_eq_true hx
                have hcp2 := HFI.out hx
                cases b' with
                | false =>
                  go_wp2_with fail
                  go_quiet (fail)
                  have hbq := bel_drewM w9 nq
                  have A10 := A9.below hbq
                  have hrl10 := (hrl9.below hbq (Nat.le_refl _)).more hbq.size
                  have hrp10 := (hrp9.below hbq (Nat.le_refl _)).more hbq.size
                  have e10 := (hbq.cell hbl9).trans e0
                  have hbl10 : b < (w9.drewN nq).heap.size := by have := hbq.size; omega
                  have hbw10 := bt hbw9 hbq
                  clear A9 hrl9 hrp9 e0 e2 hbw9 hbq hbl9 hbl29
                  generalize w9.drewN nq = w10 at *
                  go_wp2
                  go_roundw
                  case rel => exact ⟨q + 1, false, by omega, by go_num, rfl, HBK.out, A10, hrl10, hrp10, e10, hbl10, hbw10⟩
                  case measure => simp [intOf]; omega
                | true =>
                  have na3 := fun W => implApplyPerm_any Y (wd p) W (by have := HYS.out; omega) (by omega)
                  have na4 := fun W => implApplyPerm_any m.plugs (wd p) W (by omega) (by omega)
                  have HAQ : Hid (k = i0 → appV Y (wd p) = appV m.plugs (wd p)) := Lib.hid (fun e => HTR.out e p (fun a ha => ⟨HPS.out.rng p hpm a ha, HPS.out.con p hpm _ hcp2 a ha⟩) (by omega))
                  have d4 := fun (cc : Cls w9.heap.size w9) => (cc.cell b (off + k) hbl9).trans e0
                  have d5 := fun (cc : Cls w9.heap.size w9) => (cc.cell b2 (off2 + q) hbl29).trans e2
                  have E0 := Lib.hid e0
                  generalize appV Y (wd p) = BY at *
                  generalize appV m.plugs (wd p) = BP at *
                  have lo := A9.box.lt
                  have f0 := A9.box.at_ (i := 0) rfl
                  have f1 := A9.box.at_ (i := 1) rfl
                  have f2 := A9.box.at_ (i := 2) rfl
                  have f3 := A9.box.at_ (i := 3) rfl
                  have d0 := fun (cc : Cls w9.heap.size w9) => (cc.cell B1 0 lo).trans f0
                  have d1 := fun (cc : Cls w9.heap.size w9) => (cc.cell B1 1 lo).trans f1
                  have d2 := fun (cc : Cls w9.heap.size w9) => (cc.cell B1 2 lo).trans f2
                  have d3 := fun (cc : Cls w9.heap.size w9) => (cc.cell B1 3 lo).trans f3
                  go_wp2_with fail
                  refine wp_region_cls (by kernel_rfl) (by kernel_rfl) ?_
                  repeat (go_big_quiet_step (first | (go_at_call 38; with_reducible exact cls_of (Nat.le_refl _) (na3 _)) | (go_at_call 38; with_reducible exact cls_of (Nat.le_refl _) (na4 _))))
                  refine wpQuiet_nil ?_
                  intro wc hbc
                  obtain ⟨bF, hbF⟩ : ∃ bF : Bool, bF = (BY.toList == BP.toList) := ⟨_, rfl⟩
                  have HF : Hid (k = i0 → bF = true) := Lib.hid (fun e => by rw [hbF]; exact (Go.Lib.bytes_beq_iff _ _).2 (HAQ.out e))
                  rw [← hbF]
                  have A10 := A9.below hbc
                  have hrl10 := (hrl9.below hbc (Nat.le_refl _)).more hbc.size
                  have hrp10 := (hrp9.below hbc (Nat.le_refl _)).more hbc.size
                  have e10 := (hbc.cell hbl9).trans E0.out
                  have hbl10 : b < wc.heap.size := by have := hbc.size; omega
                  have hbw10 := bt hbw9 hbc
                  clear A9 hrl9 hrp9 e0 e2 hbw9 hbc hbl9 hbl29 d4 d5 na3 na4 lo f0 f1 f2 f3 d0 d1 d2 d3 E0 hbF HAQ
                  go_wp2
                  go_roundw
                  case rel => exact ⟨q + 1, bF, by omega, by go_num, rfl, HF.out, A10, hrl10, hrp10, e10, hbl10, hbw10⟩
                  case measure => simp [intOf]; omega
              · have tx : decide (0 ≤ ix) = false := decide_eq_false hx
                go_wp2
                go_roundw
                case rel => exact ⟨q + 1, b', by omega, by go_num, rfl, HBK.out, A9, hrl9, hrp9, e0, hbl9, hbw9⟩
                case measure => simp [intOf]; omega
            · have tq : decide ((q : Int) < (ps.length : Int)) = false := decide_eq_false (by omega)
              cases b9 with
              | true =>
                go_wp2
                go_roundw
                case rel => exact ⟨k + 1, true, by omega, by go_num, rfl, fun _ => rfl, A8, hrl8, hbw8⟩
                case measure => simp [intOf]; omega
              | false =>
                have HN : Hid (i0 < k + 1 → b' = true) := Lib.hid (fun h => by
                  by_cases e : k = i0
                  · exact HBK.out e
                  · have := HB9.out (by omega)
                    cases this)
                go_wp2
                go_roundw
                case rel => exact ⟨k + 1, b', by omega, by go_num, rfl, HN.out, A8, hrl8, hbw8⟩
                case measure => simp [intOf]; omega
        · have tk : decide ((k : Int) < (ls.length : Int)) = false := decide_eq_false (by omega)
          have hb := HB9.out (by have := HI0.out; omega)
          subst hb
          go_wp2
          go_ret
          exact ⟨rfl, hbw5⟩
end Go.Proofs.YtdmnkcmkpjmfaaaGreat
