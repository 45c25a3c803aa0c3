/- Several of my texts in one: DrawHyp, MbW. -/
import Derived.Test.YtdmnkcmkpjmfaaaGreatM16
import Derived.Test.YtdmnkcmkpjmfaaaGreatM28
/- What the laws on hypotheses and boards are run on. -/
namespace Go.Proofs.YtdmnkcmkpjmfaaaGreat
open Go.RowKit
attribute [local go_sem] Oper.semAt_some

set_option maxRecDepth 100000 in
set_option maxHeartbeats 2000000 in
theorem DrawHypotheses_any (a0 : Option Addr) (len cap : Nat) (zs : List Int) (w : World) (h : IsRow .u8 w a0 len cap zs) (hl : len ≤ 1048576) :
    Calls Tryz.prog 51 #[.slice a0 len cap] w (DrawnL w) := by
  have o0 := Own.new w [.slice none 0 0, .string ⟨#[]⟩, .string ⟨#[]⟩, .string ⟨#[]⟩] 36
  have hb0 := (Below.refl w.heap.size w).alloc (Nat.le_refl _) (.cells #[.slice none 0 0, .string ⟨#[]⟩, .string ⟨#[]⟩, .string ⟨#[]⟩] 36)
  go_enter Tryz.func51, Tryz.ntmps51
  go_wp2_with fail
  refine (l21Open_any a0 len cap zs _ (h.alloc_ _) hl).mono ?_
  rintro e w1 ⟨rfl, hr1, hb1⟩
  have o1 := o0.below hb1 o0.lt
  have hbw1 := bt hb0 hb1
  rw [World.size_alloc] at hr1
  clear o0 hb0 hb1 h
  go_wp2_with fail
  generalize hB0 : w.heap.size = B0 at *
  have HB0 := Lib.hid hB0
  clear hB0
  refine (l13Open_any (B0 + 1) 0 _ hr1 (by omega)).mono ?_
  rintro e w2 ⟨m6, v, ms, a6, am, cap6, cm, hsm, hv, hst, hl24, rfl, hrd, hrm, hbl, hbm, hr2, hm2⟩
  have l1 := hr1.lt
  have o2 := o1.grown hm2 (by simp)
  have hbw2 : Below B0 w w2 := hbw1.trans (hm2.toBelow (by omega) (by omega))
  have HBL : Hid (∀ ad, a6 = some ad → B0 + 1 < ad.block) := Lib.hid (fun ad e => by have := hbl ad e; omega)
  have HBM : Hid (∀ ad, am = some ad → B0 + 1 < ad.block) := Lib.hid (fun ad e => by have := hbm ad e; omega)
  have HSM := Lib.hid hsm
  have HST := Lib.hid hst
  have HRD := Lib.hid hrd
  have HRM := Lib.hid hrm
  have l2 := o2.lt
  clear o1 hr1 hbw1 hm2 hbl hbm hsm hst hr2 hrd hrm
  have c0 := o2.at_ (i := 0) rfl
  have c1 := o2.at_ (i := 1) rfl
  have c2 := o2.at_ (i := 2) rfl
  have c3 := o2.at_ (i := 3) rfl
  have b0 := o2.free 0 (by simp)
  have b1 := o2.free 1 (by simp)
  have b2 := o2.free 2 (by simp)
  have b3 := o2.free 3 (by simp)
  go_wp2
  have oz := o2.set4 (.slice a6 m6.wheels.rotors.length cap6) (.string m6.wheels.refl) (.string m6.rings) (.string m6.plugs)
  have k0 := oz.at_ (i := 0) rfl
  have k1 := oz.at_ (i := 1) rfl
  have k2 := oz.at_ (i := 2) rfl
  have k3 := oz.at_ (i := 3) rfl
  refine bodyPost_ret (v := .tuple #[.agg #[.slice a6 m6.wheels.rotors.length cap6, .string m6.wheels.refl, .string m6.rings, .string m6.plugs], .string v, .slice am ms.length cm]) (by unfold set4 at *; simp [results, Tryz.results51, go_sem, k0, k1, k2, k3]) rfl ?_
  refine ⟨m6, v, ms, a6, am, cap6, cm, ⟨HSM.out, ?_, ?_, ?_⟩, hv, HST.out, hl24, ?_, rfl⟩
  · show Reads (set4 w2 B0 _ _ _ _) (set4 w2 B0 _ _ _ _).heap.size _ _
    rw [size_set4]
    exact HRD.out.set4 (fun ad h => by have := HBL.out ad h; omega) _ _ _ _
  · intro ad h
    rw [HB0.out]
    have := HBL.out ad h; omega
  · rw [HB0.out]
    exact bel_set4 hbw2 (Nat.le_refl _) _ _ _ _
  · show Reads (set4 w2 B0 _ _ _ _) (set4 w2 B0 _ _ _ _).heap.size _ _
    rw [size_set4]
    exact HRM.out.set4 (fun ad h => by have := HBM.out ad h; omega) _ _ _ _
set_option maxRecDepth 100000 in
set_option maxHeartbeats 2000000 in
theorem DrawMenuBoards_any (a0 : Option Addr) (len cap : Nat) (zs : List Int) (w : World) (h : IsRow .u8 w a0 len cap zs) (hl : len ≤ 1048576) :
    Calls Tryz.prog 63 #[.slice a0 len cap] w (DrawnL w) := by
  have o0 := Own.new w [.slice none 0 0, .string ⟨#[]⟩, .string ⟨#[]⟩, .string ⟨#[]⟩] 36
  have hb0 := (Below.refl w.heap.size w).alloc (Nat.le_refl _) (.cells #[.slice none 0 0, .string ⟨#[]⟩, .string ⟨#[]⟩, .string ⟨#[]⟩] 36)
  go_enter Tryz.func63, Tryz.ntmps63
  go_wp2_with fail
  refine (l21Open_any a0 len cap zs _ (h.alloc_ _) hl).mono ?_
  rintro e w1 ⟨rfl, hr1, hb1⟩
  have o1 := o0.below hb1 o0.lt
  have hbw1 := bt hb0 hb1
  rw [World.size_alloc] at hr1
  clear o0 hb0 hb1 h
  go_wp2_with fail
  generalize hB0 : w.heap.size = B0 at *
  have HB0 := Lib.hid hB0
  clear hB0
  refine (l13Open_any (B0 + 1) 0 _ hr1 (by omega)).mono ?_
  rintro e w2 ⟨m6, v, ms, a6, am, cap6, cm, hsm, hv, hst, hl24, rfl, hrd, hrm, hbl, hbm, hr2, hm2⟩
  have l1 := hr1.lt
  have o2 := o1.grown hm2 (by simp)
  have hbw2 : Below B0 w w2 := hbw1.trans (hm2.toBelow (by omega) (by omega))
  have HBL : Hid (∀ ad, a6 = some ad → B0 + 1 < ad.block) := Lib.hid (fun ad e => by have := hbl ad e; omega)
  have HBM : Hid (∀ ad, am = some ad → B0 + 1 < ad.block) := Lib.hid (fun ad e => by have := hbm ad e; omega)
  have HSM := Lib.hid hsm
  have HST := Lib.hid hst
  have HRD := Lib.hid hrd
  have HRM := Lib.hid hrm
  have l2 := o2.lt
  clear o1 hr1 hbw1 hm2 hbl hbm hsm hst hr2 hrd hrm
  have c0 := o2.at_ (i := 0) rfl
  have c1 := o2.at_ (i := 1) rfl
  have c2 := o2.at_ (i := 2) rfl
  have c3 := o2.at_ (i := 3) rfl
  have b0 := o2.free 0 (by simp)
  have b1 := o2.free 1 (by simp)
  have b2 := o2.free 2 (by simp)
  have b3 := o2.free 3 (by simp)
  go_wp2
  have oz := o2.set4 (.slice a6 m6.wheels.rotors.length cap6) (.string m6.wheels.refl) (.string m6.rings) (.string m6.plugs)
  have k0 := oz.at_ (i := 0) rfl
  have k1 := oz.at_ (i := 1) rfl
  have k2 := oz.at_ (i := 2) rfl
  have k3 := oz.at_ (i := 3) rfl
  refine bodyPost_ret (v := .tuple #[.agg #[.slice a6 m6.wheels.rotors.length cap6, .string m6.wheels.refl, .string m6.rings, .string m6.plugs], .string v, .slice am ms.length cm]) (by unfold set4 at *; simp [results, Tryz.results63, go_sem, k0, k1, k2, k3]) rfl ?_
  refine ⟨m6, v, ms, a6, am, cap6, cm, ⟨HSM.out, ?_, ?_, ?_⟩, hv, HST.out, hl24, ?_, rfl⟩
  · show Reads (set4 w2 B0 _ _ _ _) (set4 w2 B0 _ _ _ _).heap.size _ _
    rw [size_set4]
    exact HRD.out.set4 (fun ad h => by have := HBL.out ad h; omega) _ _ _ _
  · intro ad h
    rw [HB0.out]
    have := HBL.out ad h; omega
  · rw [HB0.out]
    exact bel_set4 hbw2 (Nat.le_refl _) _ _ _ _
  · show Reads (set4 w2 B0 _ _ _ _) (set4 w2 B0 _ _ _ _).heap.size _ _
    rw [size_set4]
    exact HRM.out.set4 (fun ad h => by have := HBM.out ad h; omega) _ _ _ _
end Go.Proofs.YtdmnkcmkpjmfaaaGreat

/- The walk of the law on the boards of a menu. -/
namespace Go.Proofs.YtdmnkcmkpjmfaaaGreat
open Go.RowKit
attribute [local go_sem] Oper.semAt_some

theorem bel_drewM (w : World) (n : Nat) : Below w.heap.size w (w.drewN n) := bel_drewN (Below.refl _ _) n
/-- The central letter of a menu, or nothing. -/
noncomputable def cenT (ms : List Lnk) : ByteArray := if menuB ms = true then wd [cenN ms] else S []
theorem implCentralLetter_any (am : Option Addr) (cm : Nat) (ms : List Lnk) (w : World) (hrm : Reads w w.heap.size am (lks ms)) (hz : SmL ms) (hl : ms.length ≤ 4294967296) :
    Calls Tryz.prog 47 #[.slice am ms.length cm] w fun e w' => e = .returned (.string (cenT ms)) ∧ Below w.heap.size w w' := by
  unfold cenT
  cases hm : menuB ms with
  | true => rw [if_pos rfl]; exact implCentralLetter_yes am cm ms w hrm hz hl hm
  | false => rw [if_neg (by simp)]; exact implCentralLetter_no am cm ms w hrm hz hl hm
theorem cenT_size (ms : List Lnk) : (cenT ms).size ≤ 1 := by
  unfold cenT; split
  · rw [size_wd]; simp
  · rw [size_S]; simp
theorem boards_at {m : Mach} {v : ByteArray} {ms : List Lnk} : (mbdT m v ms).length = (hypT m v ms).size ∧ (hypT m v ms).size ≤ 10 ∧ ∀ k (h : k < (mbdT m v ms).length), (mbdT m v ms)[k].size = 10 ∧ plugB (mbdT m v ms)[k] = true ∧ appV (mbdT m v ms)[k] (cenT ms) = (hypT m v ms).extract k (k + 1) := by
  cases hc : (setB m v && menuB ms) with
  | false =>
    have e1 : mbdT m v ms = [] := by unfold mbdT; rw [if_neg (by rw [hc]; simp)]
    have e2 : hypT m v ms = S [] := by unfold hypT; rw [if_neg (by rw [hc]; simp)]
    rw [e1, e2, size_S]
    exact ⟨rfl, by simp, fun k h => by simp at h⟩
  | true =>
    obtain ⟨h1, h2⟩ := Bool.and_eq_true_iff.1 hc
    have e1 : mbdT m v ms = (hypL m v ms).map fun y => wd (boardL (impG m v ms (cenN ms) y)) := by unfold mbdT; rw [if_pos hc]
    have e2 : hypT m v ms = wd (hypL m v ms) := by unfold hypT; rw [if_pos hc]
    have e3 : cenT ms = wd [cenN ms] := by unfold cenT; rw [if_pos h2]
    rw [e1, e2, e3, size_wd]
    refine ⟨List.length_map _, Nat.le_trans (List.length_filter_le _ _) (by simp), fun k h => ?_⟩
    rw [List.length_map] at h
    rw [List.getElem_map]
    have hm := List.mem_filter.1 (List.getElem_mem h)
    have hy : (hypL m v ms)[k] < 10 := by simpa using hm.1
    have h1 := hm.2
    have hs := impG_symm m v ms (cenN ms) (hypL m v ms)[k]
    have hp := isP_boardL hs h1
    refine ⟨by rw [size_wd, len_boardL], plugB_wd hp (inv_boardL hs h1), ?_⟩
    rw [wd_at h]
    have hb := app_one (p := boardL (impG m v ms (cenN ms) (hypL m v ms)[k])) hp (c := letr (cenN ms : Int)) (d := cenN ms) (isL_letr _) (by rw [dig_letr]; have := cenN_lt ms; omega)
    have hb' : appV (wd (boardL (impG m v ms (cenN ms) (hypL m v ms)[k]))) (wd [cenN ms]) = wd [pAt (boardL (impG m v ms (cenN ms) (hypL m v ms)[k])) (cenN ms)] := hb
    rw [hb', at_boardL (cenN_lt ms), mate_eq h1 (cenN_lt ms) hy (impB_iff.2 Imp.base)]
set_option maxRecDepth 100000 in
set_option maxHeartbeats 4000000 in
theorem menuBoards_walk (a : Option Addr) (len cap : Nat) (zs : List Int) (w : World) (h : IsRow .u8 w a len cap zs) :
    Calls Tryz.prog 18 #[.slice a len cap] w fun e w' => e = .returned (.bool true) ∧ Below w.heap.size w w' := by
  have hlen : len ≤ 9223372036854775807 := by
    rcases h with ⟨_, rfl, _⟩ | ⟨x, _, hl, hm, _⟩
    · omega
    · unfold maxLen at hm; omega
  by_cases hl : 1048576 < len
  · go_enter Tryz.func18, Tryz.ntmps18
    go_wp2
    go_ret
    exact ⟨rfl, Below.refl _ _⟩
  · go_enter Tryz.func18, Tryz.ntmps18
    go_wp2_with fail
    refine (DrawMenuBoards_any a len cap zs _ h (by omega)).mono ?_
    rintro e w1 ⟨m, v, ms, a1, am, cap1, cm, ⟨hsm, hrd, -, hb1⟩, hv, hst, hl24, hrm, rfl⟩
    have o1 := Own.new w1 [.slice a1 m.wheels.rotors.length cap1, .string m.wheels.refl, .string m.rings, .string m.plugs] 36
    have hba : Below w1.heap.size w1 (w1.alloc (.cells [.slice a1 m.wheels.rotors.length cap1, .string m.wheels.refl, .string m.rings, .string m.plugs].toArray 36)) := (Below.refl _ _).alloc (Nat.le_refl _) _
    have hbw1 := hb1.alloc hb1.size (.cells [.slice a1 m.wheels.rotors.length cap1, .string m.wheels.refl, .string m.rings, .string m.plugs].toArray 36)
    have A1 : LAt (w1.alloc (.cells [.slice a1 m.wheels.rotors.length cap1, .string m.wheels.refl, .string m.rings, .string m.plugs].toArray 36)) w1.heap.size a1 cap1 m am ms := ⟨o1, (hsm.at_ hrd).alloc_ _, (hrm.below hba (Nat.le_refl _)).more hba.size⟩
    have hsl := hst.smL
    clear hrd hb1 h hsm hrm hba o1
    go_wp2_with fail
    generalize (w1.alloc (.cells [.slice a1 m.wheels.rotors.length cap1, .string m.wheels.refl, .string m.rings, .string m.plugs].toArray 36)) = W1 at *
    generalize w1.heap.size = B1 at *
    have f0 := A1.box.at_ (i := 0) rfl
    have f1 := A1.box.at_ (i := 1) rfl
    have f2 := A1.box.at_ (i := 2) rfl
    have f3 := A1.box.at_ (i := 3) rfl
    refine (implMenuBoards_any a1 cap1 m v am cm ms _ A1.mach (by omega) A1.menu hsl (by omega)).mono ?_
    rintro e w2 ⟨lv, rfl, ol, hb2⟩
    obtain ⟨al, cl, rfl, hlc, hrl, -⟩ := OwR.val ol
    have A2 := A1.below hb2
    have hbw2 := bt hbw1 hb2
    clear A1 hbw1 ol hlc hb2 f0 f1 f2 f3
    have f0 := A2.box.at_ (i := 0) rfl
    have f1 := A2.box.at_ (i := 1) rfl
    have f2 := A2.box.at_ (i := 2) rfl
    have f3 := A2.box.at_ (i := 3) rfl
    have HBA := Lib.hid (@boards_at m v ms).2.2
    have HBL := Lib.hid (@boards_at m v ms).1
    have hbs := (@boards_at m v ms).2.1
    go_wp2_with fail
    refine (specMenuBoards_any a1 cap1 m v am cm ms _ A2.mach (by omega) A2.menu (by omega)).mono ?_
    rintro e w3 ⟨lv, rfl, ol, hb3⟩
    obtain ⟨al3, cl3, rfl, hlc, hrl3, -⟩ := OwR.val ol
    have A3 := A2.below hb3
    have hbw3 := bt hbw2 hb3
    have hrl' := (hrl.below hb3 (Nat.le_refl _)).more hb3.size
    clear A2 hbw2 ol hlc hb3 hrl f0 f1 f2 f3
    have nh := fun W h1 h2 => implHypotheses_any a1 cap1 m v am cm ms W h1 (by omega) h2 hsl (by omega)
    have nc := fun W h1 => implCentralLetter_any am cm ms W h1 hsl (by omega)
    have hcz := cenT_size ms
    generalize mbdT m v ms = ls at *
    generalize hypT m v ms = T at *
    generalize cenT ms = X at *
    have hlz : ls.length ≤ 10 := by rw [HBL.out]; exact hbs
    go_wp2_with fail
    have hrt := rcTexts_any al al3 cl cl3 ls ls w3 hrl' hrl3 (by omega)
    rw [decide_eq_true rfl] at hrt
    refine hrt.mono ?_
    rintro e w' ⟨rfl, n4, rfl⟩
    have hb4 := bel_drewM w3 n4
    generalize w3.drewN n4 = w4 at *
    have A4 := A3.below hb4
    have hbw4 := bt hbw3 hb4
    have hrl4 := (hrl'.below hb4 (Nat.le_refl _)).more hb4.size
    clear A3 hbw3 hrl' hrl3 hrt hb4 n4
    have f0 := A4.box.at_ (i := 0) rfl
    have f1 := A4.box.at_ (i := 1) rfl
    have f2 := A4.box.at_ (i := 2) rfl
    have f3 := A4.box.at_ (i := 3) rfl
    go_wp2_with fail
    refine (nh _ A4.mach A4.menu).mono ?_
    rintro e w5 ⟨rfl, hb5⟩
    have A5 := A4.below hb5
    have hbw5 := bt hbw4 hb5
    have hrl5 := (hrl4.below hb5 (Nat.le_refl _)).more hb5.size
    clear A4 hbw4 hrl4 hb5 f0 f1 f2 f3 nh
    go_wp2_with fail
    refine (nc _ A5.menu).mono ?_
    rintro e w6 ⟨rfl, hb6⟩
    have hbw6 := bt hbw5 hb6
    have hrl6 := (hrl5.below hb6 (Nat.le_refl _)).more hb6.size
    clear A5 hbw5 hrl5 hb6 nc
    go_wp2_with fail
    go_loopw [9] (fun i wr => ∃ k : Nat, k ≤ ls.length ∧ i = .int .i64 k ∧ Reads wr wr.heap.size al (sv ls) ∧ Below w.heap.size w wr) (fun i _ => ls.length - (intOf i).toNat)
    case atStart => exact ⟨0, Nat.zero_le _, rfl, hrl6, hbw6⟩
    case round =>
      clear hrl6 hbw6
      obtain ⟨k, hk, rfl, hrl6, hbw6⟩ := hrel
      have hbl := HBL.out
      by_cases hlt : k < ls.length
      · have tk : decide ((k : Int) < (ls.length : Int)) = true := decide_eq_true (by omega)
        have tk2 : decide (T.size ≤ k) = false := decide_eq_false (by omega)
        have hk1 : IntKind.i64.wrap ((k : Int) + 1) = (k : Int) + 1 := IntWalk.i64_in _ (by omega)
        have hsl := fun W => sl_one T k (by omega) W
        obtain ⟨b, off, rfl, hbl', hcl⟩ := hrl6.cells (by simp [sv]; omega)
        have hc := hcl.at_ (i := k) (sv_at hlt)
        have hba := HBA.out k hlt
        generalize ls[k] = y at *
        obtain ⟨hy1, hy2, hy3⟩ := hba
        have np := fun W => implPlugsValid_any y W (by omega)
        have na := fun W => implApplyPerm_any y X W (by omega) (by omega)
        rw [hy2] at np
        rw [hy3] at na
        have q0 : (0 : Int) ≤ (k : Int) := by omega
        have q1 : (k : Int) < (ls.length : Int) := by omega
        have d4 := fun (cc : Cls wr.heap.size wr) => (cc.cell b (off + k) hbl').trans hc
        clear hbl hcl hc hy1 hy2 hy3
        go_wp2_with fail
        refine wp_region_cls (by kernel_rfl) (by kernel_rfl) ?_
        repeat (go_big_quiet_step (first | (go_at_call 64; with_reducible exact cls_of (Nat.le_refl _) (np _)) | (go_at_call 38; with_reducible exact cls_of (Nat.le_refl _) (na _))))
        refine wpQuiet_nil ?_
        intro wc hbc
        have hrl7 := (hrl6.below hbc (Nat.le_refl _)).more hbc.size
        have hbw7 := bt hbw6 hbc
        clear hrl6 hbw6 hbc d4 np na
        go_wp2_with fail
        go_roundw
        case rel => exact ⟨k + 1, by omega, by go_num, hrl7, hbw7⟩
        case measure => simp [intOf]; omega
      · have tk : decide ((k : Int) < (ls.length : Int)) = false := decide_eq_false (by omega)
        have te : ((ls.length : Int) == (T.size : Int)) = true := by simp [hbl]
        clear hbl
        go_wp2
        go_ret
        exact ⟨rfl, hbw6⟩
end Go.Proofs.YtdmnkcmkpjmfaaaGreat
