/- Several of my texts in one: ImT, BbT. -/
import Derived.Test.YtdmnkcmkpjmfaaaGreatM28
import Derived.Test.YtdmnkcmkpjmfaaaGreatM27
/- The walk of the law that from a true pair only pairs of the plugboard follow. -/
namespace Go.Proofs.YtdmnkcmkpjmfaaaGreat
open Go.RowKit
attribute [local go_sem] Oper.semAt_some

theorem sl_t1 (s : ByteArray) (h : 1 ≤ s.size) (W : World) : (Instr.slice 9 (.string s) none (some (.int .i64 1)) none).run Tryz.prog W = .ok (.string (s.extract 0 1)) W := sl_to s 1 h W
/-- The pairs that follow from the plugboard's own pair at x: each is a pair of the plugboard. -/
theorem keep_pairs {m : Mach} {v : ByteArray} {ms : List Lnk} (h : machB m = true) (hm : menuB ms = true) (hk : ms.all (chk1 m v) = true) {x : Nat} (hx : x < 10) (t : ByteArray) (ht : t ∈ impT m v ms (wd [x] ++ wd [pAt (dg m.plugs) x])) : t.size = 2 ∧ appV m.plugs (t.extract 0 1) = t.extract 1 2 := by
  rw [wd_app] at ht
  unfold impT impL at ht
  split at ht
  · obtain ⟨q, hq, rfl⟩ := List.mem_map.1 ht
    have hp := (machB_plugP h).at_lt hx
    rw [show [x] ++ [pAt (dg m.plugs) x] = [x, pAt (dg m.plugs) x] from rfl, dg2 hx hp] at hq
    obtain ⟨h1, -, h2, h3⟩ := mem_impP.1 hq
    have he := keep_imp h hm hk hx h3
    have e1 : (pw q).extract 0 1 = wd [q.1] := wd_at (l := [q.1, q.2]) (k := 0) (by simp)
    have e2 : (pw q).extract 1 2 = wd [q.2] := wd_at (l := [q.1, q.2]) (k := 1) (by simp)
    rw [e1, e2, app_plug h h1, he]
    exact ⟨size_wd _, rfl⟩
  · simp at ht
set_option maxRecDepth 100000 in
set_option maxHeartbeats 4000000 in
theorem impliedTrue_walk (a : Option Addr) (len cap : Nat) (zs : List Int) (w : World) (h : IsRow .u8 w a len cap zs) :
    Calls Tryz.prog 4 #[.slice a len cap] w fun e w' => e = .returned (.bool true) ∧ Below w.heap.size w w' := by
  have hlen : len ≤ 9223372036854775807 := by
    rcases h with ⟨_, rfl, _⟩ | ⟨x, _, hl, hm, _⟩
    · omega
    · unfold maxLen at hm; omega
  by_cases hl : 1048576 < len
  · go_enter Tryz.func4, Tryz.ntmps4
    go_wp2
    go_ret
    exact ⟨rfl, Below.refl _ _⟩
  · go_enter Tryz.func4, Tryz.ntmps4
    go_wp2_with fail
    refine (DrawCheckMenu_any a len cap zs _ h (by omega)).mono ?_
    rintro e w1 ⟨m, v, ms, a1, am, cap1, cm, ⟨hsm, hrd, -, hb1⟩, hv, hst, hl24, hrm, rfl⟩
    have o1 := Own.new w1 [.slice a1 m.wheels.rotors.length cap1, .string m.wheels.refl, .string m.rings, .string m.plugs] 36
    have hba : Below w1.heap.size w1 (w1.alloc (.cells [.slice a1 m.wheels.rotors.length cap1, .string m.wheels.refl, .string m.rings, .string m.plugs].toArray 36)) := (Below.refl _ _).alloc (Nat.le_refl _) _
    have hb1' := hb1.alloc hb1.size (.cells [.slice a1 m.wheels.rotors.length cap1, .string m.wheels.refl, .string m.rings, .string m.plugs].toArray 36)
    have A1 : LAt (w1.alloc (.cells [.slice a1 m.wheels.rotors.length cap1, .string m.wheels.refl, .string m.rings, .string m.plugs].toArray 36)) w1.heap.size a1 cap1 m am ms := ⟨o1, (hsm.at_ hrd).alloc_ _, (hrm.below hba (Nat.le_refl _)).more hba.size⟩
    have hsl := hst.smL
    clear hrd hb1 h hsm hrm hba o1
    go_wp2_with fail
    generalize (w1.alloc (.cells [.slice a1 m.wheels.rotors.length cap1, .string m.wheels.refl, .string m.rings, .string m.plugs].toArray 36)) = W1 at *
    generalize w1.heap.size = B1 at *
    refine (implCheckMenu_any a1 _ cap1 m v am cm ms _ A1.mach (by omega) A1.menu hsl (by omega)).mono ?_
    rintro e w2 ⟨rfl, hb2⟩
    have A2 := A1.below hb2
    have hbw2 := bt hb1' hb2
    clear A1 hb1' hb2
    have nsp := fun W h1 h2 => specCheckMenu_any a1 m.wheels.rotors.length cap1 m v am cm ms W h1 (by omega) h2 (by omega)
    have HT : Hid (chkT m v ms = (setB m v && (menuB ms && ms.all (chk1 m v)))) := Lib.hid rfl
    generalize chkT m v ms = T at *
    have f0 := A2.box.at_ (i := 0) rfl
    have f1 := A2.box.at_ (i := 1) rfl
    have f2 := A2.box.at_ (i := 2) rfl
    have f3 := A2.box.at_ (i := 3) rfl
    cases T with
    | false =>
      go_wp2_with fail
      refine (nsp _ A2.mach A2.menu).mono ?_
      rintro e w3 ⟨rfl, hb3⟩
      have A3 := A2.below hb3
      have hbw3 := bt hbw2 hb3
      clear A2 hbw2 hb3 f0 f1 f2 f3
      have f0 := A3.box.at_ (i := 0) rfl
      have f1 := A3.box.at_ (i := 1) rfl
      have f2 := A3.box.at_ (i := 2) rfl
      have f3 := A3.box.at_ (i := 3) rfl
      go_wp2_with fail
      refine (nsp _ A3.mach A3.menu).mono ?_
      rintro e w4 ⟨rfl, hb4⟩
      go_wp2
      go_ret
      exact ⟨rfl, bt hbw3 hb4⟩
    | true =>
      have hT := HT.out.symm
      simp only [Bool.and_eq_true] at hT
      obtain ⟨h1, h2, hall⟩ := hT
      have H1 := Lib.hid h1
      have H2 := Lib.hid h2
      have HALL := Lib.hid hall
      have hmb := setB_mach h1
      clear HT h1 h2 hall
      go_wp2_with fail
      refine (nsp _ A2.mach A2.menu).mono ?_
      rintro e w3 ⟨rfl, hb3⟩
      have A3 := A2.below hb3
      have hbw3 := bt hbw2 hb3
      clear A2 hbw2 hb3 f0 f1 f2 f3 nsp
      have f0 := A3.box.at_ (i := 0) rfl
      have f1 := A3.box.at_ (i := 1) rfl
      have f2 := A3.box.at_ (i := 2) rfl
      have f3 := A3.box.at_ (i := 3) rfl
      go_wp2_with fail
      have hpl : m.plugs.size = 10 := permB_size (plugB_perm (machB_plug hmb))
      have HKP := Lib.hid (fun (x : Nat) (hx : x < 10) => @keep_pairs m v ms hmb H2.out HALL.out x hx)
      have HAP := Lib.hid (fun (x : Nat) (hx : x < 10) => @app_plug m hmb x hx)
      have HIP := Lib.hid (fun s W h1 h2 (hs : s.size ≤ 4294967296) => implImpliedPairs_any a1 cap1 m v am cm ms s W h1 (by omega) h2 hsl (by omega) hs)
      clear f0 f1 f2 f3 H1 H2 HALL hmb
      go_loopw [7, 8, 9, 10] (fun i _ _ _ wr => ∃ k : Nat, k ≤ 10 ∧ i = .int .i64 k ∧ LAt wr B1 a1 cap1 m am ms ∧ Below w.heap.size w wr) (fun i _ _ _ _ => 10 - (intOf i).toNat)
      case atStart => exact ⟨0, Nat.zero_le _, rfl, A3, hbw3⟩
      case round =>
        clear A3 hbw3
        obtain ⟨k, hk, rfl, A3, hbw3⟩ := hrel
        by_cases hlt : k < 10
        · have tl : decide ((k : Int) < 10) = true := decide_eq_true (by omega)
          have nap := fun W => implApplyPerm_any m.plugs (S [letr (k : Int)]) W (by omega) (by rw [size_S]; simp)
          have hap := HAP.out k hlt
          have hkp := HKP.out k hlt
          have hwk : wd [k] = S [letr (k : Int)] := rfl
          rw [hwk] at hap hkp
          rw [hap] at nap
          have hpp : (wd [pAt (dg m.plugs) k]).size = 1 := size_wd _
          generalize wd [pAt (dg m.plugs) k] = Y at *
          have hss : (S [letr (k : Int)]).size = 1 := by rw [size_S]; simp
          have hsum : (S [letr (k : Int)]).size + Y.size ≤ 9223372036854775807 := by omega
          have nl := fun W => rcLetter_any k W (by omega)
          generalize S [letr (k : Int)] = X at *
          clear hap hwk
          go_wp2_with fail
          refine (nl _).mono ?_
          rintro e w4 ⟨rfl, hb4⟩
          have A4 := A3.below hb4
          have hbw4 := bt hbw3 hb4
          clear A3 hb4 hbw3 nl
          have lo := A4.box.lt
          have f0 := A4.box.at_ (i := 0) rfl
          have f1 := A4.box.at_ (i := 1) rfl
          have f2 := A4.box.at_ (i := 2) rfl
          have f3 := A4.box.at_ (i := 3) rfl
          have d0 := fun (cc : Cls w4.heap.size w4) => (cc.cell B1 0 lo).trans f0
          have d1 := fun (cc : Cls w4.heap.size w4) => (cc.cell B1 1 lo).trans f1
          have d2 := fun (cc : Cls w4.heap.size w4) => (cc.cell B1 2 lo).trans f2
          have d3 := fun (cc : Cls w4.heap.size w4) => (cc.cell B1 3 lo).trans f3
          clear f0 f1 f2 f3
          go_wp2_with fail
          refine wp_region_cls_tail 9 (by kernel_rfl) (by kernel_rfl) ?_
          simp only [List.take_succ_cons, List.take_zero, List.drop_succ_cons, List.drop_zero]
          repeat (go_big_quiet_step (first | (go_at_call 38; with_reducible exact cls_of (Nat.le_refl _) (nap _))))
          refine wpQuiet_nil ?_
          intro wc hbc
          have A5 := A4.below hbc
          have hbw5 := bt hbw4 hbc
          clear A4 hbw4 d0 d1 d2 d3 hbc lo
          go_wp2_with fail
          refine (HIP.out _ _ A5.mach A5.menu (by rw [ByteArray.size_append]; omega)).mono ?_
          rintro e w6 ⟨lv, rfl, ol, hb6⟩
          obtain ⟨al, cl, rfl, hlc, hrd, -⟩ := OwR.val ol
          have A6 := A5.below hb6
          have hbw6 := bt hbw5 hb6
          clear A5 hb6 hbw5 ol hlc
          have hls : (impT m v ms (X ++ Y)).length ≤ 4294967296 := by
            unfold impT impL
            split
            · rw [List.length_map]; exact Nat.le_trans (impP_len _ 10) (by omega)
            · simp
          have HK2 := Lib.hid hkp
          clear hkp hpp hss hsum nap
          generalize impT m v ms (X ++ Y) = ls at *
          go_wp2_with fail
          go_loopw [2, 10] (fun _ i wr => ∃ j : Nat, j ≤ ls.length ∧ i = .int .i64 j ∧ LAt wr B1 a1 cap1 m am ms ∧ Reads wr wr.heap.size al (sv ls) ∧ Below w.heap.size w wr) (fun _ i _ => ls.length - (intOf i).toNat)
          case atStart => exact ⟨0, Nat.zero_le _, rfl, A6, hrd, hbw6⟩
          case round =>
            clear A6 hrd hbw6
            obtain ⟨j, hj, rfl, A6, hrd, hbw6⟩ := hrel
            by_cases hlj : j < ls.length
            · have tj : decide ((j : Int) < (ls.length : Int)) = true := decide_eq_true (by omega)
              obtain ⟨b, off, rfl, hbl, hcl⟩ := hrd.cells (by simp [sv]; omega)
              have hc := hcl.at_ (i := j) (sv_at hlj)
              have hy := HK2.out _ (List.getElem_mem hlj)
              have hlo := A6.box.lt
              have f3 := A6.box.at_ (i := 3) rfl
              have d3 := fun (cc : Cls wr.heap.size wr) => (cc.cell B1 3 hlo).trans f3
              have d4 := fun (cc : Cls wr.heap.size wr) => (cc.cell b (off + j) hbl).trans hc
              have s1 := fun W => sl_t1 ls[j] (by omega) W
              have s2 := fun W => sl_1 ls[j] (by omega) W
              have hz2 := hy.1
              rw [hz2] at s2
              have nap := fun W => implApplyPerm_any m.plugs (ls[j].extract 0 1) W (by omega) (by rw [ByteArray.size_extract]; omega)
              rw [hy.2] at nap
              clear f3 hc hcl
              generalize ls[j] = t at *
              go_wp2_with fail
              refine wp_region_cls (by kernel_rfl) (by kernel_rfl) ?_
              repeat (go_big_quiet_step (first | (go_at_call 38; with_reducible exact cls_of (Nat.le_refl _) (nap _))))
              refine wpQuiet_nil ?_
              intro wc hbc
              have A7 := A6.below hbc
              have hrd7 := (hrd.below hbc (Nat.le_refl _)).more hbc.size
              have hbw7 := bt hbw6 hbc
              clear A6 hrd hbw6 hbc d3 d4 nap
              go_wp2_with fail
              go_roundw
              case rel => exact ⟨j + 1, by omega, by go_num, A7, hrd7, hbw7⟩
              case measure => simp [intOf]; omega
            · have tj : decide ((j : Int) < (ls.length : Int)) = false := decide_eq_false (by omega)
              go_wp2
              go_roundw
              case rel => exact ⟨k + 1, by omega, by go_num, A6, hbw6⟩
              case measure => simp [intOf]; omega
        · have tl : decide ((k : Int) < 10) = false := decide_eq_false (by omega)
          go_wp2
          go_ret
          exact ⟨rfl, hbw3⟩
end Go.Proofs.YtdmnkcmkpjmfaaaGreat

/- The walk of the law that the bombe stops at the true windows. -/
namespace Go.Proofs.YtdmnkcmkpjmfaaaGreat
open Go.RowKit
attribute [local go_sem] Oper.semAt_some

/-- The bombe of the bare machine stops at windows at which the machine keeps the menu. -/
theorem bombe_last {m : Mach} {v : ByteArray} {ms : List Lnk} (h : setB m v = true) (hm : menuB ms = true) (hk : ms.all (chk1 m v) = true) : ∃ t, t.length ≤ 1 ∧ stpT (bareM m) [m.rings, v] ms = t ++ [v] := by
  have hmb := setB_mach h
  have hf := machB_fit hmb
  have hr : setB m m.rings = true := setB_mk hmb rfl hf.word
  have ha : anyH (bareM m) ms v = true := by
    unfold anyH
    have hmem : pAt (dg m.plugs) (cenN ms) ∈ hypL (bareM m) v ms := keep_hyp hmb hm hk
    cases hl : hypL (bareM m) v ms with
    | nil => rw [hl] at hmem; simp at hmem
    | cons a b => rfl
  rw [stpT_yes (by rw [machB_bare hmb, hm]; simp [setB_bare h, setB_bare hr])]
  refine ⟨[m.rings].filter (anyH (bareM m) ms), List.length_filter_le _ _, ?_⟩
  rw [show [m.rings, v] = [m.rings] ++ [v] from rfl, List.filter_append]
  simp [ha]
set_option maxRecDepth 100000 in
set_option maxHeartbeats 4000000 in
theorem bombeTrue_walk (a : Option Addr) (len cap : Nat) (zs : List Int) (w : World) (h : IsRow .u8 w a len cap zs) :
    Calls Tryz.prog 6 #[.slice a len cap] w fun e w' => e = .returned (.bool true) ∧ Below w.heap.size w w' := by
  have hlen : len ≤ 9223372036854775807 := by
    rcases h with ⟨_, rfl, _⟩ | ⟨x, _, hl, hm, _⟩
    · omega
    · unfold maxLen at hm; omega
  by_cases hl : 1048576 < len
  · go_enter Tryz.func6, Tryz.ntmps6
    go_wp2
    go_ret
    exact ⟨rfl, Below.refl _ _⟩
  · go_enter Tryz.func6, Tryz.ntmps6
    go_wp2_with fail
    refine (DrawCheckMenu_any a len cap zs _ h (by omega)).mono ?_
    rintro e w1 ⟨m, v, ms, a1, am, cap1, cm, ⟨hsm, hrd, -, hb1⟩, hv, hst, hl24, hrm, rfl⟩
    have o1 := Own.new w1 [.slice a1 m.wheels.rotors.length cap1, .string m.wheels.refl, .string m.rings, .string m.plugs] 36
    have hba : Below w1.heap.size w1 (w1.alloc (.cells [.slice a1 m.wheels.rotors.length cap1, .string m.wheels.refl, .string m.rings, .string m.plugs].toArray 36)) := (Below.refl _ _).alloc (Nat.le_refl _) _
    have hb1' := hb1.alloc hb1.size (.cells [.slice a1 m.wheels.rotors.length cap1, .string m.wheels.refl, .string m.rings, .string m.plugs].toArray 36)
    have A1 : LAt (w1.alloc (.cells [.slice a1 m.wheels.rotors.length cap1, .string m.wheels.refl, .string m.rings, .string m.plugs].toArray 36)) w1.heap.size a1 cap1 m am ms := ⟨o1, (hsm.at_ hrd).alloc_ _, (hrm.below hba (Nat.le_refl _)).more hba.size⟩
    have hsl := hst.smL
    clear hrd hb1 h hsm hrm hba o1
    go_wp2_with fail
    generalize (w1.alloc (.cells [.slice a1 m.wheels.rotors.length cap1, .string m.wheels.refl, .string m.rings, .string m.plugs].toArray 36)) = W1 at *
    generalize w1.heap.size = B1 at *
    refine (implCheckMenu_any a1 _ cap1 m v am cm ms _ A1.mach (by omega) A1.menu hsl (by omega)).mono ?_
    rintro e w2 ⟨rfl, hb2⟩
    have A2 := A1.below hb2
    have hbw2 := bt hb1' hb2
    clear A1 hb1' hb2
    have nsp := fun W h1 h2 => specCheckMenu_any a1 m.wheels.rotors.length cap1 m v am cm ms W h1 (by omega) h2 (by omega)
    have HT : Hid (chkT m v ms = (setB m v && (menuB ms && ms.all (chk1 m v)))) := Lib.hid rfl
    generalize chkT m v ms = T at *
    have f0 := A2.box.at_ (i := 0) rfl
    have f1 := A2.box.at_ (i := 1) rfl
    have f2 := A2.box.at_ (i := 2) rfl
    have f3 := A2.box.at_ (i := 3) rfl
    cases T with
    | false =>
      go_wp2_with fail
      refine (nsp _ A2.mach A2.menu).mono ?_
      rintro e w3 ⟨rfl, hb3⟩
      have A3 := A2.below hb3
      have hbw3 := bt hbw2 hb3
      clear A2 hbw2 hb3 f0 f1 f2 f3
      have f0 := A3.box.at_ (i := 0) rfl
      have f1 := A3.box.at_ (i := 1) rfl
      have f2 := A3.box.at_ (i := 2) rfl
      have f3 := A3.box.at_ (i := 3) rfl
      go_wp2_with fail
      refine (nsp _ A3.mach A3.menu).mono ?_
      rintro e w4 ⟨rfl, hb4⟩
      go_wp2
      go_ret
      exact ⟨rfl, bt hbw3 hb4⟩
    | true =>
      have hT := HT.out.symm
      simp only [Bool.and_eq_true] at hT
      obtain ⟨h1, h2, hall⟩ := hT
      have H1 := Lib.hid h1
      have H2 := Lib.hid h2
      have HALL := Lib.hid hall
      have hmb := setB_mach h1
      clear HT h1 h2 hall
      go_wp2_with fail
      refine (nsp _ A2.mach A2.menu).mono ?_
      rintro e w3 ⟨rfl, hb3⟩
      have A3 := A2.below hb3
      have hbw3 := bt hbw2 hb3
      clear A2 hbw2 hb3 f0 f1 f2 f3 nsp
      have f0 := A3.box.at_ (i := 0) rfl
      have f1 := A3.box.at_ (i := 1) rfl
      have f2 := A3.box.at_ (i := 2) rfl
      have f3 := A3.box.at_ (i := 3) rfl
      go_wp2_with fail
      obtain ⟨tl, htl, hbl⟩ := bombe_last H1.out H2.out HALL.out
      have hbl2 : ∀ hh, (stpT (bareM m) [m.rings, v] ms)[(stpT (bareM m) [m.rings, v] ms).length - 1]'hh = v := by
        rw [hbl]; intro hh; simp
      have hbl3 : (stpT (bareM m) [m.rings, v] ms).length = tl.length + 1 := by rw [hbl]; simp
      have hf := machB_fit hmb
      have hvz : v.size ≤ 4294967296 := by omega
      have hrz : m.rings.size ≤ 4294967296 := by rw [hf.size]; have := hf.three; omega
      have HBS : Hid (∀ al cl W, MachAt W W.heap.size a1 m.wheels.rotors.length (bareM m) → Reads W W.heap.size al (sv [m.rings, v]) → Reads W W.heap.size am (lks ms) → Calls Tryz.prog 41 #[.agg #[.slice a1 m.wheels.rotors.length cap1, .string m.wheels.refl, .string m.rings, .string (wd idP)], .slice al 2 cl, .slice am ms.length cm] W (RowPost 9 1 (stpT (bareM m) [m.rings, v] ms).length (sv (stpT (bareM m) [m.rings, v] ms)) W)) :=
        Lib.hid (fun al cl W h1 h2 h3 => implBombeStops_any a1 cap1 (bareM m) al cl [m.rings, v] am cm ms W h1 h2 (by simp [hvz, hrz]) (by simp) h3 hsl (by omega))
      clear hbl f0 f1 f2 f3 H1 H2 HALL hmb hf hvz hrz
      generalize stpT (bareM m) [m.rings, v] ms = ls at *
      have HL := Lib.hid hbl2
      have HL3 := Lib.hid hbl3
      clear hbl2 hbl3
      have lo := A3.box.lt
      have HSS : Hid (∀ W' : World, Below w3.heap.size w3 W' → W'.rangeAt B1 0 [.slice a1 m.wheels.rotors.length cap1, .string m.wheels.refl, .string m.rings, .string m.plugs] ∧ W'.cell? ⟨B1, 2, none⟩ = some (.string m.rings)) := Lib.hid (fun W' hb => ⟨(A3.box.below hb lo).cells.range, (A3.box.below hb lo).at_ (i := 2) rfl⟩)
      go_cut [7] (fun s7 wr => ∃ al cl, s7 = .slice al ls.length cl ∧ Reads wr wr.heap.size al (sv ls) ∧ Below w.heap.size w wr)
      case first =>
        refine wp_onlyN ?_
        refine wp_region_any (by kernel_rfl) ?_
        refine wpAny_of_K (S := fun w' => w'.rangeAt B1 0 [.slice a1 m.wheels.rotors.length cap1, .string m.wheels.refl, .string m.rings, .string m.plugs] ∧ w'.cell? ⟨B1, 2, none⟩ = some (.string m.rings)) (kp := fun _ => true) _ _ _ _ ?_
        have hbd : Below w3.heap.size w3 w3.drew := (Below.refl _ _).drew
        have hS := HSS.out w3.drew hbd
        refine kr_take 0 37 (v := .agg #[.slice a1 m.wheels.rotors.length cap1, .string m.wheels.refl, .string m.rings, .string m.plugs]) rfl (by kernel_rfl) (by kernel_rfl) (by kernel_rfl) (by kernel_rfl) (fun _ _ _ h => by cases h.1) rfl hS (yieldsIf_load_mid (by rfl) _ _ rfl _ _ rfl _ _ (fun _ h => h.1) Tryz.underlying36 rfl (by kernel_rfl)) ?_; simp only [Act.put, List.setIfInBounds_toArray, List.set_cons_succ, List.set_cons_zero]
        refine kr_take 2 39 (v := .pointer (some ⟨B1, 2, none⟩)) rfl (by kernel_rfl) (by kernel_rfl) (by kernel_rfl) (by kernel_rfl) (fun _ _ _ h => by cases h.1) rfl hS (Or.inl ⟨by rfl, fun _ _ => by simp [go_sem]⟩) ?_; simp only [Act.put, List.setIfInBounds_toArray, List.set_cons_succ, List.set_cons_zero]
        refine kr_take 3 40 (v := .string m.rings) rfl (by kernel_rfl) (by kernel_rfl) (by kernel_rfl) (by kernel_rfl) (fun _ _ _ h => by cases h.1) rfl hS (Or.inl ⟨by rfl, fun w' hw' => by have hw1 := hw'.2; simp [go_sem, hw1]⟩) ?_; simp only [Act.put, List.setIfInBounds_toArray, List.set_cons_succ, List.set_cons_zero]
        refine kr_take 4 41 (v := .string v) rfl (by kernel_rfl) (by kernel_rfl) (by kernel_rfl) (by kernel_rfl) (fun _ _ _ h => by cases h.1) rfl hS (Or.inl ⟨by rfl, fun _ _ => rfl⟩) ?_; simp only [Act.put, List.setIfInBounds_toArray, List.set_cons_succ, List.set_cons_zero]
        refine kr_take 6 43 (v := .slice am ms.length cm) rfl (by kernel_rfl) (by kernel_rfl) (by kernel_rfl) (by kernel_rfl) (fun _ _ _ h => by cases h.1) rfl hS (Or.inl ⟨by rfl, fun _ _ => rfl⟩) ?_; simp only [Act.put, List.setIfInBounds_toArray, List.set_cons_succ, List.set_cons_zero]
        refine kr_two 1 5 38 42 (v2 := .slice (some ⟨w3.heap.size, 0, none⟩) 2 2) (w2 := w3.drew.alloc (.cells #[.string m.rings, .string v] 9)) (by kernel_rfl) rfl (by rfl) rfl (fun w => by simp [go_sem]) rfl (by rfl) rfl (by simp [go_sem]) (rcBare_any a1 m.wheels.rotors.length cap1 m w3.drew) (fun e w4 hT => ?_) ?_
        · obtain ⟨rfl, hb4⟩ := hT
          have hbw4 : Below w3.heap.size w3 w4 := hbd.trans hb4
          refine ⟨_, rfl, HSS.out _ hbw4, ?_⟩
          simp only [Act.put, List.setIfInBounds_toArray, List.set_cons_succ, List.set_cons_zero]
          refine kr_value 5 42 (v := .slice (some ⟨w4.heap.size, 0, none⟩) 2 2) (w' := w4.alloc (.cells #[.string m.rings, .string v] 9)) (by kernel_rfl) rfl (by rfl) rfl (by simp [go_sem]) ⟨HSS.out _ (hbw4.alloc hbw4.size _), ?_⟩
          simp only [Act.put, List.setIfInBounds_toArray, List.set_cons_succ, List.set_cons_zero]
          have o5 : Own (w4.alloc (.cells #[.string m.rings, .string v] 9)) w4.heap.size [.string m.rings, .string v] := Own.new w4 [.string m.rings, .string v] 9
          have hbw5 := hbw4.alloc hbw4.size (.cells #[.string m.rings, .string v] 9)
          generalize hg5 : w4.heap.size = g5 at *
          clear hg5
          generalize w4.alloc (.cells #[.string m.rings, .string v] 9) = w5 at *
          have A5 := A3.below hbw5
          have hM5 := A5.mach.bare
          have hMn5 := A5.menu
          have hR5 : Reads w5 w5.heap.size (some ⟨g5, 0, none⟩) (sv [m.rings, v]) := Reads.of_own o5 o5.lt
          have hS := HSS.out _ hbw5
          refine kr_callM 7 44 (by kernel_rfl) rfl (by rfl) rfl (fun w => by simp [go_sem]) (HBS.out (some ⟨g5, 0, none⟩) 2 w5 hM5 hR5 hMn5) (fun e w6 hT => ?_)
          obtain ⟨lv, rfl, ol, hb6⟩ := hT
          obtain ⟨al, cl, rfl, -, hrd, -⟩ := OwR.val ol
          have hbw6 := hbw5.trans (hb6.mono hbw5.size)
          refine ⟨_, rfl, HSS.out _ hbw6, ?_⟩
          simp only [Act.put, List.setIfInBounds_toArray, List.set_cons_succ, List.set_cons_zero]
          have hS := HSS.out _ hbw6
          refine kr_take 8 7 (v := .slice al ls.length cl) rfl (by kernel_rfl) (by kernel_rfl) (by kernel_rfl) (by kernel_rfl) (fun _ _ _ h => by cases h.1) rfl hS (Or.inl ⟨by rfl, fun _ _ => rfl⟩) ?_; simp only [Act.put, List.setIfInBounds_toArray, List.set_cons_succ, List.set_cons_zero]
          refine ⟨by kernel_rfl, onlyN_mk ?_⟩
          go_wp2_with fail
          go_meet
          exact ⟨al, cl, rfl, hrd, bt hbw3 hbw6⟩
        · have hbwA := hbd.alloc (Nat.le_refl _) (.cells #[.string m.rings, .string v] 9)
          refine ⟨HSS.out _ hbwA, ?_⟩
          simp only [Act.put, List.setIfInBounds_toArray, List.set_cons_succ, List.set_cons_zero]
          have o4 : Own (w3.drew.alloc (.cells #[.string m.rings, .string v] 9)) w3.heap.size [.string m.rings, .string v] := Own.new w3.drew [.string m.rings, .string v] 9
          refine kr_callM 1 38 (by kernel_rfl) rfl (by rfl) rfl (fun w => by simp [go_sem]) (rcBare_any a1 m.wheels.rotors.length cap1 m _) (fun e w5 hT => ?_)
          obtain ⟨rfl, hb5⟩ := hT
          have hbw5 := hbwA.trans (hb5.mono hbwA.size)
          refine ⟨_, rfl, HSS.out _ hbw5, ?_⟩
          simp only [Act.put, List.setIfInBounds_toArray, List.set_cons_succ, List.set_cons_zero]
          have o5 := o4.below hb5 o4.lt
          have A5 := A3.below hbw5
          have hM5 := A5.mach.bare
          have hMn5 := A5.menu
          have hR5 : Reads w5 w5.heap.size (some ⟨w3.heap.size, 0, none⟩) (sv [m.rings, v]) := Reads.of_own o5 o5.lt
          have hS := HSS.out _ hbw5
          refine kr_callM 7 44 (by kernel_rfl) rfl (by rfl) rfl (fun w => by simp [go_sem]) (HBS.out (some ⟨w3.heap.size, 0, none⟩) 2 w5 hM5 hR5 hMn5) (fun e w6 hT => ?_)
          obtain ⟨lv, rfl, ol, hb6⟩ := hT
          obtain ⟨al, cl, rfl, -, hrd, -⟩ := OwR.val ol
          have hbw6 := hbw5.trans (hb6.mono hbw5.size)
          refine ⟨_, rfl, HSS.out _ hbw6, ?_⟩
          simp only [Act.put, List.setIfInBounds_toArray, List.set_cons_succ, List.set_cons_zero]
          have hS := HSS.out _ hbw6
          refine kr_take 8 7 (v := .slice al ls.length cl) rfl (by kernel_rfl) (by kernel_rfl) (by kernel_rfl) (by kernel_rfl) (fun _ _ _ h => by cases h.1) rfl hS (Or.inl ⟨by rfl, fun _ _ => rfl⟩) ?_; simp only [Act.put, List.setIfInBounds_toArray, List.set_cons_succ, List.set_cons_zero]
          refine ⟨by kernel_rfl, onlyN_mk ?_⟩
          go_wp2_with fail
          go_meet
          exact ⟨al, cl, rfl, hrd, bt hbw3 hbw6⟩
      case rest =>
        obtain ⟨al, cl, rfl, hrd, hbw4⟩ := hcut
        have hL0 : 0 < ls.length := by have := HL3.out; omega
        have hL9 : ls.length ≤ 9 := by have := HL3.out; omega
        have tp : decide ((0 : Int) < (ls.length : Int)) = true := decide_eq_true (by omega)
        obtain ⟨b, off, rfl, hbl, hcl⟩ := hrd.cells (by simp [sv]; omega)
        have hc := hcl.at_ (i := ls.length - 1) (sv_at (by omega))
        rw [HL.out (by omega)] at hc
        have e1 : IntKind.i64.wrap ((ls.length : Int) - 1) = ((ls.length - 1 : Nat) : Int) := by rw [IntWalk.i64_in _ (by omega)]; omega
        have q0 : (0 : Int) ≤ ((ls.length - 1 : Nat) : Int) := by omega
        have q1 : ((ls.length - 1 : Nat) : Int) < (ls.length : Int) := by omega
        generalize ls.length - 1 = p at *
        clear hcl hrd HSS HBS A3 hbw3
        go_wp2
        go_ret
        exact ⟨rfl, hbw4⟩
end Go.Proofs.YtdmnkcmkpjmfaaaGreat
