/- Several of my texts in one: HypI2, HypI3, HypS, HypS2. -/
import Derived.Test.YtdmnkcmkpjmfaaaGreatM25
import Derived.Laws.BytesString
import Derived.Test.YtdmnkcmkpjmfaaaGreatM26
/- Hypotheses and MenuBoards of the program. -/
namespace Go.Proofs.YtdmnkcmkpjmfaaaGreat
open Go.RowKit

theorem info_byte : (Tryz.prog.info? 5).map (fun i => (i.zero, i.size, i.bytes)) = some (some (.int .u8 0), 1, 1) := by kernel_rfl
/-- 'string(b)' of bytes that were appended. -/
theorem OwR.conv {w : World} {base : Nat} {v : Value} {l : List UInt8} {n : Nat} (h : OwR w base 5 1 v n (bv l)) : (convert 47 9 v).run Tryz.prog w = .ok (.string (S l)) w := by
  have hn : l.length = n := by have := h.1; rw [length_bv] at this; omega
  have hv := h.val
  rcases h.2 with ⟨rfl, h0⟩ | ⟨g, cap, cur, rfl, -⟩
  · have : l = [] := List.eq_nil_of_length_eq_zero (by omega)
    subst this
    rw [run_convert_bytes_string (P := Tryz.prog) w 47 9 5 none 0 0 Tryz.underlying47 Tryz.underlying5 Tryz.underlying9]
    rfl
  · obtain ⟨a, c, e, -, -, h2⟩ := hv
    cases e
    rcases h2 with h2 | ⟨g', e, -, ho⟩
    · subst h2
      have : l = [] := List.eq_nil_of_length_eq_zero hn
      subst this
      rw [run_convert_bytes_string (P := Tryz.prog) w 47 9 5 (some ⟨g, 0, none⟩) 0 cap Tryz.underlying47 Tryz.underlying5 Tryz.underlying9]
      simp [Conv.bytesToString, go_sem, S, loadCellsFrom]
      rfl
    · cases e
      exact Own.conv (P := Tryz.prog) ho 47 9 5 Tryz.underlying47 Tryz.underlying5 Tryz.underlying9 hn.symm cap
theorem bv_append (a b : List UInt8) : bv (a ++ b) = bv a ++ bv b := by simp [bv]
/-- The letters below k that can be exchanged with a letter. -/
noncomputable def hypX (m : Mach) (v : ByteArray) (ms : List Lnk) (x k : Nat) : List Nat := (List.range k).filter fun y => oneB (impG m v ms x y)
theorem hypX_succ (m : Mach) (v : ByteArray) (ms : List Lnk) (x k : Nat) : hypX m v ms x (k + 1) = hypX m v ms x k ++ if oneB (impG m v ms x k) = true then [k] else [] := by
  unfold hypX
  rw [List.range_succ, List.filter_append]
  congr 1
  by_cases h : oneB (impG m v ms x k) = true <;> simp [h]
theorem hypX_len (m : Mach) (v : ByteArray) (ms : List Lnk) (x k : Nat) : (hypX m v ms x k).length ≤ k := Nat.le_trans (List.length_filter_le _ _) (by simp)
/-- The letters of numbers. -/
def lts (l : List Nat) : List UInt8 := l.map fun n : Nat => letr (n : Int)
theorem lts_snoc (l : List Nat) (k : Nat) : lts (l ++ [k]) = lts l ++ [letr (k : Int)] := by simp [lts]
theorem wd_lts (l : List Nat) : wd l = S (lts l) := rfl
set_option maxRecDepth 100000 in
set_option maxHeartbeats 2000000 in
theorem implHypotheses_any (a : Option Addr) (c : Nat) (m : Mach) (v : ByteArray) (am : Option Addr) (cm : Nat) (ms : List Lnk) (w : World) (h : MachAt w w.heap.size a m.wheels.rotors.length m) (hv : v.size ≤ 4294967296) (hrm : Reads w w.heap.size am (lks ms)) (hz : SmL ms) (hl : ms.length ≤ 4294967296) :
    Calls Tryz.prog 40 #[.agg #[.slice a m.wheels.rotors.length c, .string m.wheels.refl, .string m.rings, .string m.plugs], .string v, .slice am ms.length cm] w fun e w' => e = .returned (.string (hypT m v ms)) ∧ Below w.heap.size w w' := by
  have o0 := Own.new w [.slice a m.wheels.rotors.length c, .string m.wheels.refl, .string m.rings, .string m.plugs] 36
  have hb0 := (Below.refl w.heap.size w).alloc (Nat.le_refl _) (.cells [.slice a m.wheels.rotors.length c, .string m.wheels.refl, .string m.rings, .string m.plugs].toArray 36)
  have h' := h.alloc_ (.cells [.slice a m.wheels.rotors.length c, .string m.wheels.refl, .string m.rings, .string m.plugs].toArray 36)
  have HRM := Lib.hid (fun (wr : World) (hb : Below w.heap.size w wr) => (hrm.below hb (Nat.le_refl _)).more hb.size)
  have HM := Lib.hid (fun (wr : World) (hb : Below w.heap.size w wr) => (h.below hb (Nat.le_refl _)).more hb.size)
  clear hrm h
  have HT : Hid ((setB m v && menuB ms) = true → hypT m v ms = S (lts (hypX m v ms (cenN ms) 10))) := Lib.hid (fun hf => by unfold hypT; rw [if_pos hf]; rfl)
  have HNIL : Hid ((setB m v && menuB ms) = false → hypT m v ms = S []) := Lib.hid (fun hf => by unfold hypT; rw [if_neg (by rw [hf]; simp)])
  go_enter Tryz.func40, Tryz.ntmps40
  go_wp2_with fail
  refine (settingValid_any _ _ _ _ _ _ h' hv).mono ?_
  rintro e w1 ⟨rfl, hb1⟩
  have o1 := o0.below hb1 o0.lt
  have hb := bt hb0 hb1
  clear o0 hb0 hb1 h'
  cases h1 : setB m v with
  | false =>
    have HE := Lib.hid (HNIL.out (by rw [h1]; rfl))
    clear h1
    go_wp2
    go_ret
    exact ⟨ret_str HE.out.symm, hb⟩
  | true =>
    have H1 := Lib.hid h1
    clear h1
    go_wp2_with fail
    refine (implMenuValid_any am cm ms _ (HRM.out _ hb) hz hl).mono ?_
    rintro e w2 ⟨rfl, hb2⟩
    have o2 := o1.below hb2 o1.lt
    have hbw2 := bt hb hb2
    clear o1 hb hb2
    cases h2 : menuB ms with
    | false =>
      have HE := Lib.hid (HNIL.out (by rw [h2]; simp))
      clear h2
      go_wp2
      go_ret
      exact ⟨ret_str HE.out.symm, hbw2⟩
    | true =>
      have H2 := Lib.hid h2
      have HT := Lib.hid (HT.out (by rw [H1.out, h2]; rfl))
      clear h2
      have f0 := o2.at_ (i := 0) rfl
      have f1 := o2.at_ (i := 1) rfl
      have f2 := o2.at_ (i := 2) rfl
      have f3 := o2.at_ (i := 3) rfl
      go_wp2_with fail
      refine (newBombe_any a c m v am cm ms w2 (HM.out _ hbw2) H1.out (HRM.out _ hbw2) H2.out).mono ?_
      rintro e w3 ⟨g, rfl, hg, hwG, hb3⟩
      have hbw3 := bt hbw2 hb3
      clear o2 hbw2 hb3 f0 f1 f2 f3
      go_wp2_with fail
      refine (implCentralLetter_yes am cm ms w3 (HRM.out _ hbw3) hz hl H2.out).mono ?_
      rintro e w4 ⟨rfl, hb4⟩
      have hwG4 := hwG.below hb4 (Nat.le_refl _)
      have hbw4 := bt hbw3 hb4
      have hcl := cenN_lt ms
      have hs1 : (wd [cenN ms]).size = 1 := by rw [size_wd]; rfl
      have hat : (wd [cenN ms])[0]'(by omega) = letr (cenN ms : Int) := by
        rw [getElem_L]
        simp only [wd, L_S]
        rfl
      have hnum := fun W => implNumber_any ((wd [cenN ms])[0]'(by omega)) W (by rw [hat, letr_toNat]; omega)
      rw [hat, dig_letr, show ((cenN ms : Int) % 10) = (cenN ms : Int) by omega] at hnum
      have HAT := Lib.hid hat
      have s0 : 0 < (wd [cenN ms]).size := by omega
      clear hat hb4 hbw3 hwG
      go_wp2_with fail
      refine (hnum _).mono ?_
      rintro e w' ⟨rfl, rfl⟩
      go_wp2_with fail
      have HW := Lib.hid hwG4
      have hz4 := hbw4.size
      clear hwG4 hnum
      generalize cenN ms = x at *
      go_loopw [7, 10, 11, 12, 30] (fun u _ _ _ i wr => ∃ k : Nat, k ≤ 10 ∧ i = .int .i64 k ∧ OwR wr w4.heap.size 5 1 u (hypX m v ms x k).length (bv (lts (hypX m v ms x k))) ∧ Below w4.heap.size w4 wr) (fun _ _ _ _ i _ => 10 - (intOf i).toNat)
      case atStart => exact ⟨0, by omega, rfl, World.ownsRow_nil _ _ _ _, Below.refl _ _⟩
      case round =>
        obtain ⟨k, hk, rfl, hown, hb⟩ := hrel
        have hwg := HW.out.below hb (Nat.le_refl _)
        by_cases hlt : k < 10
        · have tk : decide ((k : Int) < 10) = true := decide_eq_true (by omega)
          have HS := Lib.hid (hypX_succ m v ms x k)
          have hle := hypX_len m v ms x k
          have hz0 := hb.size
          generalize hypX m v ms x k = l at *
          go_wp2_with fail
          refine (imply_any g (menG m v ms) x k wr hwg (menG_ok (setB_mach H1.out) H2.out) hcl hlt (by rw [len_menG]; have := (menuB_asc H2.out).few; omega)).mono ?_
          rintro e w5 ⟨g5, rfl, hg5, oS, hb5⟩
          have hown5 := OwR.below hown hb5 (Nat.le_refl _)
          have hbw5 := hb.trans (hb5.mono hb.size)
          clear hwg hown hb hb5
          go_wp2_with fail
          refine (pairBoard_any g5 (impB (menG m v ms) x k) w5 oS (impB_symm _ _ _)).mono ?_
          rintro e w6 ⟨rfl, hb6⟩
          have hown6 := OwR.below hown5 hb6 (Nat.le_refl _)
          have hbw6 := hbw5.trans (hb6.mono hbw5.size)
          clear hown5 hbw5 hb6 oS
          obtain ⟨la, lc, rfl, -, -, -⟩ := OwR.val hown6
          have hz6 := hbw6.size
          cases h1 : oneB (impB (menG m v ms) x k) with
          | true =>
            have e1 : brdT (impB (menG m v ms) x k) = (wd (boardL (impB (menG m v ms) x k)), true) := by unfold brdT; rw [if_pos h1]
            have HS2 : Hid (hypX m v ms x (k + 1) = l ++ [k]) := Lib.hid (by rw [HS.out, if_pos (show oneB (impG m v ms x k) = true from h1)])
            rw [e1]
            clear e1 h1
            go_wp2_with fail
            refine (implLetter_any (k : Int) _ (by omega) (by omega)).mono ?_
            rintro e w' ⟨rfl, rfl⟩
            go_wp2_with (at_builtin; ((with_reducible refine wl_push 47 5 info_byte Tryz.underlying47 rfl (by omega) hown6 hz6 rfl (by simp [Value.oneCell']) (by omega) (by omega) rfl rfl ?_); intro g7 cap w7 o7 b7 k7))
            go_roundw
            case rel => exact ⟨k + 1, by omega, by go_num, by rw [HS2.out, List.length_append, lts_snoc, bv_append]; exact o7, hbw6.trans b7⟩
            case measure => simp [intOf]; omega
          | false =>
            have e1 : brdT (impB (menG m v ms) x k) = (S [], false) := by unfold brdT; rw [if_neg (by rw [h1]; simp)]
            have HS2 : Hid (hypX m v ms x (k + 1) = l) := Lib.hid (by rw [HS.out, if_neg (by rw [show oneB (impG m v ms x k) = false from h1]; simp), List.append_nil])
            rw [e1]
            clear e1 h1
            go_wp2
            go_roundw
            case rel => exact ⟨k + 1, by omega, by go_num, by rw [HS2.out]; exact hown6, hbw6⟩
            case measure => simp [intOf]; omega
        · have hk' : k = 10 := by omega
          subst hk'
          have hc := OwR.conv hown
          go_wp2
          go_ret
          exact ⟨ret_str HT.out.symm, hbw4.trans (hb.mono hbw4.size)⟩
/-- The boards of hypotheses. -/
noncomputable def brds (m : Mach) (v : ByteArray) (ms : List Lnk) (x : Nat) (l : List Nat) : List ByteArray := l.map fun y => wd (boardL (impG m v ms x y))
theorem brds_snoc (m : Mach) (v : ByteArray) (ms : List Lnk) (x : Nat) (l : List Nat) (k : Nat) : brds m v ms x (l ++ [k]) = brds m v ms x l ++ [wd (boardL (impB (menG m v ms) x k))] := by simp [brds, impG]
theorem brds_len (m : Mach) (v : ByteArray) (ms : List Lnk) (x : Nat) (l : List Nat) : (brds m v ms x l).length = l.length := by simp [brds]
set_option maxRecDepth 100000 in
set_option maxHeartbeats 2000000 in
theorem implMenuBoards_any (a : Option Addr) (c : Nat) (m : Mach) (v : ByteArray) (am : Option Addr) (cm : Nat) (ms : List Lnk) (w : World) (h : MachAt w w.heap.size a m.wheels.rotors.length m) (hv : v.size ≤ 4294967296) (hrm : Reads w w.heap.size am (lks ms)) (hz : SmL ms) (hl : ms.length ≤ 4294967296) :
    Calls Tryz.prog 48 #[.agg #[.slice a m.wheels.rotors.length c, .string m.wheels.refl, .string m.rings, .string m.plugs], .string v, .slice am ms.length cm] w (RowPost 9 1 (mbdT m v ms).length (sv (mbdT m v ms)) w) := by
  have o0 := Own.new w [.slice a m.wheels.rotors.length c, .string m.wheels.refl, .string m.rings, .string m.plugs] 36
  have hb0 := (Below.refl w.heap.size w).alloc (Nat.le_refl _) (.cells [.slice a m.wheels.rotors.length c, .string m.wheels.refl, .string m.rings, .string m.plugs].toArray 36)
  have h' := h.alloc_ (.cells [.slice a m.wheels.rotors.length c, .string m.wheels.refl, .string m.rings, .string m.plugs].toArray 36)
  have HRM := Lib.hid (fun (wr : World) (hb : Below w.heap.size w wr) => (hrm.below hb (Nat.le_refl _)).more hb.size)
  have HM := Lib.hid (fun (wr : World) (hb : Below w.heap.size w wr) => (h.below hb (Nat.le_refl _)).more hb.size)
  clear hrm h
  have HT : Hid ((setB m v && menuB ms) = true → mbdT m v ms = brds m v ms (cenN ms) (hypX m v ms (cenN ms) 10)) := Lib.hid (fun hf => by unfold mbdT; rw [if_pos hf]; rfl)
  have HNIL : Hid ((setB m v && menuB ms) = false → mbdT m v ms = []) := Lib.hid (fun hf => by unfold mbdT; rw [if_neg (by rw [hf]; simp)])
  go_enter Tryz.func48, Tryz.ntmps48
  go_wp2_with fail
  refine (settingValid_any _ _ _ _ _ _ h' hv).mono ?_
  rintro e w1 ⟨rfl, hb1⟩
  have o1 := o0.below hb1 o0.lt
  have hb := bt hb0 hb1
  clear o0 hb0 hb1 h'
  cases h1 : setB m v with
  | false =>
    have HE := Lib.hid (HNIL.out (by rw [h1]; rfl))
    clear h1
    go_wp2
    go_ret
    rw [HE.out]
    exact ⟨_, rfl, World.ownsRow_nil _ _ _ _, hb⟩
  | true =>
    have H1 := Lib.hid h1
    clear h1
    go_wp2_with fail
    refine (implMenuValid_any am cm ms _ (HRM.out _ hb) hz hl).mono ?_
    rintro e w2 ⟨rfl, hb2⟩
    have o2 := o1.below hb2 o1.lt
    have hbw2 := bt hb hb2
    clear o1 hb hb2
    cases h2 : menuB ms with
    | false =>
      have HE := Lib.hid (HNIL.out (by rw [h2]; simp))
      clear h2
      go_wp2
      go_ret
      rw [HE.out]
      exact ⟨_, rfl, World.ownsRow_nil _ _ _ _, hbw2⟩
    | true =>
      have H2 := Lib.hid h2
      have HT := Lib.hid (HT.out (by rw [H1.out, h2]; rfl))
      clear h2
      have f0 := o2.at_ (i := 0) rfl
      have f1 := o2.at_ (i := 1) rfl
      have f2 := o2.at_ (i := 2) rfl
      have f3 := o2.at_ (i := 3) rfl
      go_wp2_with fail
      refine (newBombe_any a c m v am cm ms w2 (HM.out _ hbw2) H1.out (HRM.out _ hbw2) H2.out).mono ?_
      rintro e w3 ⟨g, rfl, hg, hwG, hb3⟩
      have hbw3 := bt hbw2 hb3
      clear o2 hbw2 hb3 f0 f1 f2 f3
      go_wp2_with fail
      refine (implCentralLetter_yes am cm ms w3 (HRM.out _ hbw3) hz hl H2.out).mono ?_
      rintro e w4 ⟨rfl, hb4⟩
      have hwG4 := hwG.below hb4 (Nat.le_refl _)
      have hbw4 := bt hbw3 hb4
      have hcl := cenN_lt ms
      have hs1 : (wd [cenN ms]).size = 1 := by rw [size_wd]; rfl
      have hat : (wd [cenN ms])[0]'(by omega) = letr (cenN ms : Int) := by
        rw [getElem_L]
        simp only [wd, L_S]
        rfl
      have hnum := fun W => implNumber_any ((wd [cenN ms])[0]'(by omega)) W (by rw [hat, letr_toNat]; omega)
      rw [hat, dig_letr, show ((cenN ms : Int) % 10) = (cenN ms : Int) by omega] at hnum
      have HAT := Lib.hid hat
      have s0 : 0 < (wd [cenN ms]).size := by omega
      clear hat hb4 hbw3 hwG
      go_wp2_with fail
      refine (hnum _).mono ?_
      rintro e w' ⟨rfl, rfl⟩
      go_wp2_with fail
      have HW := Lib.hid hwG4
      have hz4 := hbw4.size
      clear hwG4 hnum
      generalize cenN ms = x at *
      go_loopw [7, 10, 11, 12, 30] (fun u _ _ _ i wr => ∃ k : Nat, k ≤ 10 ∧ i = .int .i64 k ∧ OwR wr w4.heap.size 9 1 u (hypX m v ms x k).length (sv (brds m v ms x (hypX m v ms x k))) ∧ Below w4.heap.size w4 wr) (fun _ _ _ _ i _ => 10 - (intOf i).toNat)
      case atStart => exact ⟨0, by omega, rfl, World.ownsRow_nil _ _ _ _, Below.refl _ _⟩
      case round =>
        obtain ⟨k, hk, rfl, hown, hb⟩ := hrel
        have hwg := HW.out.below hb (Nat.le_refl _)
        by_cases hlt : k < 10
        · have tk : decide ((k : Int) < 10) = true := decide_eq_true (by omega)
          have HS := Lib.hid (hypX_succ m v ms x k)
          have hle := hypX_len m v ms x k
          have hz0 := hb.size
          generalize hypX m v ms x k = l at *
          go_wp2_with fail
          refine (imply_any g (menG m v ms) x k wr hwg (menG_ok (setB_mach H1.out) H2.out) hcl hlt (by rw [len_menG]; have := (menuB_asc H2.out).few; omega)).mono ?_
          rintro e w5 ⟨g5, rfl, hg5, oS, hb5⟩
          have hown5 := OwR.below hown hb5 (Nat.le_refl _)
          have hbw5 := hb.trans (hb5.mono hb.size)
          clear hwg hown hb hb5
          go_wp2_with fail
          refine (pairBoard_any g5 (impB (menG m v ms) x k) w5 oS (impB_symm _ _ _)).mono ?_
          rintro e w6 ⟨rfl, hb6⟩
          have hown6 := OwR.below hown5 hb6 (Nat.le_refl _)
          have hbw6 := hbw5.trans (hb6.mono hbw5.size)
          clear hown5 hbw5 hb6 oS
          obtain ⟨la, lc, rfl, -, -, -⟩ := OwR.val hown6
          have hz6 := hbw6.size
          cases h1 : oneB (impB (menG m v ms) x k) with
          | true =>
            have e1 : brdT (impB (menG m v ms) x k) = (wd (boardL (impB (menG m v ms) x k)), true) := by unfold brdT; rw [if_pos h1]
            have HS2 : Hid (hypX m v ms x (k + 1) = l ++ [k]) := Lib.hid (by rw [HS.out, if_pos (show oneB (impG m v ms x k) = true from h1)])
            rw [e1]
            clear e1 h1
            obtain ⟨bd, hbd⟩ : ∃ bd, bd = wd (boardL (impB (menG m v ms) x k)) := ⟨_, rfl⟩
            rw [← hbd]
            have HBD := Lib.hid hbd
            clear hbd
            go_wp2_with (at_builtin; ((with_reducible refine wl_push 30 9 info_str Tryz.underlying30 rfl (by omega) hown6 hz6 rfl (by simp [Value.oneCell']) (by omega) (by omega) rfl rfl ?_); intro g7 cap w7 o7 b7 k7))
            go_roundw
            case rel => exact ⟨k + 1, by omega, by go_num, by rw [HS2.out, List.length_append, brds_snoc, ← HBD.out, sv_append]; exact o7, hbw6.trans b7⟩
            case measure => simp [intOf]; omega
          | false =>
            have e1 : brdT (impB (menG m v ms) x k) = (S [], false) := by unfold brdT; rw [if_neg (by rw [h1]; simp)]
            have HS2 : Hid (hypX m v ms x (k + 1) = l) := Lib.hid (by rw [HS.out, if_neg (by rw [show oneB (impG m v ms x k) = false from h1]; simp), List.append_nil])
            rw [e1]
            clear e1 h1
            go_wp2
            go_roundw
            case rel => exact ⟨k + 1, by omega, by go_num, by rw [HS2.out]; exact hown6, hbw6⟩
            case measure => simp [intOf]; omega
        · have hk' : k = 10 := by omega
          subst hk'
          go_wp2
          go_ret
          refine ⟨_, rfl, ?_, hbw4.trans (hb.mono hbw4.size)⟩
          rw [HT.out, brds_len]
          exact World.ownsRow.mono hown hz4
end Go.Proofs.YtdmnkcmkpjmfaaaGreat

/- BombeStops and PairsBoard of the program. -/
namespace Go.Proofs.YtdmnkcmkpjmfaaaGreat
open Go.RowKit

/-- Whether there are hypotheses. -/
noncomputable def anyH (m : Mach) (ms : List Lnk) (v : ByteArray) : Bool := !(hypL m v ms).isEmpty
theorem filter_takeS {P : ByteArray → Bool} {vs : List ByteArray} {k : Nat} (h : k < vs.length) : (vs.take (k + 1)).filter P = (vs.take k).filter P ++ if P vs[k] = true then [vs[k]] else [] := by
  rw [List.take_succ_eq_append_getElem h, List.filter_append]
  congr 1
  by_cases e : P vs[k] = true <;> simp [e]
theorem stpT_no {m : Mach} {vs : List ByteArray} {ms : List Lnk} (h : (machB m && (menuB ms && (decide (vs.length ≤ 12) && vs.all (setB m)))) = false) : stpT m vs ms = [] := by
  unfold stpT; rw [if_neg (by rw [h]; simp)]
theorem stpT_yes {m : Mach} {vs : List ByteArray} {ms : List Lnk} (h : (machB m && (menuB ms && (decide (vs.length ≤ 12) && vs.all (setB m)))) = true) : stpT m vs ms = vs.filter (anyH m ms) := by
  unfold stpT; rw [if_pos h]; rfl
theorem hypT_size {m : Mach} {v : ByteArray} {ms : List Lnk} (h1 : setB m v = true) (h2 : menuB ms = true) : (hypT m v ms).size = (hypL m v ms).length := by
  unfold hypT
  rw [if_pos (by rw [h1, h2]; rfl), size_wd]
theorem anyH_iff {m : Mach} {v : ByteArray} {ms : List Lnk} (h1 : setB m v = true) (h2 : menuB ms = true) : anyH m ms v = true ↔ (hypT m v ms).size ≠ 0 := by
  rw [hypT_size h1 h2]
  unfold anyH
  cases hypL m v ms <;> simp
set_option maxRecDepth 100000 in
set_option maxHeartbeats 2000000 in
theorem implBombeStops_any (a : Option Addr) (c : Nat) (m : Mach) (al : Option Addr) (cl : Nat) (vs : List ByteArray) (am : Option Addr) (cm : Nat) (ms : List Lnk) (w : World) (h : MachAt w w.heap.size a m.wheels.rotors.length m) (hrl : Reads w w.heap.size al (sv vs)) (hvs : ∀ s ∈ vs, s.size ≤ 4294967296) (hll : vs.length ≤ 4294967296) (hrm : Reads w w.heap.size am (lks ms)) (hz : SmL ms) (hl : ms.length ≤ 4294967296) :
    Calls Tryz.prog 41 #[.agg #[.slice a m.wheels.rotors.length c, .string m.wheels.refl, .string m.rings, .string m.plugs], .slice al vs.length cl, .slice am ms.length cm] w (RowPost 9 1 (stpT m vs ms).length (sv (stpT m vs ms)) w) := by
  have o0 := Own.new w [.slice a m.wheels.rotors.length c, .string m.wheels.refl, .string m.rings, .string m.plugs] 36
  have hb0 := (Below.refl w.heap.size w).alloc (Nat.le_refl _) (.cells [.slice a m.wheels.rotors.length c, .string m.wheels.refl, .string m.rings, .string m.plugs].toArray 36)
  have h' := h.alloc_ (.cells [.slice a m.wheels.rotors.length c, .string m.wheels.refl, .string m.rings, .string m.plugs].toArray 36)
  have HRM := Lib.hid (fun (wr : World) (hb : Below w.heap.size w wr) => (hrm.below hb (Nat.le_refl _)).more hb.size)
  have HM := Lib.hid (fun (wr : World) (hb : Below w.heap.size w wr) => (h.below hb (Nat.le_refl _)).more hb.size)
  have HRL := Lib.hid (fun (wr : World) (hb : Below w.heap.size w wr) => hrl.below hb (Nat.le_refl _))
  have HVS := Lib.hid hvs
  clear hrm h hrl hvs
  have HNIL : Hid (∀ wr : World, Below w.heap.size w wr → (machB m && (menuB ms && (decide (vs.length ≤ 12) && vs.all (setB m)))) = false → RowPost 9 1 (stpT m vs ms).length (sv (stpT m vs ms)) w (.returned (.slice none 0 0)) wr) := Lib.hid (fun wr hb hf => by
    rw [stpT_no hf]
    exact ⟨_, rfl, World.ownsRow_nil _ _ _ _, hb⟩)
  go_enter Tryz.func41, Tryz.ntmps41
  go_wp2_with fail
  refine (implMachineValid_any _ _ _ _ _ h').mono ?_
  rintro e w1 ⟨rfl, hb1⟩
  have o1 := o0.below hb1 o0.lt
  have hb := bt hb0 hb1
  clear o0 hb0 hb1 h'
  cases h1 : machB m with
  | false =>
    have HE := Lib.hid (HNIL.out _ hb (by rw [h1]; rfl))
    clear h1
    go_wp2
    go_ret
    exact HE.out
  | true =>
    have H1 := Lib.hid h1
    clear h1
    go_wp2_with fail
    refine (implMenuValid_any am cm ms _ (HRM.out _ hb) hz hl).mono ?_
    rintro e w2 ⟨rfl, hb2⟩
    have o2 := o1.below hb2 o1.lt
    have hbw2 := bt hb hb2
    clear o1 hb hb2
    cases h2 : menuB ms with
    | false =>
      have HE := Lib.hid (HNIL.out _ hbw2 (by rw [h2]; simp))
      clear h2
      go_wp2
      go_ret
      exact HE.out
    | true =>
      have H2 := Lib.hid h2
      clear h2
      by_cases h12 : vs.length ≤ 12
      · have t12 : decide ((12 : Int) < (vs.length : Int)) = false := decide_eq_false (by omega)
        go_wp2_with fail
        go_loopw [7, 9, 25] (fun u _ i wr => ∃ k : Nat, k ≤ vs.length ∧ i = .int .i64 k ∧ (∀ j (h : j < vs.length), j < k → setB m vs[j] = true) ∧ OwR wr w.heap.size 9 1 u ((vs.take k).filter (anyH m ms)).length (sv ((vs.take k).filter (anyH m ms))) ∧ Own wr w.heap.size [.slice a m.wheels.rotors.length c, .string m.wheels.refl, .string m.rings, .string m.plugs] ∧ u.ownBlock ≠ some w.heap.size ∧ Below w.heap.size w wr) (fun _ _ i _ => vs.length - (intOf i).toNat)
        case atStart => exact ⟨0, Nat.zero_le _, rfl, fun _ _ h => absurd h (by omega), World.ownsRow_nil _ _ _ _, o2, by simp [Value.ownBlock], hbw2⟩
        case round =>
          clear o2 hbw2
          obtain ⟨k, hk, rfl, ha, hown, o2, hub, hb⟩ := hrel
          have HA := Lib.hid ha
          clear ha
          by_cases hlt : k < vs.length
          · obtain ⟨b, off, rfl, hbl, hcl⟩ := (HRL.out _ hb).open_ (by rw [length_sv]; omega)
            have c1 := hcl k (by rw [length_sv]; exact hlt)
            rw [sv_at hlt] at c1
            clear hcl
            have q1 : (0 : Int) ≤ (k : Int) := by omega
            have q2 : (k : Int) < (vs.length : Int) := by omega
            have hsz := HVS.out vs[k] (List.getElem_mem hlt)
            have HF := Lib.hid (filter_takeS (P := anyH m ms) hlt)
            have HNA : Hid (setB m vs[k] = false → (machB m && (menuB ms && (decide (vs.length ≤ 12) && vs.all (setB m)))) = false) := Lib.hid (fun e => by
              have : vs.all (setB m) = false := by
                rw [Bool.eq_false_iff]
                intro e2
                rw [List.all_eq_true.1 e2 _ (List.getElem_mem hlt)] at e
                cases e
              rw [this]; simp)
            have HA2 := Lib.hid (fun (h : setB m vs[k] = true) j (hj : j < vs.length) (hj2 : j < k + 1) => show setB m vs[j] = true from by
              by_cases e : j = k
              · subst e; exact h
              · exact HA.out j hj (by omega))
            generalize vs[k] = v at *
            have hle : ((vs.take k).filter (anyH m ms)).length ≤ 12 := Nat.le_trans (List.length_filter_le _ _) (by rw [List.length_take]; omega)
            generalize (vs.take k).filter (anyH m ms) = l at *
            have f0 := o2.at_ (i := 0) rfl
            have f1 := o2.at_ (i := 1) rfl
            have f2 := o2.at_ (i := 2) rfl
            have f3 := o2.at_ (i := 3) rfl
            go_wp2_with fail
            refine (settingValid_any _ _ _ _ _ _ (HM.out _ hb) hsz).mono ?_
            rintro e w3 ⟨rfl, hb3⟩
            have o3 := o2.below hb3 o2.lt
            have hown3 := OwR.below hown hb3 (Nat.le_refl _)
            have hbw3 := bt hb hb3
            clear o2 hown hb hb3 f0 f1 f2 f3 c1
            cases hs : setB m v with
            | false =>
              have HE := Lib.hid (HNIL.out _ hbw3 (HNA.out hs))
              clear hs
              go_wp2
              go_ret
              exact HE.out
            | true =>
              have HSS := Lib.hid hs
              clear hs
              have f0 := o3.at_ (i := 0) rfl
              have f1 := o3.at_ (i := 1) rfl
              have f2 := o3.at_ (i := 2) rfl
              have f3 := o3.at_ (i := 3) rfl
              go_wp2_with fail
              refine (implHypotheses_any a c m v am cm ms w3 (HM.out _ hbw3) hsz (HRM.out _ hbw3) hz hl).mono ?_
              rintro e w4 ⟨rfl, hb4⟩
              have o4 := o3.below hb4 o3.lt
              have hown4 := OwR.below hown3 hb4 (Nat.le_refl _)
              have hbw4 := bt hbw3 hb4
              have hz4 := hbw4.size
              clear o3 hown3 hbw3 hb4 f0 f1 f2 f3
              obtain ⟨la, lc, rfl, -, -, -⟩ := OwR.val hown4
              by_cases hy : anyH m ms v = true
              · have hne := (anyH_iff HSS.out H2.out).1 hy
                rw [if_pos hy] at HF
                clear hy
                obtain ⟨e1, e2⟩ := ne_empty hne
                clear hne
                generalize hypT m v ms = hs at *
                go_wp2_with (at_builtin; ((with_reducible refine wl_pushG 30 9 info_str Tryz.underlying30 rfl (by omega) hown4 hz4 rfl (by simp [Value.oneCell']) (by omega) (by omega) rfl rfl ?_); intro g7 cap w7 o7 g7g g7n s7 k7))
                have o8 := o4.grownO g7g hub
                go_roundw
                case rel =>
                  refine ⟨k + 1, by omega, by go_num, HA2.out HSS.out, ?_, o8, ?_, hbw4.grown g7g hz4 (fun x e => by have := (World.ownsRow.lt hown4 x e).1; omega)⟩
                  · rw [HF.out, List.length_append, sv_append]; exact o7
                  · rcases g7n with h | h
                    · show some g7 ≠ _
                      rw [← h]; exact hub
                    · simp [Value.ownBlock]; have := o4.lt; omega
                case measure => simp [intOf]; omega
              · have hne : (hypT m v ms).size = 0 := by
                  rcases Nat.eq_zero_or_pos (hypT m v ms).size with h | h
                  · exact h
                  · exact absurd ((anyH_iff HSS.out H2.out).2 (by omega)) hy
                rw [if_neg hy, List.append_nil] at HF
                clear hy
                obtain ⟨e1, e2⟩ := is_empty hne
                clear hne
                generalize hypT m v ms = hs at *
                go_wp2
                go_roundw
                case rel => exact ⟨k + 1, by omega, by go_num, HA2.out HSS.out, by rw [HF.out]; exact hown4, o4, hub, hbw4⟩
                case measure => simp [intOf]; omega
          · have hk' : k = vs.length := by omega
            have hall : vs.all (setB m) = true := List.all_eq_true.2 fun x hx => by
              obtain ⟨j, hj, rfl⟩ := List.getElem_of_mem hx
              exact HA.out j hj (by omega)
            have HT := Lib.hid (stpT_yes (m := m) (vs := vs) (ms := ms) (by rw [H1.out, H2.out, hall, decide_eq_true h12]; rfl))
            rw [hk', List.take_length] at hown
            clear hall
            go_wp2
            go_ret
            exact ⟨_, rfl, by rw [HT.out]; exact hown, hb⟩
      · have t12 : decide ((12 : Int) < (vs.length : Int)) = true := decide_eq_true (by omega)
        have HE := Lib.hid (HNIL.out _ hbw2 (by rw [decide_eq_false h12]; simp))
        clear h12
        go_wp2
        go_ret
        exact HE.out
end Go.Proofs.YtdmnkcmkpjmfaaaGreat

/- Hypotheses, MenuBoards and BombeStops of the reference. -/
namespace Go.Proofs.YtdmnkcmkpjmfaaaGreat
open Go.RowKit

theorem wd_one_app (a b : Nat) : wd [a] ++ S [letr (b : Int)] = wd [a, b] := by unfold wd; rw [S_append]; rfl
theorem lts_app (l : List Nat) (k : Nat) : S (lts l) ++ S [letr (k : Int)] = S (lts (l ++ [k])) := by rw [S_append, lts_snoc]
theorem lts_len (l : List Nat) : (lts l).length = l.length := by simp [lts]
/-- The board of what the search finds. -/
theorem brd_imp {G : List Wire} {x y k : Nat} {out : List (Nat × Nat)} (h : SInv G x y out k) (hk : out.length ≤ k) : brdT (setP out) = brdT (impB G x y) := brdT_congr fun a b _ _ => h.setP hk a b
theorem brd_imp2 {G : List Wire} {x y : Nat} : brdT (setP (impP (impB G x y) 10)) = brdT (impB G x y) := brdT_congr fun _ _ ha hb => setP_impP (impB_symm G x y) ha hb
set_option maxRecDepth 100000 in
set_option maxHeartbeats 2000000 in
theorem specHypotheses_any (a : Option Addr) (c : Nat) (m : Mach) (v : ByteArray) (am : Option Addr) (cm : Nat) (ms : List Lnk) (w : World) (h : MachAt w w.heap.size a m.wheels.rotors.length m) (hv : v.size ≤ 4294967296) (hrm : Reads w w.heap.size am (lks ms)) (hl : ms.length ≤ 4294967296) :
    Calls Tryz.prog 39 #[.agg #[.slice a m.wheels.rotors.length c, .string m.wheels.refl, .string m.rings, .string m.plugs], .string v, .slice am ms.length cm] w fun e w' => e = .returned (.string (hypT m v ms)) ∧ Below w.heap.size w w' := by
  have o0 := Own.new w [.slice a m.wheels.rotors.length c, .string m.wheels.refl, .string m.rings, .string m.plugs] 36
  have hb0 := (Below.refl w.heap.size w).alloc (Nat.le_refl _) (.cells [.slice a m.wheels.rotors.length c, .string m.wheels.refl, .string m.rings, .string m.plugs].toArray 36)
  have h' := h.alloc_ (.cells [.slice a m.wheels.rotors.length c, .string m.wheels.refl, .string m.rings, .string m.plugs].toArray 36)
  have hr' := (hrm.below hb0 (Nat.le_refl _)).more hb0.size
  have HRM := Lib.hid (fun (wr : World) (hb : Below w.heap.size w wr) => (hrm.below hb (Nat.le_refl _)).more hb.size)
  have HM := Lib.hid (fun (wr : World) (hb : Below w.heap.size w wr) => (h.below hb (Nat.le_refl _)).more hb.size)
  clear hrm h
  have HT : Hid ((setB m v && menuB ms) = true → hypT m v ms = S (lts (hypX m v ms (cenN ms) 10))) := Lib.hid (fun hf => by unfold hypT; rw [if_pos hf]; rfl)
  have HNIL : Hid ((setB m v && menuB ms) = false → hypT m v ms = S []) := Lib.hid (fun hf => by unfold hypT; rw [if_neg (by rw [hf]; simp)])
  go_enter Tryz.func39, Tryz.ntmps39
  go_wp2_with fail
  refine (l13Fits_any _ _ _ _ _ _ _ _ _ h' hv hr' hl).mono ?_
  rintro e w1 ⟨rfl, hb1⟩
  have o1 := o0.below hb1 o0.lt
  have hb := bt hb0 hb1
  clear o0 hb0 hb1 h' hr'
  cases h1 : (setB m v && menuB ms) with
  | false =>
    have HE := Lib.hid (HNIL.out h1)
    clear h1
    go_wp2
    go_ret
    exact ⟨ret_str HE.out.symm, hb⟩
  | true =>
    have HT := Lib.hid (HT.out h1)
    obtain ⟨hsb, hm⟩ := Bool.and_eq_true_iff.1 h1
    clear h1
    have HS := Lib.hid hsb
    have HMN := Lib.hid hm
    clear hsb hm
    have f0 := o1.at_ (i := 0) rfl
    have f1 := o1.at_ (i := 1) rfl
    have f2 := o1.at_ (i := 2) rfl
    have f3 := o1.at_ (i := 3) rfl
    go_wp2_with fail
    refine (l13Bare_any a _ c m v am cm ms _ (HM.out _ hb) HS.out (HRM.out _ hb) (menuB_asc HMN.out)).mono ?_
    rintro e w3 ⟨lv, rfl, hol, hb3⟩
    obtain ⟨al, cl, rfl, hlc, -, hgl⟩ := OwR.val hol
    have hone := (menuB_asc HMN.out).one
    obtain ⟨gK, rfl, -, ok⟩ := hgl.resolve_left (by omega)
    have hbw3 := bt hb hb3
    have hcl := cenN_lt ms
    clear o1 f0 f1 f2 f3 hgl hb3 hol
    go_wp2_with fail
    go_loopw [7, 9, 10, 11] (fun u i _ _ wr => ∃ k : Nat, k ≤ 10 ∧ i = .int .i64 k ∧ u = .string (S (lts (hypX m v ms (cenN ms) k))) ∧ Own wr gK (sv (barS m v ms)) ∧ Below w.heap.size w wr) (fun _ i _ _ _ => 10 - (intOf i).toNat)
    case atStart => exact ⟨0, by omega, rfl, rfl, ok, hbw3⟩
    case round =>
      clear ok hbw3
      obtain ⟨k, hk, rfl, rfl, ok, hb⟩ := hrel
      by_cases hlt : k < 10
      · have HSU := Lib.hid (hypX_succ m v ms (cenN ms) k)
        have hle := hypX_len m v ms (cenN ms) k
        have nl := fun W => l1Letter_any (k : Int) W
        have nc := fun W h => specCentralLetter_yes am cm ms W h hl HMN.out
        have hwa := wd_one_app (cenN ms) k
        have hd2 := dg2 hcl hlt
        have HD0 : Hid (pAt (dg (wd [cenN ms, k])) 0 = cenN ms ∧ pAt (dg (wd [cenN ms, k])) 1 = k) := Lib.hid (by rw [hd2]; exact ⟨rfl, rfl⟩)
        have HLA := Lib.hid (lts_app (hypX m v ms (cenN ms) k) k)
        have hzl : (S (lts (hypX m v ms (cenN ms) k))).size ≤ 10 := by rw [size_S, lts_len]; omega
        have hz1 : (wd [cenN ms]).size ≤ 1 := by rw [size_wd]; exact Nat.le_refl _
        have hz2 : (S [letr (k : Int)]).size ≤ 1 := by rw [size_S]; exact Nat.le_refl _
        clear hd2
        generalize hl0 : hypX m v ms (cenN ms) k = l at *
        clear hl0
        obtain ⟨us, hus⟩ : ∃ us, us = S (lts l) := ⟨_, rfl⟩
        rw [← hus] at HLA hzl ⊢
        have HUS := Lib.hid hus
        clear hus
        have HWA := Lib.hid hwa
        clear hwa
        go_wp2_with fail
        refine (nc _ (HRM.out _ hb)).mono ?_
        rintro e w4 ⟨rfl, hb4⟩
        have ok4 := ok.below hb4 ok.lt
        have hbw4 := bt hb hb4
        clear ok hb hb4
        go_wp2_with fail
        refine (nl _).mono ?_
        rintro e w5 ⟨rfl, hb5⟩
        have ok5 := ok4.below hb5 ok4.lt
        have hbw5 := bt hbw4 hb5
        clear ok4 hbw4 hb5
        go_wp2_with fail
        rw [HWA.out]
        refine (l13Implied_any am (some ⟨gK, 0, none⟩) cm cl m v ms (wd [cenN ms, k]) w5 (setB_mach HS.out) HMN.out pairB_wd (HRM.out _ hbw5) (Reads.of_own ok5 ok5.lt)).mono ?_
        rintro e w6 ⟨u6, out, j, rfl, hinv, hoj, o6, hb6⟩
        rw [HD0.out.1, HD0.out.2] at hinv
        have ok6 := ok5.below hb6 ok5.lt
        have hbw6 := bt hbw5 hb6
        have hG := menG_ok (v := v) (setB_mach HS.out) HMN.out
        have hfew := hinv.few hG hcl hlt
        have HLT := Lib.hid (fun q (hq : q ∈ out) => (hinv.inn q hq).lt hG hcl hlt)
        have HBI := Lib.hid (brd_imp hinv hoj)
        obtain ⟨la, lc, rfl, -, hrd, -⟩ := OwR.val o6
        clear hinv hoj ok5 hbw5 hb6 o6 hG
        go_wp2_with fail
        have hpb := specPairsBoard_any la lc out w6 hrd HLT.out (by omega)
        rw [HBI.out] at hpb
        refine hpb.mono ?_
        rintro e w7 ⟨rfl, hb7⟩
        have ok7 := ok6.below hb7 ok6.lt
        have hbw7 := bt hbw6 hb7
        clear hpb ok6 hbw6 hb7
        cases h1 : oneB (impB (menG m v ms) (cenN ms) k) with
        | true =>
          have e1 : brdT (impB (menG m v ms) (cenN ms) k) = (wd (boardL (impB (menG m v ms) (cenN ms) k)), true) := by unfold brdT; rw [if_pos h1]
          have HS2 : Hid (hypX m v ms (cenN ms) (k + 1) = l ++ [k]) := Lib.hid (by rw [HSU.out, if_pos (show oneB (impG m v ms (cenN ms) k) = true from h1)])
          rw [e1]
          clear e1 h1
          go_wp2_with fail
          refine (nl _).mono ?_
          rintro e w8 ⟨rfl, hb8⟩
          go_wp2
          go_roundw
          case rel => exact ⟨k + 1, by omega, by go_num, by rw [HS2.out, ← HLA.out], ok7.below hb8 ok7.lt, bt hbw7 hb8⟩
          case measure => simp [intOf]; omega
        | false =>
          have e1 : brdT (impB (menG m v ms) (cenN ms) k) = (S [], false) := by unfold brdT; rw [if_neg (by rw [h1]; simp)]
          have HS2 : Hid (hypX m v ms (cenN ms) (k + 1) = l) := Lib.hid (by rw [HSU.out, if_neg (by rw [show oneB (impG m v ms (cenN ms) k) = false from h1]; simp), List.append_nil])
          rw [e1]
          clear e1 h1
          go_wp2
          go_roundw
          case rel => exact ⟨k + 1, by omega, by go_num, by rw [HS2.out, HUS.out], ok7, hbw7⟩
          case measure => simp [intOf]; omega
      · have hk' : k = 10 := by omega
        subst hk'
        go_wp2
        go_ret
        exact ⟨ret_str HT.out.symm, hb⟩
end Go.Proofs.YtdmnkcmkpjmfaaaGreat

/- MenuBoards and BombeStops of the reference. -/
namespace Go.Proofs.YtdmnkcmkpjmfaaaGreat
open Go.RowKit
attribute [local go_sem] Oper.semAt_some

theorem wd_at {l : List Nat} {k : Nat} (h : k < l.length) : (wd l).extract k (k + 1) = wd [l[k]] := by
  refine L_inj ?_
  rw [L_extract]
  have h1 : ∀ q : List Nat, L (wd q) = q.map fun n : Nat => letr (n : Int) := fun q => L_S _
  rw [h1, h1, ← List.map_take, ← List.map_drop, List.take_succ_eq_append_getElem h, List.drop_left' (by simp; omega)]
theorem wd_app (a b : List Nat) : wd a ++ wd b = wd (a ++ b) := by unfold wd; rw [S_append, List.map_append]
set_option maxRecDepth 100000 in
set_option maxHeartbeats 2000000 in
theorem specMenuBoards_any (a : Option Addr) (c : Nat) (m : Mach) (v : ByteArray) (am : Option Addr) (cm : Nat) (ms : List Lnk) (w : World) (h : MachAt w w.heap.size a m.wheels.rotors.length m) (hv : v.size ≤ 4294967296) (hrm : Reads w w.heap.size am (lks ms)) (hl : ms.length ≤ 4294967296) :
    Calls Tryz.prog 52 #[.agg #[.slice a m.wheels.rotors.length c, .string m.wheels.refl, .string m.rings, .string m.plugs], .string v, .slice am ms.length cm] w (RowPost 9 1 (mbdT m v ms).length (sv (mbdT m v ms)) w) := by
  have o0 := (Own.new w [.slice a m.wheels.rotors.length c, .string m.wheels.refl, .string m.rings, .string m.plugs] 36).alloc (.cells #[] 9)
  have hb0 := ((Below.refl w.heap.size w).alloc (Nat.le_refl _) (.cells [.slice a m.wheels.rotors.length c, .string m.wheels.refl, .string m.rings, .string m.plugs].toArray 36)).alloc (by simp) (.cells #[] 9)
  have r0 := World.ownsRow_lit (base := w.heap.size + 1) (e := 9) (size := 1) (w.alloc (.cells [.slice a m.wheels.rotors.length c, .string m.wheels.refl, .string m.rings, .string m.plugs].toArray 36)) #[] 0 (by simp) (by unfold maxLen; omega) (by simp)
  have HRM := Lib.hid (fun (wr : World) (hb : Below w.heap.size w wr) => (hrm.below hb (Nat.le_refl _)).more hb.size)
  have HM := Lib.hid (fun (wr : World) (hb : Below w.heap.size w wr) => (h.below hb (Nat.le_refl _)).more hb.size)
  have h' := HM.out _ hb0
  have hr' := HRM.out _ hb0
  rw [World.size_alloc] at r0
  clear hrm h
  go_enter Tryz.func52, Tryz.ntmps52
  go_wp2_with fail
  refine (specHypotheses_any a c m v am cm ms _ h' hv hr' hl).mono ?_
  rintro e w1 ⟨rfl, hb1⟩
  have o1 := o0.below hb1 o0.lt
  have r1 := OwR.below r0 hb1 (Nat.le_refl _)
  have hb := bt hb0 hb1
  have hz1 := hb1.size
  simp only [World.size_alloc] at hz1
  clear o0 hb0 hb1 h' hr' r0
  cases h1 : (setB m v && menuB ms) with
  | false =>
    have HE : Hid (hypT m v ms = ⟨#[]⟩ ∧ mbdT m v ms = []) := Lib.hid ⟨by unfold hypT; rw [if_neg (by rw [h1]; simp)]; rfl, by unfold mbdT; rw [if_neg (by rw [h1]; simp)]⟩
    rw [HE.out.1]
    clear h1
    go_wp2_with fail
    go_loop [7, 9] (fun u i => u = .slice (some ⟨w.heap.size + 1, 0, none⟩) 0 0 ∧ i = .int .i64 0) (fun _ _ => 0)
    case atStart => exact ⟨rfl, rfl⟩
    case round =>
      obtain ⟨rfl, rfl⟩ := hrel
      go_wp2
      go_ret
      refine ⟨.slice (some ⟨w.heap.size + 1, 0, none⟩) 0 0, rfl, ?_, hb⟩
      rw [HE.out.2]
      simpa [sv] using World.ownsRow.mono r1 (Nat.le_succ _)
  | true =>
    obtain ⟨hsb, hm⟩ := Bool.and_eq_true_iff.1 h1
    have HT : Hid (hypT m v ms = wd (hypL m v ms) ∧ mbdT m v ms = brds m v ms (cenN ms) (hypL m v ms)) := Lib.hid ⟨by unfold hypT; rw [if_pos h1], by unfold mbdT; rw [if_pos h1]; rfl⟩
    rw [HT.out.1]
    have HS := Lib.hid hsb
    have HMN := Lib.hid hm
    clear h1 hsb hm
    have hln : (hypL m v ms).length ≤ 10 := Nat.le_trans (List.length_filter_le _ _) (by simp)
    have hsz : (wd (hypL m v ms)).size = (hypL m v ms).length := size_wd _
    have HPL : Hid (∀ k (h : k < (hypL m v ms).length), oneB (impB (menG m v ms) (cenN ms) (hypL m v ms)[k]) = true ∧ (hypL m v ms)[k] < 10) := Lib.hid (fun k h => by
      have := List.mem_filter.1 (List.getElem_mem h)
      exact ⟨this.2, by simpa using this.1⟩)
    have HEX := Lib.hid (fun k (h : k < (hypL m v ms).length) => wd_at h)
    have hcl := cenN_lt ms
    generalize hypL m v ms = l at *
    generalize hws : wd l = ws at *
    clear hws
    have HSZ := Lib.hid hsz
    clear hsz
    go_wp2_with fail
    go_loopw [7, 9, 10, 11] (fun u i _ _ wr => ∃ k : Nat, k ≤ l.length ∧ i = .int .i64 k ∧ OwR wr (w.heap.size + 1) 9 1 u (brds m v ms (cenN ms) (l.take k)).length (sv (brds m v ms (cenN ms) (l.take k))) ∧ Own wr w.heap.size [.slice a m.wheels.rotors.length c, .string m.wheels.refl, .string m.rings, .string m.plugs] ∧ Below w.heap.size w wr) (fun _ i _ _ _ => l.length - (intOf i).toNat)
    case atStart => exact ⟨0, Nat.zero_le _, rfl, by simpa [brds, sv] using r1, o1, hb⟩
    case round =>
      clear r1 o1 hb hz1
      obtain ⟨k, hk, rfl, hown, o1, hb⟩ := hrel
      have hss := HSZ.out
      by_cases hlt : k < l.length
      · have tl : decide ((k : Int) < (ws.size : Int)) = true := decide_eq_true (by omega)
        have hle : (brds m v ms (cenN ms) (l.take k)).length ≤ 10 := by rw [brds_len, List.length_take]; omega
        have hex := HEX.out k hlt
        have hpl := HPL.out k hlt
        have HBS : Hid (brds m v ms (cenN ms) (l.take (k + 1)) = brds m v ms (cenN ms) (l.take k) ++ [wd (boardL (impB (menG m v ms) (cenN ms) l[k]))]) := Lib.hid (by rw [List.take_succ_eq_append_getElem hlt, brds_snoc])
        generalize l[k] = y at *
        generalize brds m v ms (cenN ms) (l.take k) = bs at *
        have hy := hpl.2
        have hd2 := dg2 hcl hy
        have HIT : Hid (impT m v ms (wd [cenN ms, y]) = (impP (impB (menG m v ms) (cenN ms) y) 10).map pw) := Lib.hid (by
          rw [impT_yes HS.out HMN.out pairB_wd, impW_P, hd2]; rfl)
        have HBT : Hid (brdT (impB (menG m v ms) (cenN ms) y) = (wd (boardL (impB (menG m v ms) (cenN ms) y)), true)) := Lib.hid (by unfold brdT; rw [if_pos hpl.1])
        have nc := fun W h => specCentralLetter_yes am cm ms W h hl HMN.out
        have hwa := wd_app [cenN ms] [y]
        have hadd2 : (wd [cenN ms]).size + (wd [y]).size ≤ 9223372036854775807 := by rw [size_wd, size_wd]; simp
        have hk1 : IntKind.i64.wrap ((k : Int) + 1) = (k : Int) + 1 := IntWalk.i64_in _ (by omega)
        have hsl := fun W => sl_one ws k (by omega) W
        have l1 := o1.lt
        have hz0 := hb.size
        have hbd : Below wr.heap.size wr wr.drew := (Below.refl _ _).drew
        clear hd2 hpl
        go_wp2_with fail
        refine wp_onlyN ?_
        refine wp_region_any (by kernel_rfl) ?_
        refine wpAny_of_K (S := fun w' => w'.rangeAt w.heap.size 0 [.slice a m.wheels.rotors.length c, .string m.wheels.refl, .string m.rings, .string m.plugs]) (kp := fun _ => true) _ _ _ _ ?_
        have HSS := Lib.hid (fun (W' : World) (hb : Below wr.heap.size wr W') => (o1.below hb l1).cells.range)
        have hS := HSS.out wr.drew hbd
        refine kr_take 0 24 (v := .agg #[.slice a m.wheels.rotors.length c, .string m.wheels.refl, .string m.rings, .string m.plugs]) rfl (by kernel_rfl) (by kernel_rfl) (by kernel_rfl) (by kernel_rfl) (fun _ _ _ h => by cases h.1) rfl hS (yieldsIf_load_mid (by rfl) _ _ rfl _ _ rfl _ _ (fun _ h => h) Tryz.underlying36 rfl (by kernel_rfl)) ?_; simp only [Act.put, List.setIfInBounds_toArray, List.set_cons_succ, List.set_cons_zero]
        refine kr_take 1 25 (v := .string v) rfl (by kernel_rfl) (by kernel_rfl) (by kernel_rfl) (by kernel_rfl) (fun _ _ _ h => by cases h.1) rfl hS (Or.inl ⟨by rfl, fun _ _ => rfl⟩) ?_; simp only [Act.put, List.setIfInBounds_toArray, List.set_cons_succ, List.set_cons_zero]
        refine kr_take 2 26 (v := .slice am ms.length cm) rfl (by kernel_rfl) (by kernel_rfl) (by kernel_rfl) (by kernel_rfl) (fun _ _ _ h => by cases h.1) rfl hS (Or.inl ⟨by rfl, fun _ _ => rfl⟩) ?_; simp only [Act.put, List.setIfInBounds_toArray, List.set_cons_succ, List.set_cons_zero]
        refine kr_take 3 27 (v := .slice am ms.length cm) rfl (by kernel_rfl) (by kernel_rfl) (by kernel_rfl) (by kernel_rfl) (fun _ _ _ h => by cases h.1) rfl hS (Or.inl ⟨by rfl, fun _ _ => rfl⟩) ?_; simp only [Act.put, List.setIfInBounds_toArray, List.set_cons_succ, List.set_cons_zero]
        refine kr_take 5 29 (v := .string ws) rfl (by kernel_rfl) (by kernel_rfl) (by kernel_rfl) (by kernel_rfl) (fun _ _ _ h => by cases h.1) rfl hS (Or.inl ⟨by rfl, fun _ _ => rfl⟩) ?_; simp only [Act.put, List.setIfInBounds_toArray, List.set_cons_succ, List.set_cons_zero]
        refine kr_take 6 30 (v := .int .i64 (k : Int)) rfl (by kernel_rfl) (by kernel_rfl) (by kernel_rfl) (by kernel_rfl) (fun _ _ _ h => by cases h.1) rfl hS (Or.inl ⟨by rfl, fun _ _ => rfl⟩) ?_; simp only [Act.put, List.setIfInBounds_toArray, List.set_cons_succ, List.set_cons_zero]
        refine kr_take 7 31 (v := .int .i64 (k : Int)) rfl (by kernel_rfl) (by kernel_rfl) (by kernel_rfl) (by kernel_rfl) (fun _ _ _ h => by cases h.1) rfl hS (Or.inl ⟨by rfl, fun _ _ => rfl⟩) ?_; simp only [Act.put, List.setIfInBounds_toArray, List.set_cons_succ, List.set_cons_zero]
        refine kr_take 8 32 (v := .int .i64 ((k : Int) + 1)) rfl (by kernel_rfl) (by kernel_rfl) (by kernel_rfl) (by kernel_rfl) (fun _ _ _ h => by cases h.1) rfl hS (Or.inl ⟨by rfl, fun w' hw' => by simp [go_sem, hk1]⟩) ?_; simp only [Act.put, List.setIfInBounds_toArray, List.set_cons_succ, List.set_cons_zero]
        refine kr_take 9 33 (v := .string (wd [y])) rfl (by kernel_rfl) (by kernel_rfl) (by kernel_rfl) (by kernel_rfl) (fun _ _ _ h => by cases h.1) rfl hS (Or.inl ⟨by rfl, fun w' hw' => by simp [go_sem, hsl, hex]⟩) ?_; simp only [Act.put, List.setIfInBounds_toArray, List.set_cons_succ, List.set_cons_zero]
        refine kr_callM 4 28 (by kernel_rfl) rfl (by rfl) rfl (fun w => by simp [go_sem]) (nc wr.drew (HRM.out _ hb.drew)) (fun e w2 hT => ?_)
        obtain ⟨rfl, hb2⟩ := hT
        have hbw2 : Below wr.heap.size wr w2 := hbd.trans hb2
        have hS2 := HSS.out _ hbw2
        refine ⟨_, rfl, hS2, ?_⟩
        simp only [Act.put, List.setIfInBounds_toArray, List.set_cons_succ, List.set_cons_zero]
        have hS := hS2
        refine kr_take 10 34 (v := .string (wd [cenN ms, y])) rfl (by kernel_rfl) (by kernel_rfl) (by kernel_rfl) (by kernel_rfl) (fun _ _ _ h => by cases h.1) rfl hS (Or.inl ⟨by rfl, fun w' hw' => by simp [go_sem, hwa, hadd2]⟩) ?_; simp only [Act.put, List.setIfInBounds_toArray, List.set_cons_succ, List.set_cons_zero]
        refine kr_callM 11 35 (by kernel_rfl) rfl (by rfl) rfl (fun w => by simp [go_sem]) (specImpliedPairs_any a c m v am cm ms (wd [cenN ms, y]) w2 (HM.out _ (bt hb hbw2)) hv (HRM.out _ (bt hb hbw2)) hl (by rw [size_wd]; simp)) (fun e w3 hT => ?_)
        obtain ⟨u3, rfl, o3, hb3⟩ := hT
        rw [HIT.out] at o3
        have hbw3 : Below wr.heap.size wr w3 := hbw2.trans (hb3.mono hbw2.size)
        obtain ⟨la, lc, rfl, -, hrd, -⟩ := OwR.val o3
        have hS3 := HSS.out _ hbw3
        refine ⟨_, rfl, hS3, ?_⟩
        simp only [Act.put, List.setIfInBounds_toArray, List.set_cons_succ, List.set_cons_zero]
        have hpb := specPairsBoard_any la lc (impP (impB (menG m v ms) (cenN ms) y) 10) w3 hrd (fun z hz => by have := mem_impP.1 hz; omega) (Nat.le_trans (impP_len _ 10) (by omega))
        rw [brd_imp2, HBT.out] at hpb
        rw [List.length_map]
        refine kr_callM 12 36 (by kernel_rfl) rfl (by rfl) rfl (fun w => by simp [go_sem]) hpb (fun e w4 hT => ?_)
        obtain ⟨rfl, hb4⟩ := hT
        have hbw4 : Below wr.heap.size wr w4 := hbw3.trans (hb4.mono hbw3.size)
        have hS4 := HSS.out _ hbw4
        refine ⟨_, rfl, hS4, ?_⟩
        simp only [Act.put, List.setIfInBounds_toArray, List.set_cons_succ, List.set_cons_zero]
        have hS := hS4
        obtain ⟨bd, hbdd⟩ : ∃ bd, bd = wd (boardL (impB (menG m v ms) (cenN ms) y)) := ⟨_, rfl⟩
        rw [← hbdd] at HBS ⊢
        clear hbdd
        refine kr_take 13 23 (v := .tuple #[.string bd, .bool true]) rfl (by kernel_rfl) (by kernel_rfl) (by kernel_rfl) (by kernel_rfl) (fun _ _ _ h => by cases h.1) rfl hS (Or.inl ⟨by rfl, fun _ _ => rfl⟩) ?_; simp only [Act.put, List.setIfInBounds_toArray, List.set_cons_succ, List.set_cons_zero]
        refine kr_take 14 37 (v := .string bd) rfl (by kernel_rfl) (by kernel_rfl) (by kernel_rfl) (by kernel_rfl) (fun _ _ _ h => by cases h.1) rfl hS (Or.inl ⟨by rfl, fun _ _ => by simp [go_sem]⟩) ?_; simp only [Act.put, List.setIfInBounds_toArray, List.set_cons_succ, List.set_cons_zero]
        refine kr_take 15 38 (v := .bool true) rfl (by kernel_rfl) (by kernel_rfl) (by kernel_rfl) (by kernel_rfl) (fun _ _ _ h => by cases h.1) rfl hS (Or.inl ⟨by rfl, fun _ _ => by simp [go_sem]⟩) ?_; simp only [Act.put, List.setIfInBounds_toArray, List.set_cons_succ, List.set_cons_zero]
        refine kr_take 16 10 (v := .string bd) rfl (by kernel_rfl) (by kernel_rfl) (by kernel_rfl) (by kernel_rfl) (fun _ _ _ h => by cases h.1) rfl hS (Or.inl ⟨by rfl, fun _ _ => rfl⟩) ?_; simp only [Act.put, List.setIfInBounds_toArray, List.set_cons_succ, List.set_cons_zero]
        refine kr_take 17 11 (v := .bool true) rfl (by kernel_rfl) (by kernel_rfl) (by kernel_rfl) (by kernel_rfl) (fun _ _ _ h => by cases h.1) rfl hS (Or.inl ⟨by rfl, fun _ _ => rfl⟩) ?_; simp only [Act.put, List.setIfInBounds_toArray, List.set_cons_succ, List.set_cons_zero]
        refine ⟨by kernel_rfl, onlyN_mk ?_⟩
        have hown4 := OwR.below hown hbw4 (Nat.le_refl _)
        have o4 := o1.below hbw4 l1
        have hbb4 := bt hb hbw4
        have hz4 := hbw4.size
        obtain ⟨la2, lc2, rfl, -, -, -⟩ := OwR.val hown4
        go_wp2_with (at_builtin; ((with_reducible refine wl_push 30 9 info_str Tryz.underlying30 rfl (by omega) hown4 (show w.heap.size + 1 ≤ w4.heap.size by omega) rfl (by simp [Value.oneCell']) (by omega) (by omega) rfl rfl ?_); intro g7 cap w7 o7 b7 k7))
        go_roundw
        case rel => exact ⟨k + 1, by omega, by go_num, by rw [HBS.out, List.length_append, sv_append]; exact o7, o4.below b7 (Nat.lt_succ_self _), hbb4.trans (b7.mono (Nat.le_succ _))⟩
        case measure => simp [intOf]; omega
      · have tl : decide ((k : Int) < (ws.size : Int)) = false := decide_eq_false (by omega)
        have hk' : k = l.length := by omega
        rw [hk', List.take_length] at hown
        go_wp2
        go_ret
        refine ⟨_, rfl, ?_, hb⟩
        rw [HT.out.2]
        exact World.ownsRow.mono hown (Nat.le_succ _)
set_option maxRecDepth 100000 in
set_option maxHeartbeats 2000000 in
theorem specBombeStops_any (a : Option Addr) (c : Nat) (m : Mach) (al : Option Addr) (cl : Nat) (vs : List ByteArray) (am : Option Addr) (cm : Nat) (ms : List Lnk) (w : World) (h : MachAt w w.heap.size a m.wheels.rotors.length m) (hrl : Reads w w.heap.size al (sv vs)) (hvs : ∀ s ∈ vs, s.size ≤ 4294967296) (hll : vs.length ≤ 4294967296) (hrm : Reads w w.heap.size am (lks ms)) (hl : ms.length ≤ 4294967296) :
    Calls Tryz.prog 60 #[.agg #[.slice a m.wheels.rotors.length c, .string m.wheels.refl, .string m.rings, .string m.plugs], .slice al vs.length cl, .slice am ms.length cm] w (RowPost 9 1 (stpT m vs ms).length (sv (stpT m vs ms)) w) := by
  have o0 := (Own.new w [.slice a m.wheels.rotors.length c, .string m.wheels.refl, .string m.rings, .string m.plugs] 36).alloc (.cells #[] 9)
  have hb0 := ((Below.refl w.heap.size w).alloc (Nat.le_refl _) (.cells [.slice a m.wheels.rotors.length c, .string m.wheels.refl, .string m.rings, .string m.plugs].toArray 36)).alloc (by simp) (.cells #[] 9)
  have r0 := World.ownsRow_lit (base := w.heap.size + 1) (e := 9) (size := 1) (w.alloc (.cells [.slice a m.wheels.rotors.length c, .string m.wheels.refl, .string m.rings, .string m.plugs].toArray 36)) #[] 0 (by simp) (by unfold maxLen; omega) (by simp)
  rw [World.size_alloc] at r0
  have HRM := Lib.hid (fun (wr : World) (hb : Below w.heap.size w wr) => (hrm.below hb (Nat.le_refl _)).more hb.size)
  have HM := Lib.hid (fun (wr : World) (hb : Below w.heap.size w wr) => (h.below hb (Nat.le_refl _)).more hb.size)
  have HRL := Lib.hid (fun (wr : World) (hb : Below w.heap.size w wr) => hrl.below hb (Nat.le_refl _))
  have HVS := Lib.hid hvs
  clear hrm h hrl hvs
  have HNIL : Hid (∀ wr : World, Below w.heap.size w wr → stpT m vs ms = [] → RowPost 9 1 (stpT m vs ms).length (sv (stpT m vs ms)) w (.returned (.slice (some ⟨wr.heap.size, 0, none⟩) 0 0)) (wr.alloc (.cells #[] 9))) := Lib.hid (fun wr hb hf => by
    rw [hf]
    refine ⟨_, rfl, ?_, hb.alloc hb.size _⟩
    simpa [sv] using World.ownsRow.mono (World.ownsRow_lit (base := wr.heap.size) (e := 9) (size := 1) wr #[] 0 (by simp) (by unfold maxLen; omega) (by simp)) hb.size)
  go_enter Tryz.func60, Tryz.ntmps60
  go_wp2_with fail
  generalize (w.alloc (.cells [.slice a m.wheels.rotors.length c, .string m.wheels.refl, .string m.rings, .string m.plugs].toArray 36)).alloc (.cells #[] 9) = W0 at *
  go_loopw [8] (fun i wr => ∃ k : Nat, k ≤ vs.length ∧ i = .int .i64 k ∧ (∀ j (h : j < vs.length), j < k → (setB m vs[j] && menuB ms) = true ∧ vs.length ≤ 12) ∧ OwR wr (w.heap.size + 1) 9 1 (.slice (some ⟨w.heap.size + 1, 0, none⟩) 0 0) 0 [] ∧ Own wr w.heap.size [.slice a m.wheels.rotors.length c, .string m.wheels.refl, .string m.rings, .string m.plugs] ∧ Below w.heap.size w wr) (fun i _ => vs.length - (intOf i).toNat)
  case atStart => exact ⟨0, Nat.zero_le _, rfl, fun _ _ h => absurd h (by omega), r0, o0, hb0⟩
  case round =>
    clear r0 o0 hb0
    obtain ⟨k, hk, rfl, ha, hr0, o1, hb⟩ := hrel
    have HA := Lib.hid ha
    clear ha
    by_cases hlt : k < vs.length
    · obtain ⟨b, off, rfl, hbl, hcl⟩ := (HRL.out _ hb).open_ (by rw [length_sv]; omega)
      have c1 := hcl k (by rw [length_sv]; exact hlt)
      rw [sv_at hlt] at c1
      clear hcl
      have q1 : (0 : Int) ≤ (k : Int) := by omega
      have q2 : (k : Int) < (vs.length : Int) := by omega
      have hsz := HVS.out vs[k] (List.getElem_mem hlt)
      have HA2 := Lib.hid (fun (h : (setB m vs[k] && menuB ms) = true) (h12 : vs.length ≤ 12) j (hj : j < vs.length) (hj2 : j < k + 1) => show (setB m vs[j] && menuB ms) = true ∧ vs.length ≤ 12 from by
        by_cases e : j = k
        · subst e; exact ⟨h, h12⟩
        · exact HA.out j hj (by omega))
      have HNO : Hid ((setB m vs[k] && menuB ms) = false → stpT m vs ms = []) := Lib.hid (fun e => stpT_no (by
        rw [Bool.eq_false_iff]
        intro e2
        simp only [Bool.and_eq_true] at e2
        rw [List.all_eq_true.1 e2.2.2.2 _ (List.getElem_mem hlt), e2.2.1] at e
        cases e))
      generalize vs[k] = v at *
      have l1 := o1.lt
      have hz0 := hb.size
      have HL := Lib.hid (fun (cc : Cls wr.heap.size wr) => l13Fits_any a m.wheels.rotors.length c m v am cm ms cc.w (HM.out _ (bt hb cc.bel)) hsz (HRM.out _ (bt hb cc.bel)) hl)
      have d0 := fun (cc : Cls wr.heap.size wr) => (cc.cell w.heap.size 0 l1).trans (o1.at_ (i := 0) rfl)
      have d1 := fun (cc : Cls wr.heap.size wr) => (cc.cell w.heap.size 1 l1).trans (o1.at_ (i := 1) rfl)
      have d2 := fun (cc : Cls wr.heap.size wr) => (cc.cell w.heap.size 2 l1).trans (o1.at_ (i := 2) rfl)
      have d3 := fun (cc : Cls wr.heap.size wr) => (cc.cell w.heap.size 3 l1).trans (o1.at_ (i := 3) rfl)
      have d4 := fun (cc : Cls wr.heap.size wr) => (cc.cell b (off + k) (by omega)).trans c1
      clear c1
      cases hv : (setB m v && menuB ms) with
      | false =>
        rw [hv] at HL
        have HE := Lib.hid (HNO.out hv)
        clear hv
        go_wp2_with fail
        refine wp_region_cls (by kernel_rfl) (by kernel_rfl) ?_
        repeat (go_big_quiet_step (first | (go_at_call 68; with_reducible exact cls_of (Nat.le_refl _) (HL.out _))))
        refine wpQuiet_nil ?_
        intro wc hbc
        have HR := Lib.hid (HNIL.out wc (bt hb hbc) HE.out)
        go_wp2
        go_ret
        exact HR.out
      | true =>
        rw [hv] at HL
        by_cases h12 : vs.length ≤ 12
        · have t12 : decide ((12 : Int) < (vs.length : Int)) = false := decide_eq_false (by omega)
          have HA3 := Lib.hid (HA2.out hv h12)
          clear hv
          go_wp2_with fail
          refine wp_region_cls (by kernel_rfl) (by kernel_rfl) ?_
          repeat (go_big_quiet_step (first | (go_at_call 68; with_reducible exact cls_of (Nat.le_refl _) (HL.out _))))
          refine wpQuiet_nil ?_
          intro wc hbc
          go_wp2
          go_roundw
          case rel => exact ⟨k + 1, by omega, by go_num, HA3.out, OwR.below hr0 hbc (Nat.le_refl _), o1.below hbc l1, bt hb hbc⟩
          case measure => simp [intOf]; omega
        · have t12 : decide ((12 : Int) < (vs.length : Int)) = true := decide_eq_true (by omega)
          have HE : Hid (stpT m vs ms = []) := Lib.hid (stpT_no (by rw [decide_eq_false h12]; simp))
          clear hv
          go_wp2_with fail
          refine wp_region_cls (by kernel_rfl) (by kernel_rfl) ?_
          repeat (go_big_quiet_step (first | (go_at_call 68; with_reducible exact cls_of (Nat.le_refl _) (HL.out _))))
          refine wpQuiet_nil ?_
          intro wc hbc
          have HR := Lib.hid (HNIL.out wc (bt hb hbc) HE.out)
          go_wp2
          go_ret
          exact HR.out
    · have hk' : k = vs.length := by omega
      have HALL := Lib.hid (fun j (hj : j < vs.length) => HA.out j hj (by omega))
      have hst : stpT m vs ms = vs.filter (anyH m ms) := by
        by_cases h0 : vs = []
        · subst h0; unfold stpT; split <;> rfl
        · have hp : 0 < vs.length := List.length_pos_iff.2 h0
          have h1 := HALL.out 0 hp
          simp only [Bool.and_eq_true] at h1
          exact stpT_yes (by
            simp only [Bool.and_eq_true, decide_eq_true_eq, List.all_eq_true]
            refine ⟨setB_mach h1.1.1, h1.1.2, h1.2, fun x hx => ?_⟩
            obtain ⟨j, hj, rfl⟩ := List.getElem_of_mem hx
            have := (HALL.out j hj).1
            simp only [Bool.and_eq_true] at this
            exact this.1)
      have HST := Lib.hid hst
      clear hst
      go_wp2_with fail
      go_loopw [7, 9] (fun u i wr => ∃ k : Nat, k ≤ vs.length ∧ i = .int .i64 k ∧ OwR wr (w.heap.size + 1) 9 1 u ((vs.take k).filter (anyH m ms)).length (sv ((vs.take k).filter (anyH m ms))) ∧ Own wr w.heap.size [.slice a m.wheels.rotors.length c, .string m.wheels.refl, .string m.rings, .string m.plugs] ∧ Below w.heap.size w wr) (fun _ i _ => vs.length - (intOf i).toNat)
      case atStart => exact ⟨0, Nat.zero_le _, rfl, hr0, o1, hb⟩
      case round =>
        clear hr0 o1 hb hk' hk hlt
        obtain ⟨k, hk, rfl, hown, o1, hb⟩ := hrel
        by_cases hlt : k < vs.length
        · obtain ⟨b, off, rfl, hbl, hcl⟩ := (HRL.out _ hb).open_ (by rw [length_sv]; omega)
          have c1 := hcl k (by rw [length_sv]; exact hlt)
          rw [sv_at hlt] at c1
          clear hcl
          have q1 : (0 : Int) ≤ (k : Int) := by omega
          have q2 : (k : Int) < (vs.length : Int) := by omega
          have hsz := HVS.out vs[k] (List.getElem_mem hlt)
          have hall := HALL.out k hlt
          have HF := Lib.hid (filter_takeS (P := anyH m ms) hlt)
          have h12 := hall.2
          have hle : ((vs.take k).filter (anyH m ms)).length ≤ 12 := Nat.le_trans (List.length_filter_le _ _) (by rw [List.length_take]; omega)
          generalize vs[k] = v at *
          generalize (vs.take k).filter (anyH m ms) = l at *
          simp only [Bool.and_eq_true] at hall
          have HSS := Lib.hid hall.1.1
          have HMM := Lib.hid hall.1.2
          have l1 := o1.lt
          have hz0 := hb.size
          have HL := Lib.hid (fun (cc : Cls wr.heap.size wr) => specHypotheses_any a c m v am cm ms cc.w (HM.out _ (bt hb cc.bel)) hsz (HRM.out _ (bt hb cc.bel)) hl)
          have d0 := fun (cc : Cls wr.heap.size wr) => (cc.cell w.heap.size 0 l1).trans (o1.at_ (i := 0) rfl)
          have d1 := fun (cc : Cls wr.heap.size wr) => (cc.cell w.heap.size 1 l1).trans (o1.at_ (i := 1) rfl)
          have d2 := fun (cc : Cls wr.heap.size wr) => (cc.cell w.heap.size 2 l1).trans (o1.at_ (i := 2) rfl)
          have d3 := fun (cc : Cls wr.heap.size wr) => (cc.cell w.heap.size 3 l1).trans (o1.at_ (i := 3) rfl)
          have d4 := fun (cc : Cls wr.heap.size wr) => (cc.cell b (off + k) (by omega)).trans c1
          clear hall
          by_cases hy : anyH m ms v = true
          · have hne := (anyH_iff HSS.out HMM.out).1 hy
            rw [if_pos hy] at HF
            clear hy
            obtain ⟨e1, e2⟩ := ne_empty hne
            clear hne
            generalize hypT m v ms = hs at *
            go_wp2_with fail
            refine wp_region_cls (by kernel_rfl) (by kernel_rfl) ?_
            repeat (go_big_quiet_step (first | (go_at_call 39; with_reducible exact cls_of (Nat.le_refl _) (HL.out _))))
            refine wpQuiet_nil ?_
            intro wc hbc
            have hown2 := OwR.below hown hbc (Nat.le_refl _)
            have o2 := o1.below hbc l1
            have hb2 := bt hb hbc
            have c2 := (hbc.cell (p := ⟨b, off + k, none⟩) (show b < wr.heap.size by omega)).trans c1
            have hz2 := hbc.size
            obtain ⟨la, lc, rfl, -, -, -⟩ := OwR.val hown2
            clear d0 d1 d2 d3 d4 c1
            go_wp2_with (at_builtin; ((with_reducible refine wl_push 30 9 info_str Tryz.underlying30 rfl (by omega) hown2 (show w.heap.size + 1 ≤ wc.heap.size by omega) rfl (by simp [Value.oneCell']) (by omega) (by omega) rfl rfl ?_); intro g7 cap w7 o7 b7 k7))
            go_roundw
            case rel => exact ⟨k + 1, by omega, by go_num, by rw [HF.out, List.length_append, sv_append]; exact o7, o2.below b7 (Nat.lt_succ_self _), hb2.trans (b7.mono (Nat.le_succ _))⟩
            case measure => simp [intOf]; omega
          · have hne : (hypT m v ms).size = 0 := by
              rcases Nat.eq_zero_or_pos (hypT m v ms).size with h | h
              · exact h
              · exact absurd ((anyH_iff HSS.out HMM.out).2 (by omega)) hy
            rw [if_neg hy, List.append_nil] at HF
            clear hy
            obtain ⟨e1, e2⟩ := is_empty hne
            clear hne
            generalize hypT m v ms = hs at *
            go_wp2_with fail
            refine wp_region_cls (by kernel_rfl) (by kernel_rfl) ?_
            repeat (go_big_quiet_step (first | (go_at_call 39; with_reducible exact cls_of (Nat.le_refl _) (HL.out _))))
            refine wpQuiet_nil ?_
            intro wc hbc
            go_wp2
            go_roundw
            case rel => exact ⟨k + 1, by omega, by go_num, by rw [HF.out]; exact OwR.below hown hbc (Nat.le_refl _), o1.below hbc l1, bt hb hbc⟩
            case measure => simp [intOf]; omega
        · have hk' : k = vs.length := by omega
          rw [hk', List.take_length] at hown
          go_wp2
          go_ret
          exact ⟨_, rfl, by rw [HST.out]; exact World.ownsRow.mono hown (Nat.le_succ _), hb⟩
end Go.Proofs.YtdmnkcmkpjmfaaaGreat
