/- Several of my texts in one: Trn, PlW. -/
import Derived.Test.YtdmnkcmkpjmfaaaGreatM28
import Derived.Test.YtdmnkcmkpjmfaaaGreatM15
import Derived.Test.YtdmnkcmkpjmfaaaGreatM31
/- A menu with each link turned round. -/
namespace Go.Proofs.YtdmnkcmkpjmfaaaGreat
open Go.RowKit
attribute [local go_sem] Oper.semAt_some

set_option linter.unusedSimpArgs false in
set_option maxRecDepth 100000 in
set_option maxHeartbeats 2000000 in
theorem rcTurnedMenu_any (am : Option Addr) (cm : Nat) (ms : List Lnk) (w : World) (hrm : Reads w w.heap.size am (lks ms)) (hl : ms.length ≤ 1000) :
    Calls Tryz.prog 46 #[.slice am ms.length cm] w (RowPost 72 3 ms.length (lks (ms.map turnL)) w) := by
  have z9 := World.ownsRow_lit (base := w.heap.size) (e := 72) (size := 3) w #[] 0 (Nat.le_refl _) (by unfold maxLen; omega) (by simp)
  have hb0 := (Below.refl w.heap.size w).alloc (Nat.le_refl _) (.cells #[] 72)
  have HRM := Lib.hid (fun (wr : World) (hb : Below w.heap.size w wr) => hrm.below hb (Nat.le_refl _))
  clear hrm
  go_enter Tryz.func46, Tryz.ntmps46
  go_wp2_with fail
  generalize (w.alloc (.cells #[] 72)) = W8 at *
  generalize hBL : w.heap.size = BL at *
  have HBL := Lib.hid hBL
  clear hBL
  have z9' : OwR W8 BL 72 3 (.slice (some ⟨BL, 0, none⟩) 0 0) 0 (lks []) := z9
  clear z9
  go_loopw [3, 4] (fun u i wr => ∃ (k : Nat) (ts : List Lnk) (gm c2 : Nat), k ≤ ms.length ∧ i = .int .i64 k ∧ ts.length = k ∧ ts = (ms.take k).map turnL ∧ u = .slice (some ⟨gm, 0, none⟩) ts.length c2 ∧ OwR wr BL 72 3 (.slice (some ⟨gm, 0, none⟩) ts.length c2) ts.length (lks ts) ∧ Below BL w wr) (fun _ i _ => ms.length - (intOf i).toNat)
  case atStart => exact ⟨0, [], BL, 0, Nat.zero_le _, rfl, rfl, rfl, rfl, z9', hb0⟩
  case round =>
    clear z9' hb0
    obtain ⟨k, ts, gm, c2, hk, rfl, hml, hts, rfl, hrow, hb⟩ := hrel
    have HML := Lib.hid hml
    have HTS := Lib.hid hts
    have hk9 : ts.length ≤ 1000 := by omega
    clear hts
    by_cases hlt : k < ms.length
    · have tk : decide ((k : Int) < (ms.length : Int)) = true := decide_eq_true (by omega)
      obtain ⟨b, off, rfl, hbl, hcl⟩ := (HRM.out wr hb).cells (by rw [len_lks]; omega)
      have c0 := hcl.at_ (lks_at0 ms k hlt)
      have c1 := hcl.at_ (lks_at1 ms k hlt)
      have c3 := hcl.at_ (lks_at2 ms k hlt)
      rw [← Nat.add_assoc] at c1 c3
      have hz : BL ≤ wr.heap.size := by have := hb.size; have := HBL.out; omega
      have hbl2 : b < wr.heap.size := by omega
      have q4 : (0 : Int) ≤ (k : Int) := by omega
      have q5 : (k : Int) < (ms.length : Int) := by omega
      have HNX : Hid (ts ++ [turnL ms[k]] = (ms.take (k + 1)).map turnL) := Lib.hid (by rw [List.take_succ_eq_append_getElem hlt, List.map_append, HTS.out]; rfl)
      have hlk : lks (ts ++ [turnL ms[k]]) = lks ts ++ [.string ms[k].c, .string ms[k].p, .int .i64 ms[k].k] := by rw [lks_append]; rfl
      have HLK := Lib.hid hlk
      have HSS : Hid (∀ W' : World, Below BL wr W' → W'.cell? ⟨b, off + k * 3, none⟩ = some (.string ms[k].p) ∧ W'.cell? ⟨b, off + k * 3 + 1, none⟩ = some (.string ms[k].c) ∧ W'.cell? ⟨b, off + k * 3 + 2, none⟩ = some (.int .i64 ms[k].k)) := Lib.hid (fun W' hb => ⟨(hb.cell hbl).trans c0, (hb.cell hbl).trans c1, (hb.cell hbl).trans c3⟩)
      clear hcl c0 c1 c3 hml hlk
      generalize ms[k] = x at *
      go_wp2_with fail
      refine wp_onlyN ?_
      refine wp_region_any (by kernel_rfl) ?_
      refine wpAny_of_K (S := fun W' => W'.cell? ⟨b, off + k * 3, none⟩ = some (.string x.p) ∧ W'.cell? ⟨b, off + k * 3 + 1, none⟩ = some (.string x.c) ∧ W'.cell? ⟨b, off + k * 3 + 2, none⟩ = some (.int .i64 x.k)) (kp := fun _ => true) _ _ _ _ ?_
      have hbd : Below wr.heap.size wr wr.drew := (Below.refl _ _).drew
      have hS := HSS.out wr.drew (hbd.mono hz)
      refine kr_take 0 12 (v := .slice (some ⟨gm, 0, none⟩) ts.length c2) rfl (by kernel_rfl) (by kernel_rfl) (by kernel_rfl) (by kernel_rfl) (fun _ _ _ h => by cases h.1) rfl hS (Or.inl ⟨by rfl, fun _ _ => rfl⟩) ?_; simp only [Act.put, List.setIfInBounds_toArray, List.set_cons_succ, List.set_cons_zero]
      refine kr_take 1 13 (v := .slice (some ⟨b, off, none⟩) ms.length cm) rfl (by kernel_rfl) (by kernel_rfl) (by kernel_rfl) (by kernel_rfl) (fun _ _ _ h => by cases h.1) rfl hS (Or.inl ⟨by rfl, fun _ _ => rfl⟩) ?_; simp only [Act.put, List.setIfInBounds_toArray, List.set_cons_succ, List.set_cons_zero]
      refine kr_take 2 14 (v := .int .i64 (k : Int)) rfl (by kernel_rfl) (by kernel_rfl) (by kernel_rfl) (by kernel_rfl) (fun _ _ _ h => by cases h.1) rfl hS (Or.inl ⟨by rfl, fun _ _ => rfl⟩) ?_; simp only [Act.put, List.setIfInBounds_toArray, List.set_cons_succ, List.set_cons_zero]
      refine kr_take 3 15 (v := .pointer (some ⟨b, off + k * 3, none⟩)) rfl (by kernel_rfl) (by kernel_rfl) (by kernel_rfl) (by kernel_rfl) (fun _ _ _ h => by cases h.1) rfl hS (Or.inl ⟨by rfl, fun w' hw' => by simp [go_sem, q4, q5]⟩) ?_; simp only [Act.put, List.setIfInBounds_toArray, List.set_cons_succ, List.set_cons_zero]
      refine kr_take 4 16 (v := .pointer (some ⟨b, off + k * 3 + 1, none⟩)) rfl (by kernel_rfl) (by kernel_rfl) (by kernel_rfl) (by kernel_rfl) (fun _ _ _ h => by cases h.1) rfl hS (Or.inl ⟨by rfl, fun _ _ => by simp [go_sem]⟩) ?_; simp only [Act.put, List.setIfInBounds_toArray, List.set_cons_succ, List.set_cons_zero]
      refine kr_take 5 17 (v := .string x.c) rfl (by kernel_rfl) (by kernel_rfl) (by kernel_rfl) (by kernel_rfl) (fun _ _ _ h => by cases h.1) rfl hS (Or.inl ⟨by rfl, fun w' hw' => by have hw1 := hw'.2.1; simp [go_sem, hw1]⟩) ?_; simp only [Act.put, List.setIfInBounds_toArray, List.set_cons_succ, List.set_cons_zero]
      refine kr_take 6 18 (v := .slice (some ⟨b, off, none⟩) ms.length cm) rfl (by kernel_rfl) (by kernel_rfl) (by kernel_rfl) (by kernel_rfl) (fun _ _ _ h => by cases h.1) rfl hS (Or.inl ⟨by rfl, fun _ _ => rfl⟩) ?_; simp only [Act.put, List.setIfInBounds_toArray, List.set_cons_succ, List.set_cons_zero]
      refine kr_take 7 19 (v := .int .i64 (k : Int)) rfl (by kernel_rfl) (by kernel_rfl) (by kernel_rfl) (by kernel_rfl) (fun _ _ _ h => by cases h.1) rfl hS (Or.inl ⟨by rfl, fun _ _ => rfl⟩) ?_; simp only [Act.put, List.setIfInBounds_toArray, List.set_cons_succ, List.set_cons_zero]
      refine kr_take 8 20 (v := .pointer (some ⟨b, off + k * 3, none⟩)) rfl (by kernel_rfl) (by kernel_rfl) (by kernel_rfl) (by kernel_rfl) (fun _ _ _ h => by cases h.1) rfl hS (Or.inl ⟨by rfl, fun w' hw' => by simp [go_sem, q4, q5]⟩) ?_; simp only [Act.put, List.setIfInBounds_toArray, List.set_cons_succ, List.set_cons_zero]
      refine kr_take 9 21 (v := .pointer (some ⟨b, off + k * 3, none⟩)) rfl (by kernel_rfl) (by kernel_rfl) (by kernel_rfl) (by kernel_rfl) (fun _ _ _ h => by cases h.1) rfl hS (Or.inl ⟨by rfl, fun _ _ => by simp [go_sem]⟩) ?_; simp only [Act.put, List.setIfInBounds_toArray, List.set_cons_succ, List.set_cons_zero]
      refine kr_take 10 22 (v := .string x.p) rfl (by kernel_rfl) (by kernel_rfl) (by kernel_rfl) (by kernel_rfl) (fun _ _ _ h => by cases h.1) rfl hS (Or.inl ⟨by rfl, fun w' hw' => by have hw1 := hw'.1; simp [go_sem, hw1]⟩) ?_; simp only [Act.put, List.setIfInBounds_toArray, List.set_cons_succ, List.set_cons_zero]
      refine kr_take 11 23 (v := .slice (some ⟨b, off, none⟩) ms.length cm) rfl (by kernel_rfl) (by kernel_rfl) (by kernel_rfl) (by kernel_rfl) (fun _ _ _ h => by cases h.1) rfl hS (Or.inl ⟨by rfl, fun _ _ => rfl⟩) ?_; simp only [Act.put, List.setIfInBounds_toArray, List.set_cons_succ, List.set_cons_zero]
      refine kr_take 12 24 (v := .int .i64 (k : Int)) rfl (by kernel_rfl) (by kernel_rfl) (by kernel_rfl) (by kernel_rfl) (fun _ _ _ h => by cases h.1) rfl hS (Or.inl ⟨by rfl, fun _ _ => rfl⟩) ?_; simp only [Act.put, List.setIfInBounds_toArray, List.set_cons_succ, List.set_cons_zero]
      refine kr_take 13 25 (v := .pointer (some ⟨b, off + k * 3, none⟩)) rfl (by kernel_rfl) (by kernel_rfl) (by kernel_rfl) (by kernel_rfl) (fun _ _ _ h => by cases h.1) rfl hS (Or.inl ⟨by rfl, fun w' hw' => by simp [go_sem, q4, q5]⟩) ?_; simp only [Act.put, List.setIfInBounds_toArray, List.set_cons_succ, List.set_cons_zero]
      refine kr_take 14 26 (v := .pointer (some ⟨b, off + k * 3 + 2, none⟩)) rfl (by kernel_rfl) (by kernel_rfl) (by kernel_rfl) (by kernel_rfl) (fun _ _ _ h => by cases h.1) rfl hS (Or.inl ⟨by rfl, fun _ _ => by simp [go_sem]⟩) ?_; simp only [Act.put, List.setIfInBounds_toArray, List.set_cons_succ, List.set_cons_zero]
      refine kr_take 15 27 (v := .int .i64 x.k) rfl (by kernel_rfl) (by kernel_rfl) (by kernel_rfl) (by kernel_rfl) (fun _ _ _ h => by cases h.1) rfl hS (Or.inl ⟨by rfl, fun w' hw' => by have hw1 := hw'.2.2; simp [go_sem, hw1]⟩) ?_; simp only [Act.put, List.setIfInBounds_toArray, List.set_cons_succ, List.set_cons_zero]
      refine kr_take 16 28 (v := .agg #[.string x.c, .string x.p, .int .i64 x.k]) rfl (by kernel_rfl) (by kernel_rfl) (by kernel_rfl) (by kernel_rfl) (fun _ _ _ h => by cases h.1) rfl hS (Or.inl ⟨by rfl, fun _ _ => by simp [go_sem]⟩) ?_; simp only [Act.put, List.setIfInBounds_toArray, List.set_cons_succ, List.set_cons_zero]
      have hbA : Below wr.heap.size wr (wr.drew.alloc (.cells #[.string x.c, .string x.p, .int .i64 x.k] 72)) := hbd.alloc (Nat.le_refl _) _
      refine kr_value 17 29 (v := .slice (some ⟨wr.heap.size, 0, none⟩) 1 1) (w' := wr.drew.alloc (.cells #[.string x.c, .string x.p, .int .i64 x.k] 72)) (by kernel_rfl) rfl (by rfl) rfl (by simp [go_sem]) ⟨HSS.out _ (hbA.mono hz), ?_⟩
      simp only [Act.put, List.setIfInBounds_toArray, List.set_cons_succ, List.set_cons_zero]
      refine kr_one 18 (by kernel_rfl) rfl (by rfl) ?_
      have hrowd : OwR wr.drew BL 72 3 (.slice (some ⟨gm, 0, none⟩) ts.length c2) ts.length (lks ts) := hrow
      refine kr_pushG 38 72 inf_lnk Tryz.underlying38 rfl (by omega) rfl rfl hrowd (show BL ≤ wr.heap.size from hz) (us := [.string x.c, .string x.p, .int .i64 x.k]) rfl (one_lnk x.c x.p x.k) (by omega) (by omega) rfl rfl ?_
      intro g9 cap9 w9 o9 hg6 hat6 hz6 b9
      have b9' : Below BL wr w9 := (hbd.mono hz).trans b9
      refine ⟨fun _ => HSS.out _ b9', ?_⟩
      simp only [Act.put, List.setIfInBounds_toArray, List.set_cons_succ, List.set_cons_zero]
      have hS := HSS.out _ b9'
      refine kr_take 19 3 (v := .slice (some ⟨g9, 0, none⟩) (ts.length + 1) cap9) rfl (by kernel_rfl) (by kernel_rfl) (by kernel_rfl) (by kernel_rfl) (fun _ _ _ h => by cases h.1) rfl hS (Or.inl ⟨by rfl, fun _ _ => rfl⟩) ?_; simp only [Act.put, List.setIfInBounds_toArray, List.set_cons_succ, List.set_cons_zero]
      refine ⟨by kernel_rfl, onlyN_mk ?_⟩
      have hbb := hb.trans b9'
      clear hS b9 hat6 hg6 hrow hrowd hbA hbd
      go_wp2_with fail
      go_roundw
      case rel =>
        have hln : (ts ++ [turnL x]).length = ts.length + 1 := by simp
        have o9' := o9
        rw [← HLK.out, ← hln] at o9'
        exact ⟨k + 1, ts ++ [turnL x], g9, cap9, by omega, by go_num, by rw [hln, HML.out], HNX.out, by rw [hln], o9', hbb⟩
      case measure => simp [intOf]; omega
    · have tk : decide ((k : Int) < (ms.length : Int)) = false := decide_eq_false (by omega)
      have hk' : k = ms.length := by omega
      go_wp2
      go_ret
      have ht : ts = ms.map turnL := by rw [HTS.out, hk', List.take_length]
      clear hml HML HTS hk9
      subst ht
      rw [List.length_map] at hrow ⊢
      exact ⟨_, rfl, by rw [HBL.out]; exact hrow, by rw [HBL.out]; exact hb⟩
end Go.Proofs.YtdmnkcmkpjmfaaaGreat

/- The walk of the law that what follows hangs neither on the plugboard nor on the order of a link's letters. -/
namespace Go.Proofs.YtdmnkcmkpjmfaaaGreat
open Go.RowKit
attribute [local go_sem] Oper.semAt_some

theorem okLnk_turn {x : Lnk} {b : Int} (h : okLnk x b = true) : okLnk (turnL x) b = true := by
  obtain ⟨h1, h2, h3, h4, h5, h6⟩ := okLnk_iff.1 h
  refine okLnk_iff.2 ⟨h2, h1, ?_, fun e => h4 e.symm, h5, h6⟩
  show wordB (x.c ++ x.p) = true
  unfold wordB at h3 ⊢
  rw [Bool.and_eq_true, decide_eq_true_eq] at h3 ⊢
  refine ⟨?_, ?_⟩
  · rw [ByteArray.size_append]; omega
  · have h7 := h3.2
    rw [L_append, List.all_append, Bool.and_eq_true] at h7 ⊢
    exact ⟨h7.2, h7.1⟩
theorem okFrom_turn : ∀ (ms : List Lnk) (b : Int), okFrom b ms = true → okFrom b (ms.map turnL) = true
  | [], _, _ => rfl
  | x :: ms, b, h => by
    simp only [okFrom, Bool.and_eq_true] at h
    simp only [List.map_cons, okFrom, Bool.and_eq_true]
    exact ⟨okLnk_turn h.1, okFrom_turn ms x.k h.2⟩
theorem menuB_turn {ms : List Lnk} (h : menuB ms = true) : menuB (ms.map turnL) = true := by
  obtain ⟨k1, k2, k3⟩ := menuB_ok h
  unfold menuB
  rw [okFrom_turn ms 0 k3, List.length_map]
  simp [k1, k2]
theorem imp_plugs {m : Mach} {v : ByteArray} {ms : List Lnk} {s : ByteArray} (hne : 0 < (impT m v ms s).length) : impT (bareM m) v ms s = impT m v ms s ∧ impT m v (ms.map turnL) s = impT m v ms s := by
  obtain ⟨k1, k2, k3, -⟩ := impT_mem (List.getElem_mem hne)
  refine ⟨?_, ?_⟩
  · rw [impT_is k1 k2 k3, impT_is (setB_bare k1) k2 k3]
    rfl
  · rw [impT_is k1 k2 k3, impT_is k1 (menuB_turn k2) k3]
    unfold impG
    rw [impB_mem (fun r => menG_turn r)]
set_option maxRecDepth 100000 in
set_option maxHeartbeats 2000000 in
theorem impliedPlugs_walk (a : Option Addr) (len cap : Nat) (zs : List Int) (w : World) (h : IsRow .u8 w a len cap zs) :
    Calls Tryz.prog 9 #[.slice a len cap] w fun e w' => e = .returned (.bool true) ∧ Below w.heap.size w w' := by
  have hlen : len ≤ 9223372036854775807 := by
    rcases h with ⟨_, rfl, _⟩ | ⟨x, _, hl, hm, _⟩
    · omega
    · unfold maxLen at hm; omega
  by_cases hl : 1048576 < len
  · go_enter Tryz.func9, Tryz.ntmps9
    go_wp2
    go_ret
    exact ⟨rfl, Below.refl _ _⟩
  · go_enter Tryz.func9, Tryz.ntmps9
    go_wp2_with fail
    refine (DrawImpliedPairs_any a len cap zs _ h (by omega)).mono ?_
    rintro e w1 ⟨m, v, ms, a1, am, cap1, cm, s, ⟨hsm, hrd, -, hb1⟩, hv, hst, hl24, hrm, hs, rfl⟩
    have o1 := Own.new w1 [.slice a1 m.wheels.rotors.length cap1, .string m.wheels.refl, .string m.rings, .string m.plugs] 36
    have hba : Below w1.heap.size w1 (w1.alloc (.cells [.slice a1 m.wheels.rotors.length cap1, .string m.wheels.refl, .string m.rings, .string m.plugs].toArray 36)) := (Below.refl _ _).alloc (Nat.le_refl _) _
    have hbw1 := hb1.alloc hb1.size (.cells [.slice a1 m.wheels.rotors.length cap1, .string m.wheels.refl, .string m.rings, .string m.plugs].toArray 36)
    have A1 : LAt (w1.alloc (.cells [.slice a1 m.wheels.rotors.length cap1, .string m.wheels.refl, .string m.rings, .string m.plugs].toArray 36)) w1.heap.size a1 cap1 m am ms := ⟨o1, (hsm.at_ hrd).alloc_ _, (hrm.below hba (Nat.le_refl _)).more hba.size⟩
    have hsl := hst.smL
    clear hrd hb1 h hsm hrm hba o1
    go_wp2_with fail
    generalize (w1.alloc (.cells [.slice a1 m.wheels.rotors.length cap1, .string m.wheels.refl, .string m.rings, .string m.plugs].toArray 36)) = W1 at *
    generalize w1.heap.size = B1 at *
    have f0 := A1.box.at_ (i := 0) rfl
    have f1 := A1.box.at_ (i := 1) rfl
    have f2 := A1.box.at_ (i := 2) rfl
    have f3 := A1.box.at_ (i := 3) rfl
    have HIP := Lib.hid (fun t W h1 h2 (ht : t.size ≤ 4294967296) => implImpliedPairs_any a1 cap1 m v am cm ms t W h1 (by omega) h2 hsl (by omega) ht)
    have hls := impT_len m v ms s
    refine (HIP.out s _ A1.mach A1.menu (by omega)).mono ?_
    rintro e w2 ⟨lv, rfl, ol, hb2⟩
    obtain ⟨al, cl, rfl, hlc, hrl2, -⟩ := OwR.val ol
    have A2 := A1.below hb2
    have hbw2 := bt hbw1 hb2
    clear A1 hbw1 ol hlc hb2 f0 f1 f2 f3
    have f0 := A2.box.at_ (i := 0) rfl
    have f1 := A2.box.at_ (i := 1) rfl
    have f2 := A2.box.at_ (i := 2) rfl
    have f3 := A2.box.at_ (i := 3) rfl
    have nsp := fun W h1 h2 => specImpliedPairs_any a1 cap1 m v am cm ms s W h1 (by omega) h2 (by omega) (by omega)
    go_wp2_with fail
    refine (nsp _ A2.mach A2.menu).mono ?_
    rintro e w3 ⟨lv, rfl, ol, hb3⟩
    obtain ⟨al3, cl3, rfl, hlc, hrl3, -⟩ := OwR.val ol
    have A3 := A2.below hb3
    have hbw3 := bt hbw2 hb3
    have hrl := (hrl2.below hb3 (Nat.le_refl _)).more hb3.size
    clear A2 hbw2 ol hlc hb3 hrl2 f0 f1 f2 f3
    have HPL := Lib.hid (@imp_plugs m v ms s)
    generalize hgl : impT m v ms s = ls at *
    have HGL := Lib.hid hgl
    clear hgl
    go_wp2_with fail
    have hrt := rcTexts_any al al3 cl cl3 ls ls w3 hrl hrl3 (by omega)
    rw [decide_eq_true rfl] at hrt
    refine hrt.mono ?_
    rintro e w' ⟨rfl, n4, rfl⟩
    have hb4 := bel_drewM w3 n4
    generalize w3.drewN n4 = w4 at *
    have A4 := A3.below hb4
    have hbw4 := bt hbw3 hb4
    have hrl4 := (hrl.below hb4 (Nat.le_refl _)).more hb4.size
    clear A3 hbw3 hrl hrl3 hrt hb4 n4
    have f0 := A4.box.at_ (i := 0) rfl
    have f1 := A4.box.at_ (i := 1) rfl
    have f2 := A4.box.at_ (i := 2) rfl
    have f3 := A4.box.at_ (i := 3) rfl
    by_cases hz : ls.length = 0
    · have tz : ((ls.length : Int) == 0) = true := by simp [hz]
      clear hz
      go_wp2_with fail
      refine (nsp _ A4.mach A4.menu).mono ?_
      rintro e w5 ⟨lv, rfl, ol, hb5⟩
      obtain ⟨al5, cl5, rfl, hlc5, hrl5, -⟩ := OwR.val ol
      have hrl6 := (hrl4.below hb5 (Nat.le_refl _)).more hb5.size
      have hbw5 := bt hbw4 hb5
      go_wp2_with fail
      have hrt := rcTexts_any al al5 cl cl5 ls ls w5 hrl6 hrl5 (by omega)
      rw [decide_eq_true rfl] at hrt
      refine hrt.mono ?_
      rintro e w' ⟨rfl, n6, rfl⟩
      go_wp2
      go_ret
      exact ⟨rfl, bel_drewN hbw5 n6⟩
    · have tz : ((ls.length : Int) == 0) = false := by rw [beq_eq_false_iff_ne]; omega
      clear nsp f0 f1 f2 f3
      obtain ⟨hp1, hp2⟩ := HPL.out (by omega)
      have hslt : SmL (ms.map turnL) := fun x hx => by
        obtain ⟨y, hy, rfl⟩ := List.mem_map.1 hx
        exact ⟨(hsl y hy).2, (hsl y hy).1⟩
      have nip1 : ∀ W, MachAt W W.heap.size a1 m.wheels.rotors.length (bareM m) → Reads W W.heap.size am (lks ms) → Calls Tryz.prog 26 #[.agg #[.slice a1 m.wheels.rotors.length cap1, .string m.wheels.refl, .string m.rings, .string (wd idP)], .string v, .slice am ms.length cm, .string s] W (RowPost 9 1 ls.length (sv ls) W) := fun W h1 h2 => by
        have := implImpliedPairs_any a1 cap1 (bareM m) v am cm ms s W h1 (by omega) h2 hsl (by omega) (by omega)
        rw [hp1] at this
        exact this
      have nip2 : ∀ W at_ ct, MachAt W W.heap.size a1 m.wheels.rotors.length m → Reads W W.heap.size at_ (lks (ms.map turnL)) → Calls Tryz.prog 26 #[.agg #[.slice a1 m.wheels.rotors.length cap1, .string m.wheels.refl, .string m.rings, .string m.plugs], .string v, .slice at_ ms.length ct, .string s] W (RowPost 9 1 ls.length (sv ls) W) := fun W at_ ct h1 h2 => by
        have := implImpliedPairs_any a1 cap1 m v at_ ct (ms.map turnL) s W h1 (by omega) h2 hslt (by rw [List.length_map]; omega) (by omega)
        rw [hp2, List.length_map] at this
        exact this
      have ntr := fun W h1 => rcTurnedMenu_any am cm ms W h1 (by omega)
      clear hp1 hp2 hz
      generalize ms.map turnL = tm at *
      have lo := A4.box.lt
      have HSS : Hid (∀ W' : World, Below w4.heap.size w4 W' → W'.rangeAt B1 0 [.slice a1 m.wheels.rotors.length cap1, .string m.wheels.refl, .string m.rings, .string m.plugs]) := Lib.hid (fun W' hb => (A4.box.below hb lo).cells.range)
      have HA := Lib.hid (fun (W' : World) (hb : Below w4.heap.size w4 W') => A4.below hb)
      have HRL := Lib.hid (fun (W' : World) (hb : Below w4.heap.size w4 W') => (hrl4.below hb (Nat.le_refl _)).more hb.size)
      clear A4 hrl4
      go_wp2_with fail
      refine wp_onlyN ?_
      refine wp_region_any (by kernel_rfl) ?_
      refine wpAny_of_K (S := fun w' => w'.rangeAt B1 0 [.slice a1 m.wheels.rotors.length cap1, .string m.wheels.refl, .string m.rings, .string m.plugs]) (kp := fun _ => true) _ _ _ _ ?_
      have hbd : Below w4.heap.size w4 w4.drew := (Below.refl _ _).drew
      have hS := HSS.out w4.drew hbd
      refine kr_take 0 43 (v := .agg #[.slice a1 m.wheels.rotors.length cap1, .string m.wheels.refl, .string m.rings, .string m.plugs]) rfl (by kernel_rfl) (by kernel_rfl) (by kernel_rfl) (by kernel_rfl) (fun _ _ _ h => by cases h.1) rfl hS (yieldsIf_load_mid (by rfl) _ _ rfl _ _ rfl _ _ (fun _ h => h) Tryz.underlying36 rfl (by kernel_rfl)) ?_; simp only [Act.put, List.setIfInBounds_toArray, List.set_cons_succ, List.set_cons_zero]
      refine kr_take 2 45 (v := .string v) rfl (by kernel_rfl) (by kernel_rfl) (by kernel_rfl) (by kernel_rfl) (fun _ _ _ h => by cases h.1) rfl hS (Or.inl ⟨by rfl, fun _ _ => rfl⟩) ?_; simp only [Act.put, List.setIfInBounds_toArray, List.set_cons_succ, List.set_cons_zero]
      refine kr_take 3 46 (v := .slice am ms.length cm) rfl (by kernel_rfl) (by kernel_rfl) (by kernel_rfl) (by kernel_rfl) (fun _ _ _ h => by cases h.1) rfl hS (Or.inl ⟨by rfl, fun _ _ => rfl⟩) ?_; simp only [Act.put, List.setIfInBounds_toArray, List.set_cons_succ, List.set_cons_zero]
      refine kr_take 4 47 (v := .string s) rfl (by kernel_rfl) (by kernel_rfl) (by kernel_rfl) (by kernel_rfl) (fun _ _ _ h => by cases h.1) rfl hS (Or.inl ⟨by rfl, fun _ _ => rfl⟩) ?_; simp only [Act.put, List.setIfInBounds_toArray, List.set_cons_succ, List.set_cons_zero]
      refine kr_take 6 49 (v := .slice al ls.length cl) rfl (by kernel_rfl) (by kernel_rfl) (by kernel_rfl) (by kernel_rfl) (fun _ _ _ h => by cases h.1) rfl hS (Or.inl ⟨by rfl, fun _ _ => rfl⟩) ?_; simp only [Act.put, List.setIfInBounds_toArray, List.set_cons_succ, List.set_cons_zero]
      refine kr_callM 1 44 (by kernel_rfl) rfl (by rfl) rfl (fun w => by simp [go_sem]) (rcBare_any a1 m.wheels.rotors.length cap1 m w4.drew) (fun e w5 hT => ?_)
      obtain ⟨rfl, hb5⟩ := hT
      have hbw5 := hbd.trans (hb5.mono hbd.size)
      refine ⟨_, rfl, HSS.out _ hbw5, ?_⟩
      simp only [Act.put, List.setIfInBounds_toArray, List.set_cons_succ, List.set_cons_zero]
      refine kr_callM 5 48 (by kernel_rfl) rfl (by rfl) rfl (fun w => by simp [go_sem]) (nip1 w5 (HA.out _ hbw5).mach.bare (HA.out _ hbw5).menu) (fun e w6 hT => ?_)
      obtain ⟨lv, rfl, ol, hb6⟩ := hT
      obtain ⟨al6, cl6, rfl, hlc6, hrl6, -⟩ := OwR.val ol
      have hbw6 := hbw5.trans (hb6.mono hbw5.size)
      refine ⟨_, rfl, HSS.out _ hbw6, ?_⟩
      simp only [Act.put, List.setIfInBounds_toArray, List.set_cons_succ, List.set_cons_zero]
      have hrt := rcTexts_any al6 al cl6 cl ls ls w6 hrl6 (HRL.out _ hbw6) (by omega)
      rw [decide_eq_true rfl] at hrt
      refine kr_callM 7 50 (by kernel_rfl) rfl (by rfl) rfl (fun w => by simp [go_sem]) hrt (fun e w7 hT => ?_)
      obtain ⟨rfl, n7, rfl⟩ := hT
      have hbw7 := hbw6.trans ((bel_drewM w6 n7).mono hbw6.size)
      generalize w6.drewN n7 = w7 at *
      refine ⟨_, rfl, HSS.out _ hbw7, ?_⟩
      simp only [Act.put, List.setIfInBounds_toArray, List.set_cons_succ, List.set_cons_zero]
      have hS := HSS.out _ hbw7
      refine kr_take 8 51 (v := .bool true) rfl (by kernel_rfl) (by kernel_rfl) (by kernel_rfl) (by kernel_rfl) (fun _ _ _ h => by cases h.1) rfl hS (Or.inl ⟨by rfl, fun _ _ => rfl⟩) ?_; simp only [Act.put, List.setIfInBounds_toArray, List.set_cons_succ, List.set_cons_zero]
      refine kr_take 9 52 (v := .agg #[.slice a1 m.wheels.rotors.length cap1, .string m.wheels.refl, .string m.rings, .string m.plugs]) rfl (by kernel_rfl) (by kernel_rfl) (by kernel_rfl) (by kernel_rfl) (fun _ _ _ h => by cases h.1) rfl hS (yieldsIf_load_mid (by rfl) _ _ rfl _ _ rfl _ _ (fun _ h => h) Tryz.underlying36 rfl (by kernel_rfl)) ?_; simp only [Act.put, List.setIfInBounds_toArray, List.set_cons_succ, List.set_cons_zero]
      refine kr_take 10 53 (v := .string v) rfl (by kernel_rfl) (by kernel_rfl) (by kernel_rfl) (by kernel_rfl) (fun _ _ _ h => by cases h.1) rfl hS (Or.inl ⟨by rfl, fun _ _ => rfl⟩) ?_; simp only [Act.put, List.setIfInBounds_toArray, List.set_cons_succ, List.set_cons_zero]
      refine kr_take 11 54 (v := .slice am ms.length cm) rfl (by kernel_rfl) (by kernel_rfl) (by kernel_rfl) (by kernel_rfl) (fun _ _ _ h => by cases h.1) rfl hS (Or.inl ⟨by rfl, fun _ _ => rfl⟩) ?_; simp only [Act.put, List.setIfInBounds_toArray, List.set_cons_succ, List.set_cons_zero]
      refine kr_take 13 56 (v := .string s) rfl (by kernel_rfl) (by kernel_rfl) (by kernel_rfl) (by kernel_rfl) (fun _ _ _ h => by cases h.1) rfl hS (Or.inl ⟨by rfl, fun _ _ => rfl⟩) ?_; simp only [Act.put, List.setIfInBounds_toArray, List.set_cons_succ, List.set_cons_zero]
      refine kr_take 15 58 (v := .slice al ls.length cl) rfl (by kernel_rfl) (by kernel_rfl) (by kernel_rfl) (by kernel_rfl) (fun _ _ _ h => by cases h.1) rfl hS (Or.inl ⟨by rfl, fun _ _ => rfl⟩) ?_; simp only [Act.put, List.setIfInBounds_toArray, List.set_cons_succ, List.set_cons_zero]
      refine kr_callM 12 55 (by kernel_rfl) rfl (by rfl) rfl (fun w => by simp [go_sem]) (ntr w7 (HA.out _ hbw7).menu) (fun e w8 hT => ?_)
      obtain ⟨lv, rfl, ol, hb8⟩ := hT
      obtain ⟨at8, ct8, rfl, hlc8, hrt8, -⟩ := OwR.val ol
      have hbw8 := hbw7.trans (hb8.mono hbw7.size)
      refine ⟨_, rfl, HSS.out _ hbw8, ?_⟩
      simp only [Act.put, List.setIfInBounds_toArray, List.set_cons_succ, List.set_cons_zero]
      refine kr_callM 14 57 (by kernel_rfl) rfl (by rfl) rfl (fun w => by simp [go_sem]) (nip2 w8 at8 ct8 (HA.out _ hbw8).mach hrt8) (fun e w9 hT => ?_)
      obtain ⟨lv, rfl, ol, hb9⟩ := hT
      obtain ⟨al9, cl9, rfl, hlc9, hrl9, -⟩ := OwR.val ol
      have hbw9 := hbw8.trans (hb9.mono hbw8.size)
      refine ⟨_, rfl, HSS.out _ hbw9, ?_⟩
      simp only [Act.put, List.setIfInBounds_toArray, List.set_cons_succ, List.set_cons_zero]
      have hrt := rcTexts_any al9 al cl9 cl ls ls w9 hrl9 (HRL.out _ hbw9) (by omega)
      rw [decide_eq_true rfl] at hrt
      refine kr_callM 16 59 (by kernel_rfl) rfl (by rfl) rfl (fun w => by simp [go_sem]) hrt (fun e w10 hT => ?_)
      obtain ⟨rfl, n10, rfl⟩ := hT
      have hbw10 := hbw9.trans ((bel_drewM w9 n10).mono hbw9.size)
      generalize w9.drewN n10 = w10 at *
      refine ⟨_, rfl, HSS.out _ hbw10, ?_⟩
      simp only [Act.put, List.setIfInBounds_toArray, List.set_cons_succ, List.set_cons_zero]
      have hS := HSS.out _ hbw10
      refine kr_take 17 60 (v := .bool true) rfl (by kernel_rfl) (by kernel_rfl) (by kernel_rfl) (by kernel_rfl) (fun _ _ _ h => by cases h.1) rfl hS (Or.inl ⟨by rfl, fun _ _ => rfl⟩) ?_; simp only [Act.put, List.setIfInBounds_toArray, List.set_cons_succ, List.set_cons_zero]
      refine kr_take 18 2 (v := .bool true) rfl (by kernel_rfl) (by kernel_rfl) (by kernel_rfl) (by kernel_rfl) (fun _ _ _ h => by cases h.1) rfl hS (Or.inl ⟨by rfl, fun _ _ => rfl⟩) ?_; simp only [Act.put, List.setIfInBounds_toArray, List.set_cons_succ, List.set_cons_zero]
      refine ⟨by kernel_rfl, onlyN_mk ?_⟩
      have hbwE := bt hbw4 hbw10
      clear hS hrt
      go_wp2
      go_ret
      exact ⟨rfl, hbwE⟩
end Go.Proofs.YtdmnkcmkpjmfaaaGreat
