/- Several of my texts in one: IcW. -/
import Derived.Test.YtdmnkcmkpjmfaaaGreatM35
import Derived.Test.YtdmnkcmkpjmfaaaGreatM37
import Derived.Test.YtdmnkcmkpjmfaaaGreatM30
import Derived.Lib.SlicesS
/- The walk of the law that with a pair the pairs follow to which its links lead. -/
namespace Go.Proofs.YtdmnkcmkpjmfaaaGreat
open Go.RowKit
attribute [local go_sem] Oper.semAt_some

theorem sl_01 (s : ByteArray) (h : 0 < s.size) (W : World) : (Instr.slice 9 (.string s) (some (.int .i64 0)) (some (.int .i64 1)) none).run Tryz.prog W = .ok (.string (s.extract 0 1)) W := by
  have := sl_one s 0 h W
  simpa using this
theorem sl_12 (s : ByteArray) (h : 1 < s.size) (W : World) : (Instr.slice 9 (.string s) (some (.int .i64 1)) (some (.int .i64 2)) none).run Tryz.prog W = .ok (.string (s.extract 1 2)) W := by
  have := sl_one s 1 h W
  simpa using this
/-- Where the links of a pair's letters lead. -/
def closB (K : Nat → Nat) (A C a b : Nat) (ls : List ByteArray) : Prop :=
  ((a = A → pw (norm C (K b)) ∈ ls) ∧ (a = C → pw (norm A (K b)) ∈ ls)) ∧ ((b = A → pw (norm C (K a)) ∈ ls) ∧ (b = C → pw (norm A (K a)) ∈ ls))
theorem imp_closed {m : Mach} {v : ByteArray} {ms : List Lnk} {s t : ByteArray} (ht : t ∈ impT m v ms s) {l : Lnk} (hl : l ∈ ms) :
    ∃ a b, a < 10 ∧ b < 10 ∧ t = wd [a, b] ∧ closB (pAt (keyN (bareM m) v (l.k.toNat - 1))) (lkA l.p) (lkA l.c) a b (impT m v ms s) := by
  obtain ⟨h1, h2, h3, q, rfl, q1, q2, q3, q4⟩ := impT_mem ht
  obtain ⟨l0, l1⟩ := pairB_lt h3
  have hG := menG_ok (v := v) (setB_mach h1) h2
  have hi := impB_iff.1 q4
  have hin : ∀ {x y : Nat}, Imp (menG m v ms) (pAt (dg s) 0) (pAt (dg s) 1) x y → pw (norm x y) ∈ impT m v ms s := fun {x y} h => by
    rw [impT_is h1 h2 h3]
    have hlt := h.lt hG l0 l1
    exact List.mem_map.2 ⟨_, mem_impP.2 ⟨(norm_lt hlt.1 hlt.2).1, norm_ord _ _, (norm_lt hlt.1 hlt.2).2, impB_iff.2 h.norm⟩, rfl⟩
  have sp : ∀ {b : Nat}, Imp (menG m v ms) (pAt (dg s) 0) (pAt (dg s) 1) (lkA l.p) b → pw (norm (lkA l.c) (pAt (keyN (bareM m) v (l.k.toNat - 1)) b)) ∈ impT m v ms s := fun h => hin (Imp.step (wire_p (m := m) (v := v) hl) h)
  have sc : ∀ {b : Nat}, Imp (menG m v ms) (pAt (dg s) 0) (pAt (dg s) 1) (lkA l.c) b → pw (norm (lkA l.p) (pAt (keyN (bareM m) v (l.k.toNat - 1)) b)) ∈ impT m v ms s := fun h => hin (Imp.step (wire_c (m := m) (v := v) hl) h)
  refine ⟨q.1, q.2, by omega, q3, rfl, ⟨fun e => sp ?_, fun e => sc ?_⟩, ⟨fun e => sp ?_, fun e => sc ?_⟩⟩
  · rw [← e]; exact hi
  · rw [← e]; exact hi
  · rw [← e]; exact hi.symm
  · rw [← e]; exact hi.symm
theorem S1_wd {x : ByteArray} {n : Nat} (h : x = S [letr (n : Int)]) : x = wd [n] := h
/-- The keys of a valid menu lie within those of its last link. -/
theorem menu_last {ms : List Lnk} (h : menuB ms = true) {i : Nat} (hi : i < ms.length) : ms[i].k ≤ (ms[ms.length - 1]'(by omega)).k := by
  have ha := menuB_asc h
  have h1 := ha.le_last (ms.length - 1 - i) i (by omega)
  rw [ha.pos i hi, ha.pos (ms.length - 1) (by omega)]
  omega
set_option maxRecDepth 100000 in
set_option maxHeartbeats 40000000 in
theorem impliedClosed_walk (a : Option Addr) (len cap : Nat) (zs : List Int) (w : World) (h : IsRow .u8 w a len cap zs) :
    Calls Tryz.prog 14 #[.slice a len cap] w fun e w' => e = .returned (.bool true) ∧ Below w.heap.size w w' := by
  have hlen : len ≤ 9223372036854775807 := by
    rcases h with ⟨_, rfl, _⟩ | ⟨x, _, hl, hm, _⟩
    · omega
    · unfold maxLen at hm; omega
  by_cases hl : 1048576 < len
  · go_enter Tryz.func14, Tryz.ntmps14
    go_wp2
    go_ret
    exact ⟨rfl, Below.refl _ _⟩
  · go_enter Tryz.func14, Tryz.ntmps14
    go_wp2_with fail
    refine (DrawImpliedPairs_any a len cap zs _ h (by omega)).mono ?_
    rintro e w1 ⟨m, v, ms, a1, am, cap1, cm, s, ⟨hsm, hrd, -, hb1⟩, hv, hst, hl24, hrm, hs, rfl⟩
    have o1 := Own.new w1 [.slice a1 m.wheels.rotors.length cap1, .string m.wheels.refl, .string m.rings, .string m.plugs] 36
    have hba : Below w1.heap.size w1 (w1.alloc (.cells [.slice a1 m.wheels.rotors.length cap1, .string m.wheels.refl, .string m.rings, .string m.plugs].toArray 36)) := (Below.refl _ _).alloc (Nat.le_refl _) _
    have hbw1 := hb1.alloc hb1.size (.cells [.slice a1 m.wheels.rotors.length cap1, .string m.wheels.refl, .string m.rings, .string m.plugs].toArray 36)
    have A1 : LAt (w1.alloc (.cells [.slice a1 m.wheels.rotors.length cap1, .string m.wheels.refl, .string m.rings, .string m.plugs].toArray 36)) w1.heap.size a1 cap1 m am ms := ⟨o1, (hsm.at_ hrd).alloc_ _, (hrm.below hba (Nat.le_refl _)).more hba.size⟩
    have hsl := hst.smL
    clear hrd hb1 h hsm hrm hba o1
    go_wp2_with fail
    generalize (w1.alloc (.cells [.slice a1 m.wheels.rotors.length cap1, .string m.wheels.refl, .string m.rings, .string m.plugs].toArray 36)) = W1 at *
    generalize w1.heap.size = B1 at *
    have f0 := A1.box.at_ (i := 0) rfl
    have f1 := A1.box.at_ (i := 1) rfl
    have f2 := A1.box.at_ (i := 2) rfl
    have f3 := A1.box.at_ (i := 3) rfl
    have HIP := Lib.hid (fun t W h1 h2 (ht : t.size ≤ 4294967296) => implImpliedPairs_any a1 cap1 m v am cm ms t W h1 (by omega) h2 hsl (by omega) ht)
    have hls := impT_len m v ms s
    refine (HIP.out s _ A1.mach A1.menu (by omega)).mono ?_
    rintro e w2 ⟨lv, rfl, ol, hb2⟩
    obtain ⟨al, cl, rfl, hlc, hrl2, -⟩ := OwR.val ol
    have A2 := A1.below hb2
    have hbw2 := bt hbw1 hb2
    clear A1 hbw1 ol hlc hb2 f0 f1 f2 f3
    have f0 := A2.box.at_ (i := 0) rfl
    have f1 := A2.box.at_ (i := 1) rfl
    have f2 := A2.box.at_ (i := 2) rfl
    have f3 := A2.box.at_ (i := 3) rfl
    have nsp := fun W h1 h2 => specImpliedPairs_any a1 cap1 m v am cm ms s W h1 (by omega) h2 (by omega) (by omega)
    go_wp2_with fail
    refine (nsp _ A2.mach A2.menu).mono ?_
    rintro e w3 ⟨lv, rfl, ol, hb3⟩
    obtain ⟨al3, cl3, rfl, hlc, hrl3, -⟩ := OwR.val ol
    have A3 := A2.below hb3
    have hbw3 := bt hbw2 hb3
    have hrl := (hrl2.below hb3 (Nat.le_refl _)).more hb3.size
    clear A2 hbw2 ol hlc hb3 hrl2 f0 f1 f2 f3
    have HCL := Lib.hid (fun t (ht : t ∈ impT m v ms s) l (hl : l ∈ ms) => imp_closed ht hl)
    have HOK := Lib.hid (fun (h : 0 < (impT m v ms s).length) => impT_mem (List.getElem_mem h))
    generalize hgl : impT m v ms s = ls at *
    have HGL := Lib.hid hgl
    clear hgl
    go_wp2_with fail
    have hrt := rcTexts_any al al3 cl cl3 ls ls w3 hrl hrl3 (by omega)
    rw [decide_eq_true rfl] at hrt
    refine hrt.mono ?_
    rintro e w' ⟨rfl, n4, rfl⟩
    have hb4 := bel_drewM w3 n4
    generalize w3.drewN n4 = w4 at *
    have A4 := A3.below hb4
    have hbw4 := bt hbw3 hb4
    have hrl4 := (hrl.below hb4 (Nat.le_refl _)).more hb4.size
    clear A3 hbw3 hrl hrl3 hrt hb4 n4
    have f0 := A4.box.at_ (i := 0) rfl
    have f1 := A4.box.at_ (i := 1) rfl
    have f2 := A4.box.at_ (i := 2) rfl
    have f3 := A4.box.at_ (i := 3) rfl
    by_cases hz : ls.length = 0
    · have tz : ((ls.length : Int) == 0) = true := by simp [hz]
      clear hz
      go_wp2_with fail
      refine (nsp _ A4.mach A4.menu).mono ?_
      rintro e w5 ⟨lv, rfl, ol, hb5⟩
      obtain ⟨al5, cl5, rfl, hlc5, hrl5, -⟩ := OwR.val ol
      have hrl6 := (hrl4.below hb5 (Nat.le_refl _)).more hb5.size
      have hbw5 := bt hbw4 hb5
      go_wp2_with fail
      have hrt := rcTexts_any al al5 cl cl5 ls ls w5 hrl6 hrl5 (by omega)
      rw [decide_eq_true rfl] at hrt
      refine hrt.mono ?_
      rintro e w' ⟨rfl, n6, rfl⟩
      go_wp2
      go_ret
      exact ⟨rfl, bel_drewN hbw5 n6⟩
    · have tz : ((ls.length : Int) == 0) = false := by rw [beq_eq_false_iff_ne]; omega
      obtain ⟨h1, h2, -, -⟩ := HOK.out (by omega)
      have hsb := setB_bare h1
      have hmb := machB_bare (setB_mach h1)
      have hfew := (menuB_asc h2).few
      have hone := (menuB_asc h2).one
      have HLK := Lib.hid (menuB_lnk h2)
      have HLAST := Lib.hid (fun i (hi : i < ms.length) => menu_last h2 hi)
      have hl0 : ms.length - 1 < ms.length := by omega
      have hlk := menuB_lnk h2 _ (List.getElem_mem hl0)
      obtain ⟨KN, hKN⟩ : ∃ KN : Nat, (ms[ms.length - 1]'hl0).k = (KN : Int) := ⟨(ms[ms.length - 1]'hl0).k.toNat, by have := hlk.k1; omega⟩
      have hKN60 : KN ≤ 60 := by have := hlk.k60; omega
      obtain ⟨b, off, rfl, hbl, hcl⟩ := A4.menu.open_ (by rw [len_lks]; omega)
      have g2 := hcl ((ms.length - 1) * 3 + 2) (by rw [len_lks]; omega)
      rw [lks_at2 _ _ hl0, ← Nat.add_assoc, hKN] at g2
      have e1 : IntKind.i64.wrap ((ms.length : Int) - 1) = ((ms.length - 1 : Nat) : Int) := by rw [IntWalk.i64_in _ (by omega)]; omega
      have q0 : (0 : Int) ≤ ((ms.length - 1 : Nat) : Int) := by omega
      have q1 : ((ms.length - 1 : Nat) : Int) < (ms.length : Int) := by omega
      have nkp : ∀ W, MachAt W W.heap.size a1 m.wheels.rotors.length (bareM m) → Calls Tryz.prog 58 #[.agg #[.slice a1 m.wheels.rotors.length cap1, .string m.wheels.refl, .string m.rings, .string (wd idP)], .string v, .int .i64 (KN : Int)] W (RowPost 9 1 (keyS (bareM m) v KN).length (sv (keyS (bareM m) v KN)) W) := fun W h => by
        have := implKeyPerms_any a1 m.wheels.rotors.length cap1 (bareM m) v (KN : Int) W h (by omega)
        rw [keyT_yes hsb hKN60] at this
        exact this
      have HKS : Hid ((keyS (bareM m) v KN).length = KN ∧ ∀ j (h : j < (keyS (bareM m) v KN).length), (keyS (bareM m) v KN)[j] = wd (keyN (bareM m) v j)) := Lib.hid (by
        refine ⟨by simp [keyS], fun j h => by simp [keyS]⟩)
      have HISP := Lib.hid (fun j => isP_keyN hmb v j)
      have HLAST2 : Hid (∀ i (hi : i < ms.length), ms[i].k ≤ (KN : Int)) := Lib.hid (fun i hi => by rw [← hKN]; exact HLAST.out i hi)
      have lo := A4.box.lt
      have HSS : Hid (∀ W' : World, Below w4.heap.size w4 W' → W'.rangeAt B1 0 [.slice a1 m.wheels.rotors.length cap1, .string m.wheels.refl, .string m.rings, .string m.plugs] ∧ W'.cell? ⟨b, off + (ms.length - 1) * 3 + 2, none⟩ = some (.int .i64 (KN : Int))) := Lib.hid (fun W' hb => ⟨(A4.box.below hb lo).cells.range, (hb.cell hbl).trans g2⟩)
      have HA := Lib.hid (fun (W' : World) (hb : Below w4.heap.size w4 W') => A4.below hb)
      have HRL := Lib.hid (fun (W' : World) (hb : Below w4.heap.size w4 W') => (hrl4.below hb (Nat.le_refl _)).more hb.size)
      clear nsp f0 f1 f2 f3 HLAST hKN hcl g2 h1 h2 hsb hlk A4 hrl4 HOK hz hmb
      generalize keyS (bareM m) v KN = kl at *
      generalize ms.length - 1 = ml at *
      go_wp2_with fail
      refine wp_onlyN ?_
      refine wp_region_any (by kernel_rfl) ?_
      refine wpAny_of_K (S := fun w' => w'.rangeAt B1 0 [.slice a1 m.wheels.rotors.length cap1, .string m.wheels.refl, .string m.rings, .string m.plugs] ∧ w'.cell? ⟨b, off + ml * 3 + 2, none⟩ = some (.int .i64 (KN : Int))) (kp := fun _ => true) _ _ _ _ ?_
      have hbd : Below w4.heap.size w4 w4.drew := (Below.refl _ _).drew
      have hS := HSS.out w4.drew hbd
      refine kr_take 0 50 (v := .agg #[.slice a1 m.wheels.rotors.length cap1, .string m.wheels.refl, .string m.rings, .string m.plugs]) rfl (by kernel_rfl) (by kernel_rfl) (by kernel_rfl) (by kernel_rfl) (fun _ _ _ h => by cases h.1) rfl hS (yieldsIf_load_mid (by rfl) _ _ rfl _ _ rfl _ _ (fun _ h => h.1) Tryz.underlying36 rfl (by kernel_rfl)) ?_; simp only [Act.put, List.setIfInBounds_toArray, List.set_cons_succ, List.set_cons_zero]
      refine kr_take 2 52 (v := .string v) rfl (by kernel_rfl) (by kernel_rfl) (by kernel_rfl) (by kernel_rfl) (fun _ _ _ h => by cases h.1) rfl hS (Or.inl ⟨by rfl, fun _ _ => rfl⟩) ?_; simp only [Act.put, List.setIfInBounds_toArray, List.set_cons_succ, List.set_cons_zero]
      refine kr_take 3 53 (v := .slice (some ⟨b, off, none⟩) ms.length cm) rfl (by kernel_rfl) (by kernel_rfl) (by kernel_rfl) (by kernel_rfl) (fun _ _ _ h => by cases h.1) rfl hS (Or.inl ⟨by rfl, fun _ _ => rfl⟩) ?_; simp only [Act.put, List.setIfInBounds_toArray, List.set_cons_succ, List.set_cons_zero]
      refine kr_take 4 54 (v := .slice (some ⟨b, off, none⟩) ms.length cm) rfl (by kernel_rfl) (by kernel_rfl) (by kernel_rfl) (by kernel_rfl) (fun _ _ _ h => by cases h.1) rfl hS (Or.inl ⟨by rfl, fun _ _ => rfl⟩) ?_; simp only [Act.put, List.setIfInBounds_toArray, List.set_cons_succ, List.set_cons_zero]
      refine kr_take 5 55 (v := .int .i64 (ms.length : Int)) rfl (by kernel_rfl) (by kernel_rfl) (by kernel_rfl) (by kernel_rfl) (fun _ _ _ h => by cases h.1) rfl hS (Or.inl ⟨by rfl, fun _ _ => by simp [go_sem]⟩) ?_; simp only [Act.put, List.setIfInBounds_toArray, List.set_cons_succ, List.set_cons_zero]
      refine kr_take 6 56 (v := .int .i64 (ml : Int)) rfl (by kernel_rfl) (by kernel_rfl) (by kernel_rfl) (by kernel_rfl) (fun _ _ _ h => by cases h.1) rfl hS (Or.inl ⟨by rfl, fun w' hw' => by simp [go_sem, e1]⟩) ?_; simp only [Act.put, List.setIfInBounds_toArray, List.set_cons_succ, List.set_cons_zero]
      refine kr_take 7 57 (v := .pointer (some ⟨b, off + ml * 3, none⟩)) rfl (by kernel_rfl) (by kernel_rfl) (by kernel_rfl) (by kernel_rfl) (fun _ _ _ h => by cases h.1) rfl hS (Or.inl ⟨by rfl, fun w' hw' => by simp [go_sem, q0, q1]⟩) ?_; simp only [Act.put, List.setIfInBounds_toArray, List.set_cons_succ, List.set_cons_zero]
      refine kr_take 8 58 (v := .pointer (some ⟨b, off + ml * 3 + 2, none⟩)) rfl (by kernel_rfl) (by kernel_rfl) (by kernel_rfl) (by kernel_rfl) (fun _ _ _ h => by cases h.1) rfl hS (Or.inl ⟨by rfl, fun _ _ => by simp [go_sem]⟩) ?_; simp only [Act.put, List.setIfInBounds_toArray, List.set_cons_succ, List.set_cons_zero]
      refine kr_take 9 59 (v := .int .i64 (KN : Int)) rfl (by kernel_rfl) (by kernel_rfl) (by kernel_rfl) (by kernel_rfl) (fun _ _ _ h => by cases h.1) rfl hS (Or.inl ⟨by rfl, fun w' hw' => by have hw1 := hw'.2; simp [go_sem, hw1]⟩) ?_; simp only [Act.put, List.setIfInBounds_toArray, List.set_cons_succ, List.set_cons_zero]
      refine kr_callM 1 51 (by kernel_rfl) rfl (by rfl) rfl (fun w => by simp [go_sem]) (rcBare_any a1 m.wheels.rotors.length cap1 m w4.drew) (fun e w5 hT => ?_)
      obtain ⟨rfl, hb5⟩ := hT
      have hbw5 := hbd.trans (hb5.mono hbd.size)
      refine ⟨_, rfl, HSS.out _ hbw5, ?_⟩
      simp only [Act.put, List.setIfInBounds_toArray, List.set_cons_succ, List.set_cons_zero]
      refine kr_callM 10 60 (by kernel_rfl) rfl (by rfl) rfl (fun w => by simp [go_sem]) (nkp w5 (HA.out _ hbw5).mach.bare) (fun e w6 hT => ?_)
      obtain ⟨lv, rfl, ol, hb6⟩ := hT
      obtain ⟨ak, ck, rfl, hck, hrk, -⟩ := OwR.val ol
      have hbw6 := hbw5.trans (hb6.mono hbw5.size)
      refine ⟨_, rfl, HSS.out _ hbw6, ?_⟩
      simp only [Act.put, List.setIfInBounds_toArray, List.set_cons_succ, List.set_cons_zero]
      have hS := HSS.out _ hbw6
      refine kr_take 11 8 (v := .slice ak kl.length ck) rfl (by kernel_rfl) (by kernel_rfl) (by kernel_rfl) (by kernel_rfl) (fun _ _ _ h => by cases h.1) rfl hS (Or.inl ⟨by rfl, fun _ _ => rfl⟩) ?_; simp only [Act.put, List.setIfInBounds_toArray, List.set_cons_succ, List.set_cons_zero]
      refine ⟨by kernel_rfl, onlyN_mk ?_⟩
      have A6 := HA.out _ hbw6
      have hrl6 := HRL.out _ hbw6
      have hbw7 := bt hbw4 hbw6
      clear hS HSS HA HRL hbw6 hb6 hb5 hbw5 hbd ol hbw4 nkp e1 q0 q1 hl0 hbl
      go_wp2_with fail
      go_loopw [9, 10, 11, 12, 13, 14] (fun i _ _ _ _ _ wr => ∃ k : Nat, k ≤ ls.length ∧ i = .int .i64 k ∧ LAt wr B1 a1 cap1 m (some ⟨b, off, none⟩) ms ∧ Reads wr wr.heap.size al (sv ls) ∧ Reads wr wr.heap.size ak (sv kl) ∧ Below w.heap.size w wr) (fun i _ _ _ _ _ _ => ls.length - (intOf i).toNat)
      case atStart => exact ⟨0, Nat.zero_le _, rfl, A6, hrl6, hrk, hbw7⟩
      case round =>
        clear A6 hrl6 hrk hbw7
        obtain ⟨k, hk, rfl, A6, hrl6, hrk, hbw7⟩ := hrel
        by_cases hlt : k < ls.length
        · have tk : decide ((k : Int) < (ls.length : Int)) = true := decide_eq_true (by omega)
          have q0 : (0 : Int) ≤ (k : Int) := by omega
          have q1 : (k : Int) < (ls.length : Int) := by omega
          go_wp2_with fail
          go_loopw [10, 11, 12, 13, 14] (fun i _ _ _ _ wr => ∃ j : Nat, j ≤ ms.length ∧ i = .int .i64 j ∧ LAt wr B1 a1 cap1 m (some ⟨b, off, none⟩) ms ∧ Reads wr wr.heap.size al (sv ls) ∧ Reads wr wr.heap.size ak (sv kl) ∧ Below w.heap.size w wr) (fun i _ _ _ _ _ => ms.length - (intOf i).toNat)
          case atStart => exact ⟨0, Nat.zero_le _, rfl, A6, hrl6, hrk, hbw7⟩
          case round =>
            clear A6 hrl6 hrk hbw7
            obtain ⟨j, hj, rfl, A6, hrl6, hrk, hbw7⟩ := hrel
            by_cases hlt2 : j < ms.length
            · have tj : decide ((j : Int) < (ms.length : Int)) = true := decide_eq_true (by omega)
              have q2 : (0 : Int) ≤ (j : Int) := by omega
              have q3 : (j : Int) < (ms.length : Int) := by omega
              have hok := HLK.out ms[j] (List.getElem_mem hlt2)
              have hlast := HLAST2.out j hlt2
              obtain ⟨a', b', ha', hb', hls, hclo⟩ := HCL.out _ (List.getElem_mem hlt) _ (List.getElem_mem hlt2)
              obtain ⟨bm, om, hem, hbl, hcl⟩ := A6.menu.open_ (by rw [len_lks]; omega)
              injection hem with hem
              injection hem with hem1 hem2
              subst hem1
              subst hem2
              have g0 := hcl (j * 3) (by rw [len_lks]; omega)
              have g1 := hcl (j * 3 + 1) (by rw [len_lks]; omega)
              have g2 := hcl (j * 3 + 2) (by rw [len_lks]; omega)
              rw [lks_at0 _ _ hlt2] at g0
              rw [lks_at1 _ _ hlt2, ← Nat.add_assoc] at g1
              rw [lks_at2 _ _ hlt2, ← Nat.add_assoc] at g2
              obtain ⟨kn, hkn⟩ : ∃ kn : Nat, ms[j].k = ((kn : Nat) : Int) + 1 := ⟨(ms[j].k - 1).toNat, by have := hok.k1; omega⟩
              have hkn2 : ms[j].k.toNat - 1 = kn := by omega
              rw [hkn2] at hclo
              rw [hkn] at g2
              have hpe := S1_wd hok.pe
              have hce := S1_wd hok.ce
              rw [hpe] at g0
              rw [hce] at g1
              have hAlt := hok.pl
              have hClt := hok.cl
              have hAC := hok.nn
              have hknl : kn < kl.length := by rw [HKS.out.1]; omega
              have hkk := HKS.out.2 kn hknl
              have hPk := HISP.out kn
              obtain ⟨b3, off3, rfl, hbl3, hcl3⟩ := hrk.cells (by simp [sv]; omega)
              have k0 := hcl3.at_ (i := kn) (sv_at hknl)
              rw [hkk] at k0
              obtain ⟨b4, off4, rfl, hbl4, hcl4⟩ := hrl6.cells (by simp [sv]; omega)
              have l0 := hcl4.at_ (i := k) (sv_at hlt)
              rw [hls] at l0
              have hw1 : IntKind.i64.wrap ((kn : Int) + 1 - 1) = (kn : Int) := by rw [IntWalk.i64_in _ (by omega)]; omega
              have hw2 : IntKind.i64.wrap (kn : Int) = (kn : Int) := IntWalk.i64_in _ (by omega)
              have q4 : (0 : Int) ≤ (kn : Int) := by omega
              have q5 : (kn : Int) < (kl.length : Int) := by omega
              have G0 := Lib.hid g0
              have G1 := Lib.hid g1
              have HCLO := Lib.hid hclo
              have L0 := Lib.hid l0
              clear hcl hcl3 hcl4 hkn hkn2 hpe hce hok hkk hls hclo hlast
              generalize lkA ms[j].p = A at *
              generalize lkA ms[j].c = C at *
              generalize keyN (bareM m) v kn = KP at *
              have hPz : (wd KP).size = 10 := by rw [size_wd, hPk.len]
              go_wp2_with fail
              clear k0
              go_loopw [12, 13, 14] (fun i _ _ wr => (i = .int .i64 0 ∨ i = .int .i64 1 ∨ i = .int .i64 2) ∧ LAt wr B1 a1 cap1 m (some ⟨b, off, none⟩) ms ∧ Reads wr wr.heap.size (some ⟨b4, off4, none⟩) (sv ls) ∧ Reads wr wr.heap.size (some ⟨b3, off3, none⟩) (sv kl) ∧ wr.cell? ⟨b, off + j * 3, none⟩ = some (.string (wd [A])) ∧ wr.cell? ⟨b, off + j * 3 + 1, none⟩ = some (.string (wd [C])) ∧ wr.cell? ⟨b4, off4 + k, none⟩ = some (.string (wd [a', b'])) ∧ b < wr.heap.size ∧ b4 < wr.heap.size ∧ Below w.heap.size w wr) (fun i _ _ _ => 2 - (intOf i).toNat)
              case atStart => exact ⟨.inl rfl, A6, hrl6, hrk, G0.out, G1.out, L0.out, hbl, hbl4, hbw7⟩
              case round =>
                clear A6 hrl6 hrk hbw7 g0 g1 g2 l0 hbl hbl4 hbl3
                obtain ⟨hi, A6, hrl6, hrk, g0, g1, l0, hbl, hbl4, hbw7⟩ := hrel
                have s2 : (wd [a', b']).size = 2 := size_wd _
                have s1 := sl_01 (wd [a', b']) (by omega)
                have s3 := sl_12 (wd [a', b']) (by omega)
                have e0 : (wd [a', b']).extract 0 1 = wd [a'] := wd_at (l := [a', b']) (k := 0) (by simp)
                have e1 : (wd [a', b']).extract 1 2 = wd [b'] := wd_at (l := [a', b']) (k := 1) (by simp)
                rw [e0] at s1
                rw [e1] at s3
                clear e0 e1 s2
                rcases hi with rfl | rfl | rfl
                · have na := fun W => implApplyPerm_any (wd KP) (wd [b']) W (by omega) (by rw [size_wd]; simp)
                  have hy10 := hPk.at_lt hb'
                  have hap : appV (wd KP) (wd [b']) = wd [pAt KP b'] := app_one hPk (c := letr (b' : Int)) (d := b') (isL_letr _) (by rw [dig_letr]; omega)
                  rw [hap] at na
                  have hcl := HCLO.out.1
                  have G0 := Lib.hid g0
                  have G1 := Lib.hid g1
                  have L0 := Lib.hid l0
                  have HC1 := Lib.hid hcl.1
                  have HC2 := Lib.hid hcl.2
                  clear hap hcl
                  generalize pAt KP b' = z at *
                  go_wp2_with fail
                  refine (na _).mono ?_
                  rintro e w8 ⟨rfl, hb8⟩
                  have A8 := A6.below hb8
                  have hrl8 := (hrl6.below hb8 (Nat.le_refl _)).more hb8.size
                  have hrk8 := (hrk.below hb8 (Nat.le_refl _)).more hb8.size
                  have g0 := (hb8.cell hbl).trans G0.out
                  have g1 := (hb8.cell hbl).trans G1.out
                  have l0' := (hb8.cell hbl4).trans L0.out
                  have hbl8 : b < w8.heap.size := by have := hb8.size; omega
                  have hbl48 : b4 < w8.heap.size := by have := hb8.size; omega
                  have hbw8 := bt hbw7 hb8
                  clear A6 hrl6 hrk hbw7 hb8 na hbl hbl4 l0 s1 s3
                  by_cases hA : a' = A
                  · have te : ((wd [a']).toList == (wd [A]).toList) = true := (Go.Lib.bytes_beq_iff _ _).2 (by rw [hA])
                    have te2 : ((wd [a']).toList == (wd [C]).toList) = false := (Go.Lib.bytes_beq_false_iff _ _).2 (fun h => by
                      have := wd_inj (p := [a']) (q := [C]) (by simpa using ha') (by simpa using hClt) h
                      simp at this
                      omega)
                    have npr := rcPair_any C z hClt hy10
                    have nin := rcIn_yes (some ⟨b4, off4, none⟩) cl ls (pw (norm C z)) w8 hrl8 (by omega) (HC1.out hA)
                    clear hA
                    generalize wd [a'] = SX at *
                    generalize pw (norm C z) = SP at *
                    go_wp2_with (first | (go_at_call 56; ((with_reducible refine (npr _).mono ?_); rintro e w' ⟨rfl, rfl⟩)) | (go_at_call 45; ((with_reducible refine (nin).mono ?_); rintro e w' ⟨rfl, rfl⟩)))
                    go_roundw
                    case rel => exact ⟨.inr (.inl rfl), A8, hrl8, hrk8, g0, g1, l0', hbl8, hbl48, hbw8⟩
                    case measure => simp [intOf]
                  · have te : ((wd [a']).toList == (wd [A]).toList) = false := (Go.Lib.bytes_beq_false_iff _ _).2 (fun h => by
                      have := wd_inj (p := [a']) (q := [A]) (by simpa using ha') (by simpa using hAlt) h
                      simp at this
                      omega)
                    by_cases hC : a' = C
                    · have te2 : ((wd [a']).toList == (wd [C]).toList) = true := (Go.Lib.bytes_beq_iff _ _).2 (by rw [hC])
                      have npr := rcPair_any A z hAlt hy10
                      have nin := rcIn_yes (some ⟨b4, off4, none⟩) cl ls (pw (norm A z)) w8 hrl8 (by omega) (HC2.out hC)
                      clear hA hC
                      generalize wd [a'] = SX at *
                      generalize pw (norm A z) = SP at *
                      go_wp2_with (first | (go_at_call 56; ((with_reducible refine (npr _).mono ?_); rintro e w' ⟨rfl, rfl⟩)) | (go_at_call 45; ((with_reducible refine (nin).mono ?_); rintro e w' ⟨rfl, rfl⟩)))
                      go_roundw
                      case rel => exact ⟨.inr (.inl rfl), A8, hrl8, hrk8, g0, g1, l0', hbl8, hbl48, hbw8⟩
                      case measure => simp [intOf]
                    · have te2 : ((wd [a']).toList == (wd [C]).toList) = false := (Go.Lib.bytes_beq_false_iff _ _).2 (fun h => by
                        have := wd_inj (p := [a']) (q := [C]) (by simpa using ha') (by simpa using hClt) h
                        simp at this
                        omega)
                      clear hA hC
                      go_wp2
                      go_roundw
                      case rel => exact ⟨.inr (.inl rfl), A8, hrl8, hrk8, g0, g1, l0', hbl8, hbl48, hbw8⟩
                      case measure => simp [intOf]
                · have na := fun W => implApplyPerm_any (wd KP) (wd [a']) W (by omega) (by rw [size_wd]; simp)
                  have hy10 := hPk.at_lt ha'
                  have hap : appV (wd KP) (wd [a']) = wd [pAt KP a'] := app_one hPk (c := letr (a' : Int)) (d := a') (isL_letr _) (by rw [dig_letr]; omega)
                  rw [hap] at na
                  have hcl := HCLO.out.2
                  have G0 := Lib.hid g0
                  have G1 := Lib.hid g1
                  have L0 := Lib.hid l0
                  have HC1 := Lib.hid hcl.1
                  have HC2 := Lib.hid hcl.2
                  clear hap hcl
                  generalize pAt KP a' = z at *
                  go_wp2_with fail
                  refine (na _).mono ?_
                  rintro e w8 ⟨rfl, hb8⟩
                  have A8 := A6.below hb8
                  have hrl8 := (hrl6.below hb8 (Nat.le_refl _)).more hb8.size
                  have hrk8 := (hrk.below hb8 (Nat.le_refl _)).more hb8.size
                  have g0 := (hb8.cell hbl).trans G0.out
                  have g1 := (hb8.cell hbl).trans G1.out
                  have l0' := (hb8.cell hbl4).trans L0.out
                  have hbl8 : b < w8.heap.size := by have := hb8.size; omega
                  have hbl48 : b4 < w8.heap.size := by have := hb8.size; omega
                  have hbw8 := bt hbw7 hb8
                  clear A6 hrl6 hrk hbw7 hb8 na hbl hbl4 l0 s1 s3
                  by_cases hA : b' = A
                  · have te : ((wd [b']).toList == (wd [A]).toList) = true := (Go.Lib.bytes_beq_iff _ _).2 (by rw [hA])
                    have te2 : ((wd [b']).toList == (wd [C]).toList) = false := (Go.Lib.bytes_beq_false_iff _ _).2 (fun h => by
                      have := wd_inj (p := [b']) (q := [C]) (by simpa using hb') (by simpa using hClt) h
                      simp at this
                      omega)
                    have npr := rcPair_any C z hClt hy10
                    have nin := rcIn_yes (some ⟨b4, off4, none⟩) cl ls (pw (norm C z)) w8 hrl8 (by omega) (HC1.out hA)
                    clear hA
                    generalize wd [b'] = SX at *
                    generalize pw (norm C z) = SP at *
                    go_wp2_with (first | (go_at_call 56; ((with_reducible refine (npr _).mono ?_); rintro e w' ⟨rfl, rfl⟩)) | (go_at_call 45; ((with_reducible refine (nin).mono ?_); rintro e w' ⟨rfl, rfl⟩)))
                    go_roundw
                    case rel => exact ⟨.inr (.inr rfl), A8, hrl8, hrk8, g0, g1, l0', hbl8, hbl48, hbw8⟩
                    case measure => simp [intOf]
                  · have te : ((wd [b']).toList == (wd [A]).toList) = false := (Go.Lib.bytes_beq_false_iff _ _).2 (fun h => by
                      have := wd_inj (p := [b']) (q := [A]) (by simpa using hb') (by simpa using hAlt) h
                      simp at this
                      omega)
                    by_cases hC : b' = C
                    · have te2 : ((wd [b']).toList == (wd [C]).toList) = true := (Go.Lib.bytes_beq_iff _ _).2 (by rw [hC])
                      have npr := rcPair_any A z hAlt hy10
                      have nin := rcIn_yes (some ⟨b4, off4, none⟩) cl ls (pw (norm A z)) w8 hrl8 (by omega) (HC2.out hC)
                      clear hA hC
                      generalize wd [b'] = SX at *
                      generalize pw (norm A z) = SP at *
                      go_wp2_with (first | (go_at_call 56; ((with_reducible refine (npr _).mono ?_); rintro e w' ⟨rfl, rfl⟩)) | (go_at_call 45; ((with_reducible refine (nin).mono ?_); rintro e w' ⟨rfl, rfl⟩)))
                      go_roundw
                      case rel => exact ⟨.inr (.inr rfl), A8, hrl8, hrk8, g0, g1, l0', hbl8, hbl48, hbw8⟩
                      case measure => simp [intOf]
                    · have te2 : ((wd [b']).toList == (wd [C]).toList) = false := (Go.Lib.bytes_beq_false_iff _ _).2 (fun h => by
                        have := wd_inj (p := [b']) (q := [C]) (by simpa using hb') (by simpa using hClt) h
                        simp at this
                        omega)
                      clear hA hC
                      go_wp2
                      go_roundw
                      case rel => exact ⟨.inr (.inr rfl), A8, hrl8, hrk8, g0, g1, l0', hbl8, hbl48, hbw8⟩
                      case measure => simp [intOf]
                · go_wp2
                  go_roundw
                  case rel => exact ⟨j + 1, by omega, by go_num, A6, hrl6, hrk, hbw7⟩
                  case measure => simp [intOf]; omega
            · have tj : decide ((j : Int) < (ms.length : Int)) = false := decide_eq_false (by omega)
              go_wp2
              go_roundw
              case rel => exact ⟨k + 1, by omega, by go_num, A6, hrl6, hrk, hbw7⟩
              case measure => simp [intOf]; omega
        · have tk : decide ((k : Int) < (ls.length : Int)) = false := decide_eq_false (by omega)
          go_wp2
          go_ret
          exact ⟨rfl, hbw7⟩
end Go.Proofs.YtdmnkcmkpjmfaaaGreat
