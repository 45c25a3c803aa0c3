/- Several of my texts in one: MoW. -/
import Derived.Test.YtdmnkcmkpjmfaaaGreatM31
import Derived.Lib.SlicesS
/- The walk of the law that with more links no fewer pairs follow. -/
namespace Go.Proofs.YtdmnkcmkpjmfaaaGreat
open Go.RowKit
attribute [local go_sem] Oper.semAt_some

/-- None of the first k texts is t. -/
def noIn (ss : List ByteArray) (t : ByteArray) (k : Nat) : Prop := ∀ j (h : j < ss.length), j < k → ss[j] ≠ t
theorem rcIn_yes (a : Option Addr) (c : Nat) (ss : List ByteArray) (t : ByteArray) (w : World) (h : Reads w w.heap.size a (sv ss)) (hl : ss.length ≤ 1048576) (hm : t ∈ ss) :
    Calls Tryz.prog 45 #[.slice a ss.length c, .string t] w fun e w' => e = .returned (.bool true) ∧ w = w' := by
  have HMM := Lib.hid hm
  clear hm
  go_enter Tryz.func45, Tryz.ntmps45
  go_wp2
  go_loop [5] (fun i => ∃ k : Nat, k ≤ ss.length ∧ i = .int .i64 k ∧ noIn ss t k) (fun i => ss.length - (intOf i).toNat)
  case atStart => exact ⟨0, Nat.zero_le _, rfl, fun _ _ h => absurd h (by omega)⟩
  case round =>
    obtain ⟨k, hk, rfl, ha⟩ := hrel
    have HA := Lib.hid ha
    clear ha
    by_cases hlt : k < ss.length
    · have tk : decide ((k : Int) < (ss.length : Int)) = true := decide_eq_true (by omega)
      obtain ⟨b, off, rfl, hbl, hcl⟩ := h.cells (by simp [sv]; omega)
      have hc := hcl.at_ (i := k) (sv_at hlt)
      have q0 : (0 : Int) ≤ (k : Int) := by omega
      have q1 : (k : Int) < (ss.length : Int) := by omega
      by_cases he : ss[k] = t
      · have HE := Lib.hid he
        have te : (ss[k].toList == t.toList) = true := (Go.Lib.bytes_beq_iff _ _).2 he
        clear he hcl h
        generalize ss[k] = y at *
        go_wp2
        go_ret
        exact ⟨rfl, rfl⟩
      · have HE := Lib.hid he
        have te : (ss[k].toList == t.toList) = false := (Go.Lib.bytes_beq_false_iff _ _).2 he
        have HN : Hid (noIn ss t (k + 1)) := Lib.hid (fun j hj hl => by
          by_cases e : j = k
          · subst e; exact he
          · exact HA.out j hj (by omega))
        clear he hcl h HE
        generalize ss[k] = y at *
        go_wp2
        go_round
        case rel => exact ⟨k + 1, by omega, by go_num, HN.out⟩
        case measure => simp [intOf]; omega
    · have tk : decide ((k : Int) < (ss.length : Int)) = false := decide_eq_false (by omega)
      obtain ⟨j, hj, e⟩ := List.getElem_of_mem HMM.out
      exact absurd e (HA.out j hj (by omega))
theorem rowP_more {P Q : Nat → Nat → Bool} (h : ∀ a b, P a b = true → Q a b = true) (a k : Nat) : (rowP P a k).length ≤ (rowP Q a k).length := by
  unfold rowP
  rw [List.length_map, List.length_map]
  refine filter_more (fun x hx => ?_) _
  simp only [Bool.and_eq_true] at hx ⊢
  exact ⟨hx.1, h _ _ hx.2⟩
theorem impP_more {P Q : Nat → Nat → Bool} (h : ∀ a b, P a b = true → Q a b = true) : ∀ k, (impP P k).length ≤ (impP Q k).length
  | 0 => Nat.le_refl _
  | k + 1 => by
    have h1 := impP_more h k
    have h2 := rowP_more h k 10
    rw [impP, impP, List.length_append, List.length_append]; omega
theorem imp_more {m : Mach} {v : ByteArray} {ms : List Lnk} {s : ByteArray} {n : Nat} (h1 : 1 ≤ n) (h2 : n ≤ ms.length) (hne : 0 < (impT m v ms s).length) :
    (∀ t ∈ impT m v (ms.take n) s, t ∈ impT m v ms s) ∧ 0 < (impT m v (ms.take n) s).length ∧ (impT m v (ms.take n) s).length ≤ (impT m v ms s).length := by
  obtain ⟨k1, k2, k3, -⟩ := impT_mem (List.getElem_mem hne)
  have k4 := menuB_take k2 h1 h2
  have hm : ∀ a b, impG m v (ms.take n) (pAt (dg s) 0) (pAt (dg s) 1) a b = true → impG m v ms (pAt (dg s) 0) (pAt (dg s) 1) a b = true := fun a b h => impG_take h
  obtain ⟨l0, l1⟩ := pairB_lt k3
  rw [impT_is k1 k2 k3, impT_is k1 k4 k3, List.length_map, List.length_map]
  refine ⟨fun t ht => ?_, ?_, impP_more hm 10⟩
  · obtain ⟨q, hq, rfl⟩ := List.mem_map.1 ht
    obtain ⟨a1, a2, a3, a4⟩ := mem_impP.1 hq
    exact List.mem_map_of_mem (mem_impP.2 ⟨a1, a2, a3, hm _ _ a4⟩)
  · have hq : norm (pAt (dg s) 0) (pAt (dg s) 1) ∈ impP (impG m v (ms.take n) (pAt (dg s) 0) (pAt (dg s) 1)) 10 :=
      mem_impP.2 ⟨(norm_lt l0 l1).1, norm_ord _ _, (norm_lt l0 l1).2, impB_iff.2 (Imp.norm Imp.base)⟩
    exact List.length_pos_of_mem hq
set_option maxRecDepth 100000 in
set_option maxHeartbeats 2000000 in
theorem impliedMore_walk (a : Option Addr) (len cap : Nat) (zs : List Int) (w : World) (h : IsRow .u8 w a len cap zs) :
    Calls Tryz.prog 8 #[.slice a len cap] w fun e w' => e = .returned (.bool true) ∧ Below w.heap.size w w' := by
  have hlen : len ≤ 9223372036854775807 := by
    rcases h with ⟨_, rfl, _⟩ | ⟨x, _, hl, hm, _⟩
    · omega
    · unfold maxLen at hm; omega
  by_cases hl : 1048576 < len
  · go_enter Tryz.func8, Tryz.ntmps8
    go_wp2
    go_ret
    exact ⟨rfl, Below.refl _ _⟩
  · go_enter Tryz.func8, Tryz.ntmps8
    go_wp2_with fail
    refine (DrawImpliedPairs_any a len cap zs _ h (by omega)).mono ?_
    rintro e w1 ⟨m, v, ms, a1, am, cap1, cm, s, ⟨hsm, hrd, -, hb1⟩, hv, hst, hl24, hrm, hs, rfl⟩
    have o1 := Own.new w1 [.slice a1 m.wheels.rotors.length cap1, .string m.wheels.refl, .string m.rings, .string m.plugs] 36
    have hba : Below w1.heap.size w1 (w1.alloc (.cells [.slice a1 m.wheels.rotors.length cap1, .string m.wheels.refl, .string m.rings, .string m.plugs].toArray 36)) := (Below.refl _ _).alloc (Nat.le_refl _) _
    have hbw1 := hb1.alloc hb1.size (.cells [.slice a1 m.wheels.rotors.length cap1, .string m.wheels.refl, .string m.rings, .string m.plugs].toArray 36)
    have A1 : LAt (w1.alloc (.cells [.slice a1 m.wheels.rotors.length cap1, .string m.wheels.refl, .string m.rings, .string m.plugs].toArray 36)) w1.heap.size a1 cap1 m am ms := ⟨o1, (hsm.at_ hrd).alloc_ _, (hrm.below hba (Nat.le_refl _)).more hba.size⟩
    have hsl := hst.smL
    clear hrd hb1 h hsm hrm hba o1
    go_wp2_with fail
    generalize (w1.alloc (.cells [.slice a1 m.wheels.rotors.length cap1, .string m.wheels.refl, .string m.rings, .string m.plugs].toArray 36)) = W1 at *
    generalize w1.heap.size = B1 at *
    have f0 := A1.box.at_ (i := 0) rfl
    have f1 := A1.box.at_ (i := 1) rfl
    have f2 := A1.box.at_ (i := 2) rfl
    have f3 := A1.box.at_ (i := 3) rfl
    have HIP := Lib.hid (fun t W h1 h2 (ht : t.size ≤ 4294967296) => implImpliedPairs_any a1 cap1 m v am cm ms t W h1 (by omega) h2 hsl (by omega) ht)
    have hls := impT_len m v ms s
    refine (HIP.out s _ A1.mach A1.menu (by omega)).mono ?_
    rintro e w2 ⟨lv, rfl, ol, hb2⟩
    obtain ⟨al, cl, rfl, hlc, hrl2, -⟩ := OwR.val ol
    have A2 := A1.below hb2
    have hbw2 := bt hbw1 hb2
    clear A1 hbw1 ol hlc hb2 f0 f1 f2 f3
    have f0 := A2.box.at_ (i := 0) rfl
    have f1 := A2.box.at_ (i := 1) rfl
    have f2 := A2.box.at_ (i := 2) rfl
    have f3 := A2.box.at_ (i := 3) rfl
    have nsp := fun W h1 h2 => specImpliedPairs_any a1 cap1 m v am cm ms s W h1 (by omega) h2 (by omega) (by omega)
    go_wp2_with fail
    refine (nsp _ A2.mach A2.menu).mono ?_
    rintro e w3 ⟨lv, rfl, ol, hb3⟩
    obtain ⟨al3, cl3, rfl, hlc, hrl3, -⟩ := OwR.val ol
    have A3 := A2.below hb3
    have hbw3 := bt hbw2 hb3
    have hrl := (hrl2.below hb3 (Nat.le_refl _)).more hb3.size
    clear A2 hbw2 ol hlc hb3 hrl2 f0 f1 f2 f3
    have HMO := Lib.hid (fun n h1 h2 h3 => @imp_more m v ms s n h1 h2 h3)
    generalize hgl : impT m v ms s = ls at *
    have HGL := Lib.hid hgl
    clear hgl
    go_wp2_with fail
    have hrt := rcTexts_any al al3 cl cl3 ls ls w3 hrl hrl3 (by omega)
    rw [decide_eq_true rfl] at hrt
    refine hrt.mono ?_
    rintro e w' ⟨rfl, n4, rfl⟩
    have hb4 := bel_drewM w3 n4
    generalize w3.drewN n4 = w4 at *
    have A4 := A3.below hb4
    have hbw4 := bt hbw3 hb4
    have hrl4 := (hrl.below hb4 (Nat.le_refl _)).more hb4.size
    clear A3 hbw3 hrl hrl3 hrt hb4 n4
    have f0 := A4.box.at_ (i := 0) rfl
    have f1 := A4.box.at_ (i := 1) rfl
    have f2 := A4.box.at_ (i := 2) rfl
    have f3 := A4.box.at_ (i := 3) rfl
    by_cases hz : ls.length = 0
    · have tz : ((ls.length : Int) == 0) = true := by simp [hz]
      clear hz
      go_wp2_with fail
      refine (nsp _ A4.mach A4.menu).mono ?_
      rintro e w5 ⟨lv, rfl, ol, hb5⟩
      obtain ⟨al5, cl5, rfl, hlc5, hrl5, -⟩ := OwR.val ol
      have hrl6 := (hrl4.below hb5 (Nat.le_refl _)).more hb5.size
      have hbw5 := bt hbw4 hb5
      go_wp2_with fail
      have hrt := rcTexts_any al al5 cl cl5 ls ls w5 hrl6 hrl5 (by omega)
      rw [decide_eq_true rfl] at hrt
      refine hrt.mono ?_
      rintro e w' ⟨rfl, n6, rfl⟩
      go_wp2
      go_ret
      exact ⟨rfl, bel_drewN hbw5 n6⟩
    · have tz : ((ls.length : Int) == 0) = false := by rw [beq_eq_false_iff_ne]; omega
      by_cases h2 : ms.length < 2
      · have t2 : decide ((ms.length : Int) < 2) = true := decide_eq_true (by omega)
        go_wp2_with fail
        refine (nsp _ A4.mach A4.menu).mono ?_
        rintro e w5 ⟨lv, rfl, ol, hb5⟩
        obtain ⟨al5, cl5, rfl, hlc5, hrl5, -⟩ := OwR.val ol
        have hrl6 := (hrl4.below hb5 (Nat.le_refl _)).more hb5.size
        have hbw5 := bt hbw4 hb5
        go_wp2_with fail
        have hrt := rcTexts_any al al5 cl cl5 ls ls w5 hrl6 hrl5 (by omega)
        rw [decide_eq_true rfl] at hrt
        refine hrt.mono ?_
        rintro e w' ⟨rfl, n6, rfl⟩
        go_wp2
        go_ret
        exact ⟨rfl, bel_drewN hbw5 n6⟩
      · have t2 : decide ((ms.length : Int) < 2) = false := decide_eq_false (by omega)
        clear nsp f0 f1 f2 f3
        obtain ⟨n, hn⟩ : ∃ n, n = ms.length - 1 := ⟨_, rfl⟩
        have hn1 : 1 ≤ n := by omega
        have hn2 : n ≤ ms.length := by omega
        have e1 : IntKind.i64.wrap ((ms.length : Int) - 1) = (n : Int) := by rw [IntWalk.i64_in _ (by omega)]; omega
        have q1 : (0 : Int) ≤ (n : Int) := by omega
        have q2 : (n : Int) ≤ (cm : Int) := by omega
        have hmo := HMO.out n hn1 hn2 (by omega)
        have hcd : lks ms = lks (ms.take n) ++ lks (ms.drop n) := by rw [← lks_append, List.take_append_drop]
        have hrf : Reads w4 w4.heap.size am (lks (ms.take n)) := by have := A4.menu; rw [hcd] at this; exact this.pre
        have hln : (ms.take n).length = n := by rw [List.length_take]; omega
        have hsl2 : SmL (ms.take n) := fun x hx => hsl x (List.mem_of_mem_take hx)
        have nip := fun W h1 h2 => implImpliedPairs_any a1 cap1 m v am cm (ms.take n) s W h1 (by omega) h2 hsl2 (by omega) (by omega)
        rw [hln] at nip
        obtain ⟨hm1, hm2, hm3⟩ := hmo
        have HM1 := Lib.hid hm1
        have hm4 : (impT m v (ms.take n) s).length ≤ 100 := by omega
        clear hn hcd hln hsl2 hm1
        generalize impT m v (ms.take n) s = ks at *
        generalize ms.take n = fw at *
        obtain ⟨b, off, rfl, hbl', hcl⟩ := A4.menu.cells (by rw [len_lks]; omega)
        clear hbl' hcl
        have lo := A4.box.lt
        have f0 := A4.box.at_ (i := 0) rfl
        have f1 := A4.box.at_ (i := 1) rfl
        have f2 := A4.box.at_ (i := 2) rfl
        have f3 := A4.box.at_ (i := 3) rfl
        have d0 := fun (cc : Cls w4.heap.size w4) => (cc.cell B1 0 lo).trans f0
        have d1 := fun (cc : Cls w4.heap.size w4) => (cc.cell B1 1 lo).trans f1
        have d2 := fun (cc : Cls w4.heap.size w4) => (cc.cell B1 2 lo).trans f2
        have d3 := fun (cc : Cls w4.heap.size w4) => (cc.cell B1 3 lo).trans f3
        clear f0 f1 f2 f3
        go_wp2_with fail
        refine wp_region_cls_tail 8 (by kernel_rfl) (by kernel_rfl) ?_
        simp only [List.take_succ_cons, List.take_zero, List.drop_succ_cons, List.drop_zero]
        repeat (go_big_quiet_step (first | fail))
        refine wpQuiet_nil ?_
        intro wc hbc
        have A5 := A4.below hbc
        have hbw5 := bt hbw4 hbc
        have hrl5 := (hrl4.below hbc (Nat.le_refl _)).more hbc.size
        have hrf5 := (hrf.below hbc (Nat.le_refl _)).more hbc.size
        clear A4 hbw4 hrl4 hrf d0 d1 d2 d3 hbc lo
        go_wp2_with fail
        refine (nip _ A5.mach hrf5).mono ?_
        rintro e w6 ⟨lv, rfl, ol, hb6⟩
        obtain ⟨al6, cl6, rfl, hlc6, hrl6, -⟩ := OwR.val ol
        have hbw6 := bt hbw5 hb6
        have hrl7 := (hrl5.below hb6 (Nat.le_refl _)).more hb6.size
        clear A5 hbw5 hrl5 hrf5 ol hlc6 hb6 nip
        go_wp2_with fail
        go_loopw [9] (fun i wr => ∃ k : Nat, k ≤ ks.length ∧ i = .int .i64 k ∧ Reads wr wr.heap.size al (sv ls) ∧ Reads wr wr.heap.size al6 (sv ks) ∧ Below w.heap.size w wr) (fun i _ => ks.length - (intOf i).toNat)
        case atStart => exact ⟨0, Nat.zero_le _, rfl, hrl7, hrl6, hbw6⟩
        case round =>
          clear hrl7 hrl6 hbw6
          obtain ⟨k, hk, rfl, hrl7, hrl6, hbw6⟩ := hrel
          by_cases hlt : k < ks.length
          · have tk : decide ((k : Int) < (ks.length : Int)) = true := decide_eq_true (by omega)
            have hin := HM1.out _ (List.getElem_mem hlt)
            obtain ⟨b6, off6, rfl, hbl6, hcl⟩ := hrl6.cells (by simp [sv]; omega)
            have hc := hcl.at_ (i := k) (sv_at hlt)
            generalize ks[k] = y at *
            have nin := fun W h => rcIn_yes al cl ls y W h (by omega) hin
            have q3 : (0 : Int) ≤ (k : Int) := by omega
            have q4 : (k : Int) < (ks.length : Int) := by omega
            clear hcl hin
            go_wp2_with fail
            refine (nin _ hrl7).mono ?_
            rintro e w7 ⟨rfl, rfl⟩
            clear nin hc
            go_wp2_with fail
            go_roundw
            case rel => exact ⟨k + 1, by omega, by go_num, hrl7, hrl6, hbw6⟩
            case measure => simp [intOf]; omega
          · have tk : decide ((k : Int) < (ks.length : Int)) = false := decide_eq_false (by omega)
            have t8 : decide ((0 : Int) < (ks.length : Int)) = true := decide_eq_true (by omega)
            have t9 : decide (ks.length ≤ ls.length) = true := decide_eq_true hm3
            go_wp2
            go_ret
            exact ⟨by simp, hbw6⟩
end Go.Proofs.YtdmnkcmkpjmfaaaGreat
