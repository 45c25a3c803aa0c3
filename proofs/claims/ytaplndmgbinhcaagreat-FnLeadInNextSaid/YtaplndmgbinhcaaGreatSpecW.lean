/- The specification's rotors, wheels and steps. -/
import Derived.Test.YtaplndmgbinhcaaGreatSpecC
namespace Go.Proofs.YtaplndmgbinhcaaGreat
open Go.RowKit

theorem specRotorValid_any (r : Rot) (w : World) (hr : SzR r) :
    Calls Tryz.prog 50 #[.agg #[.string r.wiring, .string r.notches]] w fun e w' => e = .returned (.bool (rotorB r)) ∧ Below w.heap.size w w' := by
  have h1 := hr.1
  have h2 := hr.2
  have o0 := Own.new w (rv r) 70
  have hb0 := (Below.refl w.heap.size w).alloc (Nat.le_refl _) (.cells (rv r).toArray 70)
  go_enter Tryz.func50, Tryz.ntmps50
  go_wp2_with fail
  refine (specPermValid_any _ _ h1).mono ?_
  rintro e w1 ⟨rfl, hb1⟩
  have o1 := o0.below hb1 o0.lt
  have c0 := o1.at_ (i := 0) rfl
  have c1 := o1.at_ (i := 1) rfl
  have hb : Below w.heap.size w w1 := bt hb0 hb1
  clear o0 hb0 hb1 o1
  cases hp : permB r.wiring
  · have HF := Lib.hid (show rotorB r = false by simp [rotorB, hp])
    go_wp2
    go_ret
    exact ⟨ret_bool HF.out.symm, hb⟩
  · by_cases h3 : r.notches.size ≤ 3
    · have hq : decide ((3 : Int) < (r.notches.size : Int)) = false := by simp; omega
      cases hw : wordB r.notches
      · have HF := Lib.hid (show rotorB r = false by simp [rotorB, hw])
        go_wp2_with (go_at_call 33; ((with_reducible refine (specWordValid_any _ _ h2).mono ?_); rintro e w' ⟨rfl, rfl⟩))
        go_ret
        exact ⟨ret_bool HF.out.symm, hb⟩
      · have HF := Lib.hid (rotorB_of hp h3 hw)
        go_wp2_with (go_at_call 33; ((with_reducible refine (specWordValid_any _ _ h2).mono ?_); rintro e w' ⟨rfl, rfl⟩))
        clear hp hw
        go_loopw [3] (fun i wr => ∃ k n : Nat, k ≤ 3 ∧ i = .int .i64 ((k : Int) + 1) ∧ ascTo r.notches (k + 1) ∧ wr = w1.drewN n) (fun i _ => 4 - (intOf i).toNat)
        case atStart => exact ⟨0, 0, by omega, rfl, ascTo_one _, rfl⟩
        case round =>
          obtain ⟨k, n, hk4, rfl, ha, rfl⟩ := hrel
          by_cases hlt : k + 1 < r.notches.size
          · have q1 : (k : Int) < (r.notches.size : Int) := by omega
            have q1' : k < r.notches.size := by omega
            have q2 : (k : Int) + 1 < (r.notches.size : Int) := by omega
            have HW := Lib.hid (show IntKind.i64.wrap (k : Int) = (k : Int) from IntWalk.i64_in _ (by omega))
            by_cases hc : r.notches[k + 1].toNat ≤ r.notches[k].toNat
            · have HN := Lib.hid (ascB_no (k := k + 1) (by omega) hlt hc)
              have hd : decide (r.notches[k + 1].toNat ≤ r.notches[k].toNat) = true := by simp; omega
              clear hc
              go_wp2_with fail
              have hw1 := HW.out
              have hw2 : (0 : Int) ≤ (k : Int) + 1 := by omega
              have hw3 : ((k : Int) + 1).toNat = k + 1 := by omega
              go_quiet (fail)
              clear hw1
              go_wp2
              go_ret
              exact ⟨ret_bool (by rw [HF.out, HN.out]), bel_drewN (bel_drewN hb _) _⟩
            · have HA := Lib.hid (ascTo_succ ha (by omega) hlt (by simpa using hc))
              have hd : decide (r.notches[k + 1].toNat ≤ r.notches[k].toNat) = false := by simp; omega
              clear hc
              go_wp2_with fail
              have hw1 := HW.out
              have hw2 : (0 : Int) ≤ (k : Int) + 1 := by omega
              have hw3 : ((k : Int) + 1).toNat = k + 1 := by omega
              go_quiet (fail)
              clear hw1
              go_wp2
              go_roundw
              case rel => exact ⟨k + 1, _, by omega, by go_num, HA.out, rfl⟩
              case measure => simp [intOf]; omega
          · go_wp2
            go_ret
            refine ⟨ret_bool ?_, bel_drewN hb n⟩
            rw [HF.out, ascB_yes ha (by omega)]
    · have HF := Lib.hid (show rotorB r = false by simp [rotorB, h3])
      have hq : 3 < r.notches.size := by omega
      go_wp2
      go_ret
      exact ⟨ret_bool HF.out.symm, hb⟩


theorem specWheelsValid_any (a : Option Addr) (n c : Nat) (x : Whl) (w : World) (h : WhlAt w w.heap.size a n x) :
    Calls Tryz.prog 32 #[.agg #[.slice a n c, .string x.refl]] w fun e w' => e = .returned (.bool (wheelsB x)) ∧ Below w.heap.size w w' := by
  have hn := h.len
  subst hn
  have hrf := h.refl
  have hfew := h.few
  have o0 := Own.new w [.slice a x.rotors.length c, .string x.refl] 25
  have hb0 := (Below.refl w.heap.size w).alloc (Nat.le_refl _) (.cells [.slice a x.rotors.length c, .string x.refl].toArray 25)
  go_enter Tryz.func32, Tryz.ntmps32
  go_wp2_with fail
  go_loopw [3] (fun i wr => ∃ k : Nat, k ≤ x.rotors.length ∧ i = .int .i64 k ∧ rotTo x.rotors k ∧ Own wr w.heap.size [.slice a x.rotors.length c, .string x.refl] ∧ Below w.heap.size w wr) (fun i _ => x.rotors.length - (intOf i).toNat)
  case atStart => exact ⟨0, by omega, rfl, fun _ _ h => absurd h (by omega), o0, hb0⟩
  case round =>
    clear hb0 o0
    obtain ⟨k, hk, rfl, ha, o0, hb⟩ := hrel
    have c0 := o0.at_ (i := 0) rfl
    have c1 := o0.at_ (i := 1) rfl
    by_cases hlt : k < x.rotors.length
    · obtain ⟨b, off, rfl, hbl, hc⟩ := h.cells (by omega)
      have hc' := hc.below hb hbl
      obtain ⟨f0, f1⟩ := rot_cells hc' hlt
      have hsz := h.rot _ (List.getElem_mem hlt)
      have q2 : (k : Int) < (x.rotors.length : Int) := by omega
      go_wp2_with fail
      refine (specRotorValid_any _ _ hsz).mono ?_
      rintro e w2 ⟨rfl, hb2⟩
      have hb' : Below w.heap.size w w2 := bt hb hb2
      have o2 := o0.below hb2 o0.lt
      clear hb hb2 c0 c1
      cases hv : rotorB x.rotors[k]
      · have HN := Lib.hid (show wheelsB x = false by simp [wheelsB, rotTo_no hlt hv])
        clear hv
        go_wp2
        go_ret
        exact ⟨ret_bool HN.out.symm, hb'⟩
      · have HA := Lib.hid (rotTo_succ ha hlt hv)
        clear hv
        go_wp2
        go_roundw
        case rel => exact ⟨k + 1, by omega, by go_num, HA.out, o2, hb'⟩
        case measure => simp [intOf]; omega
    · have HF := Lib.hid (show wheelsB x = (decide ((1 : Int) ≤ (x.rotors.length : Int)) && decide ((x.rotors.length : Int) ≤ 3) && reflB x.refl) by
        have e1 : decide (1 ≤ x.rotors.length) = decide ((1 : Int) ≤ (x.rotors.length : Int)) := decide_eq_decide.2 (by omega)
        have e2 : decide (x.rotors.length ≤ 3) = decide ((x.rotors.length : Int) ≤ 3) := decide_eq_decide.2 (by omega)
        simp only [wheelsB, rotTo_all ha (by omega), Bool.and_true, e1, e2])
      have hin := fun W => l1In_any (x.rotors.length : Int) 1 3 W
      cases hv : (decide ((1 : Int) ≤ (x.rotors.length : Int)) && decide ((x.rotors.length : Int) ≤ 3))
      · rw [hv] at hin HF
        clear hv
        go_wp2_with (go_at_call 51; ((with_reducible refine (hin _).mono ?_); rintro e w' ⟨rfl, rfl⟩))
        go_ret
        exact ⟨ret_bool HF.out.symm, hb⟩
      · rw [hv] at hin HF
        clear hv
        go_wp2_with (first | (go_at_call 51; ((with_reducible refine (hin _).mono ?_); rintro e w' ⟨rfl, rfl⟩)) | (go_at_call 52; ((with_reducible refine (specReflectorValid_any _ _ hrf).mono ?_); rintro e w2 ⟨rfl, hb2⟩)))
        go_ret
        exact ⟨ret_bool (by rw [HF.out]; simp), bt hb hb2⟩

theorem l7Windows_any (a : Option Addr) (n c : Nat) (x : Whl) (v : ByteArray) (w : World) (h : WhlAt w w.heap.size a n x) (hv : v.size ≤ 4294967296) :
    Calls Tryz.prog 18 #[.agg #[.slice a n c, .string x.refl], .string v] w fun e w' => e = .returned (.bool (fitB x v)) ∧ Below w.heap.size w w' := by
  have o0 := Own.new w [.slice a n c, .string x.refl] 25
  have hb0 := (Below.refl w.heap.size w).alloc (Nat.le_refl _) (.cells [.slice a n c, .string x.refl].toArray 25)
  have h' := h.alloc_ (.cells [.slice a n c, .string x.refl].toArray 25)
  have hn := h.len
  subst hn
  go_enter Tryz.func18, Tryz.ntmps18
  go_wp2_with fail
  refine (specWheelsValid_any _ _ _ _ _ h').mono ?_
  rintro e w1 ⟨rfl, hb1⟩
  have o1 := o0.below hb1 o0.lt
  have c0 := o1.at_ (i := 0) rfl
  have hb : Below w.heap.size w w1 := bt hb0 hb1
  clear o0 hb0 hb1 o1 h'
  cases hw : wheelsB x
  · have HF := Lib.hid (show fitB x v = false by simp [fitB, hw])
    go_wp2
    go_ret
    exact ⟨ret_bool HF.out.symm, hb⟩
  · cases hwd : wordB v
    · have HF := Lib.hid (show fitB x v = false by simp [fitB, hwd])
      clear hw
      have hq := fun W => specWordValid_any v W hv
      rw [hwd] at hq
      go_wp2_with (go_at_call 33; ((with_reducible refine (hq _).mono ?_); rintro e w' ⟨rfl, rfl⟩))
      go_ret
      exact ⟨ret_bool HF.out.symm, hb⟩
    · have hq := fun W => specWordValid_any v W hv
      rw [hwd] at hq
      have HF := Lib.hid (show fitB x v = ((v.size : Int) == (x.rotors.length : Int)) by
        simp only [fitB, hw, hwd, Bool.true_and, Bool.and_true]
        rw [Bool.eq_iff_iff]; simp; omega)
      clear hw hwd
      go_wp2_with (go_at_call 33; ((with_reducible refine (hq _).mono ?_); rintro e w' ⟨rfl, rfl⟩))
      go_ret
      exact ⟨ret_bool HF.out.symm, hb⟩

theorem l7At_any (a : Option Addr) (n c : Nat) (x : Whl) (v : ByteArray) (i : Nat) (w : World) (h : WhlAt w w.heap.size a n x) (hv : i < v.size) (hi : i < x.rotors.length) (hvs : v.size ≤ 4294967296) :
    Calls Tryz.prog 53 #[.agg #[.slice a n c, .string x.refl], .string v, .int .i64 (i : Int)] w fun e w' => e = .returned (.bool (atB x v i)) ∧ Below w.heap.size w w' := by
  have o0 := Own.new w [.slice a n c, .string x.refl] 25
  have hb0 := (Below.refl w.heap.size w).alloc (Nat.le_refl _) (.cells [.slice a n c, .string x.refl].toArray 25)
  obtain ⟨b, off, rfl, hbl, hc⟩ := h.cells (by omega)
  have hn := h.len
  subst hn
  obtain ⟨-, f1⟩ := rot_cells (hc.below hb0 hbl) hi
  have c0 := o0.at_ (i := 0) rfl
  have hca := Lib.hid (atB_idx hi hv)
  have hsz := (h.rot _ (List.getElem_mem hi)).2
  have q1 : (i : Int) < (v.size : Int) := by omega
  have q2 : (i : Int) < (x.rotors.length : Int) := by omega
  have hbl2 : b < w.heap.size + 1 := by omega
  have hlf := fun W => l21Find_any x.rotors[i].notches v[i] W hsz
  clear hc h o0
  go_enter Tryz.func53, Tryz.ntmps53
  go_wp2_with fail
  generalize hW : (w.alloc (.cells [.slice (some ⟨b, off, none⟩) x.rotors.length c, .string x.refl].toArray 25)) = W at *
  have hz : W.heap.size = w.heap.size + 1 := by rw [← hW]; simp
  have q3 : w.heap.size < W.heap.size := by omega
  have q4 : b < W.heap.size := by omega
  clear hW
  have d0 := fun (cc : Cls W.heap.size W) => (cc.cell w.heap.size 0 q3).trans c0
  have d1 := fun (cc : Cls W.heap.size W) => (cc.cell b (off + i * 2 + 1) q4).trans f1
  refine wp_region_cls (by kernel_rfl) (by kernel_rfl) ?_
  repeat (go_big_quiet_step (first | (go_at_call 75; with_reducible exact cls_same (hlf _))))
  refine wpQuiet_nil ?_
  intro wc hbc
  go_wp2
  go_ret
  refine ⟨ret_bool ?_, hb0.trans (hbc.mono (by omega))⟩
  rw [hca.out]
end Go.Proofs.YtaplndmgbinhcaaGreat
