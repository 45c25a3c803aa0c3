/- The specification's steps. -/
import Derived.Test.YtaplndmgbinhcaaGreatSpecW
namespace Go.Proofs.YtaplndmgbinhcaaGreat
open Go.RowKit

theorem l7Moves_any (a : Option Addr) (n c : Nat) (x : Whl) (v : ByteArray) (i : Nat) (w : World) (h : WhlAt w w.heap.size a n x) (hf : FitB x v) (hi : i < v.size) :
    Calls Tryz.prog 35 #[.agg #[.slice a n c, .string x.refl], .string v, .int .i64 (i : Int)] w fun e w' => e = .returned (.bool (mvB x v i)) ∧ Below w.heap.size w w' := by
  have h3 : v.size ≤ 3 := by rw [hf.size]; exact hf.three
  have o0 := Own.new w [.slice a n c, .string x.refl] 25
  have hb0 := (Below.refl w.heap.size w).alloc (Nat.le_refl _) (.cells [.slice a n c, .string x.refl].toArray 25)
  have h' := h.alloc_ (.cells [.slice a n c, .string x.refl].toArray 25)
  by_cases hl : i + 1 = v.size
  · have HM := Lib.hid (mvB_last (x := x) hl)
    have t1 : ((i : Int) == (v.size : Int) - 1) = true := by rw [beq_iff_eq]; omega
    clear hl
    go_enter Tryz.func35, Tryz.ntmps35
    go_wp2
    go_ret
    exact ⟨ret_bool HM.out.symm, hb0⟩
  · have HM := Lib.hid (mvB_of (x := x) (show i + 1 < v.size by omega))
    have t1 : ((i : Int) == (v.size : Int) - 1) = false := by rw [beq_eq_false_iff_ne]; omega
    have hr1 : i + 1 < x.rotors.length := by have := hf.size; omega
    have hv1 : i + 1 < v.size := by omega
    clear hl
    have hc1 := l7At_any a n c x v (i + 1) _ h' hv1 hr1 (by omega)
    rw [show (((i + 1 : Nat)) : Int) = (i : Int) + 1 by omega] at hc1
    go_enter Tryz.func35, Tryz.ntmps35
    go_wp2_with fail
    refine hc1.mono ?_
    rintro e w1 ⟨rfl, hb1⟩
    have o1 := o0.below hb1 o0.lt
    have c0 := o1.at_ (i := 0) rfl
    have c1 := o1.at_ (i := 1) rfl
    have hb : Below w.heap.size w w1 := bt hb0 hb1
    have h1 := (h'.below hb1 (Nat.le_refl _)).more hb1.size
    clear o0 hb0 hb1 o1 h' hc1
    cases e1 : atB x v (i + 1)
    · by_cases h0 : 0 < i
      · have HM2 := Lib.hid (show mvB x v i = atB x v i by rw [HM.out, e1]; simp [h0])
        clear e1
        go_wp2_with fail
        refine (l7At_any a n c x v i _ h1 hi (by omega) (by omega)).mono ?_
        rintro e w2 ⟨rfl, hb2⟩
        go_wp2
        go_ret
        exact ⟨ret_bool HM2.out.symm, bt hb hb2⟩
      · have HM2 := Lib.hid (show mvB x v i = false by rw [HM.out, e1]; simp [h0])
        clear e1
        go_wp2
        go_ret
        exact ⟨ret_bool HM2.out.symm, hb⟩
    · have HM2 := Lib.hid (show mvB x v i = true by rw [HM.out, e1]; simp)
      clear e1
      go_wp2
      go_ret
      exact ⟨ret_bool HM2.out.symm, hb⟩

theorem letr_one (n : Int) : (S [letr n])[0]'(by rw [size_S]; simp) = letr n := by rw [getElem_L]; simp [L_S]
set_option maxRecDepth 100000 in
theorem l7Step_any (a : Option Addr) (n c : Nat) (x : Whl) (v : ByteArray) (w : World) (h : WhlAt w w.heap.size a n x) (hf : FitB x v) :
    Calls Tryz.prog 21 #[.agg #[.slice a n c, .string x.refl], .string v] w fun e w' => e = .returned (.string (stepW x v)) ∧ Below w.heap.size w w' := by
  have hs3 : v.size ≤ 3 := by rw [hf.size]; exact hf.three
  have o0 := Own.new w [.slice a n c, .string x.refl] 25
  have hb0 := (Below.refl w.heap.size w).alloc (Nat.le_refl _) (.cells [.slice a n c, .string x.refl].toArray 25)
  have h' := h.alloc_ (.cells [.slice a n c, .string x.refl].toArray 25)
  obtain ⟨cap, w3, hcv, o3, hb3, s3, hcap⟩ := conv_bytes (w.alloc (.cells [.slice a n c, .string x.refl].toArray 25)) v
  have o0' := o0.below hb3 o0.lt
  have hbw := bt hb0 hb3
  rw [World.size_alloc] at o3 s3
  clear o0 hb0
  go_enter Tryz.func21, Tryz.ntmps21
  go_wp2_with fail
  go_loopw [6] (fun i wr => ∃ k : Nat, k ≤ v.size ∧ i = .int .i64 k ∧ Below w.heap.size w wr ∧ Own wr w.heap.size [.slice a n c, .string x.refl] ∧ Own wr (w.heap.size + 1) (bv ((L (stepW x v)).take k ++ (L v).drop k))) (fun i _ => v.size - (intOf i).toNat)
  case atStart => exact ⟨0, Nat.zero_le _, rfl, hbw, o0', by simpa using o3⟩
  case round =>
    clear hbw o0' o3 hcv s3 h' hb3
    obtain ⟨k, hk, rfl, hbel, o2, o3⟩ := hrel
    have Hls := Lib.hid (show (L (stepW x v)).length = v.size by rw [size_L, size_stepW])
    have Hlv := Lib.hid (show (L v).length = v.size from size_L v)
    by_cases hlt : k < v.size
    · have c0 := o2.at_ (i := 0) rfl
      have c1 := o2.at_ (i := 1) rfl
      have hw : WhlAt wr wr.heap.size a n x := (h.below hbel (Nat.le_refl _)).more hbel.size
      have hlen := Lib.hid (show (bv ((L (stepW x v)).take k ++ (L v).drop k)).length = v.size by rw [length_bv, fill_len (by rw [Hls.out, Hlv.out]) (by rw [Hls.out]; omega), Hls.out])
      have hd := wordB_at hf.word k hlt
      have hst := Lib.hid (stepL_at (x := x) hlt)
      have hfs := Lib.hid (fill_set (A := L (stepW x v)) (R := L v) (k := k) (by rw [Hls.out]; exact hlt) (by rw [Hls.out, Hlv.out]))
      have hmv := fun W hW => l7Moves_any a n c x v k W hW hf hlt
      cases hm : mvB x v k
      · rw [hm] at hmv
        have he : (L (stepW x v)).take k ++ (L v).drop k = (L (stepW x v)).take (k + 1) ++ (L v).drop (k + 1) := by
          rw [← hfs.out, hst.out, hm]
          simp only [Bool.false_eq_true, if_false]
          have hl : ((L (stepW x v)).take k).length = k := by rw [List.length_take, Hls.out]; omega
          rw [List.set_append_right _ _ (by omega), hl, Nat.sub_self, List.drop_eq_getElem_cons (by rw [Hlv.out]; exact hlt)]
          rfl
        have HE := Lib.hid he
        clear hm he
        go_wp2_with fail
        refine (hmv _ hw).mono ?_
        rintro e w4 ⟨rfl, hb4⟩
        go_wp2
        go_roundw
        case rel => exact ⟨k + 1, by omega, by go_num, bt hbel hb4, o2.below hb4 o2.lt, by rw [← HE.out]; exact o3.below hb4 o3.lt⟩
        case measure => simp [intOf]; omega
      · rw [hm] at hmv
        have HS := Lib.hid (show (L (stepW x v))[k]'(by rw [Hls.out]; exact hlt) = letr (dig v[k] + 1) by rw [hst.out, hm]; rfl)
        clear hm
        go_wp2_with fail
        refine (hmv _ hw).mono ?_
        rintro e w4 ⟨rfl, hb4⟩
        have o2' := o2.below hb4 o2.lt
        have o3' := o3.below hb4 o3.lt
        have hbel' := bt hbel hb4
        clear c0 c1 hw hb4 o2 o3 hmv hbel
        have hsk : v[(k : Int).toNat]'(by omega) = v[k] := by simp
        have hdg := fun W => l1Digit_any v k W (by omega) (by omega) (by omega)
        rw [hsk] at hdg
        have hlo := letr_one (dig v[k] + 1)
        have hl1 : (S [letr (dig v[k] + 1)]).size = 1 := by rw [size_S]; rfl
        go_wp2_with (first | (go_at_call 37; ((with_reducible refine (hdg _).mono ?_); rintro e w' ⟨rfl, rfl⟩)) | (go_at_call 36; ((with_reducible refine (l1Letter_any _ _).mono ?_); rintro e w5 ⟨rfl, hb5⟩; have o4 := o3'.below hb5 o3'.lt; have f4 := o4.free k (by rw [hlen.out]; omega); obtain ⟨y4, g4⟩ := o4.some_ (i := k) (by rw [hlen.out]; omega))))
        go_roundw
        case rel =>
          refine ⟨k + 1, by omega, by go_num, (bt hbel' hb5).setCell (by simp) _, (o2'.below hb5 o2'.lt).far (by simp) _, ?_⟩
          rw [← hfs.out, HS.out, ← bv_set]
          exact o4.set_ (by rw [hlen.out]; exact hlt) _
        case measure => simp [intOf]; omega
    · have hk' : k = v.size := by omega
      subst hk'
      rw [List.take_of_length_le (by rw [Hls.out]; omega), List.drop_eq_nil_of_le (by rw [Hlv.out]; omega), List.append_nil] at o3
      have hcv := o3.conv (P := Tryz.prog) 22 9 5 Tryz.underlying22 Tryz.underlying5 Tryz.underlying9 (n := v.size) Hls.out.symm cap
      rw [S_L] at hcv
      go_wp2
      go_ret
      exact ⟨rfl, hbel⟩
end Go.Proofs.YtaplndmgbinhcaaGreat
