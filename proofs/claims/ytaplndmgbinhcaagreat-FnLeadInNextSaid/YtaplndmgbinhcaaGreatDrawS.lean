/- Contracts of the functions that draw plugboards. -/
import Derived.Test.YtaplndmgbinhcaaGreatDrawR
namespace Go.Proofs.YtaplndmgbinhcaaGreat
open Go.RowKit

theorem l4Swap_any (p : List Nat) (x y : Nat) (w : World) (hp : p.length = 10) (hx : x < 10) (hy : y < 10) :
    Calls Tryz.prog 84 #[.string (wd p), .int .i64 (x : Int), .int .i64 (y : Int)] w fun e w' => e = .returned (.string (wd (swapP p x y))) ∧ Below w.heap.size w w' := by
  have hsz : (wd p).size = 10 := by rw [size_wd, hp]
  obtain ⟨cap, w3, hcv, o3, hb3, s3, hcap⟩ := conv_bytes w (wd p)
  rw [hsz] at hcv hcap
  have hat : ∀ i, i < 10 → (bv (L (wd p)))[i]? = some (.int .u8 ((letr (pAt p i : Nat)).toNat : Int)) := fun i hi => by
    have hl : i < (L (wd p)).length := by rw [size_L, hsz]; exact hi
    rw [bv_at hl]
    simp [L_wd, pAt_get (show i < p.length by omega)]
  have hln : Hid ((bv (L (wd p))).length = 10) := by show _ = _; rw [length_bv, size_L, hsz]
  have c0 := o3.at_ (hat x hx)
  have c1 := o3.at_ (hat y hy)
  have f0 := o3.free x (by rw [hln.out]; exact hx)
  have o4 := o3.set_ (i := x) (by rw [hln.out]; exact hx) (.int .u8 ((letr (pAt p y : Nat)).toNat : Int))
  have f1 := o4.free y (by rw [List.length_set, hln.out]; exact hy)
  obtain ⟨z1, d1⟩ := o4.some_ (i := y) (by rw [List.length_set, hln.out]; exact hy)
  have o5 := o4.set_ (i := y) (by rw [List.length_set, hln.out]; exact hy) (.int .u8 ((letr (pAt p x : Nat)).toNat : Int))
  have hfin : ((bv (L (wd p))).set x (.int .u8 ((letr (pAt p y : Nat)).toNat : Int))).set y (.int .u8 ((letr (pAt p x : Nat)).toNat : Int)) = bv (L (wd (swapP p x y))) := by
    rw [bv_set, bv_set, wd_set, wd_set]; rfl
  rw [hfin] at o5
  have hcv2 := o5.conv (P := Tryz.prog) 22 9 5 Tryz.underlying22 Tryz.underlying5 Tryz.underlying9 (n := 10) (by rw [size_L, size_wd, len_swapP, hp]) cap
  rw [S_L] at hcv2
  have hbb := (hb3.setCell (p := ⟨w.heap.size, x, none⟩) (by simp) (.int .u8 ((letr (pAt p y : Nat)).toNat : Int))).setCell (p := ⟨w.heap.size, y, none⟩) (by simp) (.int .u8 ((letr (pAt p x : Nat)).toNat : Int))
  have q1 : (x : Int) < 10 := by omega
  have q2 : (y : Int) < 10 := by omega
  clear hfin hat o3 o4 o5 hb3 hsz
  generalize letr (pAt p x : Nat) = lx at *
  generalize letr (pAt p y : Nat) = ly at *
  go_enter Tryz.func84, Tryz.ntmps84
  go_wp2
  go_ret
  exact ⟨rfl, hbb⟩

/-- A board with n pairs. -/
def Bd (n : Nat) (s : ByteArray) : Prop := ∃ p l, s = wd p ∧ Board p l ∧ l.length + 2 * n = 10
theorem Bd.plug {n : Nat} {s : ByteArray} (h : Bd n s) : plugB s = true := by
  obtain ⟨p, l, rfl, hb, _⟩ := h; exact hb.plug
theorem Bd.refl {s : ByteArray} (h : Bd 5 s) : reflB s = true := by
  obtain ⟨p, l, rfl, hb, hl⟩ := h
  obtain rfl : l = [] := List.eq_nil_of_length_eq_zero (by omega)
  exact hb.refl
theorem to_front {l : List Nat} {k : Nat} (hlt : ∀ a ∈ l, a < 10) (hl : l.length ≤ 200) (h : k < l.length) :
    (wd l).extract k (k + 1) ++ (wd l).extract 0 k ++ (wd l).extract (k + 1) (wd l).size = wd (pAt l k :: l.eraseIdx k) := by
  have hw : wordB (wd l) = true := word_wd hl
  have hk : k < (wd l).size := by rw [size_wd]; exact h
  have hs : ((wd l).extract k (k + 1) ++ (wd l).extract 0 k ++ (wd l).extract (k + 1) (wd l).size).size ≤ 200 := by
    simp only [ByteArray.size_append, ByteArray.size_extract, size_wd]; omega
  have w1 := word_ext hw k (k + 1) (by omega)
  have w2 := word_ext hw 0 k (by omega)
  have w3 := word_ext hw (k + 1) (wd l).size (Nat.le_refl _)
  have hww : wordB ((wd l).extract k (k + 1) ++ (wd l).extract 0 k ++ (wd l).extract (k + 1) (wd l).size) = true := by
    refine word_app (word_app w1 w2 ?_) w3 ?_
    · simp only [ByteArray.size_append] at hs; omega
    · simp only [ByteArray.size_append] at hs ⊢; omega
  have hd : dg ((wd l).extract k (k + 1) ++ (wd l).extract 0 k ++ (wd l).extract (k + 1) (wd l).size) = pAt l k :: l.eraseIdx k := by
    rw [ByteArray.append_assoc, dg_append, dg_but, dg_one hk, dg_wd hlt]; rfl
  rw [← hd, wd_dg hww]
theorem dig_wd {l : List Nat} (hlt : ∀ a ∈ l, a < 10) {k : Nat} (h : k < (wd l).size) : dig (wd l)[k] = (pAt l k : Nat) := by
  have h' : k < l.length := by rw [size_wd] at h; exact h
  have h1 : (wd l)[k] = letr (pAt l k : Nat) := by rw [getElem_L]; simp [L_wd, pAt_get h']
  rw [h1, dig_letr]
  have := hlt _ (show pAt l k ∈ l by rw [pAt_get h']; exact List.getElem_mem h')
  omega
theorem wd_from2 (x y : Nat) (l : List Nat) : (wd (x :: y :: l)).extract 2 (wd (x :: y :: l)).size = wd l := by
  apply L_inj
  rw [L_extract, size_wd, List.take_of_length_le (by rw [size_L, size_wd]; exact Nat.le_refl _), L_wd, L_wd]; rfl
theorem sl_2 (s : ByteArray) (h : 2 ≤ s.size) (W : World) : (Instr.slice 9 (.string s) (some (.int .i64 2)) none none).run Tryz.prog W = .ok (.string (s.extract 2 s.size)) W := sl_from s 2 h W

set_option maxHeartbeats 1000000 in
theorem l4Board_any (R n : Nat) (c : Nat) (w : World) (h : Rd w R c) (hc : c ≤ 9000000) (hn : n ≤ 5) :
    Calls Tryz.prog 66 #[.pointer (some ⟨R, 0, none⟩), .int .i64 (n : Int)] w (StrP R (Bd n) (c + 10) w) := by
  go_enter Tryz.func66, Tryz.ntmps66
  go_wp2_with (go_at_call 83; ((with_reducible refine (specIdentityPerm_any _).mono ?_); rintro e w1 ⟨rfl, hb1⟩))
  go_loopw [1, 5, 6, 7, 8] (fun i ps lf _ _ wr => ∃ (j m : Nat) (p l : List Nat), j + m = n ∧ i = .int .i64 j ∧ ps = .string (wd p) ∧ lf = .string (wd l) ∧ Board p l ∧ l.length + 2 * m = 10 ∧ Rd wr R (c + 2 * m) ∧ Moved R w wr) (fun i _ _ _ _ _ => (intOf i).toNat)
  case atStart => exact ⟨n, 0, idP, List.range 10, rfl, rfl, rfl, rfl, board0, by simp, h.below hb1 h.lt, (Moved.refl R w).below hb1⟩
  case round =>
    clear hb1 h
    obtain ⟨j, m, p, l, hjm, rfl, rfl, rfl, hbd, hll, hr, hm⟩ := hrel
    have hj5 : j ≤ 5 := by omega
    have HJ := Lib.hid hjm
    have HL := Lib.hid hll
    have hl10 : l.length ≤ 10 := by omega
    have hm5 : m ≤ 5 := by omega
    by_cases hlt : 0 < j
    · have hl2 : 2 ≤ l.length := by omega
      clear hjm hll
      go_wp2_with fail
      go_loopw [6, 7, 8] (fun lf i _ wq => ∃ (q : Nat) (l' : List Nat), q ≤ 2 ∧ i = .int .i64 q ∧ lf = .string (wd l') ∧ l'.Perm l ∧ Rd wq R (c + 2 * m + q) ∧ Moved R w wq) (fun _ i _ _ => 2 - (intOf i).toNat)
      case atStart => exact ⟨0, l, by omega, rfl, rfl, List.Perm.refl _, hr, hm⟩
      case round =>
        clear hr hm
        obtain ⟨q, l', hq, rfl, rfl, hpm, hr, hm⟩ := hrel
        have hbd' := hbd.perm hpm
        have hlen : l'.length = l.length := hpm.length_eq
        have hsz : (wd l').size = l'.length := size_wd l'
        have hs10 : (wd l').size ≤ 10 := by omega
        have hs2 : 2 ≤ (wd l').size := by omega
        have HP := Lib.hid hpm
        clear hpm
        by_cases hq2 : q < 2
        · clear hlen
          go_wp2_with fail
          refine (pick_any R _ _ _ hr (by omega) (by omega) (by omega)).mono ?_
          rintro e w2 ⟨v, rfl, hv0, hv1, _, hr2, hm2⟩
          obtain ⟨k, rfl⟩ := Int.eq_ofNat_of_zero_le hv0
          have hk : k < (wd l').size := by have := hv1 (by omega); omega
          clear hv1 hv0
          have HF := Lib.hid (to_front (l := l') (k := k) hbd'.lt (by omega) (by omega))
          have HT := Lib.hid (perm_take (l := l') (k := k) (by omega))
          have s1 := sl_one (wd l') k hk
          have s2 := sl_to (wd l') k (by omega)
          have s3 := sl_next (wd l') k hk
          have z1 : ((wd l').extract k (k + 1)).size ≤ 1 := by simp only [ByteArray.size_extract]; omega
          have z2 : ((wd l').extract 0 k).size ≤ 10 := by simp only [ByteArray.size_extract]; omega
          have z3 : ((wd l').extract (k + 1) (wd l').size).size ≤ 10 := by simp only [ByteArray.size_extract]; omega
          generalize (wd l').extract k (k + 1) = a1 at *
          generalize (wd l').extract 0 k = a2 at *
          generalize (wd l').extract (k + 1) (wd l').size = a3 at *
          have y2 : ¬ 9223372036854775807 < a1.size + a2.size := by omega
          have y3 : ¬ 9223372036854775807 < a1.size + a2.size + a3.size := by omega
          have hk1 : IntKind.i64.wrap ((k : Int) + 1) = (k : Int) + 1 := IntWalk.i64_in _ (by omega)
          have HK := Lib.hid hk1
          clear hk1 hsz
          go_wp2_with fail
          have hk1 := HK.out
          go_quiet (fail)
          clear hk1
          go_wp2
          go_roundw
          case rel =>
            refine ⟨q + 1, pAt l' k :: l'.eraseIdx k, by omega, by go_num, ?_, HT.out.trans HP.out, (hr2.more (by omega)).keep fun _ _ => rfl, (hm.trans hm2).drewN _⟩
            rw [← HF.out]
          case measure => simp [intOf]; omega
        · obtain ⟨x, y, l3, rfl⟩ : ∃ x y l3, l' = x :: y :: l3 := by
            match l', hlen with
            | [], h => simp at h; omega
            | [_], h => simp at h; omega
            | x :: y :: l3, _ => exact ⟨x, y, l3, rfl⟩
          have hx := hbd'.lt x (by simp)
          have hy := hbd'.lt y (by simp)
          have HB := Lib.hid hbd'.swap
          have d0 := fun W => l1Digit_any (wd (x :: y :: l3)) 0 W (by omega) (by omega) (by omega)
          have d1 := fun W => l1Digit_any (wd (x :: y :: l3)) 1 W (by omega) (by omega) (by omega)
          have e0 : dig ((wd (x :: y :: l3))[(0 : Int).toNat]'(by simp; omega)) = (x : Nat) := dig_wd hbd'.lt (k := 0) (by omega)
          have e1 : dig ((wd (x :: y :: l3))[(1 : Int).toNat]'(by simp; omega)) = (y : Nat) := dig_wd hbd'.lt (k := 1) (by omega)
          rw [e0] at d0
          rw [e1] at d1
          have hsl := sl_2 (wd (x :: y :: l3)) hs2
          rw [wd_from2] at hsl
          have hsw := fun W => l4Swap_any p x y W hbd.isP.len hx hy
          have HL3 := Lib.hid (show l3.length + 2 = l.length by simpa using hlen)
          clear e0 e1 hsz hlen
          generalize hG : wd (x :: y :: l3) = u at *
          clear hG
          go_wp2_with (first | (go_at_call 37; ((with_reducible refine (d0 _).mono ?_); rintro e w' ⟨rfl, rfl⟩)) | (go_at_call 37; ((with_reducible refine (d1 _).mono ?_); rintro e w' ⟨rfl, rfl⟩)) | (go_at_call 84; ((with_reducible refine (hsw _).mono ?_); rintro e w3 ⟨rfl, hb3⟩)))
          go_roundw
          case rel =>
            have h1 := HL.out
            have h2 := HL3.out
            have h3 := HJ.out
            refine ⟨j - 1, m + 1, swapP p x y, l3, by omega, ?_, rfl, rfl, HB.out, by omega, (hr.below hb3 hr.lt).more (by omega), hm.below hb3⟩
            congr 1; omega
          case measure => simp [intOf]; omega
    · go_wp2
      go_ret
      refine ⟨wd p, ⟨p, l, rfl, hbd, by omega⟩, rfl, hr.more (by omega), hm⟩
theorem l4Any_any (R : Nat) (c : Nat) (w : World) (h : Rd w R c) (hc : c ≤ 8000000) :
    Calls Tryz.prog 70 #[.pointer (some ⟨R, 0, none⟩)] w (StrP R (fun s => plugB s = true) (c + 11) w) := by
  go_enter Tryz.func70, Tryz.ntmps70
  go_wp2_with fail
  refine (pick_any R _ c w h (by omega) (by omega) (by omega)).mono ?_
  rintro e w1 ⟨v, rfl, hv0, hv1, _, hr, hm⟩
  obtain ⟨k, rfl⟩ := Int.eq_ofNat_of_zero_le hv0
  have hk : k ≤ 5 := by have := hv1 (by omega); omega
  clear hv1 hv0
  go_wp2_with fail
  refine (l4Board_any R k _ _ hr (by omega) hk).mono ?_
  rintro e w2 ⟨s, hs, rfl, hr2, hm2⟩
  have HS := Lib.hid hs.plug
  clear hs
  go_wp2
  go_ret
  exact ⟨s, HS.out, rfl, hr2.more (by omega), hm.trans hm2⟩
end Go.Proofs.YtaplndmgbinhcaaGreat
