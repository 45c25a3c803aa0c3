/- Several of my texts in one: DrawS, DrawT, DrawU, DrawV, DrawW, DrawX, Range. -/
import Derived.Test.YtnnblmibonnpcaaGreatM5
import Derived.Test.YtnnblmibonnpcaaGreatM1
import Derived.RangeFuncNested
import Derived.RangeFuncBound
import Derived.RangeFuncCalls
import Derived.RangeFuncLeaves
import Derived.Shelf.Abstract
import Derived.Shelf.RegionOpen
import Derived.WalkKit
import Derived.OwnWalkIn
import Derived.TacticsInMore
import Derived.LoopNIn
import Derived.LoopIn
/- Contracts of the functions that draw plugboards. -/
namespace Go.Proofs.YtnnblmibonnpcaaGreat
open Go.RowKit

theorem l4Swap_any (p : List Nat) (x y : Nat) (w : World) (hp : p.length = 10) (hx : x < 10) (hy : y < 10) :
    Calls Tryz.prog 105 #[.string (wd p), .int .i64 (x : Int), .int .i64 (y : Int)] w fun e w' => e = .returned (.string (wd (swapP p x y))) ∧ Below w.heap.size w w' := by
  have hsz : (wd p).size = 10 := by rw [size_wd, hp]
  obtain ⟨cap, w3, hcv, o3, hb3, s3, hcap⟩ := conv_bytes w (wd p)
  rw [hsz] at hcv hcap
  have hat : ∀ i, i < 10 → (bv (L (wd p)))[i]? = some (.int .u8 ((letr (pAt p i : Nat)).toNat : Int)) := fun i hi => by
    have hl : i < (L (wd p)).length := by rw [size_L, hsz]; exact hi
    rw [bv_at hl]
    simp [L_wd, pAt_get (show i < p.length by omega)]
  have hln : Hid ((bv (L (wd p))).length = 10) := by show _ = _; rw [length_bv, size_L, hsz]
  have c0 := o3.at_ (hat x hx)
  have c1 := o3.at_ (hat y hy)
  have f0 := o3.free x (by rw [hln.out]; exact hx)
  have o4 := o3.set_ (i := x) (by rw [hln.out]; exact hx) (.int .u8 ((letr (pAt p y : Nat)).toNat : Int))
  have f1 := o4.free y (by rw [List.length_set, hln.out]; exact hy)
  obtain ⟨z1, d1⟩ := o4.some_ (i := y) (by rw [List.length_set, hln.out]; exact hy)
  have o5 := o4.set_ (i := y) (by rw [List.length_set, hln.out]; exact hy) (.int .u8 ((letr (pAt p x : Nat)).toNat : Int))
  have hfin : ((bv (L (wd p))).set x (.int .u8 ((letr (pAt p y : Nat)).toNat : Int))).set y (.int .u8 ((letr (pAt p x : Nat)).toNat : Int)) = bv (L (wd (swapP p x y))) := by
    rw [bv_set, bv_set, wd_set, wd_set]; rfl
  rw [hfin] at o5
  have hcv2 := o5.conv (P := Tryz.prog) 22 9 5 Tryz.underlying22 Tryz.underlying5 Tryz.underlying9 (n := 10) (by rw [size_L, size_wd, len_swapP, hp]) cap
  rw [S_L] at hcv2
  have hbb := (hb3.setCell (p := ⟨w.heap.size, x, none⟩) (by simp) (.int .u8 ((letr (pAt p y : Nat)).toNat : Int))).setCell (p := ⟨w.heap.size, y, none⟩) (by simp) (.int .u8 ((letr (pAt p x : Nat)).toNat : Int))
  have q1 : (x : Int) < 10 := by omega
  have q2 : (y : Int) < 10 := by omega
  clear hfin hat o3 o4 o5 hb3 hsz
  generalize letr (pAt p x : Nat) = lx at *
  generalize letr (pAt p y : Nat) = ly at *
  go_enter Tryz.func105, Tryz.ntmps105
  go_wp2
  go_ret
  exact ⟨rfl, hbb⟩

/-- A board with n pairs. -/
def Bd (n : Nat) (s : ByteArray) : Prop := ∃ p l, s = wd p ∧ Board p l ∧ l.length + 2 * n = 10
theorem Bd.plug {n : Nat} {s : ByteArray} (h : Bd n s) : plugB s = true := by
  obtain ⟨p, l, rfl, hb, _⟩ := h; exact hb.plug
theorem Bd.refl {s : ByteArray} (h : Bd 5 s) : reflB s = true := by
  obtain ⟨p, l, rfl, hb, hl⟩ := h
  obtain rfl : l = [] := List.eq_nil_of_length_eq_zero (by omega)
  exact hb.refl
theorem to_front {l : List Nat} {k : Nat} (hlt : ∀ a ∈ l, a < 10) (hl : l.length ≤ 200) (h : k < l.length) :
    (wd l).extract k (k + 1) ++ (wd l).extract 0 k ++ (wd l).extract (k + 1) (wd l).size = wd (pAt l k :: l.eraseIdx k) := by
  have hw : wordB (wd l) = true := word_wd hl
  have hk : k < (wd l).size := by rw [size_wd]; exact h
  have hs : ((wd l).extract k (k + 1) ++ (wd l).extract 0 k ++ (wd l).extract (k + 1) (wd l).size).size ≤ 200 := by
    simp only [ByteArray.size_append, ByteArray.size_extract, size_wd]; omega
  have w1 := word_ext hw k (k + 1) (by omega)
  have w2 := word_ext hw 0 k (by omega)
  have w3 := word_ext hw (k + 1) (wd l).size (Nat.le_refl _)
  have hww : wordB ((wd l).extract k (k + 1) ++ (wd l).extract 0 k ++ (wd l).extract (k + 1) (wd l).size) = true := by
    refine word_app (word_app w1 w2 ?_) w3 ?_
    · simp only [ByteArray.size_append] at hs; omega
    · simp only [ByteArray.size_append] at hs ⊢; omega
  have hd : dg ((wd l).extract k (k + 1) ++ (wd l).extract 0 k ++ (wd l).extract (k + 1) (wd l).size) = pAt l k :: l.eraseIdx k := by
    rw [ByteArray.append_assoc, dg_append, dg_but, dg_one hk, dg_wd hlt]; rfl
  rw [← hd, wd_dg hww]
theorem dig_wd {l : List Nat} (hlt : ∀ a ∈ l, a < 10) {k : Nat} (h : k < (wd l).size) : dig (wd l)[k] = (pAt l k : Nat) := by
  have h' : k < l.length := by rw [size_wd] at h; exact h
  have h1 : (wd l)[k] = letr (pAt l k : Nat) := by rw [getElem_L]; simp [L_wd, pAt_get h']
  rw [h1, dig_letr]
  have := hlt _ (show pAt l k ∈ l by rw [pAt_get h']; exact List.getElem_mem h')
  omega
theorem wd_from2 (x y : Nat) (l : List Nat) : (wd (x :: y :: l)).extract 2 (wd (x :: y :: l)).size = wd l := by
  apply L_inj
  rw [L_extract, size_wd, List.take_of_length_le (by rw [size_L, size_wd]; exact Nat.le_refl _), L_wd, L_wd]; rfl
theorem sl_2 (s : ByteArray) (h : 2 ≤ s.size) (W : World) : (Instr.slice 9 (.string s) (some (.int .i64 2)) none none).run Tryz.prog W = .ok (.string (s.extract 2 s.size)) W := sl_from s 2 h W

set_option maxHeartbeats 1000000 in
theorem l4Board_any (R n : Nat) (c : Nat) (w : World) (h : Rd w R c) (hc : c ≤ 9000000) (hn : n ≤ 5) :
    Calls Tryz.prog 80 #[.pointer (some ⟨R, 0, none⟩), .int .i64 (n : Int)] w (StrP R (Bd n) (c + 10) w) := by
  go_enter Tryz.func80, Tryz.ntmps80
  go_wp2_with (go_at_call 82; ((with_reducible refine (specIdentityPerm_any _).mono ?_); rintro e w1 ⟨rfl, hb1⟩))
  go_loopw [1, 5, 6, 7, 8] (fun i ps lf _ _ wr => ∃ (j m : Nat) (p l : List Nat), j + m = n ∧ i = .int .i64 j ∧ ps = .string (wd p) ∧ lf = .string (wd l) ∧ Board p l ∧ l.length + 2 * m = 10 ∧ Rd wr R (c + 2 * m) ∧ Moved R w wr) (fun i _ _ _ _ _ => (intOf i).toNat)
  case atStart => exact ⟨n, 0, idP, List.range 10, rfl, rfl, rfl, rfl, board0, by simp, h.below hb1 h.lt, (Moved.refl R w).below hb1⟩
  case round =>
    clear hb1 h
    obtain ⟨j, m, p, l, hjm, rfl, rfl, rfl, hbd, hll, hr, hm⟩ := hrel
    have hj5 : j ≤ 5 := by omega
    have HJ := Lib.hid hjm
    have HL := Lib.hid hll
    have hl10 : l.length ≤ 10 := by omega
    have hm5 : m ≤ 5 := by omega
    by_cases hlt : 0 < j
    · have hl2 : 2 ≤ l.length := by omega
      clear hjm hll
      go_wp2_with fail
      go_loopw [6, 7, 8] (fun lf i _ wq => ∃ (q : Nat) (l' : List Nat), q ≤ 2 ∧ i = .int .i64 q ∧ lf = .string (wd l') ∧ l'.Perm l ∧ Rd wq R (c + 2 * m + q) ∧ Moved R w wq) (fun _ i _ _ => 2 - (intOf i).toNat)
      case atStart => exact ⟨0, l, by omega, rfl, rfl, List.Perm.refl _, hr, hm⟩
      case round =>
        clear hr hm
        obtain ⟨q, l', hq, rfl, rfl, hpm, hr, hm⟩ := hrel
        have hbd' := hbd.perm hpm
        have hlen : l'.length = l.length := hpm.length_eq
        have hsz : (wd l').size = l'.length := size_wd l'
        have hs10 : (wd l').size ≤ 10 := by omega
        have hs2 : 2 ≤ (wd l').size := by omega
        have HP := Lib.hid hpm
        clear hpm
        by_cases hq2 : q < 2
        · clear hlen
          go_wp2_with fail
          refine (pick_any R _ _ _ hr (by omega) (by omega) (by omega)).mono ?_
          rintro e w2 ⟨v, rfl, hv0, hv1, _, hr2, hm2⟩
          obtain ⟨k, rfl⟩ := Int.eq_ofNat_of_zero_le hv0
          have hk : k < (wd l').size := by have := hv1 (by omega); omega
          clear hv1 hv0
          have HF := Lib.hid (to_front (l := l') (k := k) hbd'.lt (by omega) (by omega))
          have HT := Lib.hid (perm_take (l := l') (k := k) (by omega))
          have s1 := sl_one (wd l') k hk
          have s2 := sl_to (wd l') k (by omega)
          have s3 := sl_next (wd l') k hk
          have z1 : ((wd l').extract k (k + 1)).size ≤ 1 := by simp only [ByteArray.size_extract]; omega
          have z2 : ((wd l').extract 0 k).size ≤ 10 := by simp only [ByteArray.size_extract]; omega
          have z3 : ((wd l').extract (k + 1) (wd l').size).size ≤ 10 := by simp only [ByteArray.size_extract]; omega
          generalize (wd l').extract k (k + 1) = a1 at *
          generalize (wd l').extract 0 k = a2 at *
          generalize (wd l').extract (k + 1) (wd l').size = a3 at *
          have y2 : ¬ 9223372036854775807 < a1.size + a2.size := by omega
          have y3 : ¬ 9223372036854775807 < a1.size + a2.size + a3.size := by omega
          have hk1 : IntKind.i64.wrap ((k : Int) + 1) = (k : Int) + 1 := IntWalk.i64_in _ (by omega)
          have HK := Lib.hid hk1
          clear hk1 hsz
          go_wp2_with fail
          have hk1 := HK.out
          go_quiet (fail)
          clear hk1
          go_wp2
          go_roundw
          case rel =>
            refine ⟨q + 1, pAt l' k :: l'.eraseIdx k, by omega, by go_num, ?_, HT.out.trans HP.out, (hr2.more (by omega)).keep fun _ _ => rfl, (hm.trans hm2).drewN _⟩
            rw [← HF.out]
          case measure => simp [intOf]; omega
        · obtain ⟨x, y, l3, rfl⟩ : ∃ x y l3, l' = x :: y :: l3 := by
            match l', hlen with
            | [], h => simp at h; omega
            | [_], h => simp at h; omega
            | x :: y :: l3, _ => exact ⟨x, y, l3, rfl⟩
          have hx := hbd'.lt x (by simp)
          have hy := hbd'.lt y (by simp)
          have HB := Lib.hid hbd'.swap
          have d0 := fun W => l1Digit_any (wd (x :: y :: l3)) 0 W (by omega) (by omega) (by omega)
          have d1 := fun W => l1Digit_any (wd (x :: y :: l3)) 1 W (by omega) (by omega) (by omega)
          have e0 : dig ((wd (x :: y :: l3))[(0 : Int).toNat]'(by simp; omega)) = (x : Nat) := dig_wd hbd'.lt (k := 0) (by omega)
          have e1 : dig ((wd (x :: y :: l3))[(1 : Int).toNat]'(by simp; omega)) = (y : Nat) := dig_wd hbd'.lt (k := 1) (by omega)
          rw [e0] at d0
          rw [e1] at d1
          have hsl := sl_2 (wd (x :: y :: l3)) hs2
          rw [wd_from2] at hsl
          have hsw := fun W => l4Swap_any p x y W hbd.isP.len hx hy
          have HL3 := Lib.hid (show l3.length + 2 = l.length by simpa using hlen)
          clear e0 e1 hsz hlen
          generalize hG : wd (x :: y :: l3) = u at *
          clear hG
          go_wp2_with (first | (go_at_call 66; ((with_reducible refine (d0 _).mono ?_); rintro e w' ⟨rfl, rfl⟩)) | (go_at_call 66; ((with_reducible refine (d1 _).mono ?_); rintro e w' ⟨rfl, rfl⟩)) | (go_at_call 105; ((with_reducible refine (hsw _).mono ?_); rintro e w3 ⟨rfl, hb3⟩)))
          go_roundw
          case rel =>
            have h1 := HL.out
            have h2 := HL3.out
            have h3 := HJ.out
            refine ⟨j - 1, m + 1, swapP p x y, l3, by omega, ?_, rfl, rfl, HB.out, by omega, (hr.below hb3 hr.lt).more (by omega), hm.below hb3⟩
            congr 1; omega
          case measure => simp [intOf]; omega
    · go_wp2
      go_ret
      refine ⟨wd p, ⟨p, l, rfl, hbd, by omega⟩, rfl, hr.more (by omega), hm⟩
theorem l4Any_any (R : Nat) (c : Nat) (w : World) (h : Rd w R c) (hc : c ≤ 8000000) :
    Calls Tryz.prog 57 #[.pointer (some ⟨R, 0, none⟩)] w (StrP R (fun s => plugB s = true) (c + 11) w) := by
  go_enter Tryz.func57, Tryz.ntmps57
  go_wp2_with fail
  refine (pick_any R _ c w h (by omega) (by omega) (by omega)).mono ?_
  rintro e w1 ⟨v, rfl, hv0, hv1, _, hr, hm⟩
  obtain ⟨k, rfl⟩ := Int.eq_ofNat_of_zero_le hv0
  have hk : k ≤ 5 := by have := hv1 (by omega); omega
  clear hv1 hv0
  go_wp2_with fail
  refine (l4Board_any R k _ _ hr (by omega) hk).mono ?_
  rintro e w2 ⟨s, hs, rfl, hr2, hm2⟩
  have HS := Lib.hid hs.plug
  clear hs
  go_wp2
  go_ret
  exact ⟨s, HS.out, rfl, hr2.more (by omega), hm.trans hm2⟩
end Go.Proofs.YtnnblmibonnpcaaGreat

/- Contracts of the functions that draw rotors. -/
namespace Go.Proofs.YtnnblmibonnpcaaGreat
open Go.RowKit

theorem asc_wd {l : List Nat} (hp : l.Pairwise (· < ·)) (hlt : ∀ a ∈ l, a < 10) : ascB (wd l) = true := by
  simp only [ascB, List.all_eq_true, List.mem_range, decide_eq_true_eq]
  intro i hi
  rw [size_wd] at hi
  have h1 : i < l.length := by omega
  have h2 : i + 1 < l.length := by omega
  have e : ∀ j (h : j < l.length), (L (wd l)).getD j 0 = letr (l[j] : Nat) := fun j h => by
    rw [L_wd]; simp [List.getD, h]
  rw [e i h1, e (i + 1) h2]
  have h3 := List.pairwise_iff_getElem.1 hp i (i + 1) h1 h2 (by omega)
  have h4 := hlt _ (List.getElem_mem h1)
  have h5 := hlt _ (List.getElem_mem h2)
  refine UInt8.lt_iff_toNat_lt.2 ?_
  rw [letr_toNat, letr_toNat]; omega
theorem rotorB_mk {a b : ByteArray} (h1 : permB a = true) (h2 : b.size ≤ 3) (h3 : wordB b = true) (h4 : ascB b = true) : rotorB ⟨a, b⟩ = true := by simp [rotorB, h1, h2, h3, h4]
/-- Notches. -/
def Nt (s : ByteArray) : Prop := s.size ≤ 3 ∧ wordB s = true ∧ ascB s = true
theorem Nt.of_one {s : ByteArray} (h : Wd 1 s) : Nt s := ⟨by rw [h.2]; omega, h.1, by simp [ascB, h.2]⟩
set_option maxHeartbeats 400000 in
theorem l5Notches_any (R : Nat) (c : Nat) (w : World) (h : Rd w R c) (hc : c ≤ 9000000) :
    Calls Tryz.prog 122 #[.pointer (some ⟨R, 0, none⟩), .int .i64 3] w (StrP R Nt (c + 6) w) := by
  go_enter Tryz.func122, Tryz.ntmps122
  go_wp2_with fail
  refine (pick_any R _ c w h (by omega) (by omega) (by omega)).mono ?_
  rintro e w1 ⟨v, rfl, hv0, hv1, _, hr, hm⟩
  obtain ⟨n, rfl⟩ := Int.eq_ofNat_of_zero_le hv0
  have hn : n ≤ 3 := by have := hv1 (by omega); omega
  clear hv1 hv0
  go_wp2_with fail
  refine (pick_any R _ _ _ hr (by omega) (by omega) (by omega)).mono ?_
  rintro e w2 ⟨v, rfl, hv0, hv1, _, hr2, hm2⟩
  obtain ⟨x0, rfl⟩ := Int.eq_ofNat_of_zero_le hv0
  have hx0 : x0 < 10 := by have := hv1 (by omega); omega
  have hm12 := hm.trans hm2
  clear hv1 hv0 hr hm hm2 h
  go_wp2_with fail
  go_loopw [5, 7] (fun o i wr => ∃ (x : Nat) (l : List Nat), x ≤ 100 ∧ i = .int .i64 x ∧ o = .string (wd l) ∧ l.length ≤ n ∧ l.Pairwise (· < ·) ∧ (∀ a ∈ l, a < 10 ∧ a < x) ∧ Rd wr R (c + 2 + l.length) ∧ Moved R w wr) (fun o _ _ => 3 - (match o with | .string t => t.size | _ => 0))
  case atStart => exact ⟨x0, [], by omega, rfl, rfl, by simp, List.Pairwise.nil, by simp, hr2, hm12⟩
  case round =>
    clear hr2 hm12
    obtain ⟨x, l, hx, rfl, rfl, hl, hp, ha, hr, hm⟩ := hrel
    have HP := Lib.hid hp
    have HA := Lib.hid ha
    clear hp ha
    have hsz : (wd l).size ≤ 3 := by rw [size_wd]; omega
    have HSZ := Lib.hid (size_wd l)
    by_cases hx10 : x < 10
    · have tx : decide ((x : Int) < 10) = true := by simp; omega
      by_cases hln : l.length < n
      · have tl : decide (((wd l).size : Int) < (n : Int)) = true := by rw [HSZ.out]; simp; omega
        have tl' : decide ((wd l).size < n) = true := by rw [HSZ.out]; simp; omega
        have hs1 : (S [letr (x : Int)]).size ≤ 1 := by rw [size_S]; simp
        go_wp2_with (go_at_call 69; ((with_reducible refine (l1Letter_any _ _).mono ?_); rintro e w3 ⟨rfl, hb3⟩))
        refine (pick_any R _ _ _ (hr.below hb3 hr.lt) (by omega) (by omega) (by omega)).mono ?_
        rintro e w4 ⟨v, rfl, hv0, hv1, _, hr4, hm4⟩
        obtain ⟨y, rfl⟩ := Int.eq_ofNat_of_zero_le hv0
        have hy : y < 4 := by have := hv1 (by omega); omega
        clear hv1 hv0
        go_wp2
        go_roundw
        case rel =>
          refine ⟨x + 1 + y, l ++ [x], by omega, by go_num, by rw [wd_snoc], by simp; omega, ?_, ?_, hr4.more (by simp; omega), (hm.below hb3).trans hm4⟩
          · rw [List.pairwise_append]
            exact ⟨HP.out, List.pairwise_singleton _ _, fun a h1 b h2 => by simp at h2; subst h2; exact (HA.out a h1).2⟩
          · intro a h1
            simp at h1
            rcases h1 with h1 | rfl
            · have := HA.out a h1; omega
            · omega
        case measure => have := HSZ.out; simp only [ByteArray.size_append, size_S, List.length_cons, List.length_nil]; omega
      · have tl : decide (((wd l).size : Int) < (n : Int)) = false := by rw [HSZ.out]; simp; omega
        have tl' : decide ((wd l).size < n) = false := by rw [HSZ.out]; simp; omega
        go_wp2
        go_ret
        exact ⟨wd l, ⟨by rw [HSZ.out]; omega, word_wd (by omega), asc_wd HP.out fun a h => (HA.out a h).1⟩, rfl, hr.more (by omega), hm⟩
    · have tx : decide ((x : Int) < 10) = false := by simp; omega
      go_wp2
      go_ret
      exact ⟨wd l, ⟨by rw [HSZ.out]; omega, word_wd (by omega), asc_wd HP.out fun a h => (HA.out a h).1⟩, rfl, hr.more (by omega), hm⟩

/-- What the drawing of a rotor leaves. -/
def RotP (R : Nat) (P : Rot → Prop) (c : Nat) (w : World) (e : Ending) (w' : World) : Prop :=
  ∃ r : Rot, P r ∧ e = .returned (.agg #[.string r.wiring, .string r.notches]) ∧ Rd w' R c ∧ Moved R w w'
theorem l5Some_any (R : Nat) (c : Nat) (w : World) (h : Rd w R c) (hc : c ≤ 9000000) :
    Calls Tryz.prog 103 #[.pointer (some ⟨R, 0, none⟩)] w (RotP R (fun r => rotorB r = true) (c + 11) w) := by
  have o0 := Own.new w [.string ⟨#[]⟩, .string ⟨#[]⟩] 73
  have hr0 := h.alloc (.cells #[.string ⟨#[]⟩, .string ⟨#[]⟩] 73)
  have hm0 := (Moved.refl R w).alloc (.cells #[.string ⟨#[]⟩, .string ⟨#[]⟩] 73)
  have hlt := h.lt
  go_enter Tryz.func103, Tryz.ntmps103
  go_wp2_with fail
  refine (l2Some_any R c _ hr0 (by omega)).mono ?_
  rintro e w1 ⟨s, hs, rfl, hr1, hm1⟩
  have o1 := o0.grown hm1 (by simp; omega)
  have hmw1 := hm0.trans hm1
  have HS := Lib.hid hs
  clear hs o0 hr0 hm0 hm1
  go_wp2_with fail
  refine (l1Some_any R 1 _ _ hr1 (by omega) (by omega)).mono ?_
  rintro e w2 ⟨t, ht, rfl, hr2, hm2⟩
  have o2 := o1.grown hm2 (by simp; omega)
  have hmw2 := hmw1.trans hm2
  have HT := Lib.hid (Nt.of_one ht)
  clear ht o1 hr1 hmw1 hm2
  have f0 := o2.at_ (i := 0) rfl
  have f1 := o2.at_ (i := 1) rfl
  have g0 := o2.free 0 (by simp)
  have g1 := o2.free 1 (by simp)
  go_wp2
  refine bodyPost_ret (v := .agg #[.string s, .string t]) (by simp [results, Tryz.results103, go_sem, f0, f1]) rfl ?_
  exact ⟨⟨s, t⟩, rotorB_mk HS.out HT.out.1 HT.out.2.1 HT.out.2.2, rfl, ((hr2.far (by simp; omega) _).far (by simp; omega) _).more (by omega), (hmw2.set_ (.inr (by simp)) _).set_ (.inr (by simp)) _⟩
end Go.Proofs.YtnnblmibonnpcaaGreat

/- Contracts of the functions that draw any and wrong rotors. -/
namespace Go.Proofs.YtnnblmibonnpcaaGreat
open Go.RowKit

theorem perm_simple : ∀ t ∈ ([⟨#[98, 97, 100, 99, 102, 101, 104, 103, 106, 105]⟩, ⟨#[99, 98, 101, 100, 103, 102, 105, 104, 97, 106]⟩, ⟨#[102, 103, 104, 105, 106, 97, 98, 99, 100, 101]⟩, ⟨#[97, 100, 99, 102, 101, 104, 103, 106, 105, 98]⟩] : List ByteArray), permB t = true := by
  intro t ht
  simp only [List.mem_cons, List.not_mem_nil, or_false] at ht
  rcases ht with rfl | rfl | rfl | rfl <;> decide +kernel
theorem perm_half : ∀ t ∈ ([⟨#[97, 98, 99, 100, 101]⟩, ⟨#[98, 97, 99, 100, 101]⟩, ⟨#[98, 99, 100, 101, 97]⟩, ⟨#[101, 100, 99, 98, 97]⟩] : List ByteArray), wordB t = true ∧ t.size = 5 ∧ permB (t ++ shW t 5) = true := by
  intro t ht
  simp only [List.mem_cons, List.not_mem_nil, or_false] at ht
  rcases ht with rfl | rfl | rfl | rfl <;> decide +kernel

set_option maxHeartbeats 1000000 in
theorem l5Any_any (R : Nat) (c : Nat) (w : World) (h : Rd w R c) (hc : c ≤ 8000000) :
    Calls Tryz.prog 104 #[.pointer (some ⟨R, 0, none⟩)] w (RotP R (fun r => rotorB r = true) (c + 20) w) := by
  have o0 := Own.new w [.string ⟨#[]⟩, .string ⟨#[]⟩] 73
  have hr0 := h.alloc (.cells #[.string ⟨#[]⟩, .string ⟨#[]⟩] 73)
  have hm0 := (Moved.refl R w).alloc (.cells #[.string ⟨#[]⟩, .string ⟨#[]⟩] 73)
  have hlt := h.lt
  go_enter Tryz.func104, Tryz.ntmps104
  go_wp2_with fail
  refine (l2Any_any R c _ hr0 (by omega)).mono ?_
  rintro e w1 ⟨s, hs, rfl, hr1, hm1⟩
  have o1 := o0.grown hm1 (by simp; omega)
  have hmw1 := hm0.trans hm1
  have HS := Lib.hid hs
  clear hs o0 hr0 hm0 hm1 h
  go_wp2_with fail
  refine (l5Notches_any R _ _ hr1 (by omega)).mono ?_
  rintro e w2 ⟨t, ht, rfl, hr2, hm2⟩
  have o2 := o1.grown hm2 (by simp; omega)
  have hmw2 := hmw1.trans hm2
  have HT := Lib.hid ht
  have l2 := o2.lt
  clear ht o1 hr1 hmw1 hm2
  have p2 := Own.new w2 [.string s, .string t] 73
  have o2' := o2.alloc (.cells [.string s, .string t].toArray 73)
  have hr2' := hr2.alloc (.cells [.string s, .string t].toArray 73)
  have hm2' := hmw2.alloc (.cells [.string s, .string t].toArray 73)
  go_wp2_with fail
  generalize (w2.alloc (.cells [.string s, .string t].toArray 73)) = W2 at *
  generalize hB1 : w2.heap.size = B1 at *
  generalize hB0 : w.heap.size = B0 at *
  have HB0 := Lib.hid hB0
  clear o2 hr2 hmw2 hB1 hB0
  refine (pick_any R _ _ _ hr2' (by omega) (by omega) (by omega)).mono ?_
  rintro e w3 ⟨v, rfl, hv0, hv1, _, hr3, hm3⟩
  have o3 := o2'.grown hm3 (by simp; omega)
  have p3 := p2.grown hm3 (by simp; omega)
  have hmw3 := hm2'.trans hm3
  clear hv1 o2' p2 hm3 hr2' hm2'
  by_cases e0 : v = 0
  · have t0 : (v == 0) = true := by simp [e0]
    have t1 : (v == 1) = false := by simp [e0]
    clear e0
    have hlt3 := hr3.lt
    go_wp2_with fail
    refine (of_any R _ _ _ [⟨#[98, 97, 100, 99, 102, 101, 104, 103, 106, 105]⟩, ⟨#[99, 98, 101, 100, 103, 102, 105, 104, 97, 106]⟩, ⟨#[102, 103, 104, 105, 106, 97, 98, 99, 100, 101]⟩, ⟨#[97, 100, 99, 102, 101, 104, 103, 106, 105, 98]⟩] _ _ rfl (Own.new _ _ _) (by simp) (by simp; omega) (hr3.alloc _) (by omega) (by simp)).mono ?_
    rintro e w4 ⟨u, hu, rfl, hr4, hm4⟩
    have HU := Lib.hid (perm_simple u hu)
    have o4 := (o3.alloc _).grown hm4 (by simp; omega)
    have p4 := (p3.alloc _).grown hm4 (by simp; omega)
    have hmw4 := (hmw3.alloc _).trans hm4
    clear hu o3 p3 hmw3 hr3 hm4
    have f0 := o4.at_ (i := 0) rfl
    have f1 := o4.at_ (i := 1) rfl
    have g0 := o4.free 0 (by simp)
    have g1 := o4.free 1 (by simp)
    have k0 := p4.at_ (i := 0) rfl
    have k1 := p4.at_ (i := 1) rfl
    have j0 := p4.free 0 (by simp)
    have hne : ¬ B0 = B1 := by omega
    go_wp2
    refine bodyPost_ret (v := .agg #[.string u, .string t]) (by simp [results, Tryz.results104, go_sem, f0, f1]) rfl ?_
    exact ⟨⟨u, t⟩, rotorB_mk HU.out HT.out.1 HT.out.2.1 HT.out.2.2, rfl, (((hr4.far (by simp; omega) _).far (by simp; omega) _).far (by simp; omega) _).more (by omega), ((hmw4.set_ (.inr (by simp; rw [HB0.out]; omega)) _).set_ (.inr (by simp; rw [HB0.out]; omega)) _).set_ (.inr (by simp; rw [HB0.out]; omega)) _⟩
  · have t0 : (v == 0) = false := by simp [e0]
    by_cases e1 : v = 1
    · have t1 : (v == 1) = true := by simp [e1]
      clear e0 e1
      have hlt3 := hr3.lt
      go_wp2_with fail
      refine (of_any R _ _ _ [⟨#[97, 98, 99, 100, 101]⟩, ⟨#[98, 97, 99, 100, 101]⟩, ⟨#[98, 99, 100, 101, 97]⟩, ⟨#[101, 100, 99, 98, 97]⟩] _ _ rfl (Own.new _ _ _) (by simp) (by simp; omega) (hr3.alloc _) (by omega) (by simp)).mono ?_
      rintro e w4 ⟨u, hu, rfl, hr4, hm4⟩
      have HU := Lib.hid (perm_half u hu).2.2
      have hw := (perm_half u hu).1
      have hz : u.size ≤ 5 := by rw [(perm_half u hu).2.1]; omega
      have hz2 : (shW u 5).size ≤ 5 := by rw [size_shW]; exact hz
      have o4 := (o3.alloc _).grown hm4 (by simp; omega)
      have p4 := (p3.alloc _).grown hm4 (by simp; omega)
      have hmw4 := (hmw3.alloc _).trans hm4
      clear hu o3 p3 hmw3 hr3 hm4
      go_wp2_with fail
      refine (specShiftWord_any u 5 _ hw (by omega) (by omega)).mono ?_
      rintro e w5 ⟨rfl, hb5⟩
      have o5 := o4.below hb5 o4.lt
      have p5 := p4.below hb5 p4.lt
      have hmw5 := hmw4.below hb5
      have hr5 := hr4.below hb5 hr4.lt
      clear o4 p4 hmw4 hr4 hb5
      have f0 := o5.at_ (i := 0) rfl
      have f1 := o5.at_ (i := 1) rfl
      have g0 := o5.free 0 (by simp)
      have g1 := o5.free 1 (by simp)
      have k0 := p5.at_ (i := 0) rfl
      have k1 := p5.at_ (i := 1) rfl
      have j0 := p5.free 0 (by simp)
      have hne : ¬ B0 = B1 := by omega
      go_wp2
      refine bodyPost_ret (v := .agg #[.string (u ++ shW u 5), .string t]) (by simp [results, Tryz.results104, go_sem, f0, f1]) rfl ?_
      exact ⟨⟨u ++ shW u 5, t⟩, rotorB_mk HU.out HT.out.1 HT.out.2.1 HT.out.2.2, rfl, (((hr5.far (by simp; omega) _).far (by simp; omega) _).far (by simp; omega) _).more (by omega), ((hmw5.set_ (.inr (by simp; rw [HB0.out]; omega)) _).set_ (.inr (by simp; rw [HB0.out]; omega)) _).set_ (.inr (by simp; rw [HB0.out]; omega)) _⟩
    · have t1 : (v == 1) = false := by simp [e1]
      clear e0 e1
      have f0 := o3.at_ (i := 0) rfl
      have f1 := o3.at_ (i := 1) rfl
      have g0 := o3.free 0 (by simp)
      have g1 := o3.free 1 (by simp)
      have k0 := p3.at_ (i := 0) rfl
      have k1 := p3.at_ (i := 1) rfl
      have hne : ¬ B0 = B1 := by omega
      go_wp2
      refine bodyPost_ret (v := .agg #[.string s, .string t]) (by simp [results, Tryz.results104, go_sem, f0, f1]) rfl ?_
      exact ⟨⟨s, t⟩, rotorB_mk HS.out HT.out.1 HT.out.2.1 HT.out.2.2, rfl, ((hr3.far (by simp; omega) _).far (by simp; omega) _).more (by omega), (hmw3.set_ (.inr (by simp; rw [HB0.out]; omega)) _).set_ (.inr (by simp; rw [HB0.out]; omega)) _⟩
end Go.Proofs.YtnnblmibonnpcaaGreat

/- Contracts of the functions that draw wrong rotors, and wheels. -/
namespace Go.Proofs.YtnnblmibonnpcaaGreat
open Go.RowKit

/-- A rotor whose strings have at most n bytes. -/
def RSz (n : Nat) (r : Rot) : Prop := r.wiring.size ≤ n ∧ r.notches.size ≤ n
set_option maxHeartbeats 1000000 in
theorem l5Bad_any (R : Nat) (x : Rot) (c : Nat) (w : World) (h : Rd w R c) (hc : c ≤ 8000000) (h1 : 1 ≤ x.wiring.size) (h2 : x.wiring.size ≤ 1000) (h3 : x.notches.size ≤ 1000) :
    Calls Tryz.prog 81 #[.pointer (some ⟨R, 0, none⟩), .agg #[.string x.wiring, .string x.notches]] w (RotP R (RSz 1001) (c + 5) w) := by
  have o0 := (Own.new w [.string x.wiring, .string x.notches] 73).alloc (.cells #[.string ⟨#[]⟩, .string ⟨#[]⟩] 73)
  have p0 := Own.new (w.alloc (.cells #[.string x.wiring, .string x.notches] 73)) [.string ⟨#[]⟩, .string ⟨#[]⟩] 73
  have hr0 := (h.alloc (.cells #[.string x.wiring, .string x.notches] 73)).alloc (.cells #[.string ⟨#[]⟩, .string ⟨#[]⟩] 73)
  have hm0 := ((Moved.refl R w).alloc (.cells #[.string x.wiring, .string x.notches] 73)).alloc (.cells #[.string ⟨#[]⟩, .string ⟨#[]⟩] 73)
  rw [World.size_alloc] at p0
  have hlt := h.lt
  go_enter Tryz.func81, Tryz.ntmps81
  go_wp2_with fail
  refine (pick_any R _ c _ hr0 (by omega) (by omega) (by omega)).mono ?_
  rintro e w1 ⟨v, rfl, hv0, hv1, _, hr1, hm1⟩
  have o1 := o0.grown hm1 (by simp; omega)
  have p1 := p0.grown hm1 (by simp; omega)
  have hmw1 := hm0.trans hm1
  clear hv1 o0 p0 hr0 hm0 hm1 h
  generalize hB0 : w.heap.size = B0 at *
  have HB0 := Lib.hid hB0
  clear hB0
  by_cases e0 : v = 0
  · have t0 : (v == 0) = true := by simp [e0]
    clear e0
    have hlt3 := hr1.lt
    go_wp2_with fail
    refine (of_any R _ _ _ [⟨#[98, 97]⟩, ⟨#[97, 97]⟩, ⟨#[107]⟩, ⟨#[97, 98, 99, 100]⟩, ⟨#[45]⟩] _ _ rfl (Own.new _ _ _) (by simp) (by simp; omega) (hr1.alloc _) (by omega) (by simp)).mono ?_
    rintro e w2 ⟨u, hu, rfl, hr2, hm2⟩
    have hus : u.size ≤ 4 := by
      simp only [List.mem_cons, List.not_mem_nil, or_false] at hu
      rcases hu with rfl | rfl | rfl | rfl | rfl <;> decide
    have o2 := (o1.alloc _).grown hm2 (by simp; omega)
    have p2 := (p1.alloc _).grown hm2 (by simp; omega)
    have hmw2 := (hmw1.alloc _).trans hm2
    clear hu o1 p1 hmw1 hr1 hm2
    have f0 := o2.at_ (i := 0) rfl
    have f1 := o2.at_ (i := 1) rfl
    have g1 := o2.free 1 (by simp)
    have o3 := o2.set_ (i := 1) (by simp) (.string u)
    have p3 := p2.far (p := ⟨B0, 1, none⟩) (by simp) (.string u)
    have hr3 := hr2.far (p := ⟨B0, 1, none⟩) (by simp; omega) (.string u)
    have hm3 := hmw2.set_ (p := ⟨B0, 1, none⟩) (.inr (by simp; rw [HB0.out]; omega)) (.string u)
    go_wp2_with fail
    clear f0 f1 g1 o2 p2 hr2 hmw2
    generalize w2.setCell ⟨B0, 1, none⟩ (.string u) = w3 at *
    refine (l2Bad_any R x.wiring _ _ hr3 (by omega) h1 h2).mono ?_
    rintro e w4 ⟨s, hs, rfl, hr4, hm4⟩
    have o4 := o3.grown hm4 (by simp; omega)
    have p4 := p3.grown hm4 (by simp; omega)
    have hmw4 := hm3.trans hm4
    clear o3 p3 hr3 hm3 hm4
    have f0 := o4.at_ (i := 0) rfl
    have f1 := o4.at_ (i := 1) rfl
    have g0 := o4.free 0 (by simp)
    have k0 := p4.at_ (i := 0) rfl
    have k1 := p4.at_ (i := 1) rfl
    have j0 := p4.free 0 (by simp)
    have j1 := p4.free 1 (by simp)
    go_wp2
    refine bodyPost_ret (v := .agg #[.string s, .string u]) (by simp [results, Tryz.results81, go_sem, k0, k1]) rfl ?_
    exact ⟨⟨s, u⟩, ⟨hs, by show u.size ≤ 1001; omega⟩, rfl, (((hr4.far (by simp; omega) _).far (by simp; omega) _).far (by simp; omega) _).more (by omega), ((hmw4.set_ (.inr (by simp; rw [HB0.out]; omega)) _).set_ (.inr (by simp; rw [HB0.out]; omega)) _).set_ (.inr (by simp; rw [HB0.out]; omega)) _⟩
  · have t0 : (v == 0) = false := by simp [e0]
    clear e0
    have f0 := o1.at_ (i := 0) rfl
    go_wp2_with fail
    refine (l2Bad_any R x.wiring _ _ hr1 (by omega) h1 h2).mono ?_
    rintro e w4 ⟨s, hs, rfl, hr4, hm4⟩
    have o4 := o1.grown hm4 (by simp; omega)
    have p4 := p1.grown hm4 (by simp; omega)
    have hmw4 := hmw1.trans hm4
    clear o1 p1 hr1 hmw1 hm4 f0
    have f0 := o4.at_ (i := 0) rfl
    have f1 := o4.at_ (i := 1) rfl
    have g0 := o4.free 0 (by simp)
    have k0 := p4.at_ (i := 0) rfl
    have k1 := p4.at_ (i := 1) rfl
    have j0 := p4.free 0 (by simp)
    have j1 := p4.free 1 (by simp)
    go_wp2
    refine bodyPost_ret (v := .agg #[.string s, .string x.notches]) (by simp [results, Tryz.results81, go_sem, k0, k1]) rfl ?_
    exact ⟨⟨s, x.notches⟩, ⟨hs, by show x.notches.size ≤ 1001; omega⟩, rfl, (((hr4.far (by simp; omega) _).far (by simp; omega) _).far (by simp; omega) _).more (by omega), ((hmw4.set_ (.inr (by simp; rw [HB0.out]; omega)) _).set_ (.inr (by simp; rw [HB0.out]; omega)) _).set_ (.inr (by simp; rw [HB0.out]; omega)) _⟩

section
variable {P : Program} {ops : Array Oper} {o : Oper} {a : Act} {w0 : World} {K : Act → World → Prop} {Q : Exit → Act → World → Prop} {E : Prop}
/-- 'x = append(x, u)' at a step of a region that draws. -/
theorem st_push (t e : TypeId) {s x : Operand} {z : Value} {sz bytes : Nat} (hinfo : (P.info? e).map (fun i => (i.zero, i.size, i.bytes)) = some (some z, sz, bytes)) (ht : P.underlying t = some (.slice e)) (hzs : z.cells.size = sz) (hsz : 0 < sz)
    {base n : Nat} {v : Value} {xs us : List Value} (hgd : o.guard = none) (ho : o.op = .call { callee := .builtin .append, args := #[s, x], argTypes := #[t, t] }) (hown : OwR w0 base e sz v n xs) (hb : base ≤ w0.heap.size) (hus : us.length = sz) (h1 : ∀ u ∈ us, u.oneCell' = true) (hn : n ≤ 1048576) (hby : bytes ≤ 1000)
    (hs : a.eval s = v) (hx : a.eval x = .slice (some ⟨w0.heap.size, 0, none⟩) 1 1)
    (h : ∀ g cap w', OwR w' base e sz (.slice (some ⟨g, 0, none⟩) (n + 1) cap) (n + 1) (xs ++ us) → Below base w0 w' → w0.heap.size < w'.heap.size → K (a.put o.dst (.slice (some ⟨g, 0, none⟩) (n + 1) cap)) w') :
    if Region.wanted o (yielded ops a.tmps) = true then Oper.wp P o a (w0.alloc (.cells us.toArray e)) K Q else E := by
  obtain ⟨i0, hi0, hz0, hz1, hz2⟩ := info_parts hinfo
  refine step_append_lies _ hgd s x t ho base e i0 z sz bytes ht hi0 hz0 hz1 hz2 hzs hsz v n xs hs (World.ownsRow.alloc hown _) ⟨w0.heap.size, 0, none⟩ 1 1 us hx (by omega) ?_ h1 (by omega) (by unfold maxLen; omega) ?_ (by simp; omega) (w0.heap.size + 1) (by simp) ?_
  · intro j u hu
    rw [add_none, Nat.zero_add, World.cell?_alloc_mark]; simpa using hu
  · have : (n + 1) * bytes ≤ (1048576 + 1) * 1000 := Nat.mul_le_mul (by omega) hby
    omega
  · intro g cap w' ho hg hat hlt
    refine h g cap w' ho ?_ ?_
    · refine ((Below.refl base w0).alloc hb _).grown hg (by simp; omega) (fun k hk => ?_)
      exact (World.ownsRow.lt hown k hk).1
    · have := hg.size; simp at this; omega
end
end Go.Proofs.YtnnblmibonnpcaaGreat

/- Contracts of the functions that draw wheels. -/
namespace Go.Proofs.YtnnblmibonnpcaaGreat
open Go.RowKit

theorem inf_rotor : (Tryz.prog.info? 73).map (fun i => (i.zero, i.size, i.bytes)) = some (some (.agg #[.string ⟨#[]⟩, .string ⟨#[]⟩]), 2, 32) := by kernel_rfl
theorem Moved.low {R B : Nat} {a b c : World} (h : Moved R a b) (k : Below B b c) (hB : a.heap.size ≤ B) : Moved R a c :=
  ⟨k.os.trans h.os, k.tape.trans h.tape, k.output.trans h.output, Nat.le_trans h.size k.size, fun i hi hne => (k.block i (by omega)).trans (h.block i hi hne)⟩
/-- What the drawing of wheels leaves: wheels with P, whose rotors lie in new memory. -/
def WhlP (R : Nat) (P : Whl → Prop) (c : Nat) (w : World) (e : Ending) (w' : World) : Prop :=
  ∃ (x : Whl) (v : Value), P x ∧ e = .returned (.agg #[v, .string x.refl]) ∧ OwR w' w.heap.size 73 2 v x.rotors.length (rvs x.rotors) ∧ Rd w' R c ∧ Moved R w w'
/-- Good wheels with n rotors. -/
def GoodW (n : Nat) (x : Whl) : Prop := x.rotors.length = n ∧ (∀ r ∈ x.rotors, rotorB r = true) ∧ reflB x.refl = true

set_option maxRecDepth 100000 in
set_option maxHeartbeats 1000000 in
theorem l6Some_any (R n : Nat) (c : Nat) (w : World) (h : Rd w R c) (hc : c ≤ 8000000) (hn : n ≤ 3) :
    Calls Tryz.prog 78 #[.pointer (some ⟨R, 0, none⟩), .int .i64 (n : Int)] w (WhlP R (GoodW n) (c + 50) w) := by
  have o0 := Own.new w [.slice none 0 0, .string ⟨#[]⟩] 25
  have hr0 := h.alloc (.cells #[.slice none 0 0, .string ⟨#[]⟩] 25)
  have hm0 := (Moved.refl R w).alloc (.cells #[.slice none 0 0, .string ⟨#[]⟩] 25)
  have hlt := h.lt
  go_enter Tryz.func78, Tryz.ntmps78
  go_wp2_with fail
  refine (l4Board_any R 5 c _ hr0 (by omega) (by omega)).mono ?_
  rintro e w1 ⟨s, hs, rfl, hr1, hm1⟩
  have o1 := o0.grown hm1 (by simp; omega)
  have hmw1 := hm0.trans hm1
  have HS := Lib.hid hs.refl
  clear hs o0 hr0 hm0 hm1 h
  have l1 := o1.lt
  have p1 := Own.new w1 [.slice none 0 0, .string s] 25
  have o1' := o1.alloc (.cells [.slice none 0 0, .string s].toArray 25)
  have hr1' := hr1.alloc (.cells [.slice none 0 0, .string s].toArray 25)
  have hm1' := hmw1.alloc (.cells [.slice none 0 0, .string s].toArray 25)
  go_wp2_with fail
  generalize (w1.alloc (.cells [.slice none 0 0, .string s].toArray 25)) = W1 at *
  generalize hB1 : w1.heap.size = B1 at *
  generalize hB0 : w.heap.size = B0 at *
  have HB0 := Lib.hid hB0
  clear o1 hr1 hmw1 hB1 hB0
  go_loopw [6] (fun i wr => ∃ (k : Nat) (v : Value) (rs : List Rot), k ≤ n ∧ i = .int .i64 k ∧ rs.length = k ∧ (∀ r ∈ rs, rotorB r = true) ∧ Own wr B1 [v, .string s] ∧ Own wr B0 [.slice none 0 0, .string ⟨#[]⟩] ∧ OwR wr (B1 + 1) 73 2 v k (rvs rs) ∧ Rd wr R (c + 10 + 11 * k) ∧ Moved R w wr) (fun i _ => n - (intOf i).toNat)
  case atStart => exact ⟨0, _, [], by omega, rfl, rfl, by simp, p1, o1', World.ownsRow_nil _ _ _ _, hr1', hm1'⟩
  case round =>
    clear p1 o1' hr1' hm1'
    obtain ⟨k, v, rs, hk, rfl, hrl, hrb, p1, o1, hown, hr, hm⟩ := hrel
    have HRL := Lib.hid hrl
    have HRB := Lib.hid hrb
    clear hrl hrb
    have f0 := p1.at_ (i := 0) rfl
    have lt1 := p1.lt
    by_cases hlt2 : k < n
    · go_wp2_with fail
      go_region_law (first | (go_simp; go_at_call 103; refine (l5Some_any R _ _ hr.drew (by omega)).mono ?_; rintro e w2 ⟨r, hrB, rfl, hr2, hm2⟩; have q2 := OwR.moved (w := wr.drew) hown hm2 (by omega); have p2 := p1.drew.grown hm2 (by simp; omega); have o2 := o1.drew.grown hm2 (by simp; omega); have f2 := p2.at_ (i := 0) rfl; have p3 := p2.alloc (.cells [.string r.wiring, .string r.notches].toArray 73); have f3 := p3.at_ (i := 0) rfl; have l2 := p2.lt) | (refine st_push 23 73 inf_rotor Tryz.underlying23 rfl (by omega) (by rfl) (by rfl) q2 (by omega) rfl (by simp [Value.oneCell']) (by omega) (by omega) (by rfl) (by rfl) ?_; intro g cap w4 q4 b4 s4; have p4 := p2.below b4 (by omega); have o4 := o2.below b4 (by omega); have f4 := p4.at_ (i := 0) rfl; have g4 := p4.free 0 (by simp)))
      all_goals
       go_wp2
       go_roundw
       case rel =>
        have hr4 := hr2.below b4 (by omega)
        have hm4 : Moved R w w4 := (hm.drew.trans hm2).low b4 (by rw [HB0.out]; omega)
        refine ⟨k + 1, _, rs ++ [r], by omega, by go_num, by simp [HRL.out], ?_, p4.set_ (i := 0) (by simp) _, o4.far (by simp; omega) _, ?_, (hr4.far (by simp; omega) _).more (by omega), hm4.set_ (.inr (by simp; rw [HB0.out]; omega)) _⟩
        · intro r' h'
          simp at h'
          rcases h' with h' | rfl
          · exact HRB.out r' h'
          · exact hrB
        · rw [rvs_append]; exact OwR.far q4 (by simp) _
       case measure => simp [intOf]; omega
    · have hk' : k = n := by omega
      subst hk'
      have f1 := p1.at_ (i := 1) rfl
      have h0 := o1.at_ (i := 0) rfl
      have h1 := o1.at_ (i := 1) rfl
      have g0 := o1.free 0 (by simp)
      have g1 := o1.free 1 (by simp)
      have hne : ¬ B0 = B1 := by omega
      obtain ⟨va, vc, rfl, -, -, -⟩ := OwR.val hown
      go_wp2
      refine bodyPost_ret (v := .agg #[.slice va k vc, .string s]) (by simp [results, Tryz.results78, go_sem, h0, h1]) rfl ?_
      refine ⟨⟨rs, s⟩, .slice va k vc, ⟨HRL.out, HRB.out, HS.out⟩, rfl, ?_, ((hr.far (by simp; omega) _).far (by simp; omega) _).more (by omega), (hm.set_ (.inr (by simp; rw [HB0.out]; omega)) _).set_ (.inr (by simp; rw [HB0.out]; omega)) _⟩
      have := World.ownsRow.mono (OwR.far (OwR.far hown (p := ⟨B0, 0, none⟩) (by simp; omega) (.slice va k vc)) (p := ⟨B0, 1, none⟩) (by simp; omega) (.string s)) (base' := w.heap.size) (by rw [HB0.out]; omega)
      rw [show (rs.length : Nat) = k from HRL.out]
      exact this
end Go.Proofs.YtnnblmibonnpcaaGreat

/- The contract of the function that draws any wheels. -/
namespace Go.Proofs.YtnnblmibonnpcaaGreat
open Go.RowKit

theorem OwR.own {w : World} {base g cap n : Nat} {e : TypeId} {sz : Nat} {xs : List Value} (h : OwR w base e sz (.slice (some ⟨g, 0, none⟩) n cap) n xs) : Own w g xs := by
  rcases h.2 with ⟨h', _⟩ | ⟨g', cap', cur, h', hb, hh, hn, hm, hs, ht⟩
  · simp at h'
  · simp only [Value.slice.injEq, Option.some.injEq, Addr.mk.injEq, and_true, true_and] at h'
    obtain ⟨rfl, rfl⟩ := h'
    have hlt : g < w.heap.size := by
      rcases Nat.lt_or_ge g w.heap.size with h1 | h1
      · exact h1
      · rw [Array.getElem?_eq_none h1] at hh; cases hh
    refine ⟨hlt, fun i hi => ?_, fun i hi => by simp [World.frozen?, hh]⟩
    rw [cell_of_row w g i cur _ _ hh, ← ht]
    have : i < n * sz := by rw [← h.1]; exact hi
    rw [List.getElem?_take_of_lt this]
    simp
theorem rvs_set2 {rs : List Rot} {k : Nat} (r : Rot) (h : k < rs.length) : ((rvs rs).set (k * 2) (.string r.wiring)).set (k * 2 + 1) (.string r.notches) = rvs (rs.set k r) := by
  induction rs generalizing k with
  | nil => simp at h
  | cons q rs ih =>
    cases k with
    | zero => simp [rvs]
    | succ k =>
      rw [show (k + 1) * 2 = k * 2 + 1 + 1 by omega]
      simp only [rvs, List.set_cons_succ]
      rw [ih (by simpa using h)]
theorem set_all {rs : List Rot} {Q : Rot → Prop} (h : ∀ r ∈ rs, Q r) {k : Nat} {r : Rot} (hr : Q r) : ∀ q ∈ rs.set k r, Q q := fun q hq => by
  rcases List.mem_or_eq_of_mem_set hq with h1 | rfl
  · exact h q h1
  · exact hr

/-- Good wheels with some rotors, at most three. -/
def GoodW3 (x : Whl) : Prop := 1 ≤ x.rotors.length ∧ x.rotors.length ≤ 3 ∧ (∀ r ∈ x.rotors, rotorB r = true) ∧ reflB x.refl = true
theorem GoodW.three {n : Nat} {x : Whl} (h : GoodW n x) (h1 : 1 ≤ n) (h3 : n ≤ 3) : GoodW3 x := ⟨by rw [h.1]; exact h1, by rw [h.1]; exact h3, h.2.1, h.2.2⟩
theorem rvs_get0 {rs : List Rot} {k : Nat} (h : k < rs.length) : (rvs rs)[k * 2]? = some (.string rs[k].wiring) := by rw [Nat.mul_comm]; exact rvs_at0 rs k h
theorem rvs_get1 {rs : List Rot} {k : Nat} (h : k < rs.length) : (rvs rs)[k * 2 + 1]? = some (.string rs[k].notches) := by rw [Nat.mul_comm]; exact rvs_at1 rs k h

set_option maxRecDepth 100000 in
set_option maxHeartbeats 1000000 in
theorem l6Any_any (R : Nat) (c : Nat) (w : World) (h : Rd w R c) (hc : c ≤ 7000000) :
    Calls Tryz.prog 79 #[.pointer (some ⟨R, 0, none⟩)] w (WhlP R GoodW3 (c + 150) w) := by
  have o0 := Own.new w [.slice none 0 0, .string ⟨#[]⟩] 25
  have hr0 := h.alloc (.cells #[.slice none 0 0, .string ⟨#[]⟩] 25)
  have hm0 := (Moved.refl R w).alloc (.cells #[.slice none 0 0, .string ⟨#[]⟩] 25)
  have hlt := h.lt
  go_enter Tryz.func79, Tryz.ntmps79
  go_wp2_with fail
  refine (pick_any R _ c _ hr0 (by omega) (by omega) (by omega)).mono ?_
  rintro e w1 ⟨v, rfl, hv0, hv1, _, hr1, hm1⟩
  obtain ⟨n0, rfl⟩ := Int.eq_ofNat_of_zero_le hv0
  have hn0 : n0 < 3 := by have := hv1 (by omega); omega
  have o1 := o0.grown hm1 (by simp; omega)
  have hmw1 := hm0.trans hm1
  have z1 : w.heap.size < w1.heap.size := o1.lt
  clear hv1 hv0 o0 hr0 hm0 hm1 h
  have hso := l6Some_any R (1 + n0) _ _ hr1 (by omega) (by omega)
  rw [show ((1 + n0 : Nat) : Int) = 1 + (n0 : Int) by omega] at hso
  go_wp2_with fail
  refine hso.mono ?_
  rintro e w2 ⟨x, v, hx, rfl, hown2, hr2, hm2⟩
  have hN := hx.1
  have HRB := Lib.hid hx.2.1
  have HRF := Lib.hid hx.2.2
  clear hx hso
  obtain ⟨va, cp, rfl, -, -, hva⟩ := OwR.val hown2
  obtain ⟨g, rfl, hg, -⟩ : ∃ g, va = some ⟨g, 0, none⟩ ∧ w1.heap.size ≤ g ∧ Own w2 g (rvs x.rotors) := by
    rcases hva with h0 | h0
    · omega
    · exact h0
  clear hva
  have hgl := (World.ownsRow.lt hown2 g rfl).2
  have o2 := o1.grown hm2 (by simp; omega)
  have hmw2 := hmw1.trans hm2
  obtain ⟨rs, s⟩ := x
  simp only at hN hown2 HRB HRF
  generalize hNN : rs.length = N at *
  have hN1 : 1 ≤ N := by omega
  have hN3 : N ≤ 3 := by omega
  have HNN := Lib.hid hNN
  clear hNN hN
  have p2 := Own.new w2 [.slice (some ⟨g, 0, none⟩) N cp, .string s] 25
  have o2' := o2.alloc (.cells [.slice (some ⟨g, 0, none⟩) N cp, .string s].toArray 25)
  have hr2' := hr2.alloc (.cells [.slice (some ⟨g, 0, none⟩) N cp, .string s].toArray 25)
  have hm2' := hmw2.alloc (.cells [.slice (some ⟨g, 0, none⟩) N cp, .string s].toArray 25)
  have hown2' := World.ownsRow.alloc hown2 (.cells [.slice (some ⟨g, 0, none⟩) N cp, .string s].toArray 25)
  go_wp2_with fail
  generalize (w2.alloc (.cells [.slice (some ⟨g, 0, none⟩) N cp, .string s].toArray 25)) = W2 at *
  generalize hB1 : w2.heap.size = B1 at *
  generalize hB0 : w.heap.size = B0 at *
  have HB0 := Lib.hid hB0
  have hown3 := World.ownsRow.mono hown2' (base' := B0 + 1) (by omega)
  have hgB : B0 + 1 ≤ g := by omega
  clear o2 hr2 hmw2 hB1 hB0 hown2 hown2' o1 hr1 hmw1 hm2 z1 hg
  go_loopw [4] (fun i wr => ∃ (k : Nat) (rs : List Rot), k ≤ N ∧ i = .int .i64 k ∧ rs.length = N ∧ (∀ r ∈ rs, rotorB r = true) ∧ Own wr B1 [.slice (some ⟨g, 0, none⟩) N cp, .string s] ∧ Own wr B0 [.slice none 0 0, .string ⟨#[]⟩] ∧ OwR wr (B0 + 1) 73 2 (.slice (some ⟨g, 0, none⟩) N cp) N (rvs rs) ∧ Rd wr R (c + 51 + 21 * k) ∧ Moved R w wr) (fun i _ => N - (intOf i).toNat)
  case atStart => exact ⟨0, rs, by omega, rfl, HNN.out, HRB.out, p2, o2', hown3, hr2'.more (by omega), hm2'⟩
  case round =>
    clear p2 o2' hr2' hm2' hown3 HRB HNN
    obtain ⟨k, rs, hk, rfl, hrl, hrb, p1, o1, hown, hr, hm⟩ := hrel
    have HRL := Lib.hid hrl
    have HRB := Lib.hid hrb
    clear hrl hrb
    have f0 := p1.at_ (i := 0) rfl
    have lt1 := p1.lt
    by_cases hlt2 : k < N
    · go_wp2_with fail
      refine (pick_any R _ _ _ hr (by omega) (by omega) (by omega)).mono ?_
      rintro e w3 ⟨v, rfl, hv0, hv1, _, hr3, hm3⟩
      have p3 := p1.grown hm3 (by simp; omega)
      have o3 := o1.grown hm3 (by simp; omega)
      have hown3 := OwR.moved hown hm3 (by omega)
      have hmw3 := hm.trans hm3
      clear hv1 p1 o1 hown hr hm hm3 f0
      by_cases e0 : v = 0
      · have t0 : (v == 0) = true := by simp [e0]
        clear e0
        have f0 := p3.at_ (i := 0) rfl
        have lt3 := p3.lt
        have q1 : (k : Int) < (N : Int) := by omega
        have q0 : (0 : Int) ≤ (k : Int) := by omega
        have hne1 : ¬ g = B1 := by omega
        have hne2 : ¬ B1 = g := by omega
        go_wp2_with fail
        go_region_held3 (fun w' => w'.cell? ⟨B1, 0, none⟩ = some (.slice (some ⟨g, 0, none⟩) N cp)) (first | go_keep | exact f4)
          (first | (go_at_call 104; refine (l5Any_any R _ _ hr3.drew (by omega)).mono ?_; rintro e w4 ⟨r, hrB, rfl, hr4, hm4⟩; have p4 := p3.drew.grown hm4 (by simp; omega); have f4 := p4.at_ (i := 0) rfl; have hown4 := OwR.moved (w := w3.drew) hown3 hm4 (by omega); have og4 := OwR.own hown4; obtain ⟨y0, c0⟩ := og4.some_ (i := k * 2) (by rw [len_rvs, HRL.out]; omega); obtain ⟨y1, c1⟩ := og4.some_ (i := k * 2 + 1) (by rw [len_rvs, HRL.out]; omega); have d0 := og4.free (k * 2) (by rw [len_rvs, HRL.out]; omega); have d1 := og4.free (k * 2 + 1) (by rw [len_rvs, HRL.out]; omega)))
        all_goals
         go_wp2
         go_roundw
         case rel =>
          have hs1 := (World.ownsRow.stored (World.ownsRow.stored hown4 (k * 2) (.string r.wiring)).1 (k * 2 + 1) (.string r.notches)).1
          rw [rvs_set2 r (by rw [HRL.out]; exact hlt2)] at hs1
          have o4 := o3.drew.grown hm4 (by simp; omega)
          refine ⟨k + 1, rs.set k r, by omega, by go_num, by rw [List.length_set, HRL.out], set_all HRB.out hrB, (p4.far (by simp; omega) _).far (by simp; omega) _, (o4.far (by simp; omega) _).far (by simp; omega) _, hs1, (((hr4.far (by simp; omega) _).far (by simp; omega) _)).more (by omega), ((hmw3.drew.trans hm4).set_ (.inr (by simp; rw [HB0.out]; omega)) _).set_ (.inr (by simp; rw [HB0.out]; omega)) _⟩
         case measure => simp [intOf]; omega
      · have t0 : (v == 0) = false := by simp [e0]
        clear e0
        go_wp2
        go_roundw
        case rel => exact ⟨k + 1, rs, by omega, by go_num, HRL.out, HRB.out, p3, o3, hown3, hr3.more (by omega), hmw3⟩
        case measure => simp [intOf]; omega
    · have hk' : k = N := by omega
      subst hk'
      have f1 := p1.at_ (i := 1) rfl
      have h0 := o1.at_ (i := 0) rfl
      have h1 := o1.at_ (i := 1) rfl
      have g0 := o1.free 0 (by simp)
      have g1 := o1.free 1 (by simp)
      have hne : ¬ B0 = B1 := by omega
      go_wp2
      refine bodyPost_ret (v := .agg #[.slice (some ⟨g, 0, none⟩) k cp, .string s]) (by simp [results, Tryz.results79, go_sem, h0, h1]) rfl ?_
      refine ⟨⟨rs, s⟩, _, ⟨by rw [HRL.out]; omega, by rw [HRL.out]; omega, HRB.out, HRF.out⟩, rfl, ?_, ((hr.far (by simp; omega) _).far (by simp; omega) _).more (by omega), (hm.set_ (.inr (by simp; rw [HB0.out]; omega)) _).set_ (.inr (by simp; rw [HB0.out]; omega)) _⟩
      have := World.ownsRow.mono (OwR.far (OwR.far hown (p := ⟨B0, 0, none⟩) (by simp) (.slice (some ⟨g, 0, none⟩) k cp)) (p := ⟨B0, 1, none⟩) (by simp) (.string s)) (base' := w.heap.size) (by rw [HB0.out]; omega)
      rw [show (rs.length : Nat) = k from HRL.out]
      exact this
end Go.Proofs.YtnnblmibonnpcaaGreat

/- A range over a function whose iterator keeps its state in a cell of its own: the law of the statement. -/
namespace Go.Proofs.YtnnblmibonnpcaaGreat
open Go.RowKit

/-- The blocks of K lie as they lay. -/
structure Holds (K : Nat → Prop) (W W' : World) : Prop where
  size : W.heap.size ≤ W'.heap.size
  block : ∀ b, K b → W'.heap[b]? = W.heap[b]?
theorem Holds.refl (K : Nat → Prop) (W : World) : Holds K W W := ⟨Nat.le_refl _, fun _ _ => rfl⟩
theorem Holds.trans {K : Nat → Prop} {A B C : World} (h : Holds K A B) (k : Holds K B C) : Holds K A C := ⟨Nat.le_trans h.size k.size, fun b hb => (k.block b hb).trans (h.block b hb)⟩
theorem Holds.grown {K : Nat → Prop} {A B : World} {row : Option Nat} (hg : A.grownBy B row) (hl : ∀ b, K b → b < A.heap.size) (hr : ∀ b, K b → some b ≠ row) : Holds K A B :=
  ⟨hg.size, fun b hb => hg.block b (hl b hb) (hr b hb)⟩
theorem Holds.below {K : Nat → Prop} {A B : World} {n : Nat} (hb : Below n A B) (hl : ∀ b, K b → b < n) : Holds K A B := ⟨hb.size, fun b h => hb.block b (hl b h)⟩

/-- The contract of an iterator that hands over 'encs 0', 'encs 1', .. without end; it reads the blocks of K, and its own state lies in block Bw. -/
def KSeq (F : Fence) (n : Nat) (P : Program) (g : Nat) (lb : Array Value) (encs : Nat → Array Value) (K : Nat → Prop) (Bw : Nat) (w : World) : Prop :=
  ∀ (l : Nat) (J : Nat → World → Prop) (Jx : World → Prop) (N : Nat) (W : World), Holds (fun b => K b ∨ b = Bw) w W → (∀ k A B, J k A → A.grownBy B (some Bw) → J k B) →
    (∀ k W1, J k W1 → k < N → YieldAt F (n - 1) P l (encs k) W1 fun e W' =>
      (e = .returned (.bool true) ∧ k + 1 < N ∧ J (k + 1) W' ∧ Holds (fun b => K b ∨ b = Bw) W1 W') ∨ (e = .returned (.bool false) ∧ Jx W')) →
    0 < N → J 0 W →
    CallsIn F n P g (#[.func (.yield l) #[] #[]] ++ lb) W fun e W' => (∃ v, e = .returned v) ∧ Jx W'

/-- How the body of a round may be left. -/
def keysPost (K : Nat → Prop) (Bw N : Nat) (I : Nat → World → Prop) (Ix : Code → World → Prop) (k : Nat) (W : World) : Exit → Act → World → Prop
  | .normal, _, W' => KeepsOthers W W' ∧ Holds (fun b => K b ∨ b = Bw) W W' ∧ k + 1 < N ∧ I (k + 1) W'
  | .ret, _, W' => KeepsOthers W W' ∧ Ix .ret W'
  | .exit id, _, W' => KeepsOthers W W' ∧ Ix (.exit id) W'
  | .goto t, _, W' => KeepsOthers W W' ∧ Ix (.goto t) W'
  | .panic _, _, _ => False
  | .outgrown, _, _ => False

theorem wpIn_rangeFunc_keys {F : Fence} {n : Nat} {P : Program} {g : Operand} {ps : Array Tmp} {assign body : Code} {Q : Exit → Act → World → Prop} {a : Act} {w : World}
    (hro : F.round = none) (h1 : 1 ≤ n) {gf : Nat} {lb : Array Value} (hg : a.eval g = .func (.func gf) #[] lb) (hFg : F.fn gf) (eg : ∀ args w, (callFunc gf args).run P w = .ok (.enter gf args) w)
    {encs : Nat → Array Value} {K : Nat → Prop} {Bw : Nat} (hseq : KSeq F (n - 1) P gf lb encs K Bw w)
    (hK : ∀ b, K b → b < w.heap.size) (hBw : Bw < w.heap.size) (hps : ∀ k, (encs k).size = ps.size)
    (N : Nat) (hN : 0 < N) (I : Nat → World → Prop) (Ix : Code → World → Prop)
    (hI : ∀ k A B r, I k A → A.grownBy B (some r) → (r = Bw ∨ r = w.heap.size ∨ r = w.heap.size + 1) → I k B)
    (hIx : ∀ c A B r, Ix c A → A.grownBy B (some r) → (r = w.heap.size ∨ r = w.heap.size + 1) → Ix c B)
    (h0 : I 0 w) (Ax : Nat → Act → World → Prop)
    (hAx : ∀ k a' A B, Ax k a' A → A.grownBy B (some (w.heap.size + 1)) → Ax k a' B)
    (hassign : ∀ (l k : Nat) (W : World) (Kn : Act → World → Prop), I k W → k < N → w.heap.size + 1 < W.heap.size → (∀ a' W', W'.heap[w.heap.size + 1]? = W.heap[w.heap.size + 1]? → W'.heap[w.heap.size]? = W.heap[w.heap.size]? → Holds (fun b => K b ∨ b = Bw) W W' → I k W' → Ax k a' W' → Kn a' W') →
      assign.wpIn (F.inRound l) (n - 1 - 1) P (Exit.then Kn (fun _ _ _ => False)) { tmps := (ps.zip (encs k)).foldl (fun t (p, v) => t.setIfInBounds p v) a.tmps, defers := [] } W)
    (hbody : ∀ (l k : Nat) (a' : Act) (W : World), I k W → Ax k a' W → k < N → w.heap.size + 1 < W.heap.size → body.wpIn (F.inRound l) (n - 1 - 1) P (keysPost K Bw N I Ix k W) a' W)
    (hstop : ∀ (c : Code) (W : World), Ix c W → W.heap[w.heap.size]? = some (.deferred (some [])) → c.wpIn F n P Q { a with defers := { target := .collected w.heap.size, args := #[] } :: a.defers } W) :
    (Code.rangeFunc g ps assign body).wpIn F n P Q a w := by
  refine wpIn_rangeFunc ?_
  intro fn hfn
  rw [hro]
  obtain ⟨rec, hrec⟩ : ∃ rec : LoopState → Option Code → Loop, rec = fun st pe => { state := st, pending := pe, fn, tmps := a.tmps, params := ps, assign, body, defers := w.heap.size } := ⟨_, rfl⟩
  obtain ⟨W1, hW1⟩ : ∃ W1, (w.alloc (.deferred (some []))).alloc (.loop (rec .ready none)) = W1 := ⟨_, rfl⟩
  have hL1 : W1.heap[w.heap.size + 1]? = some (.loop (rec .ready none)) := by
    rw [← hW1]; have := World.alloc_heap_new (w.alloc (.deferred (some []))) (.loop (rec .ready none)); rwa [World.size_alloc] at this
  have hK1 : W1.heap[w.heap.size]? = some (.deferred (some [])) := by
    rw [← hW1]; exact (Below.heap_alloc _ _ _ (by simp)).trans (World.alloc_heap_new w _)
  have hb1 : Below w.heap.size w W1 := by
    rw [← hW1]; exact (((Below.refl _ w).alloc (Nat.le_refl _) _).alloc (by simp) _)
  have hI1 : I 0 W1 := hI 0 w W1 Bw h0 ⟨hb1.os, hb1.tape, hb1.output, hb1.size, fun k hk _ => hb1.block k hk⟩ (.inl rfl)
  refine ⟨w.heap.size + 1, [{ target := .collected w.heap.size, args := #[] }], W1, { target := .fn (.func gf) lb, args := #[.func (.yield (w.heap.size + 1)) #[] #[]] }, W1, gf,
    #[.func (.yield (w.heap.size + 1)) #[] #[]] ++ lb, W1, ?_, ?_, ?_, ?_, fun _ => h1, ?_⟩
  · rw [← hW1, hrec]; exact run_enterLoop_outer _ _ _ _ _
  · simp only [resolve, hg]
    simp [go_sem]
  · intro f' hf'; simp [Target.leads] at hf'; subst hf'; exact hFg
  · simp [invoke, go_sem, eg]
  · refine (hseq (w.heap.size + 1)
      (fun k W => I k W ∧ W.heap[w.heap.size + 1]? = some (.loop (rec .ready none)) ∧ W.heap[w.heap.size]? = some (.deferred (some [])))
      (fun W => ∃ c, Ix c W ∧ W.heap[w.heap.size + 1]? = some (.loop (rec .done (some c))) ∧ W.heap[w.heap.size]? = some (.deferred (some [])))
      N W1 (Holds.below hb1 (fun b hb => hb.elim (hK b) (fun e => e ▸ hBw)))
      (fun k A B hs hg' => ⟨hI k A B Bw hs.1 hg' (.inl rfl), ?_, ?_⟩) ?_ hN ⟨hI1, hL1, hK1⟩).mono ?_
    · exact (hg'.block _ (Array.getElem?_eq_some_iff.1 hs.2.1).1 (by simp; omega)).trans hs.2.1
    · exact (hg'.block _ (Array.getElem?_eq_some_iff.1 hs.2.2).1 (by simp; omega)).trans hs.2.2
    · rintro k W ⟨hi, hl, hk⟩ hlen
      have hlt : w.heap.size + 1 < W.heap.size := (Array.getElem?_eq_some_iff.1 hl).1
      have hy := run_yield (P := P) (args := encs k) hl (by rw [hrec]; exact hps k)
      rw [hrec] at hy
      refine ⟨fn, _, assign, body, hy, roundIn_of_wpIn hfn (hassign _ k W _ hi hlen hlt ?_)⟩
      intro a' Wa hla hka hha hia hxa
      have hl' := hla.trans hl
      have hk' := hka.trans hk
      have hlt' : w.heap.size + 1 < Wa.heap.size := (Array.getElem?_eq_some_iff.1 hl').1
      refine ⟨_, run_beginRound hl' (by rw [hrec]), ?_⟩
      have hl2 : (Wa.putObj (w.heap.size + 1) (.loop { rec .ready none with state := .busy })).heap[w.heap.size + 1]? = some (.loop { rec .ready none with state := .busy }) := World.putObj_heap_same hlt'
      have hk2 : (Wa.putObj (w.heap.size + 1) (.loop { rec .ready none with state := .busy })).heap[w.heap.size]? = some (.deferred (some [])) := (World.putObj_heap_other (by omega)).trans hk'
      have hg2 := grownBy_putObj' Wa (w.heap.size + 1) (.loop { rec .ready none with state := .busy })
      have hKl : ∀ b, (K b ∨ b = Bw) → b < w.heap.size := fun b hb => hb.elim (hK b) (fun e => e ▸ hBw)
      have hh2 : Holds (fun b => K b ∨ b = Bw) Wa (Wa.putObj (w.heap.size + 1) (.loop { rec .ready none with state := .busy })) :=
        Holds.grown hg2 (fun b hb => by have := hKl b hb; omega) (fun b hb => by have := hKl b hb; simp; omega)
      refine wpIn_mono (hbody _ k a' _ (hI k _ _ _ hia hg2 (.inr (.inr rfl))) (hAx k a' _ _ hxa hg2) hlen (by simpa [World.putObj] using hlt')) ?_
      have fin : ∀ (jump : Option Code) (W3 : World), KeepsOthers (Wa.putObj (w.heap.size + 1) (.loop { rec .ready none with state := .busy })) W3 →
          (Instr.endRound (w.heap.size + 1) jump).run P W3 = .ok (.bool jump.isNone) (W3.putObj (w.heap.size + 1) (.loop (rec (if jump.isNone then .ready else .done) jump))) ∧
          W3.heap[w.heap.size + 1]? = some (.loop { rec .ready none with state := .busy }) ∧
          (W3.putObj (w.heap.size + 1) (.loop (rec (if jump.isNone then .ready else .done) jump))).heap[w.heap.size + 1]? = some (.loop (rec (if jump.isNone then .ready else .done) jump)) ∧
          (W3.putObj (w.heap.size + 1) (.loop (rec (if jump.isNone then .ready else .done) jump))).heap[w.heap.size]? = some (.deferred (some [])) := fun jump W3 hk3 => by
        have hl3 := hk3.same _ _ hl2 rfl
        have := run_endRound (P := P) jump hl3
        rw [hrec] at this ⊢
        exact ⟨this, by rw [hrec] at hl3; exact hl3, World.putObj_heap_same (Array.getElem?_eq_some_iff.1 hl3).1, (World.putObj_heap_other (by omega)).trans (hk3.same _ _ hk2 rfl)⟩
      rintro e a3 W3 hp
      cases e with
      | normal =>
        obtain ⟨hk3, hkp3, hn3, hi3⟩ := hp
        obtain ⟨hr, hl3, hl4, hk4⟩ := fin none W3 hk3
        have hg4 := grownBy_putObj' W3 (w.heap.size + 1) (.loop (rec .ready none))
        refine ⟨_, _, hr, .inl ⟨rfl, hn3, ⟨hI _ _ _ _ hi3 hg4 (.inr (.inr rfl)), hl4, hk4⟩, ?_⟩⟩
        refine (hha.trans (hh2.trans hkp3)).trans (Holds.grown hg4 (fun b hb => ?_) (fun b hb => by have := hKl b hb; simp; omega))
        have := hKl b hb
        have := (Array.getElem?_eq_some_iff.1 hl3).1
        omega
      | ret =>
        obtain ⟨hk3, hi3⟩ := hp
        obtain ⟨hr, hl3, hl4, hk4⟩ := fin (some .ret) W3 hk3
        exact ⟨_, _, hr, .inr ⟨rfl, .ret, hIx _ _ _ _ hi3 (grownBy_putObj' W3 _ _) (.inr rfl), hl4, hk4⟩⟩
      | exit id =>
        obtain ⟨hk3, hi3⟩ := hp
        obtain ⟨hr, hl3, hl4, hk4⟩ := fin (some (.exit id)) W3 hk3
        exact ⟨_, _, hr, .inr ⟨rfl, .exit id, hIx _ _ _ _ hi3 (grownBy_putObj' W3 _ _) (.inr rfl), hl4, hk4⟩⟩
      | goto t =>
        obtain ⟨hk3, hi3⟩ := hp
        obtain ⟨hr, hl3, hl4, hk4⟩ := fin (some (.goto t)) W3 hk3
        exact ⟨_, _, hr, .inr ⟨rfl, .goto t, hIx _ _ _ _ hi3 (grownBy_putObj' W3 _ _) (.inr rfl), hl4, hk4⟩⟩
      | panic ch => exact hp.elim
      | outgrown => exact hp.elim
    · rintro e W2 ⟨⟨v, rfl⟩, c, hi, hl, hk⟩
      exact ⟨some c, _, by have := run_endLoop (P := P) hl (by rw [hrec]; simp); rw [hrec] at this; exact this, hstop c _ (hIx _ _ _ _ hi (grownBy_putObj' W2 _ _) (.inr rfl)) ((World.putObj_heap_other (by omega)).trans hk)⟩
end Go.Proofs.YtnnblmibonnpcaaGreat
