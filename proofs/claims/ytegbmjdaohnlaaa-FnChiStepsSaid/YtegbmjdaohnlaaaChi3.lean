/- The contract of the reference's tape of the first wheels, and the walk of the law on their bits. -/
import Derived.Test.YtegbmjdaohnlaaaChi2
import Derived.Test.YtegbmjdaohnlaaaDrawTele2
namespace Go.Proofs.Ytegbmjdaohnlaaa
open Go.RowKit

set_option maxHeartbeats 1000000 in
theorem specChiTape_any (a1 a2 : Option Addr) (c1 c2 : Nat) (chi psi : List ByteArray) (m : ByteArray) (n : Int) (w : World) (h : TeleR w a1 a2 chi psi m) :
    Calls Try.prog 38 #[teleV a1 a2 c1 c2 chi psi m, .int .i64 n] w fun e w' => e = .returned (.tuple #[.string (chiT chi psi m n).1, .bool (chiT chi psi m n).2]) ∧ Below w.heap.size w w' := by
  cases hb : telenB chi psi m n
  · have hst : Hid (chiT chi psi m n = (S [], false)) := by show _ = _; simp [chiT, hb]
    go_enter Try.func38, Try.ntmps38
    go_wp2_with fail
    refine (l16Fits_any a1 a2 c1 c2 chi psi m n _ (h.alloc _)).mono ?_
    rintro e w1 ⟨rfl, hb1⟩
    rw [hb]
    go_wp2
    go_ret2
    exact ⟨by rw [hst.out]; rfl, bt ((Below.refl _ _).alloc (Nat.le_refl _) _) hb1⟩
  · obtain ⟨ht, hn0, hn2⟩ := telenB_parts hb
    obtain ⟨N, rfl⟩ := Int.eq_ofNat_of_zero_le hn0
    obtain ⟨s0, s1, s2, rfl, b0, b1, b2⟩ := teleB_three ht
    have hst : Hid (chiT [s0, s1, s2] psi m N = (S (chiW s0 s1 s2 N), true)) := by show _ = _; simp [chiT, hb]
    have HT := Lib.hid h
    go_enter Try.func38, Try.ntmps38
    go_wp2_with fail
    have o0 := Own.new w (teleC a1 a2 c1 c2 [s0, s1, s2] psi m) 30
    refine (l16Fits_any a1 a2 c1 c2 [s0, s1, s2] psi m N _ (h.alloc _)).mono ?_
    rintro e w1 ⟨rfl, hb1⟩
    have o1 := o0.below hb1 o0.lt
    have hbw : Below w.heap.size w w1 := bt ((Below.refl _ _).alloc (Nat.le_refl _) _) hb1
    have hs1 : w.heap.size < w1.heap.size := o1.lt
    clear o0 hb1 h
    rw [hb]
    go_wp2_with fail
    generalize hB0 : w.heap.size = B0 at *
    have HB0 := Lib.hid hB0
    clear hB0
    go_loopw [6, 7] (fun v i wr => ∃ k : Nat, (k ≤ N) ∧ i = .int .i64 k ∧ v = .string (S (chiW s0 s1 s2 k)) ∧ Own wr B0 (teleC a1 a2 c1 c2 [s0, s1, s2] psi m) ∧ Below B0 w wr ∧ B0 < wr.heap.size) (fun _ i _ => N - (intOf i).toNat)
    case atStart => exact ⟨0, by omega, rfl, rfl, o1, hbw, hs1⟩
    case round =>
      obtain ⟨k, hk, rfl, rfl, o2, hbr, hlr⟩ := hrel
      have f0 := o2.at_ (i := 0) rfl
      have hz : (S (chiW s0 s1 s2 k)).size ≤ 200 := by rw [size_S, length_chiW]; omega
      by_cases hlt : k < N
      · have hr2 := (HT.out.below (HB0.out.symm ▸ hbr)).r1
        have hy := Lib.hid (chiW_succ s0 s1 s2 k)
        have hz1 : (S [chiL s0 s1 s2 k]).size ≤ 1 := by rw [size_S]; simp
        go_wp2_with (go_at_call 62; ((refine (l16Letter_any a1 c1 s0 s1 s2 k _ hr2 b0 b1 b2 (by omega)).mono ?_); rintro e w3 ⟨rfl, hb3⟩))
        go_roundw
        case rel => exact ⟨k + 1, by omega, by go_num, by rw [hy.out, S_append], o2.below hb3 o2.lt, hbr.trans (hb3.mono (by omega)), Nat.lt_of_lt_of_le hlr hb3.size⟩
        case measure => simp [intOf]; omega
      · have hk1 : k = N := by omega
        subst hk1
        go_wp2
        go_ret2
        exact ⟨by rw [hst.out]; rfl, HB0.out.symm ▸ hbr⟩

theorem chiN_lt {s0 s1 s2 : ByteArray} (b0 : bitsB s0 = true) (b1 : bitsB s1 = true) (b2 : bitsB s2 = true) (i : Nat) : chiN s0 s1 s2 i < 8 := by
  have h0 := wBit_le b0 i
  have h1 := wBit_le b1 i
  have h2 := wBit_le b2 i
  unfold chiN; omega
theorem three_bits {s0 s1 s2 : ByteArray} (b0 : bitsB s0 = true) (b1 : bitsB s1 = true) (b2 : bitsB s2 = true) : ∀ k (hk : k < [s0, s1, s2].length), bitsB [s0, s1, s2][k] = true
  | 0, _ => b0
  | 1, _ => b1
  | 2, _ => b2
theorem chi_bit {s0 s1 s2 : ByteArray} (b0 : bitsB s0 = true) (b1 : bitsB s1 = true) (b2 : bitsB s2 = true) (i : Nat) : ∀ k (hk : k < [s0, s1, s2].length), (chiN s0 s1 s2 i >>> k) % 2 = wBit [s0, s1, s2][k] i := by
  have h0 := wBit_le b0 i
  have h1 := wBit_le b1 i
  have h2 := wBit_le b2 i
  intro k hk
  match k, hk with
  | 0, _ => simp only [chiN, Nat.shiftRight_eq_div_pow, List.getElem_cons_zero]; omega
  | 1, _ => simp only [chiN, Nat.shiftRight_eq_div_pow, List.getElem_cons_succ, List.getElem_cons_zero]; omega
  | 2, _ => simp only [chiN, Nat.shiftRight_eq_div_pow, List.getElem_cons_succ, List.getElem_cons_zero]; omega
theorem chiT_no {chi psi : List ByteArray} {m : ByteArray} {n : Int} (h : telenB chi psi m n = false) : chiT chi psi m n = (S [], false) := by simp [chiT, h]

set_option maxRecDepth 100000 in
set_option maxHeartbeats 4000000 in
theorem chiSteps_walk (a : Option Addr) (len cap : Nat) (zs : List Int) (w : World) (h : IsRow .u8 w a len cap zs) :
    Calls Try.prog 13 #[.slice a len cap] w fun e w' => e = .returned (.bool true) ∧ Below w.heap.size w w' := by
  by_cases hl : 1048576 < len
  · go_enter Try.func13, Try.ntmps13
    go_wp2
    go_ret
    exact ⟨rfl, Below.refl _ _⟩
  · go_enter Try.func13, Try.ntmps13
    go_wp2_with fail
    refine (DrawChiTape_any a len cap zs w h (by omega)).mono ?_
    rintro e w1 ⟨v, n, rfl, hn, a1, a2, c1, c2, chi, psi, m, rfl, r1, r2, -, s1, s2, hm, l1, l2, hb1⟩
    have hT : TeleR w1 a1 a2 chi psi m := ⟨r1, r2, fun s hs => by have := s1 s hs; omega, fun s hs => by have := s2 s hs; omega, by omega, by omega, by omega⟩
    clear s1 s2 r1 r2
    go_wp2_with fail
    have o1 := Own.new w1 (teleC a1 a2 c1 c2 chi psi m) 30
    have hT1 := hT.alloc (.cells (teleC a1 a2 c1 c2 chi psi m).toArray 30)
    have hb2 : Below w.heap.size w (w1.alloc (.cells (teleC a1 a2 c1 c2 chi psi m).toArray 30)) := bt hb1 ((Below.refl _ _).alloc (Nat.le_refl _) _)
    clear hT hb1
    generalize (w1.alloc (.cells (teleC a1 a2 c1 c2 chi psi m).toArray 30)) = W at *
    generalize w1.heap.size = B1 at *
    obtain ⟨hn1, hn2⟩ := hn
    refine (implChiTape_any a1 a2 c1 c2 chi psi m n W hT1).mono ?_
    rintro e w3 ⟨rfl, hb3⟩
    have o3 := o1.below hb3 o1.lt
    have hT3 := hT1.below hb3
    have hbw3 := bt hb2 hb3
    have f0 := o3.at_ (i := 0) rfl
    have f1 := o3.at_ (i := 1) rfl
    have f2 := o3.at_ (i := 2) rfl
    clear hb3 hb2 hT1 o1
    go_wp2_with fail
    refine (specChiTape_any a1 a2 c1 c2 chi psi m n w3 hT3).mono ?_
    rintro e w4 ⟨rfl, hb4⟩
    have o4 := o3.below hb4 o3.lt
    have hT4 := hT3.below hb4
    have hbw4 := bt hbw3 hb4
    clear f0 f1 f2 hb4 hbw3 hT3 o3
    have f0 := o4.at_ (i := 0) rfl
    have f1 := o4.at_ (i := 1) rfl
    have f2 := o4.at_ (i := 2) rfl
    cases hb : telenB chi psi m n
    · rw [chiT_no hb]
      cases ht : teleB chi psi m
      · clear hb
        go_wp2_with fail
        refine (hT4.impl c1 c2).mono ?_
        rintro e w5 ⟨rfl, hb5⟩
        have o5 := o4.below hb5 o4.lt
        have hT5 := hT4.below hb5
        have hbw5 := bt hbw4 hb5
        clear f0 f1 f2
        have f0 := o5.at_ (i := 0) rfl
        have f1 := o5.at_ (i := 1) rfl
        have f2 := o5.at_ (i := 2) rfl
        rw [ht]
        go_wp2_with fail
        refine (hT5.impl c1 c2).mono ?_
        rintro e w6 ⟨rfl, hb6⟩
        rw [ht]
        go_wp2
        go_ret
        exact ⟨by first | rfl | exact ret_bool (by simp; omega), bt hbw5 hb6⟩
      · by_cases h0 : 0 ≤ n
        · have h2 : ¬ n ≤ 200 := by intro h2; simp [telenB, ht, h0, h2] at hb
          clear hb
          go_wp2_with fail
          refine (hT4.impl c1 c2).mono ?_
          rintro e w5 ⟨rfl, hb5⟩
          have o5 := o4.below hb5 o4.lt
          have hT5 := hT4.below hb5
          have hbw5 := bt hbw4 hb5
          clear f0 f1 f2
          have f0 := o5.at_ (i := 0) rfl
          have f1 := o5.at_ (i := 1) rfl
          have f2 := o5.at_ (i := 2) rfl
          rw [ht]
          go_wp2_with fail
          refine (hT5.impl c1 c2).mono ?_
          rintro e w6 ⟨rfl, hb6⟩
          rw [ht]
          go_wp2
          go_ret
          exact ⟨by first | rfl | exact ret_bool (by simp; omega), bt hbw5 hb6⟩
        · clear hb
          go_wp2_with fail
          refine (hT4.impl c1 c2).mono ?_
          rintro e w5 ⟨rfl, hb5⟩
          have o5 := o4.below hb5 o4.lt
          have hT5 := hT4.below hb5
          have hbw5 := bt hbw4 hb5
          clear f0 f1 f2
          have f0 := o5.at_ (i := 0) rfl
          have f1 := o5.at_ (i := 1) rfl
          have f2 := o5.at_ (i := 2) rfl
          rw [ht]
          go_wp2_with fail
          refine (hT5.impl c1 c2).mono ?_
          rintro e w6 ⟨rfl, hb6⟩
          rw [ht]
          go_wp2
          go_ret
          exact ⟨by first | rfl | exact ret_bool (by simp; omega), bt hbw5 hb6⟩
    · obtain ⟨ht, hn0, hn3⟩ := telenB_parts hb
      obtain ⟨N, rfl⟩ := Int.eq_ofNat_of_zero_le hn0
      obtain ⟨s0, s1, s2, rfl, b0, b1, b2⟩ := teleB_three ht
      have hst : chiT [s0, s1, s2] psi m N = (S (chiW s0 s1 s2 N), true) := by simp [chiT, hb]
      rw [hst]
      have hz : Hid ((S (chiW s0 s1 s2 N)).size = N) := by show _ = _; rw [size_S, length_chiW]
      have hz1 : (S (chiW s0 s1 s2 N)).size ≤ N := by rw [hz.out]; omega
      have hze : (((S (chiW s0 s1 s2 N)).size : Int) == (N : Int)) = true := by rw [hz.out]; simp
      have HF : Hid (∀ i (hi : i < (S (chiW s0 s1 s2 N)).size), dig (S (chiW s0 s1 s2 N))[i] = (chiN s0 s1 s2 i : Nat)) := by
        intro i hi
        rw [get_S hi]
        have := chiN_lt b0 b1 b2 i
        simp only [chiW, List.getElem_map, List.getElem_range, chiL]
        rw [dig_letr]; omega
      clear hb hst
      go_wp2_with fail
      refine (hT4.impl c1 c2).mono ?_
      rintro e w5 ⟨rfl, hb5⟩
      have o5 := o4.below hb5 o4.lt
      have hT5 := hT4.below hb5
      have hbw5 := bt hbw4 hb5
      clear f0 f1 f2 o4 hT4 hbw4 hb5
      have f0 := o5.at_ (i := 0) rfl
      rw [ht]
      obtain ⟨b, off, rfl, hbb, hcc⟩ := hT5.r1.open_ (by simp [sv])
      have HC : Hid (∀ k (hk : k < 3), ∃ sk, bitsB sk = true ∧ w5.cell? ⟨b, off + k, none⟩ = some (.string sk) ∧ ∀ i, (chiN s0 s1 s2 i >>> k) % 2 = wBit sk i) := by
        intro k hk
        have hk' : k < [s0, s1, s2].length := by simpa using hk
        have := hcc k (by rw [length_sv]; exact hk')
        rw [sv_at hk'] at this
        exact ⟨[s0, s1, s2][k], three_bits b0 b1 b2 k hk', this, fun i => chi_bit b0 b1 b2 i k hk'⟩
      clear hcc hT5
      generalize S (chiW s0 s1 s2 N) = s at *
      go_wp2_with fail
      go_loopw [9, 10, 11] (fun i _ _ wr => ∃ k nd : Nat, k ≤ s.size ∧ i = .int .i64 k ∧ wr = w5.drewN nd) (fun i _ _ _ => s.size - (intOf i).toNat)
      case atStart => exact ⟨0, 0, Nat.zero_le _, rfl, rfl⟩
      case round =>
        obtain ⟨i, n1, hi, rfl, rfl⟩ := hrel
        by_cases hlt : i < s.size
        · have hdi := HF.out i hlt
          have b3 := byte_lt s[i]
          have hd0 : 97 ≤ (s[i].toNat : Int) := by unfold dig at hdi; omega
          have hd1 : 0 ≤ dig s[i] := by rw [hdi]; omega
          have HD := Lib.hid hdi
          have hbit : Hid (∀ k, bits .and .i64 (((s[i].toNat : Int) - 97) / 2 ^ k) 1 = (((chiN s0 s1 s2 i) >>> k % 2 : Nat) : Int)) := by
            intro k
            rw [bit_of hd1 k, HD.out, Int.toNat_natCast]
          clear hdi hd1
          obtain ⟨wo, hwo⟩ : ∃ wo : World, wo = w5.drewN n1 := ⟨_, rfl⟩
          rw [← hwo]
          have HW := Lib.hid hwo
          clear hwo
          go_wp2_with fail
          go_loopw [10, 11] (fun i _ wr => ∃ k nd : Nat, k ≤ 3 ∧ i = .int .i64 k ∧ wr = w5.drewN nd) (fun i _ _ => 3 - (intOf i).toNat)
          case atStart => exact ⟨0, n1, Nat.zero_le _, rfl, HW.out⟩
          case round =>
            obtain ⟨k, n2, hk, rfl, rfl⟩ := hrel
            by_cases hk3 : k < 3
            · obtain ⟨sk, hsk, d1, hch⟩ := HC.out k hk3
              have hzk := bitsB_size hsk
              have hp : 0 < sk.size := by omega
              have hw := wAt_eq hp i
              have hlt2 := Nat.mod_lt i hp
              have hby := byte_lt (sk[i % sk.size]'hlt2)
              have q1 : (0 : Int) ≤ (i : Int) % (sk.size : Int) := by omega
              have q2 : (i : Int) % (sk.size : Int) < (sk.size : Int) := Int.emod_lt_of_pos _ (by omega)
              have q3 : ((i : Int) % (sk.size : Int)).toNat = i % sk.size := by omega
              have q4 : (1 : Int) ≤ (sk.size : Int) := by omega
              have q5 : (k : Int) < 3 := by omega
              have hbk := hbit.out k
              rw [hch i] at hbk
              have hcase := wAt_bit hsk i
              have hwb : wBit sk i = (wAt sk i).toNat - 48 := rfl
              clear hch
              rcases hcase with k8 | k9
              · have te : (((sk[i % sk.size]'hlt2).toNat : Int) == 49) = false := by rw [← hw, k8]; rfl
                have tz : ((wBit sk i : Nat) : Int) = 0 := by rw [hwb, k8]; rfl
                rw [tz] at hbk
                clear k8 hw hwb tz
                go_wp2_with fail
                go_quiet (fail)
                go_wp2
                go_roundw
                case rel => exact ⟨k + 1, _, by omega, by go_num, rfl⟩
                case measure => simp [intOf]; omega
              · have te : (((sk[i % sk.size]'hlt2).toNat : Int) == 49) = true := by rw [← hw, k9]; rfl
                have tz : ((wBit sk i : Nat) : Int) = 1 := by rw [hwb, k9]; rfl
                rw [tz] at hbk
                clear k9 hw hwb tz
                go_wp2_with fail
                go_quiet (fail)
                go_wp2
                go_roundw
                case rel => exact ⟨k + 1, _, by omega, by go_num, rfl⟩
                case measure => simp [intOf]; omega
            · go_wp2
              go_roundw
              case rel => exact ⟨i + 1, n2, by omega, by go_num, rfl⟩
              case measure => simp [intOf]; omega
        · go_wp2
          go_ret
          exact ⟨rfl, bdrewN hbw5 _⟩
end Go.Proofs.Ytegbmjdaohnlaaa
