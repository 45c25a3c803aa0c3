/- The walks of the laws on tapes. -/
import Derived.Test.YtegbmjdaohnlaaaDelta
import Derived.Test.YtegbmjdaohnlaaaDrawTape
import Derived.Test.YtegbmjdaohnlaaaWords2
import Derived.Test.YtegbmjdaohnlaaaTapeMath
namespace Go.Proofs.Ytegbmjdaohnlaaa
open Go.RowKit

def DrawStr (m : Nat) (w : World) (e : Ending) (w' : World) : Prop := ∃ s : ByteArray, s.size ≤ m ∧ e = .returned (.string s) ∧ Below w.heap.size w w'
theorem DrawTapeValid_any (a : Option Addr) (len cap : Nat) (zs : List Int) (w : World) (h : IsRow .u8 w a len cap zs) (hl : len ≤ 1048576) :
    Calls Try.prog 26 #[.slice a len cap] w (DrawStr 1001 w) := by
  go_enter Try.func26, Try.ntmps26
  go_wp2_with fail
  refine (l21Open_any a len cap zs w h hl).mono ?_
  rintro e w1 ⟨rfl, hr1, hb1⟩
  go_wp2_with fail
  refine (pick_any _ _ 0 w1 hr1 (by omega) (by omega) (by omega)).mono ?_
  rintro e w2 ⟨v, rfl, hv0, hv1, _, hr2, hm2⟩
  have hv2 := hv1 (by omega)
  clear hv1
  obtain ⟨n, rfl⟩ := Int.eq_ofNat_of_zero_le hv0
  go_wp2_with fail
  refine (l16Tape_any _ n _ w2 hr2 (by omega) (by omega)).mono ?_
  rintro e w3 ⟨s, hs, rfl, hr3, hm3⟩
  go_wp2_with fail
  refine (l16Bad_any _ s _ w3 hr3 (by omega) (by omega)).mono ?_
  rintro e w4 ⟨t, ht, rfl, hr4, hm4⟩
  go_wp2
  go_ret
  exact ⟨t, ht, rfl, hb1.trans (((hm2.trans hm3).trans hm4).toBelow (Nat.le_refl _) hb1.size)⟩

def DrawTwo (m : Nat) (w : World) (e : Ending) (w' : World) : Prop := ∃ s t : ByteArray, s.size ≤ m ∧ t.size ≤ m ∧ e = .returned (.tuple #[.string s, .string t]) ∧ Below w.heap.size w w'
theorem DrawXorTapes_any (a : Option Addr) (len cap : Nat) (zs : List Int) (w : World) (h : IsRow .u8 w a len cap zs) (hl : len ≤ 1048576) :
    Calls Try.prog 29 #[.slice a len cap] w (DrawTwo 1001 w) := by
  go_enter Try.func29, Try.ntmps29
  go_wp2_with fail
  refine (l21Open_any a len cap zs w h hl).mono ?_
  rintro e w1 ⟨rfl, hr1, hb1⟩
  go_wp2_with fail
  refine (pick_any _ _ 0 w1 hr1 (by omega) (by omega) (by omega)).mono ?_
  rintro e w2 ⟨v, rfl, hv0, hv1, _, hr2, hm2⟩
  have hv2 := hv1 (by omega)
  clear hv1
  obtain ⟨n, rfl⟩ := Int.eq_ofNat_of_zero_le hv0
  go_wp2_with fail
  refine (l16Tape_any _ n _ w2 hr2 (by omega) (by omega)).mono ?_
  rintro e w3 ⟨s, hs, rfl, hr3, hm3⟩
  go_wp2_with fail
  refine (l16Tape_any _ s.size _ w3 hr3 (by omega) (by omega)).mono ?_
  rintro e w4 ⟨t, ht, rfl, hr4, hm4⟩
  go_wp2_with fail
  refine (pick_any _ _ _ w4 hr4 (by omega) (by omega) (by omega)).mono ?_
  rintro e w5 ⟨u, rfl, hu0, hu1, _, hr5, hm5⟩
  clear hu1
  have hm := ((hm2.trans hm3).trans hm4).trans hm5
  clear hm2 hm3 hm4 hm5
  by_cases e0 : u = 0
  · have t0 : (u == 0) = true := by simp [e0]
    clear e0
    go_wp2_with fail
    refine (pick_any _ _ _ w5 hr5 (by omega) (by omega) (by omega)).mono ?_
    rintro e w6 ⟨x, rfl, hx0, hx1, _, hr6, hm6⟩
    have hx2 := hx1 (by omega)
    clear hx1
    obtain ⟨q, rfl⟩ := Int.eq_ofNat_of_zero_le hx0
    go_wp2_with fail
    refine (l16Tape_any _ q _ w6 hr6 (by omega) (by omega)).mono ?_
    rintro e w7 ⟨t', ht', rfl, hr7, hm7⟩
    go_wp2_with fail
    refine (l16Bad_any _ s _ w7 hr7 (by omega) (by omega)).mono ?_
    rintro e w8 ⟨s', hs', rfl, hr8, hm8⟩
    go_wp2_with fail
    refine (l16Bad_any _ t' _ w8 hr8 (by omega) (by omega)).mono ?_
    rintro e w9 ⟨t'', ht'', rfl, hr9, hm9⟩
    go_wp2
    go_ret2
    exact ⟨s', t'', hs', ht'', rfl, hb1.trans (((((hm.trans hm6).trans hm7).trans hm8).trans hm9).toBelow (Nat.le_refl _) hb1.size)⟩
  · have t0 : (u == 0) = false := by simp [e0]
    clear e0
    go_wp2_with fail
    refine (l16Bad_any _ s _ w5 hr5 (by omega) (by omega)).mono ?_
    rintro e w8 ⟨s', hs', rfl, hr8, hm8⟩
    go_wp2_with fail
    refine (l16Bad_any _ t _ w8 hr8 (by omega) (by omega)).mono ?_
    rintro e w9 ⟨t'', ht'', rfl, hr9, hm9⟩
    go_wp2
    go_ret2
    exact ⟨s', t'', hs', ht'', rfl, hb1.trans (((hm.trans hm8).trans hm9).toBelow (Nat.le_refl _) hb1.size)⟩

theorem tape_counts {s : ByteArray} (hw : wordB s = true) : tapeB s = true ↔ ((L s).countP fun c => dig c == ((8 : Nat) : Int)) = 0 ∧ ((L s).countP fun c => dig c == ((9 : Nat) : Int)) = 0 := by
  rw [List.countP_eq_zero, List.countP_eq_zero]
  constructor
  · intro h
    simp only [tapeB, Bool.and_eq_true] at h
    have ha := List.all_eq_true.1 h.2
    refine ⟨fun c hc => ?_, fun c hc => ?_⟩
    · have := (isTp_iff c).1 (ha c hc)
      simp; omega
    · have := (isTp_iff c).1 (ha c hc)
      simp; omega
  · rintro ⟨h8, h9⟩
    simp only [wordB, Bool.and_eq_true] at hw
    have ha := List.all_eq_true.1 hw.2
    simp only [tapeB, Bool.and_eq_true]
    refine ⟨hw.1, List.all_eq_true.2 fun c hc => ?_⟩
    have h1 := (isL_iff c).1 (ha c hc)
    have h2 := h8 c hc
    have h3 := h9 c hc
    simp at h2 h3
    rw [isTp_iff]; omega


theorem tapeValid_walk (a : Option Addr) (len cap : Nat) (zs : List Int) (w : World) (h : IsRow .u8 w a len cap zs) :
    Calls Try.prog 8 #[.slice a len cap] w fun e w' => e = .returned (.bool true) ∧ Below w.heap.size w w' := by
  by_cases hl : 1048576 < len
  · go_enter Try.func8, Try.ntmps8
    go_wp2
    go_ret
    exact ⟨rfl, Below.refl _ _⟩
  · go_enter Try.func8, Try.ntmps8
    go_wp2_with fail
    refine (DrawTapeValid_any a len cap zs w h (by omega)).mono ?_
    rintro e w1 ⟨s, hs, rfl, hb1⟩
    cases hw : wordB s
    · have ht : tapeB s = false := by
        cases e : tapeB s
        · rfl
        · rw [tapeB_word e] at hw; cases hw
      go_wp2_with (first | (go_at_call 15; ((with_reducible refine (implTapeValid_any _ _ (by omega)).mono ?_); rintro e w' ⟨rfl, rfl⟩)) | (go_at_call 14; ((with_reducible refine (specTapeValid_any _ _ (by omega)).mono ?_); rintro e w' ⟨rfl, rfl⟩)) | (go_at_call 27; ((with_reducible refine (implWordValid_any _ _ (by omega)).mono ?_); rintro e w' ⟨rfl, rfl⟩)))
      go_ret
      exact ⟨rfl, hb1⟩
    · have hc := tape_counts hw
      have c8 := cnts_at (L s) 8 (by omega)
      have c9 := cnts_at (L s) 9 (by omega)
      generalize ((L s).countP fun c => dig c == ((8 : Nat) : Int)) = N8 at hc c8
      generalize ((L s).countP fun c => dig c == ((9 : Nat) : Int)) = N9 at hc c9
      have HC8 : Hid (((cnts (L s)).map (Value.int .i64))[8]? = some (.int .i64 (N8 : Int))) := by
        show _ = _
        rw [List.getElem?_map, List.getElem?_eq_getElem (by rw [length_cnts]; omega), c8]; rfl
      have HC9 : Hid (((cnts (L s)).map (Value.int .i64))[9]? = some (.int .i64 (N9 : Int))) := by
        show _ = _
        rw [List.getElem?_map, List.getElem?_eq_getElem (by rw [length_cnts]; omega), c9]; rfl
      clear c8 c9
      by_cases n8 : N8 = 0
      · have t8 : ((N8 : Int) == 0) = true := by simp [n8]
        by_cases n9 : N9 = 0
        · have t9 : ((N9 : Int) == 0) = true := by simp [n9]
          have ht : tapeB s = true := hc.2 ⟨n8, n9⟩
          clear hc n8 n9
          go_wp2_with (first | (go_at_call 15; ((with_reducible refine (implTapeValid_any _ _ (by omega)).mono ?_); rintro e w' ⟨rfl, rfl⟩)) | (go_at_call 14; ((with_reducible refine (specTapeValid_any _ _ (by omega)).mono ?_); rintro e w' ⟨rfl, rfl⟩)) | (go_at_call 27; ((with_reducible refine (implWordValid_any _ _ (by omega)).mono ?_); rintro e w' ⟨rfl, rfl⟩)) | (go_at_call 28; ((with_reducible refine (LetterCounts_word _ _ (by assumption)).mono ?_); rintro e w2 ⟨g, rfl, ho, hb2⟩; have k8 := ho.at_ HC8.out; have k9 := ho.at_ HC9.out; clear ho)))
          go_ret
          exact ⟨rfl, bt hb1 hb2⟩
        · have t9 : ((N9 : Int) == 0) = false := by rw [beq_eq_false_iff_ne]; omega
          have ht : tapeB s = false := by
            cases e : tapeB s
            · rfl
            · exact absurd (hc.1 e).2 n9
          clear hc n8 n9
          go_wp2_with (first | (go_at_call 15; ((with_reducible refine (implTapeValid_any _ _ (by omega)).mono ?_); rintro e w' ⟨rfl, rfl⟩)) | (go_at_call 14; ((with_reducible refine (specTapeValid_any _ _ (by omega)).mono ?_); rintro e w' ⟨rfl, rfl⟩)) | (go_at_call 27; ((with_reducible refine (implWordValid_any _ _ (by omega)).mono ?_); rintro e w' ⟨rfl, rfl⟩)) | (go_at_call 28; ((with_reducible refine (LetterCounts_word _ _ (by assumption)).mono ?_); rintro e w2 ⟨g, rfl, ho, hb2⟩; have k8 := ho.at_ HC8.out; have k9 := ho.at_ HC9.out; clear ho)))
          go_ret
          exact ⟨rfl, bt hb1 hb2⟩
      · have t8 : ((N8 : Int) == 0) = false := by rw [beq_eq_false_iff_ne]; omega
        have ht : tapeB s = false := by
          cases e : tapeB s
          · rfl
          · exact absurd (hc.1 e).1 n8
        clear hc n8
        go_wp2_with (first | (go_at_call 15; ((with_reducible refine (implTapeValid_any _ _ (by omega)).mono ?_); rintro e w' ⟨rfl, rfl⟩)) | (go_at_call 14; ((with_reducible refine (specTapeValid_any _ _ (by omega)).mono ?_); rintro e w' ⟨rfl, rfl⟩)) | (go_at_call 27; ((with_reducible refine (implWordValid_any _ _ (by omega)).mono ?_); rintro e w' ⟨rfl, rfl⟩)) | (go_at_call 28; ((with_reducible refine (LetterCounts_word _ _ (by assumption)).mono ?_); rintro e w2 ⟨g, rfl, ho, hb2⟩; have k8 := ho.at_ HC8.out; have k9 := ho.at_ HC9.out; clear ho)))
        go_ret
        exact ⟨rfl, bt hb1 hb2⟩

theorem rcXor_any (v u : ByteArray) (w : World) (hv : v.size ≤ 4294967296) (hu : u.size ≤ 4294967296) :
    Calls Try.prog 30 #[.string v, .string u] w fun e w' => e = .returned (.string (xorT v u).1) ∧ Below w.heap.size w w' := by
  go_enter Try.func30, Try.ntmps30
  go_wp2_with (go_at_call 19; ((with_reducible refine (implXorTapes_any _ _ _ (by omega) (by omega)).mono ?_); rintro e w1 ⟨rfl, hb1⟩))
  go_ret
  exact ⟨rfl, hb1⟩
set_option maxRecDepth 100000 in
theorem xorTwice_walk (a : Option Addr) (len cap : Nat) (zs : List Int) (w : World) (h : IsRow .u8 w a len cap zs) :
    Calls Try.prog 10 #[.slice a len cap] w fun e w' => e = .returned (.bool true) ∧ Below w.heap.size w w' := by
  by_cases hl : 1048576 < len
  · go_enter Try.func10, Try.ntmps10
    go_wp2
    go_ret
    exact ⟨rfl, Below.refl _ _⟩
  · go_enter Try.func10, Try.ntmps10
    go_wp2_with fail
    refine (DrawXorTapes_any a len cap zs w h (by omega)).mono ?_
    rintro e w1 ⟨v, u, hv, hu, rfl, hb1⟩
    by_cases ht : tapeB v = true ∧ tapeB u = true ∧ v.size = u.size
    · obtain ⟨t1, t2, t3⟩ := ht
      have x0 := xorT_ok t1 t2 t3
      have x1 := xorT_back t1 t2 t3
      have x2 := xorT_back' t1 t2 t3
      have x3 := xorT_comm t1 t2 t3
      have ts := tape_sum t1 t2 t3
      have hz := size_sum t3
      generalize S (xorL (L v) (L u)) = s at x0 x1 x2 x3 ts hz
      have hs : s.size ≤ 1001 := by omega
      have hne : ((v.size : Int) == (u.size : Int)) = true := by simp [t3]
      have X0 := Lib.hid x0
      have X1 := Lib.hid x1
      have X2 := Lib.hid x2
      have X3 := Lib.hid x3
      clear x0 x1 x2 x3 hz t3
      go_wp2_with fail
      refine (implXorTapes_any _ _ _ (by omega) (by omega)).mono ?_
      rintro e w2 ⟨rfl, hb2⟩
      rw [X0.out]
      go_wp2_with fail
      refine (specXorTapes_any _ _ _ (by omega) (by omega)).mono ?_
      rintro e w3 ⟨rfl, hb3⟩
      rw [X0.out]
      go_wp2_with (go_at_call 15; ((with_reducible refine (implTapeValid_any _ _ (by omega)).mono ?_); rintro e w' ⟨rfl, rfl⟩))
      refine (rcXor_any _ _ _ (by omega) (by omega)).mono ?_
      rintro e w4 ⟨rfl, hb4⟩
      rw [X1.out]
      go_wp2_with fail
      refine (rcXor_any _ _ _ (by omega) (by omega)).mono ?_
      rintro e w5 ⟨rfl, hb5⟩
      rw [X2.out]
      go_wp2_with fail
      refine (rcXor_any _ _ _ (by omega) (by omega)).mono ?_
      rintro e w6 ⟨rfl, hb6⟩
      rw [X3.out]
      go_wp2
      go_ret
      exact ⟨rfl, bt (bt (bt (bt (bt hb1 hb2) hb3) hb4) hb5) hb6⟩
    · have X0 := Lib.hid (xorT_no ht)
      cases t1 : tapeB v
      · clear ht
        go_wp2_with fail
        refine (implXorTapes_any _ _ _ (by omega) (by omega)).mono ?_
        rintro e w2 ⟨rfl, hb2⟩
        rw [X0.out]
        go_wp2_with fail
        refine (specXorTapes_any _ _ _ (by omega) (by omega)).mono ?_
        rintro e w3 ⟨rfl, hb3⟩
        rw [X0.out]
        go_wp2_with (go_at_call 15; ((with_reducible refine (implTapeValid_any _ _ (by omega)).mono ?_); rintro e w' ⟨rfl, rfl⟩))
        go_ret
        exact ⟨rfl, bt (bt hb1 hb2) hb3⟩
      · cases t2 : tapeB u
        · clear ht
          go_wp2_with fail
          refine (implXorTapes_any _ _ _ (by omega) (by omega)).mono ?_
          rintro e w2 ⟨rfl, hb2⟩
          rw [X0.out]
          go_wp2_with fail
          refine (specXorTapes_any _ _ _ (by omega) (by omega)).mono ?_
          rintro e w3 ⟨rfl, hb3⟩
          rw [X0.out]
          go_wp2_with (go_at_call 15; ((with_reducible refine (implTapeValid_any _ _ (by omega)).mono ?_); rintro e w' ⟨rfl, rfl⟩))
          go_ret
          exact ⟨rfl, bt (bt hb1 hb2) hb3⟩
        · have hne : ((v.size : Int) == (u.size : Int)) = false := by
            simp only [t1, t2, true_and] at ht
            rw [beq_eq_false_iff_ne]; omega
          clear ht
          go_wp2_with fail
          refine (implXorTapes_any _ _ _ (by omega) (by omega)).mono ?_
          rintro e w2 ⟨rfl, hb2⟩
          rw [X0.out]
          go_wp2_with fail
          refine (specXorTapes_any _ _ _ (by omega) (by omega)).mono ?_
          rintro e w3 ⟨rfl, hb3⟩
          rw [X0.out]
          go_wp2_with (go_at_call 15; ((with_reducible refine (implTapeValid_any _ _ (by omega)).mono ?_); rintro e w' ⟨rfl, rfl⟩))
          go_ret
          exact ⟨rfl, bt (bt hb1 hb2) hb3⟩
end Go.Proofs.Ytegbmjdaohnlaaa
