/- The walk of the law that a tape is found from its changes. -/
import Derived.Test.YtegbmjdaohnlaaaTapeLaws
namespace Go.Proofs.Ytegbmjdaohnlaaa
open Go.RowKit

theorem DrawDeltaTape_any (a : Option Addr) (len cap : Nat) (zs : List Int) (w : World) (h : IsRow .u8 w a len cap zs) (hl : len ≤ 1048576) :
    Calls Try.prog 31 #[.slice a len cap] w (DrawStr 1001 w) := by
  go_enter Try.func31, Try.ntmps31
  go_wp2_with fail
  refine (DrawTapeValid_any a len cap zs w h hl).mono ?_
  rintro e w1 ⟨s, hs, rfl, hb1⟩
  go_wp2
  go_ret
  exact ⟨s, hs, rfl, hb1⟩

set_option maxRecDepth 100000 in
set_option maxHeartbeats 1000000 in
theorem deltaBack_walk (a : Option Addr) (len cap : Nat) (zs : List Int) (w : World) (h : IsRow .u8 w a len cap zs) :
    Calls Try.prog 11 #[.slice a len cap] w fun e w' => e = .returned (.bool true) ∧ Below w.heap.size w w' := by
  by_cases hl : 1048576 < len
  · go_enter Try.func11, Try.ntmps11
    go_wp2
    go_ret
    exact ⟨rfl, Below.refl _ _⟩
  · go_enter Try.func11, Try.ntmps11
    go_wp2_with fail
    refine (DrawDeltaTape_any a len cap zs w h (by omega)).mono ?_
    rintro e w1 ⟨v, hv, rfl, hb1⟩
    cases t1 : tapeB v
    · go_wp2_with (first | (go_at_call 17; ((with_reducible refine (implDeltaTape_any _ _ (by omega)).mono ?_); rintro e w2 ⟨rfl, hb2⟩)) | (go_at_call 16; ((with_reducible refine (specDeltaTape_any _ _ (by omega)).mono ?_); rintro e w3 ⟨rfl, hb3⟩; first | (have hb4 := bt hb2 hb3; clear hb2 hb3; have hb2 := hb4; clear hb4) | skip)) | (go_at_call 15; ((with_reducible refine (implTapeValid_any _ _ (by omega)).mono ?_); rintro e w' ⟨rfl, rfl⟩)))
      go_ret
      exact ⟨rfl, bt hb1 hb2⟩
    · by_cases h0 : v.size = 0
      · obtain ⟨hne, hne2⟩ := is_empty h0
        clear h0
        go_wp2_with (first | (go_at_call 17; ((with_reducible refine (implDeltaTape_any _ _ (by omega)).mono ?_); rintro e w2 ⟨rfl, hb2⟩)) | (go_at_call 16; ((with_reducible refine (specDeltaTape_any _ _ (by omega)).mono ?_); rintro e w3 ⟨rfl, hb3⟩; (have hb4 := bt hb2 hb3; clear hb2 hb3; have hb2 := hb4; clear hb4))) | (go_at_call 15; ((with_reducible refine (implTapeValid_any _ _ (by omega)).mono ?_); rintro e w' ⟨rfl, rfl⟩)))
        go_ret
        exact ⟨rfl, bt hb1 hb2⟩
      · obtain ⟨hne, hne2⟩ := ne_empty h0
        have hD := Lib.hid (deltaT_ok t1)
        have hz : Hid ((deltaT v).size = v.size - 1) := by
          show _ = _
          rw [hD.out, size_S, length_xorL, List.length_tail, size_L]; omega
        have hz1 : (deltaT v).size + 1 ≤ v.size := by rw [hz.out]; omega
        have hz2 : v.size ≤ (deltaT v).size + 1 := by rw [hz.out]; omega
        have hnx : Hid (∀ k, k + 1 < v.size → xorT ((v.extract 0 (k + 1)).extract k (k + 1)) ((deltaT v).extract k (k + 1)) = (S [bAt v (k + 1)], true)) := by
          intro k hk
          rw [hD.out, delta_next t1 hk, bAt_eq hk]
        clear h0
        go_wp2_with (first | (go_at_call 17; ((with_reducible refine (implDeltaTape_any _ _ (by omega)).mono ?_); rintro e w2 ⟨rfl, hb2⟩)) | (go_at_call 16; ((with_reducible refine (specDeltaTape_any _ _ (by omega)).mono ?_); rintro e w3 ⟨rfl, hb3⟩)) | (go_at_call 15; ((with_reducible refine (implTapeValid_any _ _ (by omega)).mono ?_); rintro e w' ⟨rfl, rfl⟩)))
        have hbw := bt (bt hb1 hb2) hb3
        clear hb1 hb2 hb3
        go_loopw [5, 6] (fun o i wr => ∃ k : Nat, k ≤ (deltaT v).size ∧ i = .int .i64 k ∧ o = .string (v.extract 0 (k + 1)) ∧ Below w.heap.size w wr) (fun _ i _ => (deltaT v).size - (intOf i).toNat)
        case atStart => exact ⟨0, Nat.zero_le _, rfl, rfl, hbw⟩
        case round =>
          obtain ⟨k, hk, rfl, rfl, hbr⟩ := hrel
          clear hbw
          by_cases hlt : k < (deltaT v).size
          · have hx1 := hnx.out k (by omega)
            have hrc : ∀ W : World, Calls Try.prog 30 #[.string ((v.extract 0 (k + 1)).extract k (k + 1)), .string ((deltaT v).extract k (k + 1))] W fun e w' => e = .returned (.string (S [bAt v (k + 1)])) ∧ Below W.heap.size W w' := by
              intro W
              have := rcXor_any ((v.extract 0 (k + 1)).extract k (k + 1)) ((deltaT v).extract k (k + 1)) W (by simp only [ByteArray.size_extract]; omega) (by simp only [ByteArray.size_extract]; omega)
              rw [hx1] at this
              exact this
            have Hrc := Lib.hid hrc
            clear hrc hx1
            have s1 : k + 1 ≤ (v.extract 0 (k + 1)).size := by rw [size_ext (by omega)]; omega
            have s2 : (v.extract 0 (k + 1)).size ≤ 1001 := by rw [size_ext (by omega)]; omega
            have s3 : (S [bAt v (k + 1)]).size ≤ 1 := by rw [size_S]; simp
            have hsn := Lib.hid (extract_snoc (s := v) (k := k + 1) (by omega))
            have hgb : Hid (bAt v (k + 1) = v[k + 1]'(by omega)) := bAt_eq (by omega)
            have q1 : (k : Int) + 1 ≤ (v.extract 0 (k + 1)).size := by omega
            have q2 : (k : Int) + 1 ≤ (deltaT v).size := by omega
            have q3 : (k : Int) ≤ (k : Int) + 1 := by omega
            have q4 : (0 : Int) ≤ (k : Int) + 1 := by omega
            have q5 : IntKind.i64.wrap ((k : Int) + 1) = (k : Int) + 1 := IntWalk.i64_in _ (by omega)
            have q6 : ((k : Int) + 1).toNat = k + 1 := by omega
            have q7 : ¬ 9223372036854775807 < (v.extract 0 (k + 1)).size + (S [bAt v (k + 1)]).size := by omega
            generalize hT : v.extract 0 (k + 1) = t at *
            have HT := Lib.hid hT
            clear hT
            go_wp2_with fail
            refine wp_region_cls (by kernel_rfl) (by kernel_rfl) ?_
            repeat (go_big_quiet_step (first | exact cls_of (Nat.le_refl _) (Hrc.out _)))
            refine wpQuiet_nil ?_
            intro wc hbc
            go_wp2
            go_roundw
            case rel => exact ⟨k + 1, by omega, by go_num, by rw [← hsn.out, hgb.out], hbr.trans (hbc.mono hbr.size)⟩
            case measure => simp [intOf]; omega
          · have hk2 : k = (deltaT v).size := by omega
            have he : v.extract 0 (k + 1) = v := by
              apply L_inj
              rw [L_extract, List.drop_zero, List.take_of_length_le (by rw [size_L]; omega)]
            have hq : (((deltaT v).size : Int) == (v.size : Int) - 1) = true := by rw [beq_iff_eq]; omega
            have HE := Lib.hid he
            clear he hk2
            rw [HE.out]
            go_wp2
            go_ret
            exact ⟨rfl, hbr⟩
end Go.Proofs.Ytegbmjdaohnlaaa
