/- The walk of the law on the bits of a sum. -/
import Derived.Test.YtegbmjdaohnlaaaTapeLaws
namespace Go.Proofs.Ytegbmjdaohnlaaa
open Go.RowKit

set_option maxRecDepth 100000 in
set_option maxHeartbeats 1000000 in
theorem xorBits_walk (a : Option Addr) (len cap : Nat) (zs : List Int) (w : World) (h : IsRow .u8 w a len cap zs) :
    Calls Try.prog 9 #[.slice a len cap] w fun e w' => e = .returned (.bool true) ∧ Below w.heap.size w w' := by
  by_cases hl : 1048576 < len
  · go_enter Try.func9, Try.ntmps9
    go_wp2
    go_ret
    exact ⟨rfl, Below.refl _ _⟩
  · go_enter Try.func9, Try.ntmps9
    go_wp2_with fail
    refine (DrawXorTapes_any a len cap zs w h (by omega)).mono ?_
    rintro e w1 ⟨v, u, hv, hu, rfl, hb1⟩
    by_cases ht : tapeB v = true ∧ tapeB u = true ∧ v.size = u.size
    · obtain ⟨t1, t2, t3⟩ := ht
      have X0 := Lib.hid (xorT_ok t1 t2 t3)
      have hz := size_sum t3
      have hbits : Hid (∀ i (h1 : i < v.size) (h2 : i < u.size) (h3 : i < (S (xorL (L v) (L u))).size), dig (S (xorL (L v) (L u)))[i] = (xn v[i] u[i] : Nat)) := by
        intro i h1 h2 h3
        have hd1 := tapeB_at t1 i h1
        have hd2 := tapeB_at t2 i h2
        rw [get_S h3]
        simp only [xorL, List.getElem_zipWith]
        exact dig_xor hd1.2 hd2.2
      generalize S (xorL (L v) (L u)) = s at *
      have hs : s.size ≤ 1001 := by omega
      have hz1 : s.size ≤ v.size := by omega
      have hz2 : s.size ≤ u.size := by omega
      have hze : ((s.size : Int) == (v.size : Int)) = true := by simp [hz]
      clear t3 hz
      go_wp2_with fail
      refine (implXorTapes_any _ _ _ (by omega) (by omega)).mono ?_
      rintro e w2 ⟨rfl, hb2⟩
      rw [X0.out]
      go_wp2_with fail
      refine (specXorTapes_any _ _ _ (by omega) (by omega)).mono ?_
      rintro e w3 ⟨rfl, hb3⟩
      rw [X0.out]
      have hbw := bt (bt hb1 hb2) hb3
      clear hb1 hb2 hb3
      go_wp2
      go_loop [9] (fun i => ∃ k : Nat, k ≤ s.size ∧ i = .int .i64 k) (fun i => s.size - (intOf i).toNat)
      case atStart => exact ⟨0, Nat.zero_le _, rfl⟩
      case round =>
        obtain ⟨i, hi, rfl⟩ := hrel
        by_cases hlt : i < s.size
        · have i1 : i < v.size := by omega
          have i2 : i < u.size := by omega
          have b1 := byte_lt v[i]
          have b2 := byte_lt u[i]
          have b3 := byte_lt s[i]
          have d1 := tapeB_at t1 i i1
          have d2 := tapeB_at t2 i i2
          have hb := hbits.out i i1 i2 hlt
          have HF : Hid (∀ k : Nat, ∃ c1 c2 c3 : Int, bits .and .i64 (((v[i].toNat : Int) - 97) / 2 ^ k) 1 = c1 ∧ bits .and .i64 (((u[i].toNat : Int) - 97) / 2 ^ k) 1 = c2 ∧ bits .and .i64 (((s[i].toNat : Int) - 97) / 2 ^ k) 1 = c3 ∧
            0 ≤ c1 ∧ c1 ≤ 1 ∧ 0 ≤ c2 ∧ c2 ≤ 1 ∧ (c3 != (c1 + c2) % 2) = false) := fun k => bits_fact d1.1 d2.1 hb k
          clear hb d1 d2
          go_wp2
          go_loop [10, 11, 12] (fun i _ _ => ∃ k : Nat, k ≤ 3 ∧ i = .int .i64 k) (fun i _ _ => 3 - (intOf i).toNat)
          case atStart => exact ⟨0, Nat.zero_le _, rfl⟩
          case round =>
            obtain ⟨k, hk, rfl⟩ := hrel
            by_cases hk3 : k < 3
            · obtain ⟨c1, c2, c3, f1, f2, f3, g1, g2, g3, g4, g5⟩ := HF.out k
              go_wp2
              go_round
              case rel => exact ⟨k + 1, by omega, by go_num⟩
              case measure => simp [intOf]; omega
            · go_wp2
              go_round
              case rel => exact ⟨i + 1, by omega, by go_num⟩
              case measure => simp [intOf]; omega
        · go_wp2
          go_ret
          exact ⟨rfl, hbw⟩
    · have X0 := Lib.hid (xorT_no ht)
      clear ht
      go_wp2_with fail
      refine (implXorTapes_any _ _ _ (by omega) (by omega)).mono ?_
      rintro e w2 ⟨rfl, hb2⟩
      rw [X0.out]
      go_wp2_with fail
      refine (specXorTapes_any _ _ _ (by omega) (by omega)).mono ?_
      rintro e w3 ⟨rfl, hb3⟩
      rw [X0.out]
      go_wp2
      go_ret
      exact ⟨rfl, bt (bt hb1 hb2) hb3⟩
end Go.Proofs.Ytegbmjdaohnlaaa
