/- Contracts of the functions that make letters and words. -/
import Derived.Test.YtegbmjdaohnlaaaWords
import Derived.Test.YtegbmjdaohnlaaaMem
namespace Go.Proofs.Ytegbmjdaohnlaaa
open Go.RowKit

theorem l1Letter_any (n : Int) (w : World) :
    Calls Try.prog 41 #[.int .i64 n] w fun e w' => e = .returned (.string (S [letr n])) ∧ Below w.heap.size w w' := by
  obtain ⟨hl, hr, he⟩ := tmod10 n
  have He := Lib.hid he
  clear he
  have hc := fun (v : Int) => run_conv_new (P := Try.prog) w 27 9 5 Try.underlying27 Try.underlying5 Try.underlying9 [v]
  simp only [List.map_cons, List.map_nil, List.length_cons, List.length_nil, Nat.zero_add] at hc
  go_enter Try.func41, Try.ntmps41
  go_wp2
  go_ret
  refine ⟨ret_str ?_, (Below.refl _ _).alloc (Nat.le_refl _) _⟩
  rw [He.out]
  simp only [letr]
  congr 3
  omega
theorem implNumber_any (b : UInt8) (w : World) (h0 : 97 ≤ b.toNat) :
    Calls Try.prog 55 #[.int .u8 (b.toNat : Int)] w fun e w' => e = .returned (.int .i64 (dig b)) ∧ w = w' := by
  have hb := byte_lt b
  go_enter Try.func55, Try.ntmps55
  go_wp2
  go_ret
  exact ⟨rfl, rfl⟩
theorem implLetter_any (n : Int) (w : World) (h0 : 0 ≤ n) (h1 : n ≤ 9) :
    Calls Try.prog 64 #[.int .i64 n] w fun e w' => e = .returned (.int .u8 ((letr n).toNat : Int)) ∧ w = w' := by
  go_enter Try.func64, Try.ntmps64
  go_wp2
  go_ret
  exact ⟨ret_int (by rw [letr_toNat]; omega), rfl⟩
theorem implIsLetter_any (b : UInt8) (w : World) :
    Calls Try.prog 54 #[.int .u8 (b.toNat : Int)] w fun e w' => e = .returned (.bool (isL b)) ∧ w = w' := by
  have hb := byte_lt b
  by_cases h1 : (97 : Int) ≤ b.toNat <;> by_cases h2 : (b.toNat : Int) < 107
  all_goals
    go_enter Try.func54, Try.ntmps54
    go_wp2
    go_ret
    exact ⟨ret_bool (by simp [isL]; omega), rfl⟩

theorem specXorTapes_any (v u : ByteArray) (w : World) (hv : v.size ≤ 4294967296) (hu : u.size ≤ 4294967296) :
    Calls Try.prog 18 #[.string v, .string u] w fun e w' => e = .returned (.tuple #[.string (xorT v u).1, .bool (xorT v u).2]) ∧ Below w.heap.size w w' := by
  by_cases ht : tapeB v = true ∧ tapeB u = true ∧ v.size = u.size
  · obtain ⟨h1, h2, h3⟩ := ht
    have he : xorT v u = (S (xorL (L v) (L u)), true) := by simp [xorT, h1, h2, h3]
    have He := Lib.hid he
    clear he
    have H3 := Lib.hid h3
    have hne : ((v.size : Int) != (u.size : Int)) = false := by simp [h3]
    have hle : v.size ≤ u.size := by omega
    have hb : v.size ≤ 200 := tapeB_size h1
    clear h3
    go_enter Try.func18, Try.ntmps18
    go_wp2_with (go_at_call 14; ((with_reducible refine (specTapeValid_any _ _ (by omega)).mono ?_); rintro e w' ⟨rfl, rfl⟩))
    go_loopw [6, 7] (fun o i wr => ∃ k : Nat, k ≤ v.size ∧ i = .int .i64 k ∧ o = .string (S ((xorL (L v) (L u)).take k)) ∧ Below w.heap.size w wr) (fun _ i _ => v.size - (intOf i).toNat)
    case atStart => exact ⟨0, Nat.zero_le _, rfl, rfl, Below.refl _ _⟩
    case round =>
      obtain ⟨k, hk, rfl, rfl, hbel⟩ := hrel
      by_cases hlt : k < v.size
      · have hd1 := tapeB_at h1 k hlt
        have hd2 := tapeB_at h2 k (by omega)
        have hx := xor_dig hd1.1 hd2.1
        have hxl := xn_lt hd1.2 hd2.2
        have hts := Lib.hid (xorL_take_succ hlt (Nat.lt_of_lt_of_le hlt hle))
        have hsz : (S ((xorL (L v) (L u)).take k)).size ≤ 200 := by rw [size_S]; have := List.length_take_le k (xorL (L v) (L u)); omega
        have hs1 : (S [letr (xn v[k] u[k] : Nat)]).size ≤ 1 := by rw [size_S]; simp
        go_wp2_with (first | (go_at_call 40; ((with_reducible refine (l1Digit_any _ _ _ (by omega) (by omega) (by omega)).mono ?_); rintro e w' ⟨rfl, rfl⟩)) | (go_at_call 41; ((with_reducible refine (l1Letter_any _ _).mono ?_); rintro e w' ⟨rfl, hb1⟩)))
        go_roundw
        case rel => exact ⟨k + 1, by omega, by go_num, by rw [hts.out, S_append], hbel.trans (hb1.mono hbel.size)⟩
        case measure => simp [intOf]; omega
      · go_wp2
        go_ret2
        exact ⟨by rw [He.out, List.take_of_length_le (by rw [length_xorL, size_L, size_L]; omega)]; rfl, hbel⟩
  · have he : xorT v u = (S [], false) := by simp only [xorT, if_neg ht]
    have He := Lib.hid he
    clear he
    by_cases h1 : tapeB v = true
    · by_cases h2 : tapeB u = true
      · have hne : ((v.size : Int) != (u.size : Int)) = true := by
          simp only [h1, h2, true_and] at ht
          rw [bne_iff_ne]; omega
        clear ht
        go_enter Try.func18, Try.ntmps18
        go_wp2_with (go_at_call 14; ((with_reducible refine (specTapeValid_any _ _ (by omega)).mono ?_); rintro e w' ⟨rfl, rfl⟩))
        go_ret2
        exact ⟨by rw [He.out]; rfl, Below.refl _ _⟩
      · have h2' : tapeB u = false := by simpa using h2
        clear h2 ht
        go_enter Try.func18, Try.ntmps18
        go_wp2_with (go_at_call 14; ((with_reducible refine (specTapeValid_any _ _ (by omega)).mono ?_); rintro e w' ⟨rfl, rfl⟩))
        go_ret2
        exact ⟨by rw [He.out]; rfl, Below.refl _ _⟩
    · have h1' : tapeB v = false := by simpa using h1
      clear h1 ht
      go_enter Try.func18, Try.ntmps18
      go_wp2_with (go_at_call 14; ((with_reducible refine (specTapeValid_any _ _ (by omega)).mono ?_); rintro e w' ⟨rfl, rfl⟩))
      go_ret2
      exact ⟨by rw [He.out]; rfl, Below.refl _ _⟩

theorem specDeltaTape_any (v : ByteArray) (w : World) (hv : v.size ≤ 4294967296) :
    Calls Try.prog 16 #[.string v] w fun e w' => e = .returned (.string (deltaT v)) ∧ Below w.heap.size w w' := by
  by_cases h1 : tapeB v = true
  · have he : deltaT v = S (xorL (L v) (L v).tail) := by simp [deltaT, h1]
    have He := Lib.hid he
    clear he
    have hb : v.size ≤ 200 := tapeB_size h1
    go_enter Try.func16, Try.ntmps16
    go_wp2_with (go_at_call 14; ((with_reducible refine (specTapeValid_any _ _ (by omega)).mono ?_); rintro e w' ⟨rfl, rfl⟩))
    go_loopw [3, 4] (fun o i wr => ∃ k : Nat, k ≤ v.size ∧ i = .int .i64 k ∧ o = .string (S ((xorL (L v) (L v).tail).take k)) ∧ Below w.heap.size w wr) (fun _ i _ => v.size - (intOf i).toNat)
    case atStart => exact ⟨0, Nat.zero_le _, rfl, rfl, Below.refl _ _⟩
    case round =>
      obtain ⟨k, hk, rfl, rfl, hbel⟩ := hrel
      by_cases hlt : k + 1 < v.size
      · have hd1 := tapeB_at h1 k (by omega)
        have hd2 := tapeB_at h1 (k + 1) hlt
        have hx := xor_dig hd1.1 hd2.1
        have hxl := xn_lt hd1.2 hd2.2
        have hts := Lib.hid (deltaL_take_succ hlt)
        have hsz : (S ((xorL (L v) (L v).tail).take k)).size ≤ 200 := by rw [size_S]; have := List.length_take_le k (xorL (L v) (L v).tail); omega
        have hs1 : (S [letr (xn v[k] v[k + 1] : Nat)]).size ≤ 1 := by rw [size_S]; simp
        go_wp2_with (first | (go_at_call 40; ((with_reducible refine (l1Digit_any _ _ _ (by omega) (by omega) (by omega)).mono ?_); rintro e w' ⟨rfl, rfl⟩)) | (go_at_call 41; ((with_reducible refine (l1Letter_any _ _).mono ?_); rintro e w' ⟨rfl, hb1⟩)))
        go_roundw
        case rel => exact ⟨k + 1, by omega, by go_num, by rw [hts.out, S_append], hbel.trans (hb1.mono hbel.size)⟩
        case measure => simp [intOf]; omega
      · go_wp2
        go_ret
        exact ⟨ret_str (by rw [He.out, List.take_of_length_le (by rw [length_xorL, List.length_tail, size_L]; omega)]), hbel⟩
  · have h1' : tapeB v = false := by simpa using h1
    have he : deltaT v = S [] := by simp [deltaT, h1']
    have He := Lib.hid he
    clear he h1
    go_enter Try.func16, Try.ntmps16
    go_wp2_with (go_at_call 14; ((with_reducible refine (specTapeValid_any _ _ (by omega)).mono ?_); rintro e w' ⟨rfl, rfl⟩))
    go_ret
    exact ⟨by rw [He.out]; rfl, Below.refl _ _⟩
end Go.Proofs.Ytegbmjdaohnlaaa
