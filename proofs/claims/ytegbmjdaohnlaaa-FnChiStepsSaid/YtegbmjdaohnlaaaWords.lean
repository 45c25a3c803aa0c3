/- Contracts of the functions on letters, words and tapes that only compute. -/
import Derived.Test.YtegbmjdaohnlaaaProg
import Derived.Test.YtegbmjdaohnlaaaBase
namespace Go.Proofs.Ytegbmjdaohnlaaa
open Go.RowKit

theorem l1Digit_any (s : ByteArray) (i : Int) (w : World) (h0 : 0 ≤ i) (hi : i < s.size) (hs : s.size ≤ 4294967296) :
    Calls Try.prog 40 #[.string s, .int .i64 i] w fun e w' => e = .returned (.int .i64 (dig (s[i.toNat]'(by omega)))) ∧ w = w' := by
  obtain ⟨n, rfl⟩ := Int.eq_ofNat_of_zero_le h0
  have hb := byte_lt (s[n]'(by omega))
  go_enter Try.func40, Try.ntmps40
  go_wp2
  go_ret
  exact ⟨rfl, rfl⟩

theorem l1In_any (n lo hi : Int) (w : World) :
    Calls Try.prog 63 #[.int .i64 n, .int .i64 lo, .int .i64 hi] w fun e w' => e = .returned (.bool (decide (lo ≤ n) && decide (n ≤ hi))) ∧ w = w' := by
  by_cases h1 : lo ≤ n <;> by_cases h2 : n ≤ hi
  all_goals
    go_enter Try.func63, Try.ntmps63
    go_wp2
    go_ret
    exact ⟨ret_bool (by simp [h1, h2]), rfl⟩

theorem specWordValid_any (s : ByteArray) (w : World) (hs : s.size ≤ 4294967296) :
    Calls Try.prog 39 #[.string s] w fun e w' => e = .returned (.bool (wordB s)) ∧ w = w' := by
  by_cases h : 200 < s.size
  · go_enter Try.func39, Try.ntmps39
    go_wp2
    go_ret
    exact ⟨ret_bool (wordB_long h).symm, rfl⟩
  · go_enter Try.func39, Try.ntmps39
    go_wp2
    go_loop [3] (fun i => ∃ k : Nat, k ≤ s.size ∧ i = .int .i64 k ∧ allTo isL s k) (fun i => s.size - (intOf i).toNat)
    case atStart => exact ⟨0, Nat.zero_le _, rfl, allTo_zero _ _⟩
    case round =>
      obtain ⟨k, hk, rfl, ha⟩ := hrel
      by_cases hlt : k < s.size
      · by_cases hd : 0 ≤ dig s[k] ∧ dig s[k] ≤ 9
        · obtain ⟨hd0, hd1⟩ := hd
          go_wp2_with (first | (go_at_call 40; ((with_reducible refine (l1Digit_any _ _ _ (by omega) (by omega) (by omega)).mono ?_); rintro e w' ⟨rfl, rfl⟩)) | (go_at_call 63; ((with_reducible refine (l1In_any _ _ _ _).mono ?_); rintro e w' ⟨rfl, rfl⟩)))
          go_round
          case rel => exact ⟨k + 1, by omega, by go_num, allTo_succ ha hlt ((isL_iff _).2 ⟨hd0, hd1⟩)⟩
          case measure => simp [intOf]; omega
        · go_wp2_with (first | (go_at_call 40; ((with_reducible refine (l1Digit_any _ _ _ (by omega) (by omega) (by omega)).mono ?_); rintro e w' ⟨rfl, rfl⟩)) | (go_at_call 63; ((with_reducible refine (l1In_any _ _ _ _).mono ?_); rintro e w' ⟨rfl, rfl⟩)))
          all_goals first | (go_ret; exact ⟨ret_bool (wordB_no hlt (isL_no (by omega))).symm, rfl⟩) | (exfalso; simp at *; omega)
      · go_wp2
        go_ret
        exact ⟨ret_bool (wordB_yes (by omega) ha (by omega)).symm, rfl⟩

theorem specTapeValid_any (s : ByteArray) (w : World) (hs : s.size ≤ 4294967296) :
    Calls Try.prog 14 #[.string s] w fun e w' => e = .returned (.bool (tapeB s)) ∧ w = w' := by
  by_cases hw : wordB s = true
  · go_enter Try.func14, Try.ntmps14
    go_wp2_with (go_at_call 39; ((with_reducible refine (specWordValid_any _ _ (by omega)).mono ?_); rintro e w' ⟨rfl, rfl⟩))
    go_loop [3] (fun i => ∃ k : Nat, k ≤ s.size ∧ i = .int .i64 k ∧ allTo isTp s k) (fun i => s.size - (intOf i).toNat)
    case atStart => exact ⟨0, Nat.zero_le _, rfl, allTo_zero _ _⟩
    case round =>
      obtain ⟨k, hk, rfl, ha⟩ := hrel
      by_cases hlt : k < s.size
      · obtain ⟨hd0, _⟩ := wordB_at hw k hlt
        by_cases hd : dig s[k] ≤ 7
        · go_wp2_with (go_at_call 40; ((with_reducible refine (l1Digit_any _ _ _ (by omega) (by omega) (by omega)).mono ?_); rintro e w' ⟨rfl, rfl⟩))
          go_round
          case rel => exact ⟨k + 1, by omega, by go_num, allTo_succ ha hlt ((isTp_iff _).2 ⟨hd0, hd⟩)⟩
          case measure => simp [intOf]; omega
        · go_wp2_with (go_at_call 40; ((with_reducible refine (l1Digit_any _ _ _ (by omega) (by omega) (by omega)).mono ?_); rintro e w' ⟨rfl, rfl⟩))
          go_ret
          exact ⟨ret_bool (tapeB_no hlt (isTp_no (by omega))).symm, rfl⟩
      · go_wp2
        go_ret
        exact ⟨ret_bool (tapeB_yes (wordB_size hw) ha (by omega)).symm, rfl⟩
  · have hf : wordB s = false := by simpa using hw
    clear hw
    have ht : tapeB s = false := by
      cases e : tapeB s
      · rfl
      · rw [tapeB_word e] at hf; cases hf
    go_enter Try.func14, Try.ntmps14
    go_wp2_with (go_at_call 39; ((with_reducible refine (specWordValid_any _ _ (by omega)).mono ?_); rintro e w' ⟨rfl, rfl⟩))
    go_ret
    exact ⟨ret_bool (by rw [ht]), rfl⟩

theorem implTapeValid_any (s : ByteArray) (w : World) (hs : s.size ≤ 4294967296) :
    Calls Try.prog 15 #[.string s] w fun e w' => e = .returned (.bool (tapeB s)) ∧ w = w' := by
  by_cases h : 200 < s.size
  · go_enter Try.func15, Try.ntmps15
    go_wp2
    go_ret
    exact ⟨ret_bool (tapeB_long h).symm, rfl⟩
  · go_enter Try.func15, Try.ntmps15
    go_wp2
    go_loop [9] (fun i => ∃ k : Nat, k ≤ s.size ∧ i = .int .i64 k ∧ allTo isTp s k) (fun i => s.size - (intOf i).toNat)
    case atStart => exact ⟨0, Nat.zero_le _, rfl, allTo_zero _ _⟩
    case round =>
      obtain ⟨k, hk, rfl, ha⟩ := hrel
      by_cases hlt : k < s.size
      · have hb := byte_lt s[k]
        by_cases h1 : (s[k].toNat : Int) < 97
        · go_wp2
          go_ret
          exact ⟨ret_bool (tapeB_no hlt (isTp_no (by unfold dig; omega))).symm, rfl⟩
        · by_cases h2 : (105 : Int) ≤ s[k].toNat
          · go_wp2
            go_ret
            exact ⟨ret_bool (tapeB_no hlt (isTp_no (by unfold dig; omega))).symm, rfl⟩
          · go_wp2
            go_round
            case rel => exact ⟨k + 1, by omega, by go_num, allTo_succ ha hlt ((isTp_iff _).2 ⟨by unfold dig; omega, by unfold dig; omega⟩)⟩
            case measure => simp [intOf]; omega
      · go_wp2
        go_ret
        exact ⟨ret_bool (tapeB_yes (by omega) ha (by omega)).symm, rfl⟩

theorem exactTapeValid_walk (s : ByteArray) (w : World) (_hs : s.size ≤ maxLen) :
    Calls Try.prog 3 #[.string s] w fun e w' => e = .returned (.bool true) ∧ Below w.heap.size w w' := by
  by_cases h : 1048576 < s.size
  · go_enter Try.func3, Try.ntmps3
    go_wp2
    go_ret
    exact ⟨rfl, Below.refl _ _⟩
  · go_enter Try.func3, Try.ntmps3
    go_wp2_with (first | (go_at_call 14; ((with_reducible refine (specTapeValid_any _ _ (by omega)).mono ?_); rintro e w' ⟨rfl, rfl⟩)) | (go_at_call 15; ((with_reducible refine (implTapeValid_any _ _ (by omega)).mono ?_); rintro e w' ⟨rfl, rfl⟩)))
    go_ret
    exact ⟨rfl, Below.refl _ _⟩
end Go.Proofs.Ytegbmjdaohnlaaa
