/- Contracts of the functions on letters, words and tapes that only compute. -/
import Derived.Test.YtaplndmgbinhcaaGreatProg
import Derived.Test.YtaplndmgbinhcaaGreatBase
namespace Go.Proofs.YtaplndmgbinhcaaGreat
open Go.RowKit

theorem l1Digit_any (s : ByteArray) (i : Int) (w : World) (h0 : 0 ≤ i) (hi : i < s.size) (hs : s.size ≤ 4294967296) :
    Calls Tryz.prog 37 #[.string s, .int .i64 i] w fun e w' => e = .returned (.int .i64 (dig (s[i.toNat]'(by omega)))) ∧ w = w' := by
  obtain ⟨n, rfl⟩ := Int.eq_ofNat_of_zero_le h0
  have hb := byte_lt (s[n]'(by omega))
  go_enter Tryz.func37, Tryz.ntmps37
  go_wp2
  go_ret
  exact ⟨rfl, rfl⟩

theorem l1In_any (n lo hi : Int) (w : World) :
    Calls Tryz.prog 51 #[.int .i64 n, .int .i64 lo, .int .i64 hi] w fun e w' => e = .returned (.bool (decide (lo ≤ n) && decide (n ≤ hi))) ∧ w = w' := by
  by_cases h1 : lo ≤ n <;> by_cases h2 : n ≤ hi
  all_goals
    go_enter Tryz.func51, Tryz.ntmps51
    go_wp2
    go_ret
    exact ⟨ret_bool (by simp [h1, h2]), rfl⟩

theorem specWordValid_any (s : ByteArray) (w : World) (hs : s.size ≤ 4294967296) :
    Calls Tryz.prog 33 #[.string s] w fun e w' => e = .returned (.bool (wordB s)) ∧ w = w' := by
  by_cases h : 200 < s.size
  · go_enter Tryz.func33, Tryz.ntmps33
    go_wp2
    go_ret
    exact ⟨ret_bool (wordB_long h).symm, rfl⟩
  · go_enter Tryz.func33, Tryz.ntmps33
    go_wp2
    go_loop [3] (fun i => ∃ k : Nat, k ≤ s.size ∧ i = .int .i64 k ∧ allTo isL s k) (fun i => s.size - (intOf i).toNat)
    case atStart => exact ⟨0, Nat.zero_le _, rfl, allTo_zero _ _⟩
    case round =>
      obtain ⟨k, hk, rfl, ha⟩ := hrel
      by_cases hlt : k < s.size
      · by_cases hd : 0 ≤ dig s[k] ∧ dig s[k] ≤ 9
        · obtain ⟨hd0, hd1⟩ := hd
          go_wp2_with (first | (go_at_call 37; ((with_reducible refine (l1Digit_any _ _ _ (by omega) (by omega) (by omega)).mono ?_); rintro e w' ⟨rfl, rfl⟩)) | (go_at_call 51; ((with_reducible refine (l1In_any _ _ _ _).mono ?_); rintro e w' ⟨rfl, rfl⟩)))
          go_round
          case rel => exact ⟨k + 1, by omega, by go_num, allTo_succ ha hlt ((isL_iff _).2 ⟨hd0, hd1⟩)⟩
          case measure => simp [intOf]; omega
        · go_wp2_with (first | (go_at_call 37; ((with_reducible refine (l1Digit_any _ _ _ (by omega) (by omega) (by omega)).mono ?_); rintro e w' ⟨rfl, rfl⟩)) | (go_at_call 51; ((with_reducible refine (l1In_any _ _ _ _).mono ?_); rintro e w' ⟨rfl, rfl⟩)))
          all_goals first | (go_ret; exact ⟨ret_bool (wordB_no hlt (isL_no (by omega))).symm, rfl⟩) | (exfalso; simp at *; omega)
      · go_wp2
        go_ret
        exact ⟨ret_bool (wordB_yes (by omega) ha (by omega)).symm, rfl⟩

end Go.Proofs.YtaplndmgbinhcaaGreat
