/- Contracts of both StepsBack. -/
import Derived.Test.YtaplndmgbinhcaaGreatSpecS
import Derived.Test.YtaplndmgbinhcaaGreatBack
import Derived.Test.YtaplndmgbinhcaaGreatSortS
namespace Go.Proofs.YtaplndmgbinhcaaGreat
open Go.RowKit

theorem ten_le {n : Nat} (h : n ≤ 3) : 10 ^ n ≤ 1000 := Nat.pow_le_pow_right (n := 10) (by omega) h
theorem l7Size_any (n : Nat) (w : World) (hn : n ≤ 3) :
    Calls Tryz.prog 34 #[.int .i64 (n : Int)] w fun e w' => e = .returned (.int .i64 ((10 ^ n : Nat) : Int)) ∧ w = w' := by
  go_enter Tryz.func34, Tryz.ntmps34
  go_wp2
  go_loop [0, 3] (fun i o => ∃ j t : Nat, j ≤ n ∧ i = .int .i64 j ∧ o = .int .i64 t ∧ t = 10 ^ (n - j)) (fun i _ => (intOf i).toNat)
  case atStart => exact ⟨n, 1, Nat.le_refl _, rfl, rfl, by rw [Nat.sub_self]⟩
  case round =>
    obtain ⟨j, t, hj, rfl, rfl, ht⟩ := hrel
    have htl : t ≤ 1000 := by rw [ht]; exact ten_le (by omega)
    have HT := Lib.hid ht
    clear ht
    by_cases hlt : 0 < j
    · go_wp2
      go_round
      case rel =>
        refine ⟨j - 1, t * 10, by omega, ?_, by go_num, ?_⟩
        · congr 1; omega
        · rw [HT.out, show n - (j - 1) = (n - j) + 1 by omega, Nat.pow_succ]
      case measure => simp [intOf]; omega
    · go_wp2
      go_ret
      exact ⟨ret_int (by rw [HT.out, show n - j = n by omega]; simp), rfl⟩

theorem wd_cons (n : Nat) (l : List Nat) : wd (n :: l) = S [letr (n : Int)] ++ wd l := by unfold wd; rw [S_append]; simp
end Go.Proofs.YtaplndmgbinhcaaGreat
