/- Contracts of the functions that make letters and words. -/
import Derived.Test.YtaplndmgbinhcaaGreatWords
import Derived.Test.YtaplndmgbinhcaaGreatMem
namespace Go.Proofs.YtaplndmgbinhcaaGreat
open Go.RowKit

theorem l1Letter_any (n : Int) (w : World) :
    Calls Tryz.prog 36 #[.int .i64 n] w fun e w' => e = .returned (.string (S [letr n])) ∧ Below w.heap.size w w' := by
  obtain ⟨hl, hr, he⟩ := tmod10 n
  have He := Lib.hid he
  clear he
  have hc := fun (v : Int) => run_conv_new (P := Tryz.prog) w 22 9 5 Tryz.underlying22 Tryz.underlying5 Tryz.underlying9 [v]
  simp only [List.map_cons, List.map_nil, List.length_cons, List.length_nil, Nat.zero_add] at hc
  go_enter Tryz.func36, Tryz.ntmps36
  go_wp2
  go_ret
  refine ⟨ret_str ?_, (Below.refl _ _).alloc (Nat.le_refl _) _⟩
  rw [He.out]
  simp only [letr]
  congr 3
  omega
theorem implNumber_any (b : UInt8) (w : World) (h0 : 97 ≤ b.toNat) :
    Calls Tryz.prog 27 #[.int .u8 (b.toNat : Int)] w fun e w' => e = .returned (.int .i64 (dig b)) ∧ w = w' := by
  have hb := byte_lt b
  go_enter Tryz.func27, Tryz.ntmps27
  go_wp2
  go_ret
  exact ⟨rfl, rfl⟩
theorem implLetter_any (n : Int) (w : World) (h0 : 0 ≤ n) (h1 : n ≤ 9) :
    Calls Tryz.prog 38 #[.int .i64 n] w fun e w' => e = .returned (.int .u8 ((letr n).toNat : Int)) ∧ w = w' := by
  go_enter Tryz.func38, Tryz.ntmps38
  go_wp2
  go_ret
  exact ⟨ret_int (by rw [letr_toNat]; omega), rfl⟩
theorem implIsLetter_any (b : UInt8) (w : World) :
    Calls Tryz.prog 42 #[.int .u8 (b.toNat : Int)] w fun e w' => e = .returned (.bool (isL b)) ∧ w = w' := by
  have hb := byte_lt b
  by_cases h1 : (97 : Int) ≤ b.toNat <;> by_cases h2 : (b.toNat : Int) < 107
  all_goals
    go_enter Tryz.func42, Tryz.ntmps42
    go_wp2
    go_ret
    exact ⟨ret_bool (by simp [isL]; omega), rfl⟩

end Go.Proofs.YtaplndmgbinhcaaGreat
