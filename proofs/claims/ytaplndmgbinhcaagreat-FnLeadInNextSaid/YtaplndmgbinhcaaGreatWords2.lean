/- Contracts of the program's WordValid and LetterCounts. -/
import Derived.Test.YtaplndmgbinhcaaGreatLetters
namespace Go.Proofs.YtaplndmgbinhcaaGreat
open Go.RowKit

theorem implWordValid_any (s : ByteArray) (w : World) (hs : s.size ≤ 4294967296) :
    Calls Tryz.prog 26 #[.string s] w fun e w' => e = .returned (.bool (wordB s)) ∧ w = w' := by
  by_cases h : 200 < s.size
  · go_enter Tryz.func26, Tryz.ntmps26
    go_wp2
    go_ret
    exact ⟨ret_bool (wordB_long h).symm, rfl⟩
  · go_enter Tryz.func26, Tryz.ntmps26
    go_wp2
    go_loop [9] (fun i => ∃ k : Nat, k ≤ s.size ∧ i = .int .i64 k ∧ allTo isL s k) (fun i => s.size - (intOf i).toNat)
    case atStart => exact ⟨0, Nat.zero_le _, rfl, allTo_zero _ _⟩
    case round =>
      obtain ⟨k, hk, rfl, ha⟩ := hrel
      by_cases hlt : k < s.size
      · cases hd : isL s[k]
        · go_wp2_with (go_at_call 42; ((with_reducible refine (implIsLetter_any _ _).mono ?_); rintro e w' ⟨rfl, rfl⟩))
          go_ret
          exact ⟨ret_bool (wordB_no hlt hd).symm, rfl⟩
        · go_wp2_with (go_at_call 42; ((with_reducible refine (implIsLetter_any _ _).mono ?_); rintro e w' ⟨rfl, rfl⟩))
          go_round
          case rel => exact ⟨k + 1, by omega, by go_num, allTo_succ ha hlt hd⟩
          case measure => simp [intOf]; omega
      · go_wp2
        go_ret
        exact ⟨ret_bool (wordB_yes (by omega) ha (by omega)).symm, rfl⟩

/-- How often each of the ten letters occurs. -/
def cnts (l : List UInt8) : List Int := (List.range 10).map fun d : Nat => ((l.countP fun c => dig c == (d : Int)) : Int)
theorem length_cnts (l : List UInt8) : (cnts l).length = 10 := by simp [cnts]
theorem cnts_at (l : List UInt8) (d : Nat) (h : d < 10) : (cnts l)[d]'(by rw [length_cnts]; exact h) = ((l.countP fun c => dig c == (d : Int)) : Int) := by simp [cnts]
theorem cnts_snoc (l : List UInt8) (c : UInt8) (d : Nat) (_hd : d < 10) (he : dig c = d) : cnts (l ++ [c]) = (cnts l).set d (((l.countP fun c => dig c == (d : Int)) : Int) + 1) := by
  apply List.ext_getElem
  · simp [cnts]
  · intro i h1 h2
    rw [length_cnts] at h1
    rw [cnts_at _ _ h1, List.getElem_set]
    by_cases e : d = i
    · subst e; simp [he]
    · rw [if_neg e, cnts_at _ _ h1]
      have : ¬ (d : Int) = i := by omega
      simp [he, this]

theorem info_int : (Tryz.prog.info? 3).map (fun i => (i.zero, i.size, i.bytes)) = some (some (.int .i64 0), 1, 8) := by kernel_rfl

/-- What LetterCounts answers of a word. -/
def CountsPost (s : ByteArray) (w : World) (e : Ending) (w' : World) : Prop :=
  ∃ g, e = .returned (.slice (some ⟨g, 0, none⟩) 10 10) ∧ Own w' g ((cnts (L s)).map (.int .i64)) ∧ Below w.heap.size w w'
end Go.Proofs.YtaplndmgbinhcaaGreat
