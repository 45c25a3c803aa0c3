/- Contracts of the program's functions that read and write permutations as words. -/
import Derived.Test.YtaplndmgbinhcaaGreatPermV
namespace Go.Proofs.YtaplndmgbinhcaaGreat
open Go.RowKit

theorem identity_any (w : World) :
    Calls Tryz.prog 102 #[] w fun e w' => e = .returned (.agg (pv idP).toArray) ∧ Below w.heap.size w w' := by
  have hlen' : (pv idP).length = 10 := by rw [length_pv]; exact len_id
  have hr : rotP 0 = idP := ext10 (len_rot 0) len_id fun i hi => by rw [at_rot 0 hi, at_id hi]; omega
  have hrot : ∀ W : World, Calls Tryz.prog 105 #[.int .i64 0] W fun e w' => e = .returned (.agg (pv idP).toArray) ∧ Below W.heap.size W w' := fun W => hr ▸ rotation_any 0 W (by omega)
  have o2 := Own.new w z10 91
  go_enter Tryz.func102, Tryz.ntmps102
  go_wp2_with (first | (go_at_call 105; ((with_reducible refine (hrot _).mono ?_); rintro e w1 ⟨rfl, hb1⟩)) | ((with_reducible refine wl_store 91 0 (o2.below hb1 o2.lt) (size_pv len_id) (pv_one _) (by rw [hlen', len_z10]; omega) ?_ ?_ ?_ ?_); (· rfl); (· rfl); (· rfl); intro w5 o5 b5 s5))
  rw [put_all (by rw [hlen', len_z10])] at o5
  refine bodyPost_ret (results_cell_own Tryz.results102 _ _ _ _ _ (by rfl) o5.cells Tryz.underlying91 rfl (size_pv len_id)) rfl ?_
  exact ⟨rfl, bel_store (bt ((Below.refl _ _).alloc (Nat.le_refl _) _) hb1) b5 (by have := hb1.size; simp at this; omega) (Nat.le_refl _)⟩

/-- Ten zero bytes. -/
def zb : List UInt8 := List.replicate 10 0
/-- How many of the first k letters are not fixed. -/
def movedTo (p : List Nat) (k : Nat) : Nat := (List.range k).countP fun i => pAt p i != i
theorem movedTo_succ (p : List Nat) (k : Nat) : movedTo p (k + 1) = movedTo p k + if pAt p k != k then 1 else 0 := by
  simp only [movedTo, List.range_succ, List.countP_append, List.countP_singleton]
theorem movedTo_le (p : List Nat) (k : Nat) : movedTo p k ≤ k := by
  have := List.countP_le_length (p := fun i => pAt p i != i) (l := List.range k)
  simpa [movedTo] using this
theorem pairs_any (p : List Nat) (w : World) (hp : IsP p) :
    Calls Tryz.prog 92 #[.agg (pv p).toArray] w fun e w' => e = .returned (.int .i64 ((movedN p / 2 : Nat) : Int)) ∧ Below w.heap.size w w' := by
  have o0 := Own.new w (pv p) 91
  have hb := (Below.refl w.heap.size w).alloc (Nat.le_refl _) (.cells (pv p).toArray 91)
  go_enter Tryz.func92, Tryz.ntmps92
  go_wp2_with ((with_reducible refine wl_load 91 o0.cells (size_pv hp.len) Tryz.underlying91 ?_ ?_ ?_ ?_); (· rfl); (· rfl); (· rfl))
  generalize (w.alloc (.cells (pv p).toArray 91)) = W at *
  go_loop [3, 4, 5, 7] (fun m _ _ i => ∃ k : Nat, k ≤ 10 ∧ i = .int .i64 k ∧ m = .int .i64 (movedTo p k : Nat)) (fun _ _ _ i => 10 - (intOf i).toNat)
  case atStart => exact ⟨0, by omega, rfl, rfl⟩
  case round =>
    obtain ⟨k, hk, rfl, rfl⟩ := hrel
    have hle := movedTo_le p k
    have hsu := movedTo_succ p k
    by_cases hlt : k < 10
    · have hx := hp.at_lt hlt
      have e1 := pv_at (p := p) (i := k) (by rw [hp.len]; exact hlt)
      by_cases he : pAt p k = k
      · have hne : ((pAt p k : Int) != (k : Int)) = false := by simp [he]
        have hs' : movedTo p (k + 1) = movedTo p k := by rw [hsu]; simp [he]
        have HS := Lib.hid hs'
        clear hs' hsu he
        go_wp2_with ((with_reducible refine wl_index 91 e1 hlt Tryz.underlying91 agg_u8 size_u8 ?_ ?_ ?_ ?_); (· rfl); (· rfl); (· rfl))
        go_round
        case rel => exact ⟨k + 1, by omega, by go_num, by rw [HS.out]⟩
        case measure => simp [intOf]; omega
      · have hne : ((pAt p k : Int) != (k : Int)) = true := by simp; omega
        have hs' : movedTo p (k + 1) = movedTo p k + 1 := by rw [hsu]; simp [he]
        have HS := Lib.hid hs'
        clear hs' hsu he
        go_wp2_with ((with_reducible refine wl_index 91 e1 hlt Tryz.underlying91 agg_u8 size_u8 ?_ ?_ ?_ ?_); (· rfl); (· rfl); (· rfl))
        go_round
        case rel => exact ⟨k + 1, by omega, by go_num, by rw [HS.out]; rfl⟩
        case measure => simp [intOf]; omega
    · have hk' : k = 10 := by omega
      subst hk'
      clear hsu
      go_wp2
      go_ret
      refine ⟨ret_int ?_, hb⟩
      show _ = ((movedTo p 10 / 2 : Nat) : Int)
      omega
end Go.Proofs.YtaplndmgbinhcaaGreat
