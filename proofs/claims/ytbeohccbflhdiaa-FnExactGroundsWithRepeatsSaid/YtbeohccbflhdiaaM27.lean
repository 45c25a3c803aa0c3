/- Several of my texts in one: Dbl, Fix, Rep. -/
import Derived.Test.YtbeohccbflhdiaaM16
import Derived.Test.YtbeohccbflhdiaaM17
import Derived.Test.YtbeohccbflhdiaaM25
/- DoubleIndicator, the program's and the specification's, and its draw. -/
namespace Go.Proofs.Ytbeohccbflhdiaa
open Go.RowKit

def dblT (m : Mach) (g k : ByteArray) : ByteArray × Bool := if setB m g = true ∧ setB m k = true then (wd (encD m g (dg (k ++ k))), true) else (⟨#[]⟩, false)
theorem dblT_yes {m : Mach} {g k : ByteArray} (h1 : setB m g = true) (h2 : setB m k = true) : dblT m g k = (wd (encD m g (dg (k ++ k))), true) := by simp only [dblT, h1, h2, and_self, if_true]
theorem dblT_no {m : Mach} {g k : ByteArray} (h : ¬ (setB m g = true ∧ setB m k = true)) : dblT m g k = (⟨#[]⟩, false) := by simp only [dblT, if_neg h]
theorem setB_3 {m : Mach} {k : ByteArray} (h : setB m k = true) : k.size ≤ 3 := by
  rw [setB_len h]; exact (machB_fit (setB_mach h)).three
theorem setB_1 {m : Mach} {k : ByteArray} (h : setB m k = true) : 1 ≤ k.size := by
  rw [setB_len h]; exact (machB_fit (setB_mach h)).one
theorem wordB_dbl {k : ByteArray} (h : wordB k = true) (h3 : k.size ≤ 3) : wordB (k ++ k) = true := by
  simp only [wordB, Bool.and_eq_true, decide_eq_true_eq] at h ⊢
  refine ⟨by rw [ByteArray.size_append]; omega, ?_⟩
  rw [L_append, List.all_append, h.2]; rfl
end Go.Proofs.Ytbeohccbflhdiaa

/- Whether a permutation fixes a letter; whether a word may be a double indicator. -/
namespace Go.Proofs.Ytbeohccbflhdiaa
open Go.RowKit

theorem fixes_any (p : List Nat) (w : World) (hp : IsP p) :
    Calls Try.prog 74 #[.agg (pv p).toArray] w fun e w' => e = .returned (.bool (fixB p)) ∧ Below w.heap.size w w' := by
  have o0 := Own.new w (pv p) 68
  have hb := (Below.refl w.heap.size w).alloc (Nat.le_refl _) (.cells (pv p).toArray 68)
  go_enter Try.func74, Try.ntmps74
  go_wp2_with ((with_reducible refine wl_load 68 o0.cells (size_pv hp.len) Try.underlying68 ?_ ?_ ?_ ?_); (· rfl); (· rfl); (· rfl))
  generalize (w.alloc (.cells (pv p).toArray 68)) = W at *
  go_loop [3, 4, 6] (fun _ _ i => ∃ k : Nat, k ≤ 10 ∧ i = .int .i64 k ∧ ∀ j, j < k → pAt p j ≠ j) (fun _ _ i => 10 - (intOf i).toNat)
  case atStart => exact ⟨0, by omega, rfl, fun _ h => absurd h (by omega)⟩
  case round =>
    obtain ⟨k, hk, rfl, ha⟩ := hrel
    have HA := Lib.hid ha
    clear ha
    by_cases hlt : k < 10
    · have hx := hp.at_lt hlt
      have e1 := pv_at (p := p) (i := k) (by rw [hp.len]; exact hlt)
      by_cases he : pAt p k = k
      · have hne : ((pAt p k : Int) == (k : Int)) = true := by simp [he]
        have HF : Hid (fixB p = true) := Lib.hid (fixB_iff.2 ⟨k, hlt, he⟩)
        clear he
        go_wp2_with ((with_reducible refine wl_index 68 e1 hlt Try.underlying68 agg_u8 size_u8 ?_ ?_ ?_ ?_); (· rfl); (· rfl); (· rfl))
        go_ret
        exact ⟨ret_bool HF.out.symm, hb⟩
      · have hne : ((pAt p k : Int) == (k : Int)) = false := by rw [beq_eq_false_iff_ne]; omega
        have HE := Lib.hid he
        clear he
        go_wp2_with ((with_reducible refine wl_index 68 e1 hlt Try.underlying68 agg_u8 size_u8 ?_ ?_ ?_ ?_); (· rfl); (· rfl); (· rfl))
        go_round
        case rel =>
          refine ⟨k + 1, by omega, by go_num, fun j hj => ?_⟩
          by_cases e : j = k
          · subst e; exact HE.out
          · exact HA.out j (by omega)
        case measure => simp [intOf]; omega
    · have HF : Hid (fixB p = false) := by
        show _ = _
        rw [Bool.eq_false_iff]
        intro hf
        obtain ⟨i, hi, he⟩ := fixB_iff.1 hf
        exact HA.out i (by omega) he
      go_wp2
      go_ret
      exact ⟨ret_bool HF.out.symm, hb⟩
/-- What HasRepeat answers. -/
def hasB (m : Mach) (g : ByteArray) (p : Int) : Bool := setB m g && (decide (0 ≤ p) && (decide (p < g.size) && fixB (prodP m g p.toNat)))
end Go.Proofs.Ytbeohccbflhdiaa

/- The places in which a double indicator repeats its letters. -/
namespace Go.Proofs.Ytbeohccbflhdiaa
open Go.RowKit

/-- The places below k with equal letters in both halves. -/
def repL (s : ByteArray) (n k : Nat) : List Nat := (List.range k).filter fun i => (L s)[i]? == (L s)[i + n]?
theorem repL_snoc (s : ByteArray) (n k : Nat) : repL s n (k + 1) = repL s n k ++ (if (L s)[k]? == (L s)[k + n]? then [k] else []) := by
  simp only [repL, List.range_succ, List.filter_append]
  congr 1
  by_cases h : ((L s)[k]? == (L s)[k + n]?) = true <;> simp [h]
theorem repL_len (s : ByteArray) (n k : Nat) : (repL s n k).length ≤ k := by
  have := List.length_filter_le (fun i => (L s)[i]? == (L s)[i + n]?) (List.range k)
  simpa [repL] using this
theorem repL_zero (s : ByteArray) (n : Nat) : repL s n 0 = [] := rfl
end Go.Proofs.Ytbeohccbflhdiaa
