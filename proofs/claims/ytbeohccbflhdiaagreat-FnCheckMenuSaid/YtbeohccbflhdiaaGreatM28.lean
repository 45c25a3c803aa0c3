/- Several of my texts in one: Ints. -/
import Derived.Test.YtbeohccbflhdiaaGreatM5
import Derived.Test.YtbeohccbflhdiaaGreatM3
/- Lists of numbers compared (for seats without the tapes). -/
namespace Go.Proofs.YtbeohccbflhdiaaGreat
open Go.RowKit

def eqIto (ss tt : List Int) (k : Nat) : Prop := ∀ j (h1 : j < ss.length) (h2 : j < tt.length), j < k → ss[j] = tt[j]
theorem rcInts_any (a b : Option Addr) (c d : Nat) (ss tt : List Int) (w : World) (h1 : Reads w w.heap.size a (iv ss)) (h2 : Reads w w.heap.size b (iv tt)) (l1 : ss.length ≤ 1048576) :
    Calls Tryz.prog 47 #[.slice a ss.length c, .slice b tt.length d] w fun e w' => e = .returned (.bool (decide (ss = tt))) ∧ ∃ n, w' = w.drewN n := by
  by_cases hl : ss.length = tt.length
  · have t0 : ((ss.length : Int) != (tt.length : Int)) = false := by simp [hl]
    have g1 : ss.length ≤ tt.length := by omega
    have g2 : tt.length ≤ ss.length := by omega
    have HR1 := Lib.hid h1
    have HR2 := Lib.hid h2
    clear hl h1 h2
    go_enter Tryz.func47, Tryz.ntmps47
    go_wp2
    go_loopw [5] (fun i wr => ∃ k n : Nat, k ≤ ss.length ∧ i = .int .i64 k ∧ eqIto ss tt k ∧ wr = w.drewN n) (fun i _ => ss.length - (intOf i).toNat)
    case atStart => exact ⟨0, 0, Nat.zero_le _, rfl, fun _ _ _ h => absurd h (by omega), rfl⟩
    case round =>
      obtain ⟨k, n, hk, rfl, ha, rfl⟩ := hrel
      by_cases hlt : k < ss.length
      · obtain ⟨b1, off1, rfl, hb1, hc1⟩ := HR1.out.open_ (by rw [length_iv]; omega)
        obtain ⟨b2, off2, rfl, hb2, hc2⟩ := HR2.out.open_ (by rw [length_iv]; omega)
        have d1 := hc1 k (by rw [length_iv]; exact hlt)
        have d2 := hc2 k (by rw [length_iv]; omega)
        rw [iv_at hlt] at d1
        rw [iv_at (by omega)] at d2
        clear hc1 hc2
        have q1 : (k : Int) < (ss.length : Int) := by omega
        have q2 : (k : Int) < (tt.length : Int) := by omega
        by_cases he : ss[k] = tt[k]'(by omega)
        · have te : (ss[k] != (tt[k]'(by omega))) = false := by rw [he]; simp
          have He := Lib.hid he
          clear he
          go_wp2_with fail
          go_quiet (fail)
          go_wp2
          go_roundw
          case rel =>
            refine ⟨k + 1, _, by omega, by go_num, fun j hj1 hj2 hlt' => ?_, rfl⟩
            by_cases e : j = k
            · subst e; exact He.out
            · exact ha j hj1 hj2 (by omega)
          case measure => simp [intOf]; omega
        · have te : (ss[k] != (tt[k]'(by omega))) = true := by rw [bne_iff_ne]; exact he
          go_wp2_with fail
          go_quiet (fail)
          go_wp2
          go_ret
          exact ⟨ret_bool (by simp; intro h; exact he (by simp [h])), n + nq, by rw [World.drewN_drewN]⟩
      · go_wp2
        go_ret
        refine ⟨ret_bool ?_, n, rfl⟩
        have : ss = tt := List.ext_getElem (by omega) fun j hj1 hj2 => ha j hj1 hj2 (by omega)
        simp [this]
  · have t0 : ((ss.length : Int) != (tt.length : Int)) = true := by rw [bne_iff_ne]; omega
    have T : Hid (decide (ss = tt) = false) := by show _ = _; simp; intro h; exact hl (by rw [h])
    clear hl
    go_enter Tryz.func47, Tryz.ntmps47
    go_wp2
    go_ret
    exact ⟨ret_bool T.out.symm, 0, rfl⟩
theorem ov_iv (l : List Nat) : ov l = iv (l.map fun n : Nat => (n : Int)) := by simp [ov, iv]
/-- Two equal lists of numbers. -/
theorem rcInts_same (a b : Option Addr) (c d : Nat) (l : List Nat) (w : World) (h1 : Reads w w.heap.size a (ov l)) (h2 : Reads w w.heap.size b (ov l)) (l1 : l.length ≤ 1048576) :
    Calls Tryz.prog 47 #[.slice a l.length c, .slice b l.length d] w fun e w' => e = .returned (.bool true) ∧ ∃ n, w' = w.drewN n := by
  rw [ov_iv] at h1 h2
  have h := rcInts_any a b c d (l.map fun n : Nat => (n : Int)) (l.map fun n : Nat => (n : Int)) w h1 h2 (by rw [List.length_map]; exact l1)
  rw [List.length_map, show decide ((l.map fun n : Nat => (n : Int)) = (l.map fun n : Nat => (n : Int))) = true from decide_eq_true rfl] at h
  exact h
end Go.Proofs.YtbeohccbflhdiaaGreat
