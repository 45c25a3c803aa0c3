/- Contracts of the laws' own functions on lists of strings: their sizes, copies and comparison. -/
import Derived.Test.YtaplndmgbinhcaaLetters
namespace Go.Proofs.Ytaplndmgbinhcaa
open Go.RowKit

theorem info_str : (Try.prog.info? 9).map (fun i => (i.zero, i.size, i.bytes)) = some (some (.string ⟨#[]⟩), 1, 16) := by kernel_rfl



def eqTo (ss tt : List ByteArray) (k : Nat) : Prop := ∀ j (h1 : j < ss.length) (h2 : j < tt.length), j < k → ss[j] = tt[j]
theorem eqStringS_any (a b : Option Addr) (c d : Nat) (ss tt : List ByteArray) (w : World) (h1 : Reads w w.heap.size a (sv ss)) (h2 : Reads w w.heap.size b (sv tt)) (l1 : ss.length ≤ 1048576) :
    Calls Try.prog 10 #[.slice a ss.length c, .slice b tt.length d] w fun e w' => e = .returned (.bool (decide (ss = tt))) ∧ ∃ n, w' = w.drewN n := by
  by_cases hl : ss.length = tt.length
  · have t0 : ((ss.length : Int) != (tt.length : Int)) = false := by simp [hl]
    have g1 : ss.length ≤ tt.length := by omega
    have g2 : tt.length ≤ ss.length := by omega
    have HR1 := Lib.hid h1
    have HR2 := Lib.hid h2
    clear hl h1 h2
    go_enter Try.func10, Try.ntmps10
    go_wp2
    go_loopw [5] (fun i wr => ∃ k n : Nat, k ≤ ss.length ∧ i = .int .i64 k ∧ eqTo ss tt k ∧ wr = w.drewN n) (fun i _ => ss.length - (intOf i).toNat)
    case atStart => exact ⟨0, 0, Nat.zero_le _, rfl, fun _ _ _ h => absurd h (by omega), rfl⟩
    case round =>
      obtain ⟨k, n, hk, rfl, ha, rfl⟩ := hrel
      by_cases hlt : k < ss.length
      · obtain ⟨b1, off1, rfl, hb1, hc1⟩ := HR1.out.open_ (by rw [length_sv]; omega)
        obtain ⟨b2, off2, rfl, hb2, hc2⟩ := HR2.out.open_ (by rw [length_sv]; omega)
        have d1 := hc1 k (by rw [length_sv]; exact hlt)
        have d2 := hc2 k (by rw [length_sv]; omega)
        rw [sv_at hlt] at d1
        rw [sv_at (by omega)] at d2
        clear hc1 hc2
        have q1 : (k : Int) < (ss.length : Int) := by omega
        have q2 : (k : Int) < (tt.length : Int) := by omega
        by_cases he : ss[k] = tt[k]'(by omega)
        · have te : (ss[k].toList == (tt[k]'(by omega)).toList) = true := by rw [he]; simp
          have He := Lib.hid he
          clear he
          go_wp2_with fail
          go_quiet (fail)
          go_wp2
          go_roundw
          case rel =>
            refine ⟨k + 1, _, by omega, by go_num, fun j hj1 hj2 hlt' => ?_, rfl⟩
            by_cases e : j = k
            · subst e; exact He.out
            · exact ha j hj1 hj2 (by omega)
          case measure => simp [intOf]; omega
        · have te : (ss[k].toList == (tt[k]'(by omega)).toList) = false := by
            rw [toList_L, toList_L, beq_eq_false_iff_ne]
            exact fun h => he (L_inj h)
          go_wp2_with fail
          go_quiet (fail)
          go_wp2
          go_ret
          exact ⟨ret_bool (by simp; intro h; exact he (by simp [h])), n + nq, by rw [World.drewN_drewN]⟩
      · go_wp2
        go_ret
        refine ⟨ret_bool ?_, n, rfl⟩
        have : ss = tt := List.ext_getElem (by omega) fun j hj1 hj2 => ha j hj1 hj2 (by omega)
        simp [this]
  · have t0 : ((ss.length : Int) != (tt.length : Int)) = true := by rw [bne_iff_ne]; omega
    have T : Hid (decide (ss = tt) = false) := by show _ = _; simp; intro h; exact hl (by rw [h])
    clear hl
    go_enter Try.func10, Try.ntmps10
    go_wp2
    go_ret
    exact ⟨ret_bool T.out.symm, 0, rfl⟩
end Go.Proofs.Ytaplndmgbinhcaa
