/- Contracts of the laws' own functions on lists of strings: their sizes, copies and comparison. -/
import Derived.Test.YtegbmjdaohnlaaaLetters
namespace Go.Proofs.Ytegbmjdaohnlaaa
open Go.RowKit

theorem info_str : (Try.prog.info? 9).map (fun i => (i.zero, i.size, i.bytes)) = some (some (.string ⟨#[]⟩), 1, 16) := by kernel_rfl

/-- What is left of a size: -1, or no string is greater. -/
def SzPost (ss : List ByteArray) (left : Int) (w : World) (e : Ending) (w' : World) : Prop :=
  ∃ r : Int, e = .returned (.int .i64 r) ∧ w = w' ∧ (r = -1 ∨ (0 ≤ r ∧ r ≤ left ∧ (ss.length : Int) ≤ left ∧ ∀ s ∈ ss, (s.size : Int) ≤ left))
def szTo (ss : List ByteArray) (left : Int) (k : Nat) : Prop := ∀ j (h : j < ss.length), j < k → (ss[j].size : Int) ≤ left
theorem szStringS_any (a : Option Addr) (c : Nat) (ss : List ByteArray) (left : Int) (w : World) (h : Reads w w.heap.size a (sv ss)) (hz : ∀ s ∈ ss, s.size ≤ 9223372036854775807) (hl : ss.length ≤ 9223372036854775807) (h0 : 0 ≤ left) (h1 : left ≤ 1048576) :
    Calls Try.prog 48 #[.slice a ss.length c, .int .i64 left] w (SzPost ss left w) := by
  by_cases hn : left < ss.length
  · go_enter Try.func48, Try.ntmps48
    go_wp2
    go_ret
    exact ⟨-1, rfl, rfl, .inl rfl⟩
  · have Z := Lib.hid hz
    have HR := Lib.hid h
    clear hz h
    go_enter Try.func48, Try.ntmps48
    go_wp2
    go_loop [1, 5] (fun l i => ∃ (k : Nat) (q : Int), k ≤ ss.length ∧ i = .int .i64 k ∧ l = .int .i64 q ∧ 0 ≤ q ∧ q ≤ left ∧ szTo ss left k) (fun _ i => ss.length - (intOf i).toNat)
    case atStart => exact ⟨0, left - ss.length, Nat.zero_le _, rfl, rfl, by omega, by omega, fun _ _ h => absurd h (by omega)⟩
    case round =>
      obtain ⟨k, q, hk, rfl, rfl, hq0, hq1, ha⟩ := hrel
      by_cases hlt : k < ss.length
      · obtain ⟨b, off, rfl, hb, hc⟩ := HR.out.open_ (by rw [length_sv]; omega)
        have d1 := hc k (by rw [length_sv]; exact hlt)
        rw [sv_at hlt] at d1
        have z1 := Z.out _ (List.getElem_mem hlt)
        clear hc
        by_cases hs : q < ss[k].size
        · go_wp2
          go_ret
          exact ⟨-1, rfl, rfl, .inl rfl⟩
        · go_wp2
          go_round
          case rel =>
            refine ⟨k + 1, q - ss[k].size, by omega, by go_num, rfl, by omega, by omega, fun j hj hlt' => ?_⟩
            by_cases e : j = k
            · subst e; omega
            · exact ha j hj (by omega)
          case measure => simp [intOf]; omega
      · go_wp2
        go_ret
        refine ⟨q, rfl, rfl, .inr ⟨hq0, hq1, by omega, fun s hs => ?_⟩⟩
        obtain ⟨j, hj, rfl⟩ := List.getElem_of_mem hs
        exact ha j hj (by omega)

/-- A copy of a list of strings in new memory. -/
def CopyPost (ss : List ByteArray) (w : World) (e : Ending) (w' : World) : Prop :=
  ∃ g, w.heap.size ≤ g ∧ e = .returned (.slice (some ⟨g, 0, none⟩) ss.length ss.length) ∧ Own w' g (sv ss) ∧ Below w.heap.size w w'
theorem sv_set (ss : List ByteArray) (k : Nat) (s : ByteArray) : (sv ss).set k (.string s) = sv (ss.set k s) := by simp [sv, List.map_set]
theorem toStringS_any (a : Option Addr) (c : Nat) (ss : List ByteArray) (w : World) (h : Reads w w.heap.size a (sv ss)) (hl : ss.length ≤ 1048576) :
    Calls Try.prog 49 #[.slice a ss.length c] w (CopyPost ss w) := by
  have hmk := run_make1 (P := Try.prog) Try.underlying28 info_str rfl ss.length ss.length (Nat.le_refl _) (by omega) (by omega)
  have HR := Lib.hid h
  clear h
  go_enter Try.func49, Try.ntmps49
  go_wp2
  go_loopw [4] (fun i wr => ∃ k : Nat, k ≤ ss.length ∧ i = .int .i64 k ∧ Below w.heap.size w wr ∧ Own wr w.heap.size (sv (ss.take k ++ (List.replicate ss.length (⟨#[]⟩ : ByteArray)).drop k))) (fun i _ => ss.length - (intOf i).toNat)
  case atStart =>
    refine ⟨0, Nat.zero_le _, rfl, (Below.refl _ _).alloc (Nat.le_refl _) _, ?_⟩
    have := Own.new w (sv (List.replicate ss.length (⟨#[]⟩ : ByteArray))) 9
    simpa [sv] using this
  case round =>
    obtain ⟨k, hk, rfl, hbel, hown⟩ := hrel
    have hlen : Hid ((sv (ss.take k ++ (List.replicate ss.length (⟨#[]⟩ : ByteArray)).drop k)).length = ss.length) := by
      show _ = _
      rw [length_sv, fill_len (by simp) hk]
    by_cases hlt : k < ss.length
    · obtain ⟨b, off, rfl, hb, hc⟩ := HR.out.open_ (by rw [length_sv]; omega)
      have d1 : wr.cell? ⟨b, off + k, none⟩ = some (.string ss[k]) := by
        have := hc k (by rw [length_sv]; exact hlt)
        rw [sv_at hlt] at this
        rw [← this]; exact hbel.cell hb
      clear hc
      obtain ⟨x, hx⟩ := hown.some_ (i := k) (by rw [hlen.out]; omega)
      have hf := hown.free k (by rw [hlen.out]; omega)
      have hbn : ¬ w.heap.size = b := by omega
      go_wp2
      go_roundw
      case rel =>
        refine ⟨k + 1, by omega, by go_num, hbel.setCell (Nat.le_refl _) _, ?_⟩
        have h0 := hown.set_ (i := k) (by rw [hlen.out]; omega) (.string ss[k])
        rw [sv_set, fill_set hlt (by simp)] at h0
        exact h0
      case measure => simp [intOf]; omega
    · have hk' : k = ss.length := by omega
      subst hk'
      go_wp2
      go_ret
      refine ⟨w.heap.size, Nat.le_refl _, rfl, ?_, hbel⟩
      rw [List.take_length, List.drop_of_length_le (by simp), List.append_nil] at hown
      exact hown

def eqTo (ss tt : List ByteArray) (k : Nat) : Prop := ∀ j (h1 : j < ss.length) (h2 : j < tt.length), j < k → ss[j] = tt[j]
theorem eqStringS_any (a b : Option Addr) (c d : Nat) (ss tt : List ByteArray) (w : World) (h1 : Reads w w.heap.size a (sv ss)) (h2 : Reads w w.heap.size b (sv tt)) (l1 : ss.length ≤ 1048576) :
    Calls Try.prog 50 #[.slice a ss.length c, .slice b tt.length d] w fun e w' => e = .returned (.bool (decide (ss = tt))) ∧ ∃ n, w' = w.drewN n := by
  by_cases hl : ss.length = tt.length
  · have t0 : ((ss.length : Int) != (tt.length : Int)) = false := by simp [hl]
    have g1 : ss.length ≤ tt.length := by omega
    have g2 : tt.length ≤ ss.length := by omega
    have HR1 := Lib.hid h1
    have HR2 := Lib.hid h2
    clear hl h1 h2
    go_enter Try.func50, Try.ntmps50
    go_wp2
    go_loopw [5] (fun i wr => ∃ k n : Nat, k ≤ ss.length ∧ i = .int .i64 k ∧ eqTo ss tt k ∧ wr = w.drewN n) (fun i _ => ss.length - (intOf i).toNat)
    case atStart => exact ⟨0, 0, Nat.zero_le _, rfl, fun _ _ _ h => absurd h (by omega), rfl⟩
    case round =>
      obtain ⟨k, n, hk, rfl, ha, rfl⟩ := hrel
      by_cases hlt : k < ss.length
      · obtain ⟨b1, off1, rfl, hb1, hc1⟩ := HR1.out.open_ (by rw [length_sv]; omega)
        obtain ⟨b2, off2, rfl, hb2, hc2⟩ := HR2.out.open_ (by rw [length_sv]; omega)
        have d1 := hc1 k (by rw [length_sv]; exact hlt)
        have d2 := hc2 k (by rw [length_sv]; omega)
        rw [sv_at hlt] at d1
        rw [sv_at (by omega)] at d2
        clear hc1 hc2
        have q1 : (k : Int) < (ss.length : Int) := by omega
        have q2 : (k : Int) < (tt.length : Int) := by omega
        by_cases he : ss[k] = tt[k]'(by omega)
        · have te : (ss[k].toList == (tt[k]'(by omega)).toList) = true := by rw [he]; simp
          have He := Lib.hid he
          clear he
          go_wp2_with fail
          go_quiet (fail)
          go_wp2
          go_roundw
          case rel =>
            refine ⟨k + 1, _, by omega, by go_num, fun j hj1 hj2 hlt' => ?_, rfl⟩
            by_cases e : j = k
            · subst e; exact He.out
            · exact ha j hj1 hj2 (by omega)
          case measure => simp [intOf]; omega
        · have te : (ss[k].toList == (tt[k]'(by omega)).toList) = false := by
            rw [toList_L, toList_L, beq_eq_false_iff_ne]
            exact fun h => he (L_inj h)
          go_wp2_with fail
          go_quiet (fail)
          go_wp2
          go_ret
          exact ⟨ret_bool (by simp; intro h; exact he (by simp [h])), n + nq, by rw [World.drewN_drewN]⟩
      · go_wp2
        go_ret
        refine ⟨ret_bool ?_, n, rfl⟩
        have : ss = tt := List.ext_getElem (by omega) fun j hj1 hj2 => ha j hj1 hj2 (by omega)
        simp [this]
  · have t0 : ((ss.length : Int) != (tt.length : Int)) = true := by rw [bne_iff_ne]; omega
    have T : Hid (decide (ss = tt) = false) := by show _ = _; simp; intro h; exact hl (by rw [h])
    clear hl
    go_enter Try.func50, Try.ntmps50
    go_wp2
    go_ret
    exact ⟨ret_bool T.out.symm, 0, rfl⟩
end Go.Proofs.Ytegbmjdaohnlaaa
