/- Several of my texts in one: CgL, CgE, CgX, CgG. -/
import Derived.Test.YtlpfhabfbnjnbaaDoorM7
import Derived.Test.YtlpfhabfbnjnbaaDoorM6
import Derived.Test.YtlpfhabfbnjnbaaDoorM8
import Derived.Test.YtlpfhabfbnjnbaaDoorRows
import Derived.Shelf.Vars
import Derived.Lib.LaidU8
import Derived.LaidLaws
import Derived.MakeChecks
import Derived.HandedShaped
/- Contracts of the laws' own functions on cages: comparison, marks. -/
namespace Go.Proofs.YtlpfhabfbnjnbaaDoor
open Go.RowKit

/-- The digits of a number. -/
def mkD (k : Nat) : List UInt8 := if _h : k = 0 then [] else mkD (k / 10) ++ [UInt8.ofNat (48 + k % 10)]
termination_by k
decreasing_by omega
/-- A mark. -/
def mkT (k : Nat) : ByteArray := S (109 :: mkD k)
theorem mkD_pos {k : Nat} (h : 0 < k) : mkD k = mkD (k / 10) ++ [UInt8.ofNat (48 + k % 10)] := by rw [mkD, dif_neg (by omega)]
theorem mkD_zero : mkD 0 = [] := by rw [mkD, dif_pos rfl]
theorem markText_any (k : Nat) (w : World) (h1 : 1 ≤ k) (hk : k ≤ 100000000) :
    Calls Tryd.prog 48 #[.int .i64 (k : Int)] w fun e w' => e = .returned (.string (mkT k)) ∧ Below w.heap.size w w' := by
  have t0 : decide (k = 0) = false := by simp; omega
  go_enter Tryd.func48, Tryd.ntmps48
  go_wp2
  go_loopw [0, 3] (fun i o wr => ∃ (j : Nat) (t : List UInt8), i = .int .i64 j ∧ o = .string (S t) ∧ t.length + j ≤ k ∧ mkD j ++ t = mkD k ∧ Below w.heap.size w wr) (fun i _ _ => (intOf i).toNat)
  case atStart => exact ⟨k, [], rfl, rfl, by simp, by simp, Below.refl _ _⟩
  case round =>
    obtain ⟨j, t, rfl, rfl, hl, he, hb⟩ := hrel
    have hsz : (S t).size ≤ 100000000 := by rw [size_S]; omega
    have HE := Lib.hid he
    clear he
    by_cases hlt : 0 < j
    · have HP := Lib.hid (mkD_pos hlt)
      have hc := run_conv_new (P := Tryd.prog) wr 31 9 5 Tryd.underlying31 Tryd.underlying5 Tryd.underlying9 [48 + (j : Int) % 10]
      simp only [List.map_cons, List.map_nil, List.length_cons, List.length_nil, Nat.zero_add] at hc
      rw [show (48 + (j : Int) % 10).toNat = 48 + j % 10 by omega] at hc
      generalize UInt8.ofNat (48 + j % 10) = d at hc HP
      have hs1 : (S [d]).size ≤ 1 := by rw [size_S]; simp
      go_wp2
      go_roundw
      case rel =>
        refine ⟨j / 10, d :: t, by go_num, ?_, ?_, ?_, hb.alloc hb.size _⟩
        · rw [S_append]; rfl
        · simp; omega
        · rw [← HE.out, HP.out]; simp
      case measure => simp [intOf]; omega
    · go_wp2
      go_ret
      refine ⟨ret_str ?_, hb⟩
      have h0 := HE.out
      rw [show j = 0 by omega, mkD_zero, List.nil_append] at h0
      unfold mkT
      rw [← h0]
      exact S_append [109] t

/-- The marks from k on. -/
def mks (k n : Nat) : List ByteArray := (List.range n).map fun i => mkT (k + i)
theorem len_mks (k n : Nat) : (mks k n).length = n := by simp [mks]
theorem mks_at {k n i : Nat} (h : i < n) : (mks k n)[i]'(by rw [len_mks]; exact h) = mkT (k + i) := by simp [mks]
/-- The strings of a slice, those before j marked. -/
theorem mks_set {ss : List ByteArray} {k j : Nat} (h : j < ss.length) : (sv ((mks k ss.length).take j ++ ss.drop j)).set j (.string (mkT (k + j))) = sv ((mks k ss.length).take (j + 1) ++ ss.drop (j + 1)) := by
  have := fill_set (A := mks k ss.length) (R := ss) (k := j) (by rw [len_mks]; exact h) (by rw [len_mks])
  rw [mks_at h] at this
  rw [← this]
  simp [sv, List.map_set]
theorem heldStringS_any (a : Option Addr) (c k n : Nat) (w : World) (h : Reads w w.heap.size a (sv (mks k n))) (hl : n ≤ 1048576) (h1 : 1 ≤ k) (hk : k ≤ 10000000) :
    Calls Tryd.prog 27 #[.slice a n c, .int .i64 (k : Int)] w fun e w' => e = .returned (.int .i64 ((k + n : Nat) : Int)) ∧ Below w.heap.size w w' := by
  have HR := Lib.hid h
  clear h
  go_enter Tryd.func27, Tryd.ntmps27
  go_wp2
  go_loopw [1, 5] (fun m i wr => ∃ j : Nat, j ≤ n ∧ i = .int .i64 j ∧ m = .int .i64 ((k + j : Nat) : Int) ∧ Below w.heap.size w wr) (fun _ i _ => n - (intOf i).toNat)
  case atStart => exact ⟨0, Nat.zero_le _, rfl, rfl, Below.refl _ _⟩
  case round =>
    obtain ⟨j, hj, rfl, rfl, hb⟩ := hrel
    by_cases hlt : j < n
    · obtain ⟨b, off, rfl, hbl, hc⟩ := HR.out.open_ (by rw [length_sv, len_mks]; omega)
      have d1 := hc j (by rw [length_sv, len_mks]; exact hlt)
      rw [sv_at (by rw [len_mks]; exact hlt), mks_at hlt] at d1
      have hz := hb.size
      have d2 := (hb.cell (p := ⟨b, off + j, none⟩) hbl).trans d1
      have q1 : (j : Int) < (n : Int) := by omega
      have q4 : b < wr.heap.size := by omega
      clear hc d1
      have hmt := fun W => markText_any (k + j) W (by omega) (by omega)
      have hqb : k + j ≤ 20000000 := by omega
      generalize hq : k + j = q at *
      have HQ := Lib.hid hq
      clear hq
      generalize mkT q = t at *
      have d3 := fun (cc : Cls wr.heap.size wr) => (cc.cell b (off + j) q4).trans d2
      go_wp2_with fail
      refine wp_region_cls (by kernel_rfl) (by kernel_rfl) ?_
      repeat (go_big_quiet_step (first | (go_at_call 48; with_reducible exact cls_of (Nat.le_refl _) (hmt _))))
      refine wpQuiet_nil ?_
      intro wc hbc
      go_wp2
      go_roundw
      case rel => exact ⟨j + 1, by omega, by go_num, by have := HQ.out; congr 1; omega, bt hb hbc⟩
      case measure => simp [intOf]; omega
    · have hj' : j = n := by omega
      subst hj'
      go_wp2
      go_ret
      exact ⟨ret_int (by omega), hb⟩

def eqIto (ss tt : List Int) (k : Nat) : Prop := ∀ j (h1 : j < ss.length) (h2 : j < tt.length), j < k → ss[j] = tt[j]
theorem rcInts_any (a b : Option Addr) (c d : Nat) (ss tt : List Int) (w : World) (h1 : Reads w w.heap.size a (iv ss)) (h2 : Reads w w.heap.size b (iv tt)) (l1 : ss.length ≤ 1048576) :
    Calls Tryd.prog 36 #[.slice a ss.length c, .slice b tt.length d] w fun e w' => e = .returned (.bool (decide (ss = tt))) ∧ ∃ n, w' = w.drewN n := by
  by_cases hl : ss.length = tt.length
  · have t0 : ((ss.length : Int) != (tt.length : Int)) = false := by simp [hl]
    have g1 : ss.length ≤ tt.length := by omega
    have g2 : tt.length ≤ ss.length := by omega
    have HR1 := Lib.hid h1
    have HR2 := Lib.hid h2
    clear hl h1 h2
    go_enter Tryd.func36, Tryd.ntmps36
    go_wp2
    go_loopw [5] (fun i wr => ∃ k n : Nat, k ≤ ss.length ∧ i = .int .i64 k ∧ eqIto ss tt k ∧ wr = w.drewN n) (fun i _ => ss.length - (intOf i).toNat)
    case atStart => exact ⟨0, 0, Nat.zero_le _, rfl, fun _ _ _ h => absurd h (by omega), rfl⟩
    case round =>
      obtain ⟨k, n, hk, rfl, ha, rfl⟩ := hrel
      by_cases hlt : k < ss.length
      · obtain ⟨b1, off1, rfl, hb1, hc1⟩ := HR1.out.open_ (by rw [length_iv]; omega)
        obtain ⟨b2, off2, rfl, hb2, hc2⟩ := HR2.out.open_ (by rw [length_iv]; omega)
        have d1 := hc1 k (by rw [length_iv]; exact hlt)
        have d2 := hc2 k (by rw [length_iv]; omega)
        rw [iv_at hlt] at d1
        rw [iv_at (by omega)] at d2
        clear hc1 hc2
        have q1 : (k : Int) < (ss.length : Int) := by omega
        have q2 : (k : Int) < (tt.length : Int) := by omega
        by_cases he : ss[k] = tt[k]'(by omega)
        · have te : (ss[k] != (tt[k]'(by omega))) = false := by rw [he]; simp
          have He := Lib.hid he
          clear he
          go_wp2_with fail
          go_quiet (fail)
          go_wp2
          go_roundw
          case rel =>
            refine ⟨k + 1, _, by omega, by go_num, fun j hj1 hj2 hlt' => ?_, rfl⟩
            by_cases e : j = k
            · subst e; exact He.out
            · exact ha j hj1 hj2 (by omega)
          case measure => simp [intOf]; omega
        · have te : (ss[k] != (tt[k]'(by omega))) = true := by rw [bne_iff_ne]; exact he
          go_wp2_with fail
          go_quiet (fail)
          go_wp2
          go_ret
          exact ⟨ret_bool (by simp; intro h; exact he (by simp [h])), n + nq, by rw [World.drewN_drewN]⟩
      · go_wp2
        go_ret
        refine ⟨ret_bool ?_, n, rfl⟩
        have : ss = tt := List.ext_getElem (by omega) fun j hj1 hj2 => ha j hj1 hj2 (by omega)
        simp [this]
  · have t0 : ((ss.length : Int) != (tt.length : Int)) = true := by rw [bne_iff_ne]; omega
    have T : Hid (decide (ss = tt) = false) := by show _ = _; simp; intro h; exact hl (by rw [h])
    clear hl
    go_enter Tryd.func36, Tryd.ntmps36
    go_wp2
    go_ret
    exact ⟨ret_bool T.out.symm, 0, rfl⟩
theorem eqIntS_any (a b : Option Addr) (c d : Nat) (ss tt : List Int) (w : World) (h1 : Reads w w.heap.size a (iv ss)) (h2 : Reads w w.heap.size b (iv tt)) (l1 : ss.length ≤ 1048576) :
    Calls Tryd.prog 24 #[.slice a ss.length c, .slice b tt.length d] w fun e w' => e = .returned (.bool (decide (ss = tt))) ∧ ∃ n, w' = w.drewN n := by
  by_cases hl : ss.length = tt.length
  · have t0 : ((ss.length : Int) != (tt.length : Int)) = false := by simp [hl]
    have g1 : ss.length ≤ tt.length := by omega
    have g2 : tt.length ≤ ss.length := by omega
    have HR1 := Lib.hid h1
    have HR2 := Lib.hid h2
    clear hl h1 h2
    go_enter Tryd.func24, Tryd.ntmps24
    go_wp2
    go_loopw [5] (fun i wr => ∃ k n : Nat, k ≤ ss.length ∧ i = .int .i64 k ∧ eqIto ss tt k ∧ wr = w.drewN n) (fun i _ => ss.length - (intOf i).toNat)
    case atStart => exact ⟨0, 0, Nat.zero_le _, rfl, fun _ _ _ h => absurd h (by omega), rfl⟩
    case round =>
      obtain ⟨k, n, hk, rfl, ha, rfl⟩ := hrel
      by_cases hlt : k < ss.length
      · obtain ⟨b1, off1, rfl, hb1, hc1⟩ := HR1.out.open_ (by rw [length_iv]; omega)
        obtain ⟨b2, off2, rfl, hb2, hc2⟩ := HR2.out.open_ (by rw [length_iv]; omega)
        have d1 := hc1 k (by rw [length_iv]; exact hlt)
        have d2 := hc2 k (by rw [length_iv]; omega)
        rw [iv_at hlt] at d1
        rw [iv_at (by omega)] at d2
        clear hc1 hc2
        have q1 : (k : Int) < (ss.length : Int) := by omega
        have q2 : (k : Int) < (tt.length : Int) := by omega
        by_cases he : ss[k] = tt[k]'(by omega)
        · have te : (ss[k] != (tt[k]'(by omega))) = false := by rw [he]; simp
          have He := Lib.hid he
          clear he
          go_wp2_with fail
          go_quiet (fail)
          go_wp2
          go_roundw
          case rel =>
            refine ⟨k + 1, _, by omega, by go_num, fun j hj1 hj2 hlt' => ?_, rfl⟩
            by_cases e : j = k
            · subst e; exact He.out
            · exact ha j hj1 hj2 (by omega)
          case measure => simp [intOf]; omega
        · have te : (ss[k] != (tt[k]'(by omega))) = true := by rw [bne_iff_ne]; exact he
          go_wp2_with fail
          go_quiet (fail)
          go_wp2
          go_ret
          exact ⟨ret_bool (by simp; intro h; exact he (by simp [h])), n + nq, by rw [World.drewN_drewN]⟩
      · go_wp2
        go_ret
        refine ⟨ret_bool ?_, n, rfl⟩
        have : ss = tt := List.ext_getElem (by omega) fun j hj1 hj2 => ha j hj1 hj2 (by omega)
        simp [this]
  · have t0 : ((ss.length : Int) != (tt.length : Int)) = true := by rw [bne_iff_ne]; omega
    have T : Hid (decide (ss = tt) = false) := by show _ = _; simp; intro h; exact hl (by rw [h])
    clear hl
    go_enter Tryd.func24, Tryd.ntmps24
    go_wp2
    go_ret
    exact ⟨ret_bool T.out.symm, 0, rfl⟩
def rcTo (ss tt : List ByteArray) (k : Nat) : Prop := ∀ j (h1 : j < ss.length) (h2 : j < tt.length), j < k → ss[j] = tt[j]
theorem rcTexts_any (a b : Option Addr) (c d : Nat) (ss tt : List ByteArray) (w : World) (h1 : Reads w w.heap.size a (sv ss)) (h2 : Reads w w.heap.size b (sv tt)) (l1 : ss.length ≤ 1048576) :
    Calls Tryd.prog 35 #[.slice a ss.length c, .slice b tt.length d] w fun e w' => e = .returned (.bool (decide (ss = tt))) ∧ ∃ n, w' = w.drewN n := by
  by_cases hl : ss.length = tt.length
  · have t0 : ((ss.length : Int) != (tt.length : Int)) = false := by simp [hl]
    have g1 : ss.length ≤ tt.length := by omega
    have g2 : tt.length ≤ ss.length := by omega
    have HR1 := Lib.hid h1
    have HR2 := Lib.hid h2
    clear hl h1 h2
    go_enter Tryd.func35, Tryd.ntmps35
    go_wp2
    go_loopw [5] (fun i wr => ∃ k n : Nat, k ≤ ss.length ∧ i = .int .i64 k ∧ rcTo ss tt k ∧ wr = w.drewN n) (fun i _ => ss.length - (intOf i).toNat)
    case atStart => exact ⟨0, 0, Nat.zero_le _, rfl, fun _ _ _ h => absurd h (by omega), rfl⟩
    case round =>
      obtain ⟨k, n, hk, rfl, ha, rfl⟩ := hrel
      by_cases hlt : k < ss.length
      · obtain ⟨b1, off1, rfl, hb1, hc1⟩ := HR1.out.open_ (by rw [length_sv]; omega)
        obtain ⟨b2, off2, rfl, hb2, hc2⟩ := HR2.out.open_ (by rw [length_sv]; omega)
        have d1 := hc1 k (by rw [length_sv]; exact hlt)
        have d2 := hc2 k (by rw [length_sv]; omega)
        rw [sv_at hlt] at d1
        rw [sv_at (by omega)] at d2
        clear hc1 hc2
        have q1 : (k : Int) < (ss.length : Int) := by omega
        have q2 : (k : Int) < (tt.length : Int) := by omega
        by_cases he : ss[k] = tt[k]'(by omega)
        · have te : (ss[k].toList == (tt[k]'(by omega)).toList) = true := by rw [he]; simp
          have He := Lib.hid he
          clear he
          go_wp2_with fail
          go_quiet (fail)
          go_wp2
          go_roundw
          case rel =>
            refine ⟨k + 1, _, by omega, by go_num, fun j hj1 hj2 hlt' => ?_, rfl⟩
            by_cases e : j = k
            · subst e; exact He.out
            · exact ha j hj1 hj2 (by omega)
          case measure => simp [intOf]; omega
        · have te : (ss[k].toList == (tt[k]'(by omega)).toList) = false := by
            rw [toList_L, toList_L, beq_eq_false_iff_ne]
            exact fun h => he (L_inj h)
          go_wp2_with fail
          go_quiet (fail)
          go_wp2
          go_ret
          exact ⟨ret_bool (by simp; intro h; exact he (by simp [h])), n + nq, by rw [World.drewN_drewN]⟩
      · go_wp2
        go_ret
        refine ⟨ret_bool ?_, n, rfl⟩
        have : ss = tt := List.ext_getElem (by omega) fun j hj1 hj2 => ha j hj1 hj2 (by omega)
        simp [this]
  · have t0 : ((ss.length : Int) != (tt.length : Int)) = true := by rw [bne_iff_ne]; omega
    have T : Hid (decide (ss = tt) = false) := by show _ = _; simp; intro h; exact hl (by rw [h])
    clear hl
    go_enter Tryd.func35, Tryd.ntmps35
    go_wp2
    go_ret
    exact ⟨ret_bool T.out.symm, 0, rfl⟩

theorem gr_bel {g : Nat} {a b : World} (h : Below a.heap.size a b) : a.grownBy b (some g) := ⟨h.os, h.tape, h.output, h.size, fun i hi _ => h.block i hi⟩
/-- The marks as numbers. -/
def mki (k n : Nat) : List Int := (List.range n).map fun i => ((k + i : Nat) : Int)
theorem len_mki (k n : Nat) : (mki k n).length = n := by simp [mki]
theorem mki_at {k n i : Nat} (h : i < n) : (mki k n)[i]'(by rw [len_mki]; exact h) = ((k + i : Nat) : Int) := by simp [mki]
theorem mki_set {ss : List Int} {k j : Nat} (h : j < ss.length) : (iv ((mki k ss.length).take j ++ ss.drop j)).set j (.int .i64 ((k + j : Nat) : Int)) = iv ((mki k ss.length).take (j + 1) ++ ss.drop (j + 1)) := by
  have := fill_set (A := mki k ss.length) (R := ss) (k := j) (by rw [len_mki]; exact h) (by rw [len_mki])
  rw [mki_at h] at this
  rw [← this]
  simp [iv, List.map_set]
theorem markStrs_own (g c k : Nat) (ss : List ByteArray) (w : World) (h : Own w g (sv ss)) (hl : ss.length ≤ 1048576) (h1 : 1 ≤ k) (hk : k ≤ 10000000) :
    Calls Tryd.prog 25 #[.slice (some ⟨g, 0, none⟩) ss.length c, .int .i64 (k : Int)] w fun e w' => e = .returned (.int .i64 ((k + ss.length : Nat) : Int)) ∧ Own w' g (sv (mks k ss.length)) ∧ w.grownBy w' (some g) := by
  go_enter Tryd.func25, Tryd.ntmps25
  go_wp2
  go_loopw [1, 5] (fun m i wr => ∃ j : Nat, j ≤ ss.length ∧ i = .int .i64 j ∧ m = .int .i64 ((k + j : Nat) : Int) ∧ Own wr g (sv ((mks k ss.length).take j ++ ss.drop j)) ∧ w.grownBy wr (some g)) (fun _ i _ => ss.length - (intOf i).toNat)
  case atStart => exact ⟨0, Nat.zero_le _, rfl, rfl, by simpa using h, World.grownBy.refl w _⟩
  case round =>
    clear h
    obtain ⟨j, hj, rfl, rfl, ho, hb⟩ := hrel
    have hln := Lib.hid (show (sv ((mks k ss.length).take j ++ ss.drop j)).length = ss.length by rw [length_sv, fill_len (by rw [len_mks]) (by rw [len_mks]; omega), len_mks])
    by_cases hlt : j < ss.length
    · have HS := Lib.hid (mks_set (k := k) hlt)
      have hlt0 := ho.lt
      have q1 : (j : Int) < (ss.length : Int) := by omega
      go_wp2_with fail
      refine (markText_any (k + j) _ (by omega) (by omega)).mono ?_
      rintro e w1 ⟨rfl, hb1⟩
      have o1 := ho.below hb1 ho.lt
      obtain ⟨y1, f1⟩ := o1.some_ (i := j) (by rw [hln.out]; exact hlt)
      have f2 := o1.free j (by rw [hln.out]; exact hlt)
      have o2 := o1.set_ (i := j) (by rw [hln.out]; exact hlt) (.string (mkT (k + j)))
      rw [HS.out] at o2
      have g1 : w.grownBy (w1.setCell ⟨g, j, none⟩ (.string (mkT (k + j)))) (some g) := grown_trans hb (grown_trans (gr_bel hb1) (grown_setCell w1 g j _))
      clear o1 hb1 hb ho
      go_wp2
      go_roundw
      case rel => exact ⟨j + 1, by omega, by go_num, by go_num, o2, g1⟩
      case measure => simp [intOf]; omega
    · have hj' : j = ss.length := by omega
      subst hj'
      rw [List.take_of_length_le (by rw [len_mks]; exact Nat.le_refl _), List.drop_eq_nil_of_le (Nat.le_refl _), List.append_nil] at ho
      go_wp2
      go_ret
      exact ⟨ret_int (by omega), ho, hb⟩
theorem markInts_own (g c k : Nat) (ss : List Int) (w : World) (h : Own w g (iv ss)) (hl : ss.length ≤ 1048576) (h1 : 1 ≤ k) (hk : k ≤ 10000000) :
    Calls Tryd.prog 26 #[.slice (some ⟨g, 0, none⟩) ss.length c, .int .i64 (k : Int)] w fun e w' => e = .returned (.int .i64 ((k + ss.length : Nat) : Int)) ∧ Own w' g (iv (mki k ss.length)) ∧ w.grownBy w' (some g) := by
  go_enter Tryd.func26, Tryd.ntmps26
  go_wp2
  go_loopw [1, 5] (fun m i wr => ∃ j : Nat, j ≤ ss.length ∧ i = .int .i64 j ∧ m = .int .i64 ((k + j : Nat) : Int) ∧ Own wr g (iv ((mki k ss.length).take j ++ ss.drop j)) ∧ w.grownBy wr (some g)) (fun _ i _ => ss.length - (intOf i).toNat)
  case atStart => exact ⟨0, Nat.zero_le _, rfl, rfl, by simpa using h, World.grownBy.refl w _⟩
  case round =>
    clear h
    obtain ⟨j, hj, rfl, rfl, ho, hb⟩ := hrel
    have hln := Lib.hid (show (iv ((mki k ss.length).take j ++ ss.drop j)).length = ss.length by rw [length_iv, fill_len (by rw [len_mki]) (by rw [len_mki]; omega), len_mki])
    by_cases hlt : j < ss.length
    · have HS := Lib.hid (mki_set (k := k) hlt)
      have hlt0 := ho.lt
      have q1 : (j : Int) < (ss.length : Int) := by omega
      obtain ⟨y1, f1⟩ := ho.some_ (i := j) (by rw [hln.out]; exact hlt)
      have f2 := ho.free j (by rw [hln.out]; exact hlt)
      have o2 := ho.set_ (i := j) (by rw [hln.out]; exact hlt) (.int .i64 ((k + j : Nat) : Int))
      rw [HS.out] at o2
      have g1 : w.grownBy (wr.setCell ⟨g, j, none⟩ (.int .i64 ((k + j : Nat) : Int))) (some g) := grown_trans hb (grown_setCell wr g j _)
      clear hb ho
      go_wp2
      go_roundw
      case rel => exact ⟨j + 1, by omega, by go_num, by go_num, o2, g1⟩
      case measure => simp [intOf]; omega
    · have hj' : j = ss.length := by omega
      subst hj'
      rw [List.take_of_length_le (by rw [len_mki]; exact Nat.le_refl _), List.drop_eq_nil_of_le (Nat.le_refl _), List.append_nil] at ho
      go_wp2
      go_ret
      exact ⟨ret_int (by omega), ho, hb⟩
theorem heldInts_any (a : Option Addr) (c k n : Nat) (w : World) (h : Reads w w.heap.size a (iv (mki k n))) (hl : n ≤ 1048576) (h1 : 1 ≤ k) (hk : k ≤ 10000000) :
    Calls Tryd.prog 28 #[.slice a n c, .int .i64 (k : Int)] w fun e w' => e = .returned (.int .i64 ((k + n : Nat) : Int)) ∧ w' = w := by
  have HR := Lib.hid h
  clear h
  go_enter Tryd.func28, Tryd.ntmps28
  go_wp2
  go_loop [1, 5] (fun m i => ∃ j : Nat, j ≤ n ∧ i = .int .i64 j ∧ m = .int .i64 ((k + j : Nat) : Int)) (fun _ i => n - (intOf i).toNat)
  case atStart => exact ⟨0, Nat.zero_le _, rfl, rfl⟩
  case round =>
    obtain ⟨j, hj, rfl, rfl⟩ := hrel
    by_cases hlt : j < n
    · obtain ⟨b, off, rfl, hbl, hc⟩ := HR.out.open_ (by rw [length_iv, len_mki]; omega)
      have d1 := hc j (by rw [length_iv, len_mki]; exact hlt)
      rw [iv_at (by rw [len_mki]; exact hlt), mki_at hlt] at d1
      have q1 : (j : Int) < (n : Int) := by omega
      clear hc
      go_wp2
      go_round
      case rel => exact ⟨j + 1, by omega, by go_num, by go_num⟩
      case measure => simp [intOf]; omega
    · have hj' : j = n := by omega
      subst hj'
      go_wp2
      go_ret
      exact ⟨ret_int (by omega), rfl⟩
end Go.Proofs.YtlpfhabfbnjnbaaDoor

/- Contracts of the laws' own functions on cages as a whole. -/
namespace Go.Proofs.YtlpfhabfbnjnbaaDoor
open Go.RowKit

set_option maxRecDepth 100000 in
set_option maxHeartbeats 2000000 in
theorem eqCage_any (a1 a2 b1 b2 : Option Addr) (c1 c2 d1 d2 : Nat) (ws ws' : List ByteArray) (bs bs' : List Int) (w : World) (h1 : Reads w w.heap.size a1 (sv ws)) (h2 : Reads w w.heap.size a2 (iv bs)) (h3 : Reads w w.heap.size b1 (sv ws')) (h4 : Reads w w.heap.size b2 (iv bs')) (l1 : ws.length ≤ 1048576) (l2 : bs.length ≤ 1048576) :
    Calls Tryd.prog 7 #[.agg #[.slice a1 ws.length c1, .slice a2 bs.length c2], .agg #[.slice b1 ws'.length d1, .slice b2 bs'.length d2]] w fun e w' => e = .returned (.bool (decide (ws = ws') && decide (bs = bs'))) ∧ Below w.heap.size w w' := by
  have o0 := (Own.new w [.slice a1 ws.length c1, .slice a2 bs.length c2] 25).alloc (.cells [.slice b1 ws'.length d1, .slice b2 bs'.length d2].toArray 25)
  have o1 := Own.new (w.alloc (.cells [.slice a1 ws.length c1, .slice a2 bs.length c2].toArray 25)) [.slice b1 ws'.length d1, .slice b2 bs'.length d2] 25
  have hb0 := ((Below.refl w.heap.size w).alloc (Nat.le_refl _) (.cells [.slice a1 ws.length c1, .slice a2 bs.length c2].toArray 25)).alloc (by simp) (.cells [.slice b1 ws'.length d1, .slice b2 bs'.length d2].toArray 25)
  rw [World.size_alloc] at o1
  have r1 := (h1.below hb0 (Nat.le_refl _)).more hb0.size
  have r2 := (h2.below hb0 (Nat.le_refl _)).more hb0.size
  have r3 := (h3.below hb0 (Nat.le_refl _)).more hb0.size
  have r4 := (h4.below hb0 (Nat.le_refl _)).more hb0.size
  have f0 := o0.at_ (i := 0) rfl
  have f1 := o0.at_ (i := 1) rfl
  have g0 := o1.at_ (i := 0) rfl
  have g1 := o1.at_ (i := 1) rfl
  clear h1 h2 h3 h4 o0 o1
  go_enter Tryd.func7, Tryd.ntmps7
  go_wp2_with fail
  generalize ((w.alloc (.cells [.slice a1 ws.length c1, .slice a2 bs.length c2].toArray 25)).alloc (.cells [.slice b1 ws'.length d1, .slice b2 bs'.length d2].toArray 25)) = W at *
  refine (eqStringS_any a1 b1 c1 d1 ws ws' _ r1 r3 l1).mono ?_
  rintro e w' ⟨rfl, n, rfl⟩
  have r2' : Reads (W.drewN n) (W.drewN n).heap.size a2 (iv bs) := r2
  have r4' : Reads (W.drewN n) (W.drewN n).heap.size b2 (iv bs') := r4
  have hbn : Below w.heap.size w (W.drewN n) := hb0.trans ⟨rfl, rfl, rfl, Nat.le_refl _, fun _ _ => rfl⟩
  cases hx : decide (ws = ws') with
  | false =>
    have HX := Lib.hid hx
    clear hx
    go_wp2_with fail
    go_ret
    exact ⟨ret_bool (by rw [HX.out]; rfl), hbn⟩
  | true =>
    have HX := Lib.hid hx
    clear hx
    go_wp2_with fail
    refine (eqIntS_any a2 b2 c2 d2 bs bs' _ r2' r4' l2).mono ?_
    rintro e w' ⟨rfl, n2, rfl⟩
    have hbn2 : Below w.heap.size w ((W.drewN n).drewN n2) := hbn.trans ⟨rfl, rfl, rfl, Nat.le_refl _, fun _ _ => rfl⟩
    cases hy : decide (bs = bs') with
    | false =>
      have HY := Lib.hid hy
      clear hy
      go_wp2_with fail
      go_ret
      exact ⟨ret_bool (by rw [HX.out, HY.out]; rfl), by first | exact hbn2 | simpa using hbn2⟩
    | true =>
      have HY := Lib.hid hy
      clear hy
      go_wp2_with fail
      go_ret
      exact ⟨ret_bool (by rw [HX.out, HY.out]; rfl), by first | exact hbn2 | simpa using hbn2⟩
set_option maxRecDepth 100000 in
theorem markCage_yes (g1 g2 c1 c2 k : Nat) (ws : List ByteArray) (bs : List Int) (w : World) (o1 : Own w g1 (sv ws)) (o2 : Own w g2 (iv bs)) (hne : g1 ≠ g2) (l1 : ws.length ≤ 1048576) (l2 : bs.length ≤ 1048576) (k1 : 1 ≤ k) (hk : k ≤ 1000000) :
    Calls Tryd.prog 8 #[.agg #[.slice (some ⟨g1, 0, none⟩) ws.length c1, .slice (some ⟨g2, 0, none⟩) bs.length c2], .int .i64 (k : Int)] w fun e w' => e = .returned (.int .i64 ((k + ws.length + bs.length : Nat) : Int)) ∧ Own w' g1 (sv (mks k ws.length)) ∧ Own w' g2 (iv (mki (k + ws.length) bs.length)) ∧ ∃ wm, w.grownBy wm (some g1) ∧ wm.grownBy w' (some g2) := by
  have ob := Own.new w [.slice (some ⟨g1, 0, none⟩) ws.length c1, .slice (some ⟨g2, 0, none⟩) bs.length c2] 25
  have p1 := o1.alloc (.cells [.slice (some ⟨g1, 0, none⟩) ws.length c1, .slice (some ⟨g2, 0, none⟩) bs.length c2].toArray 25)
  have p2 := o2.alloc (.cells [.slice (some ⟨g1, 0, none⟩) ws.length c1, .slice (some ⟨g2, 0, none⟩) bs.length c2].toArray 25)
  have hb0 := (Below.refl w.heap.size w).alloc (Nat.le_refl _) (.cells [.slice (some ⟨g1, 0, none⟩) ws.length c1, .slice (some ⟨g2, 0, none⟩) bs.length c2].toArray 25)
  have hl1 := o1.lt
  have hl2 := o2.lt
  have f0 := ob.at_ (i := 0) rfl
  have f1 := ob.at_ (i := 1) rfl
  go_enter Tryd.func8, Tryd.ntmps8
  go_wp2_with fail
  generalize (w.alloc (.cells [.slice (some ⟨g1, 0, none⟩) ws.length c1, .slice (some ⟨g2, 0, none⟩) bs.length c2].toArray 25)) = W at *
  refine (markStrs_own g1 c1 k ws W p1 l1 k1 (by omega)).mono ?_
  rintro e w1 ⟨rfl, q1, gr1⟩
  have q2 := p2.grown gr1 (by simp; omega)
  have ob1 := ob.grown gr1 (by simp; omega)
  have e1 := ob1.at_ (i := 1) rfl
  go_wp2_with fail
  refine (markInts_own g2 c2 (k + ws.length) bs w1 q2 l2 (by omega) (by omega)).mono ?_
  rintro e w2 ⟨rfl, q3, gr2⟩
  have q4 := q1.grown gr2 (by simp; omega)
  go_wp2
  go_ret
  exact ⟨rfl, q4, q3, w1, grown_trans (gr_bel hb0) gr1, gr2⟩
theorem markCage_nil (k : Nat) (w : World) :
    Calls Tryd.prog 8 #[.agg #[.slice none 0 0, .slice none 0 0], .int .i64 (k : Int)] w fun e w' => e = .returned (.int .i64 (k : Int)) ∧ Below w.heap.size w w' := by
  have ob := Own.new w [.slice none 0 0, .slice none 0 0] 25
  have hb0 := (Below.refl w.heap.size w).alloc (Nat.le_refl _) (.cells [.slice none 0 0, .slice none 0 0].toArray 25)
  have f0 := ob.at_ (i := 0) rfl
  have f1 := ob.at_ (i := 1) rfl
  have n1 : ∀ W, Calls Tryd.prog 25 #[.slice none 0 0, .int .i64 (k : Int)] W fun e w' => e = .returned (.int .i64 (k : Int)) ∧ W = w' := fun W => by
    go_enter Tryd.func25, Tryd.ntmps25
    go_wp2
    go_loop [1, 5] (fun m i => i = .int .i64 0 ∧ m = .int .i64 (k : Int)) (fun _ _ => 0)
    case atStart => exact ⟨rfl, rfl⟩
    case round =>
      obtain ⟨rfl, rfl⟩ := hrel
      go_wp2
      go_ret
      exact ⟨rfl, rfl⟩
  have n2 : ∀ W, Calls Tryd.prog 26 #[.slice none 0 0, .int .i64 (k : Int)] W fun e w' => e = .returned (.int .i64 (k : Int)) ∧ W = w' := fun W => by
    go_enter Tryd.func26, Tryd.ntmps26
    go_wp2
    go_loop [1, 5] (fun m i => i = .int .i64 0 ∧ m = .int .i64 (k : Int)) (fun _ _ => 0)
    case atStart => exact ⟨rfl, rfl⟩
    case round =>
      obtain ⟨rfl, rfl⟩ := hrel
      go_wp2
      go_ret
      exact ⟨rfl, rfl⟩
  go_enter Tryd.func8, Tryd.ntmps8
  go_wp2_with (first | (go_at_call 25; ((with_reducible refine (n1 _).mono ?_); rintro e w' ⟨rfl, rfl⟩)) | (go_at_call 26; ((with_reducible refine (n2 _).mono ?_); rintro e w' ⟨rfl, rfl⟩)))
  go_ret
  exact ⟨rfl, hb0⟩
set_option maxRecDepth 100000 in
theorem heldCage_any (a1 a2 : Option Addr) (c1 c2 k n1 n2 : Nat) (w : World) (h1 : Reads w w.heap.size a1 (sv (mks k n1))) (h2 : Reads w w.heap.size a2 (iv (mki (k + n1) n2))) (l1 : n1 ≤ 1048576) (l2 : n2 ≤ 1048576) (k1 : 1 ≤ k) (hk : k ≤ 1000000) :
    Calls Tryd.prog 9 #[.agg #[.slice a1 n1 c1, .slice a2 n2 c2], .int .i64 (k : Int)] w fun e w' => e = .returned (.int .i64 ((k + n1 + n2 : Nat) : Int)) ∧ Below w.heap.size w w' := by
  have ob := Own.new w [.slice a1 n1 c1, .slice a2 n2 c2] 25
  have hb0 := (Below.refl w.heap.size w).alloc (Nat.le_refl _) (.cells [.slice a1 n1 c1, .slice a2 n2 c2].toArray 25)
  have r1 := (h1.below hb0 (Nat.le_refl _)).more hb0.size
  have r2 := (h2.below hb0 (Nat.le_refl _)).more hb0.size
  have f0 := ob.at_ (i := 0) rfl
  have f1 := ob.at_ (i := 1) rfl
  go_enter Tryd.func9, Tryd.ntmps9
  go_wp2_with fail
  generalize (w.alloc (.cells [.slice a1 n1 c1, .slice a2 n2 c2].toArray 25)) = W at *
  refine (heldStringS_any a1 c1 k n1 W r1 l1 k1 (by omega)).mono ?_
  rintro e w1 ⟨rfl, hb1⟩
  have ob1 := ob.below hb1 ob.lt
  have e1 := ob1.at_ (i := 1) rfl
  have r2' := (r2.below hb1 (Nat.le_refl _)).more hb1.size
  go_wp2_with fail
  refine (heldInts_any a2 c2 (k + n1) n2 w1 r2' l2 (by omega) (by omega)).mono ?_
  rintro e w' ⟨rfl, rfl⟩
  go_wp2
  go_ret
  exact ⟨rfl, bt hb0 hb1⟩
set_option maxRecDepth 100000 in
set_option maxHeartbeats 2000000 in
theorem rcCages_any (a1 a2 b1 b2 : Option Addr) (c1 c2 d1 d2 : Nat) (ws ws' : List ByteArray) (bs bs' : List Int) (w : World) (h1 : Reads w w.heap.size a1 (sv ws)) (h2 : Reads w w.heap.size a2 (iv bs)) (h3 : Reads w w.heap.size b1 (sv ws')) (h4 : Reads w w.heap.size b2 (iv bs')) (l1 : ws.length ≤ 1048576) (l2 : bs.length ≤ 1048576) :
    Calls Tryd.prog 14 #[.agg #[.slice a1 ws.length c1, .slice a2 bs.length c2], .agg #[.slice b1 ws'.length d1, .slice b2 bs'.length d2]] w fun e w' => e = .returned (.bool (decide (ws = ws') && decide (bs = bs'))) ∧ Below w.heap.size w w' := by
  have o0 := (Own.new w [.slice a1 ws.length c1, .slice a2 bs.length c2] 25).alloc (.cells [.slice b1 ws'.length d1, .slice b2 bs'.length d2].toArray 25)
  have o1 := Own.new (w.alloc (.cells [.slice a1 ws.length c1, .slice a2 bs.length c2].toArray 25)) [.slice b1 ws'.length d1, .slice b2 bs'.length d2] 25
  have hb0 := ((Below.refl w.heap.size w).alloc (Nat.le_refl _) (.cells [.slice a1 ws.length c1, .slice a2 bs.length c2].toArray 25)).alloc (by simp) (.cells [.slice b1 ws'.length d1, .slice b2 bs'.length d2].toArray 25)
  rw [World.size_alloc] at o1
  have r1 := (h1.below hb0 (Nat.le_refl _)).more hb0.size
  have r2 := (h2.below hb0 (Nat.le_refl _)).more hb0.size
  have r3 := (h3.below hb0 (Nat.le_refl _)).more hb0.size
  have r4 := (h4.below hb0 (Nat.le_refl _)).more hb0.size
  have f0 := o0.at_ (i := 0) rfl
  have f1 := o0.at_ (i := 1) rfl
  have g0 := o1.at_ (i := 0) rfl
  have g1 := o1.at_ (i := 1) rfl
  clear h1 h2 h3 h4 o0 o1
  go_enter Tryd.func14, Tryd.ntmps14
  go_wp2_with fail
  generalize ((w.alloc (.cells [.slice a1 ws.length c1, .slice a2 bs.length c2].toArray 25)).alloc (.cells [.slice b1 ws'.length d1, .slice b2 bs'.length d2].toArray 25)) = W at *
  refine (rcTexts_any a1 b1 c1 d1 ws ws' _ r1 r3 l1).mono ?_
  rintro e w' ⟨rfl, n, rfl⟩
  have r2' : Reads (W.drewN n) (W.drewN n).heap.size a2 (iv bs) := r2
  have r4' : Reads (W.drewN n) (W.drewN n).heap.size b2 (iv bs') := r4
  have hbn : Below w.heap.size w (W.drewN n) := hb0.trans ⟨rfl, rfl, rfl, Nat.le_refl _, fun _ _ => rfl⟩
  cases hx : decide (ws = ws') with
  | false =>
    have HX := Lib.hid hx
    clear hx
    go_wp2_with fail
    go_ret
    exact ⟨ret_bool (by rw [HX.out]; rfl), hbn⟩
  | true =>
    have HX := Lib.hid hx
    clear hx
    go_wp2_with fail
    refine (rcInts_any a2 b2 c2 d2 bs bs' _ r2' r4' l2).mono ?_
    rintro e w' ⟨rfl, n2, rfl⟩
    have hbn2 : Below w.heap.size w ((W.drewN n).drewN n2) := hbn.trans ⟨rfl, rfl, rfl, Nat.le_refl _, fun _ _ => rfl⟩
    cases hy : decide (bs = bs') with
    | false =>
      have HY := Lib.hid hy
      clear hy
      go_wp2_with fail
      go_ret
      exact ⟨ret_bool (by rw [HX.out, HY.out]; rfl), by first | exact hbn2 | simpa using hbn2⟩
    | true =>
      have HY := Lib.hid hy
      clear hy
      go_wp2_with fail
      go_ret
      exact ⟨ret_bool (by rw [HX.out, HY.out]; rfl), by first | exact hbn2 | simpa using hbn2⟩
end Go.Proofs.YtlpfhabfbnjnbaaDoor

/- The walk of the law that both ParseCages answer alike. -/
namespace Go.Proofs.YtlpfhabfbnjnbaaDoor
open Go.RowKit

theorem cg_small {s : ByteArray} {ws : List ByteArray} {bs : List Int} (h : ansIs s ws bs) : ws.length ≤ 1048576 ∧ bs.length ≤ 1048576 ∧ ws.length ≤ 4 ∧ bs.length ≤ 9 := by
  have := (cage_iff.1 h.1).1; omega
set_option maxRecDepth 100000 in
set_option maxHeartbeats 4000000 in
theorem exactParseCage_walk (s : ByteArray) (w : World) (_hs : s.size ≤ maxLen) (hG : GlB w) :
    Calls Tryd.prog 3 #[.string s] w fun e w' => e = .returned (.bool true) ∧ Below w.heap.size w w' := by
  by_cases hl : 1048576 < s.size
  · go_enter Tryd.func3, Tryd.ntmps3
    go_wp2
    go_ret
    exact ⟨rfl, Below.refl _ _⟩
  · go_enter Tryd.func3, Tryd.ntmps3
    go_wp2_with fail
    refine (specParseCage_any s w (by omega)).mono ?_
    rintro e w1 ⟨hb1, ⟨ws, bs, s1, d1, s2, d2, hans, rfl, hs1, hs2, hs12, hd1, oS1, oS2⟩ | ⟨hno, rfl⟩⟩
    · have hG1 := (hG.below hb1).alloc (.cells [.slice (some ⟨s1, 0, none⟩) ws.length d1, .slice (some ⟨s2, 0, none⟩) bs.length d2].toArray 25)
      have B3 := Own.new w1 [.slice (some ⟨s1, 0, none⟩) ws.length d1, .slice (some ⟨s2, 0, none⟩) bs.length d2] 25
      have p1 := oS1.alloc (.cells [.slice (some ⟨s1, 0, none⟩) ws.length d1, .slice (some ⟨s2, 0, none⟩) bs.length d2].toArray 25)
      have p2 := oS2.alloc (.cells [.slice (some ⟨s1, 0, none⟩) ws.length d1, .slice (some ⟨s2, 0, none⟩) bs.length d2].toArray 25)
      have hbw := hb1.alloc hb1.size (.cells [.slice (some ⟨s1, 0, none⟩) ws.length d1, .slice (some ⟨s2, 0, none⟩) bs.length d2].toArray 25)
      have ls1 := oS1.lt
      have ls2 := oS2.lt
      clear oS1 oS2 hb1
      go_wp2_with fail
      generalize (w1.alloc (.cells [.slice (some ⟨s1, 0, none⟩) ws.length d1, .slice (some ⟨s2, 0, none⟩) bs.length d2].toArray 25)) = W1 at *
      generalize w1.heap.size = b3 at *
      have l3 := B3.lt
      refine (implParseCage_any s W1 hG1 (by omega)).mono ?_
      rintro e w2 ⟨hb2, ⟨ws', bs', g1, c1, g2, c2, hans', rfl, hg1, hg2, hg12, hc1, oG1, oG2⟩ | ⟨hno, rfl⟩⟩
      case inr => exact absurd hans (hno ws bs)
      obtain ⟨rfl, rfl⟩ := ans_one hans hans'
      obtain ⟨z1, z2, z3, z4⟩ := cg_small hans
      have B3' := (B3.below hb2 l3).alloc (.cells [.slice (some ⟨g1, 0, none⟩) ws.length c1, .slice (some ⟨g2, 0, none⟩) bs.length c2].toArray 25)
      have q1 := (p1.below hb2 (by omega)).alloc (.cells [.slice (some ⟨g1, 0, none⟩) ws.length c1, .slice (some ⟨g2, 0, none⟩) bs.length c2].toArray 25)
      have q2 := (p2.below hb2 (by omega)).alloc (.cells [.slice (some ⟨g1, 0, none⟩) ws.length c1, .slice (some ⟨g2, 0, none⟩) bs.length c2].toArray 25)
      have t1 := oG1.alloc (.cells [.slice (some ⟨g1, 0, none⟩) ws.length c1, .slice (some ⟨g2, 0, none⟩) bs.length c2].toArray 25)
      have t2 := oG2.alloc (.cells [.slice (some ⟨g1, 0, none⟩) ws.length c1, .slice (some ⟨g2, 0, none⟩) bs.length c2].toArray 25)
      have B5 := Own.new w2 [.slice (some ⟨g1, 0, none⟩) ws.length c1, .slice (some ⟨g2, 0, none⟩) bs.length c2] 25
      have hbw2 := (bt hbw hb2).alloc (bt hbw hb2).size (.cells [.slice (some ⟨g1, 0, none⟩) ws.length c1, .slice (some ⟨g2, 0, none⟩) bs.length c2].toArray 25)
      have hG2 := (hG1.below hb2).alloc (.cells [.slice (some ⟨g1, 0, none⟩) ws.length c1, .slice (some ⟨g2, 0, none⟩) bs.length c2].toArray 25)
      have lg1 := oG1.lt
      have lg2 := oG2.lt
      have f0 := B3'.at_ (i := 0) rfl
      have f1 := B3'.at_ (i := 1) rfl
      clear p1 p2 oG1 oG2 hb2 hbw hG1 B3 hans'
      go_wp2_with fail
      generalize (w2.alloc (.cells [.slice (some ⟨g1, 0, none⟩) ws.length c1, .slice (some ⟨g2, 0, none⟩) bs.length c2].toArray 25)) = W2 at *
      generalize w2.heap.size = b5 at *
      refine (eqCage_any (some ⟨g1, 0, none⟩) (some ⟨g2, 0, none⟩) (some ⟨s1, 0, none⟩) (some ⟨s2, 0, none⟩) c1 c2 d1 d2 ws ws bs bs W2 (Reads.of_own t1 t1.lt) (Reads.of_own t2 t2.lt) (Reads.of_own q1 q1.lt) (Reads.of_own q2 q2.lt) z1 z2).mono ?_
      rintro e w3 ⟨rfl, hb3⟩
      rw [show (decide (ws = ws) && decide (bs = bs)) = true by simp]
      have B3a := B3'.below hb3 B3'.lt
      have B5a := B5.below hb3 B5.lt
      have q1a := q1.below hb3 q1.lt
      have q2a := q2.below hb3 q2.lt
      have t1a := t1.below hb3 t1.lt
      have t2a := t2.below hb3 t2.lt
      have hbw3 := bt hbw2 hb3
      have hG3 := hG2.below hb3
      have f0 := B5a.at_ (i := 0) rfl
      have f1 := B5a.at_ (i := 1) rfl
      clear B3' B5 q1 q2 t1 t2 hbw2 hG2 hb3
      go_wp2_with fail
      refine (markCage_yes g1 g2 c1 c2 1 ws bs w3 t1a t2a hg12 z1 z2 (Nat.le_refl _) (by omega)).mono ?_
      rintro e w4 ⟨rfl, t1b, t2b, wm, gr1, gr2⟩
      have B3b := (B3a.grown gr1 (by simp; omega)).grown gr2 (by simp; omega)
      have B5b := (B5a.grown gr1 (by simp; omega)).grown gr2 (by simp; omega)
      have q1b := (q1a.grown gr1 (by simp; omega)).grown gr2 (by simp; omega)
      have q2b := (q2a.grown gr1 (by simp; omega)).grown gr2 (by simp; omega)
      have hB := hG.big
      have hbw4 := (hbw3.grown gr1 hbw3.size (fun k hk => by cases hk; omega)).grown gr2 (Nat.le_trans hbw3.size gr1.size) (fun k hk => by cases hk; omega)
      have hz3 := hbw3.size
      have hG4 := hG3.low (B := 3) (((Below.refl 3 w3).grown gr1 (by omega) (fun k hk => by cases hk; omega)).grown gr2 (by have := gr1.size; omega) (fun k hk => by cases hk; omega)) (by omega)
      have e0 := B5b.at_ (i := 0) rfl
      have e1 := B5b.at_ (i := 1) rfl
      have nh := fun W r1 r2 => heldCage_any (some ⟨g1, 0, none⟩) (some ⟨g2, 0, none⟩) c1 c2 1 ws.length bs.length W r1 r2 z1 z2 (Nat.le_refl _) (by omega)
      have HM : Hid (1 + ws.length + bs.length ≤ 1000) := Lib.hid (by omega)
      generalize 1 + ws.length + bs.length = M at *
      have tM : decide ((M : Int) < 0) = false := decide_eq_false (by omega)
      clear B3a B5a q1a q2a t1a t2a hbw3 hG3 gr1 gr2 f0 f1
      go_wp2_with fail
      refine (nh w4 (Reads.of_own t1b t1b.lt) (Reads.of_own t2b t2b.lt)).mono ?_
      rintro e w5 ⟨rfl, hb5⟩
      have B3c := B3b.below hb5 B3b.lt
      have B5c := B5b.below hb5 B5b.lt
      have q1c := q1b.below hb5 q1b.lt
      have q2c := q2b.below hb5 q2b.lt
      have t1c := t1b.below hb5 t1b.lt
      have t2c := t2b.below hb5 t2b.lt
      have hbw5 := bt hbw4 hb5
      have hG5 := hG4.below hb5
      clear B3b B5b q1b q2b t1b t2b hbw4 hG4 hb5 e0 e1
      go_wp2_with fail
      refine (implParseCage_any s w5 hG5 (by omega)).mono ?_
      rintro e w6 ⟨hb6, ⟨ws', bs', h1, k1, h2, k2, hans', rfl, hh1, hh2, hh12, hk1, oH1, oH2⟩ | ⟨hno, rfl⟩⟩
      case inr => exact absurd hans (hno ws bs)
      obtain ⟨rfl, rfl⟩ := ans_one hans hans'
      have B3d := (B3c.below hb6 B3c.lt).alloc (.cells [.slice (some ⟨h1, 0, none⟩) ws.length k1, .slice (some ⟨h2, 0, none⟩) bs.length k2].toArray 25)
      have B5d := (B5c.below hb6 B5c.lt).alloc (.cells [.slice (some ⟨h1, 0, none⟩) ws.length k1, .slice (some ⟨h2, 0, none⟩) bs.length k2].toArray 25)
      have q1d := (q1c.below hb6 q1c.lt).alloc (.cells [.slice (some ⟨h1, 0, none⟩) ws.length k1, .slice (some ⟨h2, 0, none⟩) bs.length k2].toArray 25)
      have q2d := (q2c.below hb6 q2c.lt).alloc (.cells [.slice (some ⟨h1, 0, none⟩) ws.length k1, .slice (some ⟨h2, 0, none⟩) bs.length k2].toArray 25)
      have t1d := (t1c.below hb6 t1c.lt).alloc (.cells [.slice (some ⟨h1, 0, none⟩) ws.length k1, .slice (some ⟨h2, 0, none⟩) bs.length k2].toArray 25)
      have t2d := (t2c.below hb6 t2c.lt).alloc (.cells [.slice (some ⟨h1, 0, none⟩) ws.length k1, .slice (some ⟨h2, 0, none⟩) bs.length k2].toArray 25)
      have r1d := oH1.alloc (.cells [.slice (some ⟨h1, 0, none⟩) ws.length k1, .slice (some ⟨h2, 0, none⟩) bs.length k2].toArray 25)
      have r2d := oH2.alloc (.cells [.slice (some ⟨h1, 0, none⟩) ws.length k1, .slice (some ⟨h2, 0, none⟩) bs.length k2].toArray 25)
      have hbw6 := (bt hbw5 hb6).alloc (bt hbw5 hb6).size (.cells [.slice (some ⟨h1, 0, none⟩) ws.length k1, .slice (some ⟨h2, 0, none⟩) bs.length k2].toArray 25)
      have B9 := Own.new w6 [.slice (some ⟨h1, 0, none⟩) ws.length k1, .slice (some ⟨h2, 0, none⟩) bs.length k2] 25
      have e0 := B3d.at_ (i := 0) rfl
      have e1 := B3d.at_ (i := 1) rfl
      clear B3c B5c q1c q2c t1c t2c hbw5 hG5 hb6 oH1 oH2 hans'
      go_wp2_with fail
      generalize (w6.alloc (.cells [.slice (some ⟨h1, 0, none⟩) ws.length k1, .slice (some ⟨h2, 0, none⟩) bs.length k2].toArray 25)) = W6 at *
      generalize w6.heap.size = b9 at *
      refine (eqCage_any (some ⟨h1, 0, none⟩) (some ⟨h2, 0, none⟩) (some ⟨s1, 0, none⟩) (some ⟨s2, 0, none⟩) k1 k2 d1 d2 ws ws bs bs W6 (Reads.of_own r1d r1d.lt) (Reads.of_own r2d r2d.lt) (Reads.of_own q1d q1d.lt) (Reads.of_own q2d q2d.lt) z1 z2).mono ?_
      rintro e w7 ⟨rfl, hb7⟩
      rw [show (decide (ws = ws) && decide (bs = bs)) = true by simp]
      have B5e := B5d.below hb7 B5d.lt
      have t1e := t1d.below hb7 t1d.lt
      have t2e := t2d.below hb7 t2d.lt
      have hbw7 := bt hbw6 hb7
      have e0 := B5e.at_ (i := 0) rfl
      have e1 := B5e.at_ (i := 1) rfl
      clear B3d B5d q1d q2d t1d t2d r1d r2d hbw6 hb7 B9
      go_wp2_with fail
      refine (nh w7 (Reads.of_own t1e t1e.lt) (Reads.of_own t2e t2e.lt)).mono ?_
      rintro e w8 ⟨rfl, hb8⟩
      have hbw8 := bt hbw7 hb8
      go_wp2
      go_ret
      exact ⟨rfl, hbw8⟩
    · have hG1 := (hG.below hb1).alloc (.cells [.slice none 0 0, .slice none 0 0].toArray 25)
      have B3 := Own.new w1 [.slice none 0 0, .slice none 0 0] 25
      have hbw := hb1.alloc hb1.size (.cells [.slice none 0 0, .slice none 0 0].toArray 25)
      go_wp2_with fail
      generalize (w1.alloc (.cells [.slice none 0 0, .slice none 0 0].toArray 25)) = W1 at *
      generalize w1.heap.size = b3 at *
      refine (implParseCage_any s W1 hG1 (by omega)).mono ?_
      rintro e w2 ⟨hb2, ⟨ws', bs', g1, c1, g2, c2, hans', rfl, hg1, hg2, hg12, hc1, oG1, oG2⟩ | ⟨-, rfl⟩⟩
      case inl => exact absurd hans' (hno ws' bs')
      have B3a := (B3.below hb2 B3.lt).alloc (.cells [.slice none 0 0, .slice none 0 0].toArray 25)
      have B5a := Own.new w2 [.slice none 0 0, .slice none 0 0] 25
      have hbw2 := (bt hbw hb2).alloc (bt hbw hb2).size (.cells [.slice none 0 0, .slice none 0 0].toArray 25)
      have hG2 := (hG1.below hb2).alloc (.cells [.slice none 0 0, .slice none 0 0].toArray 25)
      have e0 := B3a.at_ (i := 0) rfl
      have e1 := B3a.at_ (i := 1) rfl
      have neq := fun W => eqCage_any none none none none 0 0 0 0 [] [] [] [] W .nil_ .nil_ .nil_ .nil_ (by simp) (by simp)
      have nhd := fun W => heldCage_any none none 0 0 1 0 0 W (.inl rfl) (.inl rfl) (by omega) (by omega) (by omega) (by omega)
      rw [show (decide (([] : List ByteArray) = []) && decide (([] : List Int) = [])) = true by simp] at neq
      simp only [List.length_nil, Nat.add_zero] at neq nhd
      clear B3 hbw hG1 hb2 hb1
      go_wp2_with fail
      generalize (w2.alloc (.cells [.slice none 0 0, .slice none 0 0].toArray 25)) = W2 at *
      generalize w2.heap.size = b5 at *
      refine (neq W2).mono ?_
      rintro e w3 ⟨rfl, hb3⟩
      have B3b := B3a.below hb3 B3a.lt
      have B5b := B5a.below hb3 B5a.lt
      have hbw3 := bt hbw2 hb3
      have hG3 := hG2.below hb3
      have e0 := B5b.at_ (i := 0) rfl
      have e1 := B5b.at_ (i := 1) rfl
      clear B3a B5a hbw2 hG2 hb3
      go_wp2_with fail
      refine (markCage_nil 1 w3).mono ?_
      rintro e w4 ⟨rfl, hb4⟩
      have B3c := B3b.below hb4 B3b.lt
      have B5c := B5b.below hb4 B5b.lt
      have hbw4 := bt hbw3 hb4
      have hG4 := hG3.below hb4
      have e0 := B5c.at_ (i := 0) rfl
      have e1 := B5c.at_ (i := 1) rfl
      clear B3b B5b hbw3 hG3 hb4
      go_wp2_with fail
      refine (nhd w4).mono ?_
      rintro e w5 ⟨rfl, hb5⟩
      have B3d := B3c.below hb5 B3c.lt
      have B5d := B5c.below hb5 B5c.lt
      have hbw5 := bt hbw4 hb5
      have hG5 := hG4.below hb5
      clear B3c B5c hbw4 hG4 hb5
      go_wp2_with fail
      refine (implParseCage_any s w5 hG5 (by omega)).mono ?_
      rintro e w6 ⟨hb6, ⟨ws', bs', g1, c1, g2, c2, hans', rfl, hg1, hg2, hg12, hc1, oG1, oG2⟩ | ⟨-, rfl⟩⟩
      case inl => exact absurd hans' (hno ws' bs')
      have B3e := (B3d.below hb6 B3d.lt).alloc (.cells [.slice none 0 0, .slice none 0 0].toArray 25)
      have B5e := (B5d.below hb6 B5d.lt).alloc (.cells [.slice none 0 0, .slice none 0 0].toArray 25)
      have hbw6 := (bt hbw5 hb6).alloc (bt hbw5 hb6).size (.cells [.slice none 0 0, .slice none 0 0].toArray 25)
      have e0 := B3e.at_ (i := 0) rfl
      have e1 := B3e.at_ (i := 1) rfl
      clear B3d B5d hbw5 hG5 hb6
      go_wp2_with fail
      generalize (w6.alloc (.cells [.slice none 0 0, .slice none 0 0].toArray 25)) = W6 at *
      refine (neq W6).mono ?_
      rintro e w7 ⟨rfl, hb7⟩
      have B5f := B5e.below hb7 B5e.lt
      have hbw7 := bt hbw6 hb7
      have e0 := B5f.at_ (i := 0) rfl
      have e1 := B5f.at_ (i := 1) rfl
      go_wp2_with fail
      refine (nhd w7).mono ?_
      rintro e w8 ⟨rfl, hb8⟩
      have hbw8 := bt hbw7 hb8
      go_wp2
      go_ret
      exact ⟨rfl, hbw8⟩
end Go.Proofs.YtlpfhabfbnjnbaaDoor

/- The package variables of the library, as a row's condition and the world's shape have them. -/
namespace Go.Proofs.YtlpfhabfbnjnbaaDoor
open Go.RowKit

theorem errAt_of {W : World} {n nm : String} {d : DataW Unit} {g : Nat} (h : Lib.VarReads Tryd.prog W n (.iface nm d)) (hg : Tryd.prog.globalNamed n = some g) (ht : (Tryd.prog.globals[g]?).map (·.type) = some 46) : ErrAt W g := by
  obtain ⟨g', t, cs, fuel, p, h1, h2, h3, h4⟩ := h
  obtain rfl := Option.some.inj (hg.symm.trans h1)
  obtain rfl := Option.some.inj (ht.symm.trans h2)
  obtain ⟨_, u, v, hcs, -, -⟩ := iface_of_trod Tryd.underlying46 h4
  refine ⟨.iface u v, ?_, .inr ⟨u, v, rfl⟩⟩
  rw [World.var?_cell hg h3 0]
  have : cs[0]? = cs.toList[0]? := by simp
  rw [this, hcs]; rfl
theorem glB_of {laid : List (String × DataW Unit)} {W : World} (hf : (laid.all fun x => x.2.handleName?.isNone) = true) (hL : laidMetH Tryd.prog laid W) (h1 : ("strconv.ErrSyntax", Rows.laid_strconv_ErrSyntax) ∈ laid) (h2 : ("strconv.ErrRange", Rows.laid_strconv_ErrRange) ∈ laid) (hsh : W.ShapedOpen Tryd.prog) : GlB W := by
  rw [MakeChecks.laidMetH_plain _ _ _ hf] at hL
  exact ⟨cell_of_shapedOpen_int (zero := #[.int .i64 0]) (t := 3) hsh (of_decide_eq_true (by kernel_rfl)) (by kernel_rfl) rfl (by kernel_rfl) (by kernel_rfl) Tryd.underlying3,
    errAt_of (Lib.laidMet.reads hL h1) (by kernel_rfl) (by kernel_rfl), errAt_of (Lib.laidMet.reads hL h2) (by kernel_rfl) (by kernel_rfl)⟩

/-- The plain wrap, with a condition on the memory and with the world's shape. -/
theorem returnsInHanded_and_shaped {H : Type} {enc : TypeId × Value → H} {a : Assume} {C : Checked} {os : Os} {f : FuncId} {fn : Func} {s : ChangeSpec} {conds : List PathCond} {apart fresh handsOn again : Bool} {X : World → Array Value → Prop}
    (hX : ∀ (w w' : World) (args : Array Value), w.heap = w'.heap → X w args → X w' args)
    (own : ownKnob C.prog.godebug = none) (started : os.Started) (noInit : C.prog.inits.idxOf? f = none) (hfn : C.prog.funcs[f]? = some fn)
    (witness : ∃ (w : World) (tape : Tape) (i : Input), w.os = os ∧ (w.forCall tape i).Shaped C.prog ∧ i.vars = [] ∧ Input.okWide C.prog (w.forCall tape i) .any w.heap.size f i ∧
      ((s.pre enc C.prog fn conds apart (w.forCall tape i).memory i.args ∧ X (w.forCall tape i).memory i.args) ∧ sizedMet enc C.prog fn (OpenSpec.ofChange s) apart (w.forCall tape i).memory i.args) ∧ a.holds C.prog (lone (Frame.enter C.prog f i.args .normal) [] (w.forCall tape i)))
    (contract : ∀ (W : World) (base : Nat) (args : Array Value) (ds gs : List (DataW H)) (before : List MemPlace),
      (∀ (j : Nat) t v, fn.params[j]? = some t → args[j]? = some v → Value.okWide C.prog W .any base t v) →
      DataW.Whole enc C.prog fn.params.toList s.vars apart W args.toList ds gs before →
      conds.all (PathCond.test C.prog ⟨fn.params.toList, ds, s.plain.varTypes C.prog, gs⟩) = true →
      X W args → W.ShapedOpen C.prog →
      Calls C.prog f args W fun e W' => ∃ v, e = .returned v ∧ s.post enc C.prog fn apart fresh handsOn again W args v W') :
    ReturnsInHanded a C os f .any (fun w args => (s.pre enc C.prog fn conds apart w args ∧ X w args) ∧ sizedMet enc C.prog fn (OpenSpec.ofChange s) apart w args) (s.post enc C.prog fn apart fresh handsOn again) := by
  refine returnsInHanded_of_calls own started noInit witness ?_
  intro w tape i _ hsh _ hok hpre _
  obtain ⟨_, _, _, fn', hfn', _, _, _, _, hval⟩ := hok
  have e : fn' = fn := Option.some.inj (hfn'.symm.trans hfn)
  subst e
  obtain ⟨⟨⟨ds, gs, before, hw, hc⟩, hx⟩, _⟩ := hpre
  have hw' := DataW.Whole.of_heap (w' := w.forCall tape i) (by rfl) hw
  refine (contract (w.forCall tape i) w.heap.size i.args ds gs before hval hw' hc (hX _ _ _ (by rfl) hx) hsh).mono fun e W' ⟨v, he, hp⟩ => ?_
  subst he
  exact ChangeSpec.post_blind hp
end Go.Proofs.YtlpfhabfbnjnbaaDoor
