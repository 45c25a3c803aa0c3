/- Contracts of the laws' own functions on rotors and wheels, and of the marks. -/
import Derived.Test.YtaplndmgbinhcaaSpecC
import Derived.Test.YtaplndmgbinhcaaStrs
namespace Go.Proofs.Ytaplndmgbinhcaa
open Go.RowKit

/-- The digits of a number. -/
def mkD (k : Nat) : List UInt8 := if _h : k = 0 then [] else mkD (k / 10) ++ [UInt8.ofNat (48 + k % 10)]
termination_by k
decreasing_by omega
/-- A mark. -/
def mkT (k : Nat) : ByteArray := S (109 :: mkD k)
theorem mkD_pos {k : Nat} (h : 0 < k) : mkD k = mkD (k / 10) ++ [UInt8.ofNat (48 + k % 10)] := by rw [mkD, dif_neg (by omega)]
theorem mkD_zero : mkD 0 = [] := by rw [mkD, dif_pos rfl]
theorem markText_any (k : Nat) (w : World) (h1 : 1 ≤ k) (hk : k ≤ 100000000) :
    Calls Try.prog 33 #[.int .i64 (k : Int)] w fun e w' => e = .returned (.string (mkT k)) ∧ Below w.heap.size w w' := by
  have t0 : decide (k = 0) = false := by simp; omega
  go_enter Try.func33, Try.ntmps33
  go_wp2
  go_loopw [0, 3] (fun i o wr => ∃ (j : Nat) (t : List UInt8), i = .int .i64 j ∧ o = .string (S t) ∧ t.length + j ≤ k ∧ mkD j ++ t = mkD k ∧ Below w.heap.size w wr) (fun i _ _ => (intOf i).toNat)
  case atStart => exact ⟨k, [], rfl, rfl, by simp, by simp, Below.refl _ _⟩
  case round =>
    obtain ⟨j, t, rfl, rfl, hl, he, hb⟩ := hrel
    have hsz : (S t).size ≤ 100000000 := by rw [size_S]; omega
    have HE := Lib.hid he
    clear he
    by_cases hlt : 0 < j
    · have HP := Lib.hid (mkD_pos hlt)
      have hc := run_conv_new (P := Try.prog) wr 37 9 5 Try.underlying37 Try.underlying5 Try.underlying9 [48 + (j : Int) % 10]
      simp only [List.map_cons, List.map_nil, List.length_cons, List.length_nil, Nat.zero_add] at hc
      rw [show (48 + (j : Int) % 10).toNat = 48 + j % 10 by omega] at hc
      generalize UInt8.ofNat (48 + j % 10) = d at hc HP
      have hs1 : (S [d]).size ≤ 1 := by rw [size_S]; simp
      go_wp2
      go_roundw
      case rel =>
        refine ⟨j / 10, d :: t, by go_num, ?_, ?_, ?_, hb.alloc hb.size _⟩
        · rw [S_append]; rfl
        · simp; omega
        · rw [← HE.out, HP.out]; simp
      case measure => simp [intOf]; omega
    · go_wp2
      go_ret
      refine ⟨ret_str ?_, hb⟩
      have h0 := HE.out
      rw [show j = 0 by omega, mkD_zero, List.nil_append] at h0
      unfold mkT
      rw [← h0]
      exact S_append [109] t

/-- The marks from k on. -/
def mks (k n : Nat) : List ByteArray := (List.range n).map fun i => mkT (k + i)
theorem len_mks (k n : Nat) : (mks k n).length = n := by simp [mks]
theorem mks_at {k n i : Nat} (h : i < n) : (mks k n)[i]'(by rw [len_mks]; exact h) = mkT (k + i) := by simp [mks]
/-- The strings of a slice, those before j marked. -/
theorem mks_set {ss : List ByteArray} {k j : Nat} (h : j < ss.length) : (sv ((mks k ss.length).take j ++ ss.drop j)).set j (.string (mkT (k + j))) = sv ((mks k ss.length).take (j + 1) ++ ss.drop (j + 1)) := by
  have := fill_set (A := mks k ss.length) (R := ss) (k := j) (by rw [len_mks]; exact h) (by rw [len_mks])
  rw [mks_at h] at this
  rw [← this]
  simp [sv, List.map_set]
theorem markStringS_any (v : Value) (ss : List ByteArray) (base k : Nat) (w : World) (h : OwR w base 9 1 v ss.length (sv ss)) (hl : ss.length ≤ 1048576) (h1 : 1 ≤ k) (hk : k ≤ 10000000) :
    Calls Try.prog 13 #[v, .int .i64 (k : Int)] w fun e w' => e = .returned (.int .i64 ((k + ss.length : Nat) : Int)) ∧ OwR w' base 9 1 v ss.length (sv (mks k ss.length)) ∧ Below base w w' := by
  obtain ⟨a, c, rfl, hc, -, -⟩ := OwR.val h
  go_enter Try.func13, Try.ntmps13
  go_wp2
  go_loopw [1, 5] (fun m i wr => ∃ j : Nat, j ≤ ss.length ∧ i = .int .i64 j ∧ m = .int .i64 ((k + j : Nat) : Int) ∧ OwR wr base 9 1 (.slice a ss.length c) ss.length (sv ((mks k ss.length).take j ++ ss.drop j)) ∧ Below base w wr) (fun _ i _ => ss.length - (intOf i).toNat)
  case atStart => exact ⟨0, Nat.zero_le _, rfl, rfl, by simpa using h, Below.refl _ _⟩
  case round =>
    clear h
    obtain ⟨j, hj, rfl, rfl, hown, hb⟩ := hrel
    by_cases hlt : j < ss.length
    · obtain ⟨a', c', he, _, _, hg⟩ := OwR.val hown
      injection he with e1 e2 e3
      subst e1
      subst e3
      rcases hg with h0 | ⟨g, rfl, hg, ho⟩
      · omega
      · have HS := Lib.hid (mks_set (k := k) hlt)
        have hln := Lib.hid (show (sv ((mks k ss.length).take j ++ ss.drop j)).length = ss.length by rw [length_sv, fill_len (by rw [len_mks]) (by rw [len_mks]; omega), len_mks])
        have hlt0 := ho.lt
        go_wp2_with fail
        refine (markText_any (k + j) _ (by omega) (by omega)).mono ?_
        rintro e w1 ⟨rfl, hb1⟩
        have o1 := ho.below hb1 ho.lt
        have hown1 := OwR.below hown hb1 (Nat.le_refl _)
        obtain ⟨y, f1⟩ := o1.some_ (i := j) (by rw [hln.out]; exact hlt)
        have f2 := o1.free j (by rw [hln.out]; exact hlt)
        have q1 : (j : Int) < (ss.length : Int) := by omega
        go_wp2
        go_roundw
        case rel =>
          refine ⟨j + 1, by omega, by go_num, by go_num, ?_, (hb.trans (hb1.mono (by omega))).setCell (by simp; omega) _⟩
          have := World.ownsRow.stored hown1 j (.string (mkT (k + j)))
          rw [HS.out] at this
          exact this.1
        case measure => simp [intOf]; omega
    · have hj' : j = ss.length := by omega
      subst hj'
      go_wp2
      go_ret
      refine ⟨ret_int (by omega), ?_, hb⟩
      rw [List.take_of_length_le (by rw [len_mks]; omega), List.drop_eq_nil_of_le (by omega), List.append_nil] at hown
      exact hown

theorem heldStringS_any (a : Option Addr) (c k n : Nat) (w : World) (h : Reads w w.heap.size a (sv (mks k n))) (hl : n ≤ 1048576) (h1 : 1 ≤ k) (hk : k ≤ 10000000) :
    Calls Try.prog 14 #[.slice a n c, .int .i64 (k : Int)] w fun e w' => e = .returned (.int .i64 ((k + n : Nat) : Int)) ∧ Below w.heap.size w w' := by
  have HR := Lib.hid h
  clear h
  go_enter Try.func14, Try.ntmps14
  go_wp2
  go_loopw [1, 5] (fun m i wr => ∃ j : Nat, j ≤ n ∧ i = .int .i64 j ∧ m = .int .i64 ((k + j : Nat) : Int) ∧ Below w.heap.size w wr) (fun _ i _ => n - (intOf i).toNat)
  case atStart => exact ⟨0, Nat.zero_le _, rfl, rfl, Below.refl _ _⟩
  case round =>
    obtain ⟨j, hj, rfl, rfl, hb⟩ := hrel
    by_cases hlt : j < n
    · obtain ⟨b, off, rfl, hbl, hc⟩ := HR.out.open_ (by rw [length_sv, len_mks]; omega)
      have d1 := hc j (by rw [length_sv, len_mks]; exact hlt)
      rw [sv_at (by rw [len_mks]; exact hlt), mks_at hlt] at d1
      have hz := hb.size
      have d2 := (hb.cell (p := ⟨b, off + j, none⟩) hbl).trans d1
      have q1 : (j : Int) < (n : Int) := by omega
      have q4 : b < wr.heap.size := by omega
      clear hc d1
      have hmt := fun W => markText_any (k + j) W (by omega) (by omega)
      have hqb : k + j ≤ 20000000 := by omega
      generalize hq : k + j = q at *
      have HQ := Lib.hid hq
      clear hq
      generalize mkT q = t at *
      have d3 := fun (cc : Cls wr.heap.size wr) => (cc.cell b (off + j) q4).trans d2
      go_wp2_with fail
      refine wp_region_cls (by kernel_rfl) (by kernel_rfl) ?_
      repeat (go_big_quiet_step (first | (go_at_call 33; with_reducible exact cls_of (Nat.le_refl _) (hmt _))))
      refine wpQuiet_nil ?_
      intro wc hbc
      go_wp2
      go_roundw
      case rel => exact ⟨j + 1, by omega, by go_num, by have := HQ.out; congr 1; omega, bt hb hbc⟩
      case measure => simp [intOf]; omega
    · have hj' : j = n := by omega
      subst hj'
      go_wp2
      go_ret
      exact ⟨ret_int (by omega), hb⟩

/-- A number from 0 on; only block g has turned, and there is new memory. -/
def MarkPost (g : Nat) (w : World) (e : Ending) (w' : World) : Prop := ∃ r : Nat, e = .returned (.int .i64 (r : Int)) ∧ w.grownBy w' (some g)
theorem markRotorS_any (g n c k : Nat) (cs : List Value) (w : World) (h : Own w g cs) (hcs : cs.length = 2 * n) (hl : n ≤ 1048576) (h1 : 1 ≤ k) (hk : k ≤ 10000000) :
    Calls Try.prog 32 #[.slice (some ⟨g, 0, none⟩) n c, .int .i64 (k : Int)] w (MarkPost g w) := by
  have HC := Lib.hid hcs
  clear hcs
  go_enter Try.func32, Try.ntmps32
  go_wp2
  go_loopw [1, 5] (fun m i wr => ∃ (j : Nat) (cs : List Value), j ≤ n ∧ cs.length = 2 * n ∧ i = .int .i64 j ∧ m = .int .i64 ((k + 2 * j : Nat) : Int) ∧ Own wr g cs ∧ w.grownBy wr (some g)) (fun _ i _ => n - (intOf i).toNat)
  case atStart => exact ⟨0, cs, Nat.zero_le _, HC.out, rfl, rfl, h, World.grownBy.refl w _⟩
  case round =>
    clear h HC
    obtain ⟨j, cs, hj, hcs, rfl, rfl, ho, hb⟩ := hrel
    have HC := Lib.hid hcs
    clear hcs
    by_cases hlt : j < n
    · have hlt0 := ho.lt
      have q1 : (j : Int) < (n : Int) := by omega
      go_wp2_with fail
      refine (markText_any (k + 2 * j) _ (by omega) (by omega)).mono ?_
      rintro e w1 ⟨rfl, hb1⟩
      have o1 := ho.below hb1 ho.lt
      obtain ⟨y1, f1⟩ := o1.some_ (i := j * 2) (by rw [HC.out]; omega)
      have f2 := o1.free (j * 2) (by rw [HC.out]; omega)
      have o2 := o1.set_ (i := j * 2) (by rw [HC.out]; omega) (.string (mkT (k + 2 * j)))
      have g1 : w.grownBy (w1.setCell ⟨g, j * 2, none⟩ (.string (mkT (k + 2 * j)))) (some g) :=
        grown_trans hb (grown_trans ⟨hb1.os, hb1.tape, hb1.output, hb1.size, fun i hi _ => hb1.block i hi⟩ (grown_setCell w1 g (j * 2) _))
      clear o1 hb1 hb ho
      go_wp2_with fail
      clear f1 f2
      generalize w1.setCell ⟨g, j * 2, none⟩ (.string (mkT (k + 2 * j))) = w2 at *
      have hmt := fun W => markText_any (k + 2 * j + 1) W (by omega) (by omega)
      rw [show ((k + 2 * j + 1 : Nat) : Int) = (k : Int) + 2 * (j : Int) + 1 by omega] at hmt
      refine (hmt _).mono ?_
      rintro e w3 ⟨rfl, hb3⟩
      have o3 := o2.below hb3 o2.lt
      obtain ⟨y3, f3⟩ := o3.some_ (i := j * 2 + 1) (by rw [List.length_set, HC.out]; omega)
      have f4 := o3.free (j * 2 + 1) (by rw [List.length_set, HC.out]; omega)
      have o4 := o3.set_ (i := j * 2 + 1) (by rw [List.length_set, HC.out]; omega) (.string (mkT (k + 2 * j + 1)))
      have g4 : w.grownBy (w3.setCell ⟨g, j * 2 + 1, none⟩ (.string (mkT (k + 2 * j + 1)))) (some g) :=
        grown_trans g1 (grown_trans ⟨hb3.os, hb3.tape, hb3.output, hb3.size, fun i hi _ => hb3.block i hi⟩ (grown_setCell w3 g (j * 2 + 1) _))
      clear o3 hb3 g1 o2 hmt
      go_wp2
      go_roundw
      case rel => exact ⟨j + 1, _, by omega, by rw [List.length_set, List.length_set, HC.out], by go_num, by go_num, o4, g4⟩
      case measure => simp [intOf]; omega
    · go_wp2
      go_ret
      exact ⟨k + 2 * j, by simp, hb⟩
end Go.Proofs.Ytaplndmgbinhcaa
