/- Several of my texts in one: ExW, ExV, ExU, ExT, ExM, ExI, OpenR, OpenM, ExG. -/
import Derived.Test.YtbeohccbflhdiaaM4
import Derived.Test.YtbeohccbflhdiaaM8
import Derived.Test.YtbeohccbflhdiaaM1
import Derived.OpenShut
import Derived.Deep.Slices
import Derived.Deep.Fields
import Derived.ChangeSame
import Derived.Lib.SmallJoins
import Derived.ChangeSlices
import Derived.SliceStrings
import Derived.Deep.Strs
import Derived.Test.YtbeohccbflhdiaaM30
import Derived.Test.YtbeohccbflhdiaaM31
/- Contracts of the laws' own functions on rotors and wheels, and of the marks. -/
namespace Go.Proofs.Ytbeohccbflhdiaa
open Go.RowKit

/-- The digits of a number. -/
def mkD (k : Nat) : List UInt8 := if _h : k = 0 then [] else mkD (k / 10) ++ [UInt8.ofNat (48 + k % 10)]
termination_by k
decreasing_by omega
/-- A mark. -/
def mkT (k : Nat) : ByteArray := S (109 :: mkD k)
theorem mkD_pos {k : Nat} (h : 0 < k) : mkD k = mkD (k / 10) ++ [UInt8.ofNat (48 + k % 10)] := by rw [mkD, dif_neg (by omega)]
theorem mkD_zero : mkD 0 = [] := by rw [mkD, dif_pos rfl]
theorem markText_any (k : Nat) (w : World) (h1 : 1 ≤ k) (hk : k ≤ 100000000) :
    Calls Try.prog 50 #[.int .i64 (k : Int)] w fun e w' => e = .returned (.string (mkT k)) ∧ Below w.heap.size w w' := by
  have t0 : decide (k = 0) = false := by simp; omega
  go_enter Try.func50, Try.ntmps50
  go_wp2
  go_loopw [0, 3] (fun i o wr => ∃ (j : Nat) (t : List UInt8), i = .int .i64 j ∧ o = .string (S t) ∧ t.length + j ≤ k ∧ mkD j ++ t = mkD k ∧ Below w.heap.size w wr) (fun i _ _ => (intOf i).toNat)
  case atStart => exact ⟨k, [], rfl, rfl, by simp, by simp, Below.refl _ _⟩
  case round =>
    obtain ⟨j, t, rfl, rfl, hl, he, hb⟩ := hrel
    have hsz : (S t).size ≤ 100000000 := by rw [size_S]; omega
    have HE := Lib.hid he
    clear he
    by_cases hlt : 0 < j
    · have HP := Lib.hid (mkD_pos hlt)
      have hc := run_conv_new (P := Try.prog) wr 22 9 5 Try.underlying22 Try.underlying5 Try.underlying9 [48 + (j : Int) % 10]
      simp only [List.map_cons, List.map_nil, List.length_cons, List.length_nil, Nat.zero_add] at hc
      rw [show (48 + (j : Int) % 10).toNat = 48 + j % 10 by omega] at hc
      generalize UInt8.ofNat (48 + j % 10) = d at hc HP
      have hs1 : (S [d]).size ≤ 1 := by rw [size_S]; simp
      go_wp2
      go_roundw
      case rel =>
        refine ⟨j / 10, d :: t, by go_num, ?_, ?_, ?_, hb.alloc hb.size _⟩
        · rw [S_append]; rfl
        · simp; omega
        · rw [← HE.out, HP.out]; simp
      case measure => simp [intOf]; omega
    · go_wp2
      go_ret
      refine ⟨ret_str ?_, hb⟩
      have h0 := HE.out
      rw [show j = 0 by omega, mkD_zero, List.nil_append] at h0
      unfold mkT
      rw [← h0]
      exact S_append [109] t

/-- The marks from k on. -/
def mks (k n : Nat) : List ByteArray := (List.range n).map fun i => mkT (k + i)
theorem len_mks (k n : Nat) : (mks k n).length = n := by simp [mks]
theorem mks_at {k n i : Nat} (h : i < n) : (mks k n)[i]'(by rw [len_mks]; exact h) = mkT (k + i) := by simp [mks]
/-- The strings of a slice, those before j marked. -/
theorem mks_set {ss : List ByteArray} {k j : Nat} (h : j < ss.length) : (sv ((mks k ss.length).take j ++ ss.drop j)).set j (.string (mkT (k + j))) = sv ((mks k ss.length).take (j + 1) ++ ss.drop (j + 1)) := by
  have := fill_set (A := mks k ss.length) (R := ss) (k := j) (by rw [len_mks]; exact h) (by rw [len_mks])
  rw [mks_at h] at this
  rw [← this]
  simp [sv, List.map_set]
theorem markStringS_any (v : Value) (ss : List ByteArray) (base k : Nat) (w : World) (h : OwR w base 9 1 v ss.length (sv ss)) (hl : ss.length ≤ 1048576) (h1 : 1 ≤ k) (hk : k ≤ 10000000) :
    Calls Try.prog 23 #[v, .int .i64 (k : Int)] w fun e w' => e = .returned (.int .i64 ((k + ss.length : Nat) : Int)) ∧ OwR w' base 9 1 v ss.length (sv (mks k ss.length)) ∧ Below base w w' := by
  obtain ⟨a, c, rfl, hc, -, -⟩ := OwR.val h
  go_enter Try.func23, Try.ntmps23
  go_wp2
  go_loopw [1, 5] (fun m i wr => ∃ j : Nat, j ≤ ss.length ∧ i = .int .i64 j ∧ m = .int .i64 ((k + j : Nat) : Int) ∧ OwR wr base 9 1 (.slice a ss.length c) ss.length (sv ((mks k ss.length).take j ++ ss.drop j)) ∧ Below base w wr) (fun _ i _ => ss.length - (intOf i).toNat)
  case atStart => exact ⟨0, Nat.zero_le _, rfl, rfl, by simpa using h, Below.refl _ _⟩
  case round =>
    clear h
    obtain ⟨j, hj, rfl, rfl, hown, hb⟩ := hrel
    by_cases hlt : j < ss.length
    · obtain ⟨a', c', he, _, _, hg⟩ := OwR.val hown
      injection he with e1 e2 e3
      subst e1
      subst e3
      rcases hg with h0 | ⟨g, rfl, hg, ho⟩
      · omega
      · have HS := Lib.hid (mks_set (k := k) hlt)
        have hln := Lib.hid (show (sv ((mks k ss.length).take j ++ ss.drop j)).length = ss.length by rw [length_sv, fill_len (by rw [len_mks]) (by rw [len_mks]; omega), len_mks])
        have hlt0 := ho.lt
        go_wp2_with fail
        refine (markText_any (k + j) _ (by omega) (by omega)).mono ?_
        rintro e w1 ⟨rfl, hb1⟩
        have o1 := ho.below hb1 ho.lt
        have hown1 := OwR.below hown hb1 (Nat.le_refl _)
        obtain ⟨y, f1⟩ := o1.some_ (i := j) (by rw [hln.out]; exact hlt)
        have f2 := o1.free j (by rw [hln.out]; exact hlt)
        have q1 : (j : Int) < (ss.length : Int) := by omega
        go_wp2
        go_roundw
        case rel =>
          refine ⟨j + 1, by omega, by go_num, by go_num, ?_, (hb.trans (hb1.mono (by omega))).setCell (by simp; omega) _⟩
          have := World.ownsRow.stored hown1 j (.string (mkT (k + j)))
          rw [HS.out] at this
          exact this.1
        case measure => simp [intOf]; omega
    · have hj' : j = ss.length := by omega
      subst hj'
      go_wp2
      go_ret
      refine ⟨ret_int (by omega), ?_, hb⟩
      rw [List.take_of_length_le (by rw [len_mks]; omega), List.drop_eq_nil_of_le (by omega), List.append_nil] at hown
      exact hown

theorem heldStringS_any (a : Option Addr) (c k n : Nat) (w : World) (h : Reads w w.heap.size a (sv (mks k n))) (hl : n ≤ 1048576) (h1 : 1 ≤ k) (hk : k ≤ 10000000) :
    Calls Try.prog 25 #[.slice a n c, .int .i64 (k : Int)] w fun e w' => e = .returned (.int .i64 ((k + n : Nat) : Int)) ∧ Below w.heap.size w w' := by
  have HR := Lib.hid h
  clear h
  go_enter Try.func25, Try.ntmps25
  go_wp2
  go_loopw [1, 5] (fun m i wr => ∃ j : Nat, j ≤ n ∧ i = .int .i64 j ∧ m = .int .i64 ((k + j : Nat) : Int) ∧ Below w.heap.size w wr) (fun _ i _ => n - (intOf i).toNat)
  case atStart => exact ⟨0, Nat.zero_le _, rfl, rfl, Below.refl _ _⟩
  case round =>
    obtain ⟨j, hj, rfl, rfl, hb⟩ := hrel
    by_cases hlt : j < n
    · obtain ⟨b, off, rfl, hbl, hc⟩ := HR.out.open_ (by rw [length_sv, len_mks]; omega)
      have d1 := hc j (by rw [length_sv, len_mks]; exact hlt)
      rw [sv_at (by rw [len_mks]; exact hlt), mks_at hlt] at d1
      have hz := hb.size
      have d2 := (hb.cell (p := ⟨b, off + j, none⟩) hbl).trans d1
      have q1 : (j : Int) < (n : Int) := by omega
      have q4 : b < wr.heap.size := by omega
      clear hc d1
      have hmt := fun W => markText_any (k + j) W (by omega) (by omega)
      have hqb : k + j ≤ 20000000 := by omega
      generalize hq : k + j = q at *
      have HQ := Lib.hid hq
      clear hq
      generalize mkT q = t at *
      have d3 := fun (cc : Cls wr.heap.size wr) => (cc.cell b (off + j) q4).trans d2
      go_wp2_with fail
      refine wp_region_cls (by kernel_rfl) (by kernel_rfl) ?_
      repeat (go_big_quiet_step (first | (go_at_call 50; with_reducible exact cls_of (Nat.le_refl _) (hmt _))))
      refine wpQuiet_nil ?_
      intro wc hbc
      go_wp2
      go_roundw
      case rel => exact ⟨j + 1, by omega, by go_num, by have := HQ.out; congr 1; omega, bt hb hbc⟩
      case measure => simp [intOf]; omega
    · have hj' : j = n := by omega
      subst hj'
      go_wp2
      go_ret
      exact ⟨ret_int (by omega), hb⟩

/-- A number; only block g has turned, and there is new memory. -/
def MarkTo (g r : Nat) (w : World) (e : Ending) (w' : World) : Prop := e = .returned (.int .i64 (r : Int)) ∧ w.grownBy w' (some g)
/-- A number from 0 on; only block g has turned, and there is new memory. -/
def MarkPost (g : Nat) (w : World) (e : Ending) (w' : World) : Prop := ∃ r : Nat, e = .returned (.int .i64 (r : Int)) ∧ w.grownBy w' (some g)
theorem markRotorS_to (g n c k : Nat) (cs : List Value) (w : World) (h : Own w g cs) (hcs : cs.length = 2 * n) (hl : n ≤ 1048576) (h1 : 1 ≤ k) (hk : k ≤ 10000000) :
    Calls Try.prog 76 #[.slice (some ⟨g, 0, none⟩) n c, .int .i64 (k : Int)] w (MarkTo g (k + 2 * n) w) := by
  have HC := Lib.hid hcs
  clear hcs
  go_enter Try.func76, Try.ntmps76
  go_wp2
  go_loopw [1, 5] (fun m i wr => ∃ (j : Nat) (cs : List Value), j ≤ n ∧ cs.length = 2 * n ∧ i = .int .i64 j ∧ m = .int .i64 ((k + 2 * j : Nat) : Int) ∧ Own wr g cs ∧ w.grownBy wr (some g)) (fun _ i _ => n - (intOf i).toNat)
  case atStart => exact ⟨0, cs, Nat.zero_le _, HC.out, rfl, rfl, h, World.grownBy.refl w _⟩
  case round =>
    clear h HC
    obtain ⟨j, cs, hj, hcs, rfl, rfl, ho, hb⟩ := hrel
    have HC := Lib.hid hcs
    clear hcs
    by_cases hlt : j < n
    · have hlt0 := ho.lt
      have q1 : (j : Int) < (n : Int) := by omega
      go_wp2_with fail
      refine (markText_any (k + 2 * j) _ (by omega) (by omega)).mono ?_
      rintro e w1 ⟨rfl, hb1⟩
      have o1 := ho.below hb1 ho.lt
      obtain ⟨y1, f1⟩ := o1.some_ (i := j * 2) (by rw [HC.out]; omega)
      have f2 := o1.free (j * 2) (by rw [HC.out]; omega)
      have o2 := o1.set_ (i := j * 2) (by rw [HC.out]; omega) (.string (mkT (k + 2 * j)))
      have g1 : w.grownBy (w1.setCell ⟨g, j * 2, none⟩ (.string (mkT (k + 2 * j)))) (some g) :=
        grown_trans hb (grown_trans ⟨hb1.os, hb1.tape, hb1.output, hb1.size, fun i hi _ => hb1.block i hi⟩ (grown_setCell w1 g (j * 2) _))
      clear o1 hb1 hb ho
      go_wp2_with fail
      clear f1 f2
      generalize w1.setCell ⟨g, j * 2, none⟩ (.string (mkT (k + 2 * j))) = w2 at *
      have hmt := fun W => markText_any (k + 2 * j + 1) W (by omega) (by omega)
      rw [show ((k + 2 * j + 1 : Nat) : Int) = (k : Int) + 2 * (j : Int) + 1 by omega] at hmt
      refine (hmt _).mono ?_
      rintro e w3 ⟨rfl, hb3⟩
      have o3 := o2.below hb3 o2.lt
      obtain ⟨y3, f3⟩ := o3.some_ (i := j * 2 + 1) (by rw [List.length_set, HC.out]; omega)
      have f4 := o3.free (j * 2 + 1) (by rw [List.length_set, HC.out]; omega)
      have o4 := o3.set_ (i := j * 2 + 1) (by rw [List.length_set, HC.out]; omega) (.string (mkT (k + 2 * j + 1)))
      have g4 : w.grownBy (w3.setCell ⟨g, j * 2 + 1, none⟩ (.string (mkT (k + 2 * j + 1)))) (some g) :=
        grown_trans g1 (grown_trans ⟨hb3.os, hb3.tape, hb3.output, hb3.size, fun i hi _ => hb3.block i hi⟩ (grown_setCell w3 g (j * 2 + 1) _))
      clear o3 hb3 g1 o2 hmt
      go_wp2
      go_roundw
      case rel => exact ⟨j + 1, _, by omega, by rw [List.length_set, List.length_set, HC.out], by go_num, by go_num, o4, g4⟩
      case measure => simp [intOf]; omega
    · go_wp2
      go_ret
      exact ⟨ret_int (by omega), hb⟩
theorem markRotorS_any (g n c k : Nat) (cs : List Value) (w : World) (h : Own w g cs) (hcs : cs.length = 2 * n) (hl : n ≤ 1048576) (h1 : 1 ≤ k) (hk : k ≤ 10000000) :
    Calls Try.prog 76 #[.slice (some ⟨g, 0, none⟩) n c, .int .i64 (k : Int)] w (MarkPost g w) :=
  (markRotorS_to g n c k cs w h hcs hl h1 hk).mono fun _ _ h => ⟨_, h.1, h.2⟩
end Go.Proofs.Ytbeohccbflhdiaa

/- Contracts of the laws' own functions on rotors and wheels: sizes, copies, comparison. -/
namespace Go.Proofs.Ytbeohccbflhdiaa
open Go.RowKit

def SzOne (r : Rot) (left : Int) (w : World) (e : Ending) (w' : World) : Prop :=
  ∃ q : Int, e = .returned (.int .i64 q) ∧ Below w.heap.size w w' ∧ (q = -1 ∨ (0 ≤ q ∧ q ≤ left ∧ (r.wiring.size : Int) ≤ left ∧ (r.notches.size : Int) ≤ left))
theorem szRotor_any (r : Rot) (left : Int) (w : World) (z1 : r.wiring.size ≤ 9223372036854775807) (z2 : r.notches.size ≤ 9223372036854775807) (h0 : 0 ≤ left) (h1 : left ≤ 1048576) :
    Calls Try.prog 103 #[.agg #[.string r.wiring, .string r.notches], .int .i64 left] w (SzOne r left w) := by
  have hb := (Below.refl w.heap.size w).alloc (Nat.le_refl _) (.cells [.string r.wiring, .string r.notches].toArray 134)
  by_cases hs : left < r.wiring.size
  · go_enter Try.func103, Try.ntmps103
    go_wp2
    go_ret
    exact ⟨-1, rfl, hb, .inl rfl⟩
  · by_cases hs2 : left - r.wiring.size < r.notches.size
    · go_enter Try.func103, Try.ntmps103
      go_wp2
      go_ret
      exact ⟨-1, rfl, hb, .inl rfl⟩
    · go_enter Try.func103, Try.ntmps103
      go_wp2
      go_ret
      exact ⟨left - r.wiring.size - r.notches.size, rfl, hb, .inr ⟨by omega, by omega, by omega, by omega⟩⟩

/-- The strings of some rotors are small. -/
def SmR (rs : List Rot) (left : Int) : Prop := ∀ r ∈ rs, (r.wiring.size : Int) ≤ left ∧ (r.notches.size : Int) ≤ left
def smTo (rs : List Rot) (left : Int) (k : Nat) : Prop := ∀ j (h : j < rs.length), j < k → (rs[j].wiring.size : Int) ≤ left ∧ (rs[j].notches.size : Int) ≤ left
def BigR (rs : List Rot) : Prop := (∀ r ∈ rs, r.wiring.size ≤ 9223372036854775807 ∧ r.notches.size ≤ 9223372036854775807) ∧ rs.length ≤ 9223372036854775807
def SzRs (rs : List Rot) (left : Int) (w : World) (e : Ending) (w' : World) : Prop :=
  ∃ q : Int, e = .returned (.int .i64 q) ∧ Below w.heap.size w w' ∧ (q = -1 ∨ (0 ≤ q ∧ q ≤ left ∧ (rs.length : Int) ≤ left ∧ SmR rs left))
theorem szRotorS_any (a : Option Addr) (c : Nat) (rs : List Rot) (left : Int) (w : World) (h : Reads w w.heap.size a (rvs rs)) (hz : BigR rs) (h0 : 0 ≤ left) (h1 : left ≤ 1048576) :
    Calls Try.prog 70 #[.slice a rs.length c, .int .i64 left] w (SzRs rs left w) := by
  have hl := hz.2
  have Z := Lib.hid hz.1
  clear hz
  by_cases hn : left < rs.length
  · go_enter Try.func70, Try.ntmps70
    go_wp2
    go_ret
    exact ⟨-1, rfl, Below.refl _ _, .inl rfl⟩
  · have HR := Lib.hid h
    clear h
    go_enter Try.func70, Try.ntmps70
    go_wp2
    go_loopw [1, 5] (fun l i wr => ∃ (k : Nat) (q : Int), k ≤ rs.length ∧ i = .int .i64 k ∧ l = .int .i64 q ∧ 0 ≤ q ∧ q ≤ left ∧ smTo rs left k ∧ Below w.heap.size w wr) (fun _ i _ => rs.length - (intOf i).toNat)
    case atStart => exact ⟨0, left - rs.length, Nat.zero_le _, rfl, rfl, by omega, by omega, fun _ _ h => absurd h (by omega), Below.refl _ _⟩
    case round =>
      obtain ⟨k, q, hk, rfl, rfl, hq0, hq1, ha, hb⟩ := hrel
      by_cases hlt : k < rs.length
      · obtain ⟨b, off, rfl, hbl, hc⟩ := HR.out.cells (by rw [len_rvs]; omega)
        obtain ⟨f0, f1⟩ := rot_cells (hc.below hb hbl) hlt
        have z1 := (Z.out _ (List.getElem_mem hlt)).1
        have z2 := (Z.out _ (List.getElem_mem hlt)).2
        have q1 : (k : Int) < (rs.length : Int) := by omega
        have HA := Lib.hid ha
        clear hc ha
        go_wp2_with fail
        refine (szRotor_any rs[k] q _ z1 z2 hq0 (by omega)).mono ?_
        rintro e w1 ⟨q', rfl, hb1, hq⟩
        have hb' := bt hb hb1
        clear hb hb1 f0 f1
        rcases hq with rfl | ⟨p0, p1, p2, p3⟩
        · go_wp2
          go_ret
          exact ⟨-1, rfl, hb', .inl rfl⟩
        · go_wp2
          go_roundw
          case rel =>
            refine ⟨k + 1, q', by omega, by go_num, rfl, by omega, by omega, fun j hj hlt' => ?_, hb'⟩
            by_cases e : j = k
            · subst e; exact ⟨by omega, by omega⟩
            · exact HA.out j hj (by omega)
          case measure => simp [intOf]; omega
      · go_wp2
        go_ret
        refine ⟨q, rfl, hb, .inr ⟨hq0, hq1, by omega, fun r hr => ?_⟩⟩
        obtain ⟨j, hj, rfl⟩ := List.getElem_of_mem hr
        exact ha j hj (by omega)

/-- Wheels are small. -/
structure SmW (x : Whl) : Prop where
  few : x.rotors.length ≤ 1048576
  rot : ∀ r ∈ x.rotors, r.wiring.size ≤ 1048576 ∧ r.notches.size ≤ 1048576
  refl : x.refl.size ≤ 1048576
theorem SmW.at_ {x : Whl} (h : SmW x) {w : World} {B : Nat} {a : Option Addr} (hr : Reads w B a (rvs x.rotors)) : WhlAt w B a x.rotors.length x :=
  ⟨hr, rfl, h.few, fun r hr => ⟨by have := (h.rot r hr).1; omega, by have := (h.rot r hr).2; omega⟩, by have := h.refl; omega⟩
def SzW (x : Whl) (left : Int) (w : World) (e : Ending) (w' : World) : Prop :=
  ∃ q : Int, e = .returned (.int .i64 q) ∧ Below w.heap.size w w' ∧ (q = -1 ∨ (0 ≤ q ∧ q ≤ left ∧ SmW x))
theorem szWheels_any (a : Option Addr) (c : Nat) (x : Whl) (left : Int) (w : World) (h : Reads w w.heap.size a (rvs x.rotors)) (hz : BigR x.rotors) (hr : x.refl.size ≤ 9223372036854775807) (h0 : 0 ≤ left) (h1 : left ≤ 1048576) :
    Calls Try.prog 42 #[.agg #[.slice a x.rotors.length c, .string x.refl], .int .i64 left] w (SzW x left w) := by
  have o0 := Own.new w [.slice a x.rotors.length c, .string x.refl] 38
  have hb0 := (Below.refl w.heap.size w).alloc (Nat.le_refl _) (.cells [.slice a x.rotors.length c, .string x.refl].toArray 38)
  have h' : Reads (w.alloc (.cells [.slice a x.rotors.length c, .string x.refl].toArray 38)) (w.alloc (.cells [.slice a x.rotors.length c, .string x.refl].toArray 38)).heap.size a (rvs x.rotors) := (h.below hb0 (Nat.le_refl _)).more hb0.size
  go_enter Try.func42, Try.ntmps42
  go_wp2_with fail
  refine (szRotorS_any a c x.rotors left _ h' hz h0 h1).mono ?_
  rintro e w1 ⟨q, rfl, hb1, hq⟩
  have o1 := o0.below hb1 o0.lt
  have c1 := o1.at_ (i := 1) rfl
  have hb' := bt hb0 hb1
  clear o0 hb0 h' hb1 h
  rcases hq with rfl | ⟨p0, p1, p2, p3⟩
  · go_wp2
    go_ret
    exact ⟨-1, rfl, hb', .inl rfl⟩
  · have HP := Lib.hid p3
    clear p3
    by_cases hs : q < x.refl.size
    · go_wp2
      go_ret
      exact ⟨-1, rfl, hb', .inl rfl⟩
    · go_wp2
      go_ret
      refine ⟨q - x.refl.size, rfl, hb', .inr ⟨by omega, by omega, by omega, fun r hr => ?_, by omega⟩⟩
      have := HP.out r hr
      omega

theorem toRotor_any (r : Rot) (w : World) :
    Calls Try.prog 105 #[.agg #[.string r.wiring, .string r.notches]] w fun e w' => e = .returned (.agg #[.string r.wiring, .string r.notches]) ∧ Below w.heap.size w w' := by
  go_enter Try.func105, Try.ntmps105
  go_wp2
  refine bodyPost_ret (v := .agg #[.string r.wiring, .string r.notches]) (by simp [results, Try.results105, go_sem]) rfl ⟨rfl, ?_⟩
  exact ((((((Below.refl w.heap.size w).alloc (Nat.le_refl _) _).alloc (by simp) _).alloc (by simp; omega) _)))
end Go.Proofs.Ytbeohccbflhdiaa

/- Contracts of the laws' own functions on wheels: copies, comparison, marks. -/
namespace Go.Proofs.Ytbeohccbflhdiaa
open Go.RowKit

theorem rvs_set : ∀ (rs : List Rot) (k : Nat) (r : Rot), k < rs.length → put (rvs rs) (k * 2) (rv r) = rvs (rs.set k r)
  | _ :: _, 0, r, _ => by simp [put, rvs, rv]
  | q :: rs, k + 1, r, h => by
    have ih := rvs_set rs k r (by simpa using h)
    rw [show (k + 1) * 2 = k * 2 + 1 + 1 by omega]
    simp only [put, rv, rvs, List.take_succ_cons, List.length_cons, List.length_nil, List.set_cons_succ, List.cons_append, Nat.zero_add]
    rw [show k * 2 + 1 + 1 + (1 + 1) = (k * 2 + 2) + 1 + 1 by omega, List.drop_succ_cons, List.drop_succ_cons]
    rw [← ih]
    simp [put, rv]
/-- A rotor of empty strings. -/
def rot0 : Rot := ⟨⟨#[]⟩, ⟨#[]⟩⟩
theorem rvs_rep (n : Nat) : (madeCells #[.string ⟨#[]⟩, .string ⟨#[]⟩] (n * 2)) = (rvs (List.replicate n rot0)).toArray := by
  apply Array.toList_inj.1
  refine List.ext_getElem ?_ fun i h1 h2 => ?_
  · have := size_madeCells #[.string ⟨#[]⟩, .string ⟨#[]⟩] (n * 2)
    simp [len_rvs]; omega
  · have hall : ∀ (k : Nat), ∀ v ∈ rvs (List.replicate k rot0), v = .string ⟨#[]⟩ := by
      intro k
      induction k with
      | zero => intro v hv; simp [rvs] at hv
      | succ k ih =>
        intro v hv
        rw [List.replicate_succ] at hv
        simp only [rvs, List.mem_cons] at hv
        rcases hv with rfl | rfl | hv
        · rfl
        · rfl
        · exact ih v hv
    have e2 : (rvs (List.replicate n rot0)).toArray.toList[i] = .string ⟨#[]⟩ := hall n _ (List.getElem_mem _)
    rw [e2]
    simp only [madeCells, Array.toList_map, List.getElem_map]
    have : ∀ j : Nat, (#[Value.string ⟨#[]⟩, .string ⟨#[]⟩] : Array Value)[j % 2]! = .string ⟨#[]⟩ := fun j => by
      rcases Nat.mod_two_eq_zero_or_one j with e | e <;> rw [e] <;> rfl
    exact this _
theorem inf_rot : (Try.prog.info? 99).map (fun i => (i.zero, i.size, i.bytes)) = some (some (.agg #[.string ⟨#[]⟩, .string ⟨#[]⟩]), 2, 32) := by kernel_rfl
theorem make_rot (n : Nat) (hn : n ≤ 1048576) (w : World) : (Instr.makeSlice 23 (.int .i64 (n : Int)) (.int .i64 (n : Int))).run Try.prog w = .ok (.slice (some ⟨w.heap.size, 0, none⟩) n n) (w.alloc (.cells (rvs (List.replicate n rot0)).toArray 99)) := by
  obtain ⟨i, hi, h1, h2, h3⟩ := info_parts inf_rot
  have hr := run_make (P := Try.prog) w 23 99 i _ Try.underlying23 hi h1 .i64 .i64 n n (by omega) (by omega) (by rw [h3]; omega) (by omega)
  simp only [Int.toNat_natCast, h2] at hr
  have hz : (Value.agg #[.string ⟨#[]⟩, .string ⟨#[]⟩]).cells = #[.string ⟨#[]⟩, .string ⟨#[]⟩] := rfl
  rw [hz, rvs_rep] at hr
  exact hr

theorem put_two {cs : List Value} {k : Nat} {u v : Value} (h : k + 1 < cs.length) : put cs k [u, v] = (cs.set k u).set (k + 1) v := by
  refine List.ext_getElem (by simp [put]; omega) fun i h1 h2 => ?_
  have hi : i < cs.length := by simpa using h2
  simp only [put, List.append_assoc, List.getElem_set]
  rw [List.getElem_append]
  split
  · rename_i hlt
    have : i < k := by simp at hlt; omega
    rw [if_neg (by omega), if_neg (by omega), List.getElem_take]
  · rename_i hge
    have hlk : (cs.take k).length = k := by simp; omega
    have hik : k ≤ i := by omega
    by_cases e0 : i = k
    · subst e0; simp [hlk]
    · by_cases e1 : i = k + 1
      · subst e1; simp [hlk]
      · rw [if_neg (by omega), if_neg (by omega)]
        rw [List.getElem_append_right (by simp; omega)]
        simp only [List.getElem_drop, List.length_cons, List.length_nil, hlk]
        congr 1; omega
def CopyR (rs : List Rot) (w : World) (e : Ending) (w' : World) : Prop :=
  ∃ g, w.heap.size ≤ g ∧ e = .returned (.slice (some ⟨g, 0, none⟩) rs.length rs.length) ∧ Own w' g (rvs rs) ∧ Below w.heap.size w w'
theorem toRotorS_any (a : Option Addr) (c : Nat) (rs : List Rot) (w : World) (h : Reads w w.heap.size a (rvs rs)) (hl : rs.length ≤ 1048576) :
    Calls Try.prog 72 #[.slice a rs.length c] w (CopyR rs w) := by
  have hmk := make_rot rs.length hl
  have HR := Lib.hid h
  clear h
  go_enter Try.func72, Try.ntmps72
  go_wp2
  go_loopw [4] (fun i wr => ∃ k : Nat, k ≤ rs.length ∧ i = .int .i64 k ∧ Below w.heap.size w wr ∧ Own wr w.heap.size (rvs (rs.take k ++ (List.replicate rs.length rot0).drop k))) (fun i _ => rs.length - (intOf i).toNat)
  case atStart => exact ⟨0, Nat.zero_le _, rfl, (Below.refl _ _).alloc (Nat.le_refl _) _, by simpa using Own.new w (rvs (List.replicate rs.length rot0)) 99⟩
  case round =>
    clear hmk
    obtain ⟨k, hk, rfl, hbel, hown⟩ := hrel
    by_cases hlt : k < rs.length
    · obtain ⟨b, off, rfl, hb, hc⟩ := HR.out.cells (by rw [len_rvs]; omega)
      obtain ⟨f0, f1⟩ := rot_cells (hc.below hbel hb) hlt
      clear hc
      have hlen : Hid ((rs.take k ++ (List.replicate rs.length rot0).drop k).length = rs.length) := by
        show _ = _
        rw [fill_len (by simp) hk]
      have q1 : (k : Int) < (rs.length : Int) := by omega
      go_wp2_with fail
      refine (toRotor_any rs[k] _).mono ?_
      rintro e w1 ⟨rfl, hb1⟩
      have o1 := hown.below hb1 hown.lt
      have l1 : (rvs (rs.take k ++ (List.replicate rs.length rot0).drop k)).length = 2 * rs.length := by rw [len_rvs, hlen.out]
      have L1 := Lib.hid l1
      clear l1
      obtain ⟨y0, g0⟩ := o1.some_ (i := k * 2) (by rw [L1.out]; omega)
      obtain ⟨y1, g1⟩ := o1.some_ (i := k * 2 + 1) (by rw [L1.out]; omega)
      have e0 := o1.free (k * 2) (by rw [L1.out]; omega)
      have e1 := o1.free (k * 2 + 1) (by rw [L1.out]; omega)
      go_wp2
      go_roundw
      case rel =>
        refine ⟨k + 1, by omega, by go_num, ((bt hbel hb1).setCell (by simp) _).setCell (by simp) _, ?_⟩
        have h0 := (o1.set_ (i := k * 2) (by rw [L1.out]; omega) (.string rs[k].wiring)).set_ (i := k * 2 + 1) (by rw [List.length_set, L1.out]; omega) (.string rs[k].notches)
        have hset := rvs_set (rs.take k ++ (List.replicate rs.length rot0).drop k) k rs[k] (by rw [hlen.out]; exact hlt)
        rw [fill_set hlt (by simp)] at hset
        rw [← hset]
        have hp : put (rvs (rs.take k ++ (List.replicate rs.length rot0).drop k)) (k * 2) (rv rs[k]) = ((rvs (rs.take k ++ (List.replicate rs.length rot0).drop k)).set (k * 2) (.string rs[k].wiring)).set (k * 2 + 1) (.string rs[k].notches) := put_two (by rw [L1.out]; omega)
        rw [hp]
        exact h0
      case measure => simp [intOf]; omega
    · have hk' : k = rs.length := by omega
      subst hk'
      go_wp2
      go_ret
      refine ⟨w.heap.size, Nat.le_refl _, rfl, ?_, hbel⟩
      rw [List.take_length, List.drop_of_length_le (by simp), List.append_nil] at hown
      exact hown
end Go.Proofs.Ytbeohccbflhdiaa

/- Contracts of the laws' own functions on wheels as a whole. -/
namespace Go.Proofs.Ytbeohccbflhdiaa
open Go.RowKit

/-- New wheels: their rotors lie in a block of their own. -/
def NewW (x : Whl) (w : World) (e : Ending) (w' : World) : Prop :=
  ∃ g, w.heap.size ≤ g ∧ e = .returned (.agg #[.slice (some ⟨g, 0, none⟩) x.rotors.length x.rotors.length, .string x.refl]) ∧ Own w' g (rvs x.rotors) ∧ Below w.heap.size w w'
theorem toWheels_any (a : Option Addr) (c : Nat) (x : Whl) (w : World) (h : Reads w w.heap.size a (rvs x.rotors)) (hs : SmW x) :
    Calls Try.prog 45 #[.agg #[.slice a x.rotors.length c, .string x.refl]] w (NewW x w) := by
  have hl := hs.few
  have H := Lib.hid h
  clear h hs
  go_enter Try.func45, Try.ntmps45
  go_wp2_with fail
  obtain ⟨W, hW⟩ : ∃ W, W = (((w.alloc (Obj.cells #[Value.slice a x.rotors.length c, .string x.refl] 38)).alloc (Obj.cells #[Value.slice none 0 0, .string ⟨#[]⟩] 25)).alloc (Obj.cells #[Value.slice none 0 0, .string ⟨#[]⟩] 25)) := ⟨_, rfl⟩
  have o0 : Own W w.heap.size [Value.slice a x.rotors.length c, .string x.refl] := by
    rw [hW]; exact ((Own.new w _ _).alloc _).alloc _
  have o1 : Own W (w.heap.size + 1) [Value.slice none 0 0, .string ⟨#[]⟩] := by
    rw [hW]; have := (Own.new (w.alloc (Obj.cells #[Value.slice a x.rotors.length c, .string x.refl] 38)) [Value.slice none 0 0, .string ⟨#[]⟩] 25).alloc (Obj.cells #[Value.slice none 0 0, .string ⟨#[]⟩] 25); simpa using this
  have o2 : Own W (w.heap.size + 1 + 1) [Value.slice none 0 0, .string ⟨#[]⟩] := by
    rw [hW]; have := Own.new ((w.alloc (Obj.cells #[Value.slice a x.rotors.length c, .string x.refl] 38)).alloc (Obj.cells #[Value.slice none 0 0, .string ⟨#[]⟩] 25)) [Value.slice none 0 0, .string ⟨#[]⟩] 25; simpa using this
  have hb : Below w.heap.size w W := by
    rw [hW]; exact (((Below.refl _ _).alloc (Nat.le_refl _) _).alloc (by simp) _).alloc (by simp; omega) _
  rw [← hW]
  clear hW
  have hR : Reads W W.heap.size a (rvs x.rotors) := (H.out.below hb (Nat.le_refl _)).more hb.size
  refine (toRotorS_any a c x.rotors W hR hl).mono ?_
  rintro e w1 ⟨g, hg, rfl, og, hb1⟩
  have l2 := o2.lt
  have k0 := o0.below hb1 o0.lt
  have k1 := o1.below hb1 o1.lt
  have k2 := o2.below hb1 o2.lt
  have kb := bt hb hb1
  clear o0 o1 o2 hb hb1 hR
  have f1 := k2.at_ (i := 0) rfl
  have f2 := k2.free 0 (by simp)
  have f3 := k0.at_ (i := 1) rfl
  have f4 := k2.at_ (i := 1) rfl
  have f5 := k2.free 1 (by simp)
  have f6 := k1.at_ (i := 0) rfl
  have f7 := k1.at_ (i := 1) rfl
  have f8 := k1.free 0 (by simp)
  have f9 := k1.free 1 (by simp)
  go_wp2
  refine bodyPost_ret (v := .agg #[.slice (some ⟨g, 0, none⟩) x.rotors.length x.rotors.length, .string x.refl]) (by simp [results, Try.results45, go_sem, f6, f7]) rfl ?_
  refine ⟨g, by omega, rfl, ?_, ?_⟩
  · exact (((og.far (p := ⟨w.heap.size + 1 + 1, 0, none⟩) (by simp; omega) _).far (p := ⟨w.heap.size + 1 + 1, 1, none⟩) (by simp; omega) _).far (p := ⟨w.heap.size + 1, 0, none⟩) (by simp; omega) _).far (p := ⟨w.heap.size + 1, 1, none⟩) (by simp; omega) _
  · exact (((kb.setCell (by simp; omega) _).setCell (by simp; omega) _).setCell (by simp) _).setCell (by simp) _

theorem eqRotor_any (r : Rot) (w : World) :
    Calls Try.prog 106 #[.agg #[.string r.wiring, .string r.notches], .agg #[.string r.wiring, .string r.notches]] w fun e w' => e = .returned (.bool true) ∧ Below w.heap.size w w' := by
  go_enter Try.func106, Try.ntmps106
  go_wp2
  go_ret
  exact ⟨rfl, ((Below.refl w.heap.size w).alloc (Nat.le_refl _) _).alloc (by simp) _⟩
theorem eqRotorS_any (a b : Option Addr) (c d : Nat) (rs : List Rot) (w : World) (h1 : Reads w w.heap.size a (rvs rs)) (h2 : Reads w w.heap.size b (rvs rs)) (hl : rs.length ≤ 1048576) :
    Calls Try.prog 75 #[.slice a rs.length c, .slice b rs.length d] w fun e w' => e = .returned (.bool true) ∧ Below w.heap.size w w' := by
  have R1 := Lib.hid h1
  have R2 := Lib.hid h2
  clear h1 h2
  go_enter Try.func75, Try.ntmps75
  go_wp2
  go_loopw [5] (fun i wr => ∃ k : Nat, k ≤ rs.length ∧ i = .int .i64 k ∧ Below w.heap.size w wr) (fun i _ => rs.length - (intOf i).toNat)
  case atStart => exact ⟨0, Nat.zero_le _, rfl, Below.refl _ _⟩
  case round =>
    obtain ⟨k, hk, rfl, hb⟩ := hrel
    by_cases hlt : k < rs.length
    · obtain ⟨b1, off1, rfl, hb1, hc1⟩ := R1.out.cells (by rw [len_rvs]; omega)
      obtain ⟨b2, off2, rfl, hb2, hc2⟩ := R2.out.cells (by rw [len_rvs]; omega)
      obtain ⟨f0, f1⟩ := rot_cells (hc1.below hb hb1) hlt
      obtain ⟨g0, g1⟩ := rot_cells (hc2.below hb hb2) hlt
      clear hc1 hc2
      have hz := hb.size
      have q1 : (k : Int) < (rs.length : Int) := by omega
      have l1 : b1 < wr.heap.size := by omega
      have l2 : b2 < wr.heap.size := by omega
      have d0 := fun (cc : Cls wr.heap.size wr) => (cc.cell b1 (off1 + k * 2) l1).trans f0
      have d1 := fun (cc : Cls wr.heap.size wr) => (cc.cell b1 (off1 + k * 2 + 1) l1).trans f1
      have e0 := fun (cc : Cls wr.heap.size wr) => (cc.cell b2 (off2 + k * 2) l2).trans g0
      have e1 := fun (cc : Cls wr.heap.size wr) => (cc.cell b2 (off2 + k * 2 + 1) l2).trans g1
      go_wp2_with fail
      refine wp_region_cls (by kernel_rfl) (by kernel_rfl) ?_
      repeat (go_big_quiet_step (first | (go_at_call 106; with_reducible exact cls_of (Nat.le_refl _) (eqRotor_any _ _))))
      refine wpQuiet_nil ?_
      intro wc hbc
      go_wp2
      go_roundw
      case rel => exact ⟨k + 1, by omega, by go_num, bt hb hbc⟩
      case measure => simp [intOf]; omega
    · go_wp2
      go_ret
      exact ⟨rfl, hb⟩
theorem eqWheels_any (a b : Option Addr) (c d : Nat) (x : Whl) (w : World) (h1 : Reads w w.heap.size a (rvs x.rotors)) (h2 : Reads w w.heap.size b (rvs x.rotors)) (hl : x.rotors.length ≤ 1048576) :
    Calls Try.prog 48 #[.agg #[.slice a x.rotors.length c, .string x.refl], .agg #[.slice b x.rotors.length d, .string x.refl]] w fun e w' => e = .returned (.bool true) ∧ Below w.heap.size w w' := by
  have o0 := fun o => (Own.new w [.slice a x.rotors.length c, .string x.refl] 25).alloc o
  have o1 := fun A => Own.new (w.alloc A) [.slice b x.rotors.length d, .string x.refl] 25
  have hb0 := fun A B => ((Below.refl w.heap.size w).alloc (Nat.le_refl _) A).alloc (by simp) B
  have R1 := Lib.hid (fun A B => (h1.below (hb0 A B) (Nat.le_refl _)).more (hb0 A B).size)
  have R2 := Lib.hid (fun A B => (h2.below (hb0 A B) (Nat.le_refl _)).more (hb0 A B).size)
  simp only [World.size_alloc] at o1
  clear h1 h2
  go_enter Try.func48, Try.ntmps48
  go_wp2_with fail
  refine (eqRotorS_any a b c d x.rotors _ (R1.out _ _) (R2.out _ _) hl).mono ?_
  rintro e w1 ⟨rfl, hb1⟩
  have k0 := (o0 _).below hb1 (o0 _).lt
  have k1 := (o1 _).below hb1 (o1 _).lt
  have f0 := k0.at_ (i := 1) rfl
  have f1 := k1.at_ (i := 1) rfl
  have kb := bt (hb0 _ _) hb1
  clear o0 o1 hb0 hb1 R1 R2
  go_wp2
  go_ret
  exact ⟨rfl, kb⟩

theorem markWheels_to (g c : Nat) (x : Whl) (k : Nat) (w : World) (h : Own w g (rvs x.rotors)) (hl : x.rotors.length ≤ 1048576) (h1 : 1 ≤ k) (hk : k ≤ 1000000) :
    Calls Try.prog 49 #[.agg #[.slice (some ⟨g, 0, none⟩) x.rotors.length c, .string x.refl], .int .i64 (k : Int)] w (MarkTo g (k + 2 * x.rotors.length) w) := by
  have h' := fun o => h.alloc o
  have hb0 := fun A => (Below.refl w.heap.size w).alloc (Nat.le_refl _) A
  go_enter Try.func49, Try.ntmps49
  go_wp2_with fail
  refine (markRotorS_to g x.rotors.length c k _ _ (h' _) (len_rvs _) hl h1 (by omega)).mono ?_
  rintro e w1 ⟨rfl, hg⟩
  have hb := hb0 (.cells #[.slice (some ⟨g, 0, none⟩) x.rotors.length c, .string x.refl] 25)
  clear h' hb0
  go_wp2
  go_ret
  exact ⟨rfl, grown_trans ⟨hb.os, hb.tape, hb.output, hb.size, fun i hi _ => hb.block i hi⟩ hg⟩
theorem markWheels_any (g c : Nat) (x : Whl) (k : Nat) (w : World) (h : Own w g (rvs x.rotors)) (hl : x.rotors.length ≤ 1048576) (h1 : 1 ≤ k) (hk : k ≤ 1000000) :
    Calls Try.prog 49 #[.agg #[.slice (some ⟨g, 0, none⟩) x.rotors.length c, .string x.refl], .int .i64 (k : Int)] w (MarkPost g w) :=
  (markWheels_to g c x k w h hl h1 hk).mono fun _ _ h => ⟨_, h.1, h.2⟩
end Go.Proofs.Ytbeohccbflhdiaa

/- Contracts of the laws' own functions on machines: sizes, copies, comparison, marks. -/
namespace Go.Proofs.Ytbeohccbflhdiaa
open Go.RowKit

/-- A machine is small. -/
structure SmM (m : Mach) : Prop where
  whl : SmW m.wheels
  rings : m.rings.size ≤ 1048576
  plugs : m.plugs.size ≤ 1048576
theorem SmM.at_ {m : Mach} (h : SmM m) {w : World} {B : Nat} {a : Option Addr} (hr : Reads w B a (rvs m.wheels.rotors)) : MachAt w B a m.wheels.rotors.length m :=
  ⟨h.whl.at_ hr, by have := h.rings; omega, by have := h.plugs; omega⟩
def SzM (m : Mach) (left : Int) (w : World) (e : Ending) (w' : World) : Prop :=
  ∃ q : Int, e = .returned (.int .i64 q) ∧ Below w.heap.size w w' ∧ (q = -1 ∨ (0 ≤ q ∧ q ≤ left ∧ SmM m))
theorem szMachine_any (a : Option Addr) (c : Nat) (m : Mach) (left : Int) (w : World) (h : Reads w w.heap.size a (rvs m.wheels.rotors)) (hz : BigR m.wheels.rotors) (hr : m.wheels.refl.size ≤ 9223372036854775807) (hg : m.rings.size ≤ 9223372036854775807) (hp : m.plugs.size ≤ 9223372036854775807) (h0 : 0 ≤ left) (h1 : left ≤ 1048576) :
    Calls Try.prog 12 #[.agg #[.slice a m.wheels.rotors.length c, .string m.wheels.refl, .string m.rings, .string m.plugs], .int .i64 left] w (SzM m left w) := by
  have o0 := Own.new w [.slice a m.wheels.rotors.length c, .string m.wheels.refl, .string m.rings, .string m.plugs] 40
  have hb0 := (Below.refl w.heap.size w).alloc (Nat.le_refl _) (.cells [.slice a m.wheels.rotors.length c, .string m.wheels.refl, .string m.rings, .string m.plugs].toArray 40)
  have h' : Reads (w.alloc (.cells [.slice a m.wheels.rotors.length c, .string m.wheels.refl, .string m.rings, .string m.plugs].toArray 40)) (w.alloc (.cells [.slice a m.wheels.rotors.length c, .string m.wheels.refl, .string m.rings, .string m.plugs].toArray 40)).heap.size a (rvs m.wheels.rotors) := (h.below hb0 (Nat.le_refl _)).more hb0.size
  go_enter Try.func12, Try.ntmps12
  go_wp2_with fail
  refine (szWheels_any a c m.wheels left _ h' hz hr h0 h1).mono ?_
  rintro e w1 ⟨q, rfl, hb1, hq⟩
  have o1 := o0.below hb1 o0.lt
  have c1 := o1.at_ (i := 1) rfl
  have c2 := o1.at_ (i := 2) rfl
  have c3 := o1.at_ (i := 3) rfl
  have hb' := bt hb0 hb1
  clear o0 hb0 h' hb1 h
  rcases hq with rfl | ⟨p0, p1, p2⟩
  · go_wp2
    go_ret
    exact ⟨-1, rfl, hb', .inl rfl⟩
  · have HP := Lib.hid p2
    clear p2
    by_cases hs : q < m.rings.size
    · go_wp2
      go_ret
      exact ⟨-1, rfl, hb', .inl rfl⟩
    · by_cases hs2 : q - m.rings.size < m.plugs.size
      · go_wp2
        go_ret
        exact ⟨-1, rfl, hb', .inl rfl⟩
      · go_wp2
        go_ret
        exact ⟨q - m.rings.size - m.plugs.size, rfl, hb', .inr ⟨by omega, by omega, HP.out, by omega, by omega⟩⟩

/-- A new machine: its rotors lie in a block of their own. -/
def NewM (m : Mach) (w : World) (e : Ending) (w' : World) : Prop :=
  ∃ g, w.heap.size ≤ g ∧ e = .returned (.agg #[.slice (some ⟨g, 0, none⟩) m.wheels.rotors.length m.wheels.rotors.length, .string m.wheels.refl, .string m.rings, .string m.plugs]) ∧ Own w' g (rvs m.wheels.rotors) ∧ Below w.heap.size w w'
set_option maxHeartbeats 1000000 in
theorem toMachine_any (a : Option Addr) (c : Nat) (m : Mach) (w : World) (h : Reads w w.heap.size a (rvs m.wheels.rotors)) (hs : SmM m) :
    Calls Try.prog 15 #[.agg #[.slice a m.wheels.rotors.length c, .string m.wheels.refl, .string m.rings, .string m.plugs]] w (NewM m w) := by
  have H := Lib.hid h
  have HS := Lib.hid hs
  clear h hs
  go_enter Try.func15, Try.ntmps15
  go_wp2_with fail
  obtain ⟨W, hW⟩ : ∃ W, W = (((w.alloc (Obj.cells #[Value.slice a m.wheels.rotors.length c, .string m.wheels.refl, .string m.rings, .string m.plugs] 40)).alloc (Obj.cells #[Value.slice none 0 0, .string ⟨#[]⟩, .string ⟨#[]⟩, .string ⟨#[]⟩] 27)).alloc (Obj.cells #[Value.slice none 0 0, .string ⟨#[]⟩, .string ⟨#[]⟩, .string ⟨#[]⟩] 27)) := ⟨_, rfl⟩
  have o0 : Own W w.heap.size [Value.slice a m.wheels.rotors.length c, .string m.wheels.refl, .string m.rings, .string m.plugs] := by
    rw [hW]; exact ((Own.new w _ _).alloc _).alloc _
  have o1 : Own W (w.heap.size + 1) [Value.slice none 0 0, .string ⟨#[]⟩, .string ⟨#[]⟩, .string ⟨#[]⟩] := by
    rw [hW]; have := (Own.new (w.alloc (Obj.cells #[Value.slice a m.wheels.rotors.length c, .string m.wheels.refl, .string m.rings, .string m.plugs] 40)) [Value.slice none 0 0, .string ⟨#[]⟩, .string ⟨#[]⟩, .string ⟨#[]⟩] 27).alloc (Obj.cells #[Value.slice none 0 0, .string ⟨#[]⟩, .string ⟨#[]⟩, .string ⟨#[]⟩] 27); simpa using this
  have o2 : Own W (w.heap.size + 1 + 1) [Value.slice none 0 0, .string ⟨#[]⟩, .string ⟨#[]⟩, .string ⟨#[]⟩] := by
    rw [hW]; have := Own.new ((w.alloc (Obj.cells #[Value.slice a m.wheels.rotors.length c, .string m.wheels.refl, .string m.rings, .string m.plugs] 40)).alloc (Obj.cells #[Value.slice none 0 0, .string ⟨#[]⟩, .string ⟨#[]⟩, .string ⟨#[]⟩] 27)) [Value.slice none 0 0, .string ⟨#[]⟩, .string ⟨#[]⟩, .string ⟨#[]⟩] 27; simpa using this
  have hb : Below w.heap.size w W := by
    rw [hW]; exact (((Below.refl _ _).alloc (Nat.le_refl _) _).alloc (by simp) _).alloc (by simp; omega) _
  rw [← hW]
  clear hW
  generalize hB2 : w.heap.size + 1 + 1 = B2 at *
  generalize hB1 : w.heap.size + 1 = B1 at *
  generalize hB0 : w.heap.size = B0 at *
  have g1 : B0 < B1 := by omega
  have g2 : B1 < B2 := by omega
  have HB0 := Lib.hid hB0
  clear hB0 hB1 hB2
  have hR : Reads W W.heap.size a (rvs m.wheels.rotors) := by
    exact (H.out.below hb (Nat.le_refl _)).more (by have := o0.lt; omega)
  refine (toWheels_any a c m.wheels W hR HS.out.whl).mono ?_
  rintro e w1 ⟨g, hg, rfl, og, hb1⟩
  have k0 := o0.below hb1 o0.lt
  have k1 := o1.below hb1 o1.lt
  have k2 := o2.below hb1 o2.lt
  have l2 := o2.lt
  have kb : Below B0 w w1 := hb.trans (hb1.mono (by omega))
  clear o0 o1 o2 hb hb1 hR
  have f0 := k2.at_ (i := 0) rfl
  have f1 := k2.at_ (i := 1) rfl
  have f2 := k2.at_ (i := 2) rfl
  have f3 := k2.at_ (i := 3) rfl
  have r0 := k2.free 0 (by simp)
  have r1 := k2.free 1 (by simp)
  have r2 := k2.free 2 (by simp)
  have r3 := k2.free 3 (by simp)
  have c2 := k0.at_ (i := 2) rfl
  have c3 := k0.at_ (i := 3) rfl
  have e0 := k1.at_ (i := 0) rfl
  have e1 := k1.at_ (i := 1) rfl
  have e2 := k1.at_ (i := 2) rfl
  have e3 := k1.at_ (i := 3) rfl
  have s0 := k1.free 0 (by simp)
  have s1 := k1.free 1 (by simp)
  have s2 := k1.free 2 (by simp)
  have s3 := k1.free 3 (by simp)
  have n1 : ¬ B1 = B2 := by omega
  have n2 : ¬ B2 = B1 := by omega
  have n3 : ¬ B2 = B0 := by omega
  have n4 : ¬ B0 = B2 := by omega
  go_wp2
  refine bodyPost_ret (v := .agg #[.slice (some ⟨g, 0, none⟩) m.wheels.rotors.length m.wheels.rotors.length, .string m.wheels.refl, .string m.rings, .string m.plugs]) (by simp [results, Try.results15, go_sem, e0, e1, e2, e3]) rfl ?_
  have ge1 : g ≠ B1 := by omega
  have ge2 : g ≠ B2 := by omega
  refine ⟨g, by have := HB0.out; omega, rfl, ?_, ?_⟩
  · repeat' (with_reducible first | exact og | refine Own.far ?_ ?_ _)
    all_goals (simp; omega)
  · rw [HB0.out]
    repeat' (with_reducible first | exact kb | refine Below.setCell ?_ ?_ _)
    all_goals (simp; omega)

theorem eqMachine_any (a b : Option Addr) (c d : Nat) (m : Mach) (w : World) (h1 : Reads w w.heap.size a (rvs m.wheels.rotors)) (h2 : Reads w w.heap.size b (rvs m.wheels.rotors)) (hl : m.wheels.rotors.length ≤ 1048576) :
    Calls Try.prog 20 #[.agg #[.slice a m.wheels.rotors.length c, .string m.wheels.refl, .string m.rings, .string m.plugs], .agg #[.slice b m.wheels.rotors.length d, .string m.wheels.refl, .string m.rings, .string m.plugs]] w fun e w' => e = .returned (.bool true) ∧ Below w.heap.size w w' := by
  have o0 := fun o => (Own.new w [.slice a m.wheels.rotors.length c, .string m.wheels.refl, .string m.rings, .string m.plugs] 27).alloc o
  have o1 := fun A => Own.new (w.alloc A) [.slice b m.wheels.rotors.length d, .string m.wheels.refl, .string m.rings, .string m.plugs] 27
  have hb0 := fun A B => ((Below.refl w.heap.size w).alloc (Nat.le_refl _) A).alloc (by simp) B
  have R1 := Lib.hid (fun A B => (h1.below (hb0 A B) (Nat.le_refl _)).more (hb0 A B).size)
  have R2 := Lib.hid (fun A B => (h2.below (hb0 A B) (Nat.le_refl _)).more (hb0 A B).size)
  simp only [World.size_alloc] at o1
  clear h1 h2
  go_enter Try.func20, Try.ntmps20
  go_wp2_with fail
  refine (eqWheels_any a b c d m.wheels _ (R1.out _ _) (R2.out _ _) hl).mono ?_
  rintro e w1 ⟨rfl, hb1⟩
  have k0 := (o0 _).below hb1 (o0 _).lt
  have k1 := (o1 _).below hb1 (o1 _).lt
  have f1 := k0.at_ (i := 2) rfl
  have f2 := k0.at_ (i := 3) rfl
  have g1 := k1.at_ (i := 2) rfl
  have g2 := k1.at_ (i := 3) rfl
  have kb := bt (hb0 _ _) hb1
  clear o0 o1 hb0 hb1 R1 R2
  go_wp2
  go_ret
  exact ⟨rfl, kb⟩

theorem markMachine_to (g c : Nat) (m : Mach) (k : Nat) (w : World) (h : Own w g (rvs m.wheels.rotors)) (hl : m.wheels.rotors.length ≤ 1048576) (h1 : 1 ≤ k) (hk : k ≤ 1000000) :
    Calls Try.prog 22 #[.agg #[.slice (some ⟨g, 0, none⟩) m.wheels.rotors.length c, .string m.wheels.refl, .string m.rings, .string m.plugs], .int .i64 (k : Int)] w (MarkTo g (k + 2 * m.wheels.rotors.length) w) := by
  have h' := fun o => h.alloc o
  have hb0 := fun A => (Below.refl w.heap.size w).alloc (Nat.le_refl _) A
  go_enter Try.func22, Try.ntmps22
  go_wp2_with fail
  refine (markWheels_to g c m.wheels k _ (h' _) hl h1 (by omega)).mono ?_
  rintro e w1 ⟨rfl, hg⟩
  have hb := hb0 (.cells #[.slice (some ⟨g, 0, none⟩) m.wheels.rotors.length c, .string m.wheels.refl, .string m.rings, .string m.plugs] 27)
  clear h' hb0
  go_wp2
  go_ret
  exact ⟨rfl, grown_trans ⟨hb.os, hb.tape, hb.output, hb.size, fun i hi _ => hb.block i hi⟩ hg⟩
end Go.Proofs.Ytbeohccbflhdiaa

/- Contracts of the laws' own functions on lists of numbers, and the marks of a list of strings of its own. -/
namespace Go.Proofs.Ytbeohccbflhdiaa
open Go.RowKit

/-- A list of strings is marked where it lies. -/
theorem markStringS_own (g c k : Nat) (n : Nat) (cs : List Value) (w : World) (h : Own w g cs) (hcs : cs.length = n) (hl : n ≤ 1048576) (h1 : 1 ≤ k) (hk : k ≤ 10000000) :
    Calls Try.prog 23 #[.slice (some ⟨g, 0, none⟩) n c, .int .i64 (k : Int)] w (MarkTo g (k + n) w) := by
  have HC := Lib.hid hcs
  clear hcs
  go_enter Try.func23, Try.ntmps23
  go_wp2
  go_loopw [1, 5] (fun m i wr => ∃ (j : Nat) (cs : List Value), j ≤ n ∧ cs.length = n ∧ i = .int .i64 j ∧ m = .int .i64 ((k + j : Nat) : Int) ∧ Own wr g cs ∧ w.grownBy wr (some g)) (fun _ i _ => n - (intOf i).toNat)
  case atStart => exact ⟨0, cs, Nat.zero_le _, HC.out, rfl, rfl, h, World.grownBy.refl w _⟩
  case round =>
    clear h HC
    obtain ⟨j, cs, hj, hcs, rfl, rfl, ho, hb⟩ := hrel
    have HC := Lib.hid hcs
    clear hcs
    by_cases hlt : j < n
    · have hlt0 := ho.lt
      have q1 : (j : Int) < (n : Int) := by omega
      go_wp2_with fail
      refine (markText_any (k + j) _ (by omega) (by omega)).mono ?_
      rintro e w1 ⟨rfl, hb1⟩
      have o1 := ho.below hb1 ho.lt
      obtain ⟨y1, f1⟩ := o1.some_ (i := j) (by rw [HC.out]; omega)
      have f2 := o1.free j (by rw [HC.out]; omega)
      have o2 := o1.set_ (i := j) (by rw [HC.out]; omega) (.string (mkT (k + j)))
      have g1 : w.grownBy (w1.setCell ⟨g, j, none⟩ (.string (mkT (k + j)))) (some g) :=
        grown_trans hb (grown_trans ⟨hb1.os, hb1.tape, hb1.output, hb1.size, fun i hi _ => hb1.block i hi⟩ (grown_setCell w1 g j _))
      clear o1 hb1 hb ho
      go_wp2
      go_roundw
      case rel => exact ⟨j + 1, _, by omega, by rw [List.length_set, HC.out], by go_num, by go_num, o2, g1⟩
      case measure => simp [intOf]; omega
    · have hj' : j = n := by omega
      subst hj'
      go_wp2
      go_ret
      exact ⟨ret_int (by omega), hb⟩

theorem iv_set (ss : List Int) (k : Nat) (s : Int) : (iv ss).set k (.int .i64 s) = iv (ss.set k s) := by simp [iv, List.map_set]
/-- A copy of a list of numbers in new memory. -/
def CopyI (ss : List Int) (w : World) (e : Ending) (w' : World) : Prop :=
  ∃ g, w.heap.size ≤ g ∧ e = .returned (.slice (some ⟨g, 0, none⟩) ss.length ss.length) ∧ Own w' g (iv ss) ∧ Below w.heap.size w w'
theorem toIntS_any (a : Option Addr) (c : Nat) (ss : List Int) (w : World) (h : Reads w w.heap.size a (iv ss)) (hl : ss.length ≤ 1048576) :
    Calls Try.prog 17 #[.slice a ss.length c] w (CopyI ss w) := by
  have hmk := run_make1 (P := Try.prog) Try.underlying41 info_int rfl ss.length ss.length (Nat.le_refl _) (by omega) (by omega)
  have HR := Lib.hid h
  clear h
  go_enter Try.func17, Try.ntmps17
  go_wp2
  go_loopw [4] (fun i wr => ∃ k : Nat, k ≤ ss.length ∧ i = .int .i64 k ∧ Below w.heap.size w wr ∧ Own wr w.heap.size (iv (ss.take k ++ (List.replicate ss.length (0 : Int)).drop k))) (fun i _ => ss.length - (intOf i).toNat)
  case atStart =>
    refine ⟨0, Nat.zero_le _, rfl, (Below.refl _ _).alloc (Nat.le_refl _) _, ?_⟩
    have := Own.new w (iv (List.replicate ss.length (0 : Int))) 3
    simpa [iv] using this
  case round =>
    obtain ⟨k, hk, rfl, hbel, hown⟩ := hrel
    have hlen : Hid ((iv (ss.take k ++ (List.replicate ss.length (0 : Int)).drop k)).length = ss.length) := by
      show _ = _
      rw [length_iv, fill_len (by simp) hk]
    by_cases hlt : k < ss.length
    · obtain ⟨b, off, rfl, hb, hc⟩ := HR.out.open_ (by rw [length_iv]; omega)
      have d1 : wr.cell? ⟨b, off + k, none⟩ = some (.int .i64 ss[k]) := by
        have := hc k (by rw [length_iv]; exact hlt)
        rw [iv_at hlt] at this
        rw [← this]; exact hbel.cell hb
      clear hc
      obtain ⟨x, hx⟩ := hown.some_ (i := k) (by rw [hlen.out]; omega)
      have hf := hown.free k (by rw [hlen.out]; omega)
      have hbn : ¬ w.heap.size = b := by omega
      go_wp2
      go_roundw
      case rel =>
        refine ⟨k + 1, by omega, by go_num, hbel.setCell (Nat.le_refl _) _, ?_⟩
        have h0 := hown.set_ (i := k) (by rw [hlen.out]; omega) (.int .i64 ss[k])
        rw [iv_set, fill_set hlt (by simp)] at h0
        exact h0
      case measure => simp [intOf]; omega
    · have hk' : k = ss.length := by omega
      subst hk'
      go_wp2
      go_ret
      refine ⟨w.heap.size, Nat.le_refl _, rfl, ?_, hbel⟩
      rw [List.take_length, List.drop_of_length_le (by simp), List.append_nil] at hown
      exact hown

/-- A list of numbers and a copy of it. -/
theorem eqIntS_same (a b : Option Addr) (c d : Nat) (ss : List Int) (w : World) (h1 : Reads w w.heap.size a (iv ss)) (h2 : Reads w w.heap.size b (iv ss)) (l1 : ss.length ≤ 1048576) :
    Calls Try.prog 21 #[.slice a ss.length c, .slice b ss.length d] w fun e w' => e = .returned (.bool true) ∧ ∃ n, w' = w.drewN n := by
  have HR1 := Lib.hid h1
  have HR2 := Lib.hid h2
  clear h1 h2
  go_enter Try.func21, Try.ntmps21
  go_wp2
  go_loopw [5] (fun i wr => ∃ k n : Nat, k ≤ ss.length ∧ i = .int .i64 k ∧ wr = w.drewN n) (fun i _ => ss.length - (intOf i).toNat)
  case atStart => exact ⟨0, 0, Nat.zero_le _, rfl, rfl⟩
  case round =>
    obtain ⟨k, n, hk, rfl, rfl⟩ := hrel
    by_cases hlt : k < ss.length
    · obtain ⟨b1, off1, rfl, hb1, hc1⟩ := HR1.out.open_ (by rw [length_iv]; omega)
      obtain ⟨b2, off2, rfl, hb2, hc2⟩ := HR2.out.open_ (by rw [length_iv]; omega)
      have d1 := hc1 k (by rw [length_iv]; exact hlt)
      have d2 := hc2 k (by rw [length_iv]; omega)
      rw [iv_at hlt] at d1
      rw [iv_at hlt] at d2
      clear hc1 hc2
      have q1 : (k : Int) < (ss.length : Int) := by omega
      have te : (ss[k] != ss[k]) = false := by simp
      go_wp2_with fail
      go_quiet (fail)
      go_wp2
      go_roundw
      case rel => exact ⟨k + 1, _, by omega, by go_num, rfl⟩
      case measure => simp [intOf]; omega
    · go_wp2
      go_ret
      exact ⟨rfl, n, rfl⟩

theorem markIntS_to (g c k : Nat) (n : Nat) (cs : List Value) (w : World) (h : Own w g cs) (hcs : cs.length = n) (hl : n ≤ 1048576) (h1 : 1 ≤ k) (hk : k ≤ 10000000) :
    Calls Try.prog 24 #[.slice (some ⟨g, 0, none⟩) n c, .int .i64 (k : Int)] w (MarkTo g (k + n) w) := by
  have HC := Lib.hid hcs
  clear hcs
  go_enter Try.func24, Try.ntmps24
  go_wp2
  go_loopw [1, 5] (fun m i wr => ∃ (j : Nat) (cs : List Value), j ≤ n ∧ cs.length = n ∧ i = .int .i64 j ∧ m = .int .i64 ((k + j : Nat) : Int) ∧ Own wr g cs ∧ w.grownBy wr (some g)) (fun _ i _ => n - (intOf i).toNat)
  case atStart => exact ⟨0, cs, Nat.zero_le _, HC.out, rfl, rfl, h, World.grownBy.refl w _⟩
  case round =>
    clear h HC
    obtain ⟨j, cs, hj, hcs, rfl, rfl, ho, hb⟩ := hrel
    have HC := Lib.hid hcs
    clear hcs
    by_cases hlt : j < n
    · have hlt0 := ho.lt
      have q1 : (j : Int) < (n : Int) := by omega
      obtain ⟨y1, f1⟩ := ho.some_ (i := j) (by rw [HC.out]; omega)
      have f2 := ho.free j (by rw [HC.out]; omega)
      have o2 := ho.set_ (i := j) (by rw [HC.out]; omega) (.int .i64 ((k + j : Nat) : Int))
      have g1 : w.grownBy (wr.setCell ⟨g, j, none⟩ (.int .i64 ((k + j : Nat) : Int))) (some g) := grown_trans hb (grown_setCell wr g j _)
      clear hb ho
      go_wp2
      go_roundw
      case rel => exact ⟨j + 1, cs.set j (.int .i64 ((k + j : Nat) : Int)), by omega, by rw [List.length_set, HC.out], by go_num, by go_num, o2, g1⟩
      case measure => simp [intOf]; omega
    · have hj' : j = n := by omega
      subst hj'
      go_wp2
      go_ret
      exact ⟨ret_int (by omega), hb⟩

/-- What a walk keeps: the memory below, blocks of its own, and lists that are read. -/
structure Kept (w0 w : World) (ows : List (Nat × List Value)) (rds : List (Nat × Option Addr × List Value)) : Prop where
  bel : Below w0.heap.size w0 w
  own : ∀ o ∈ ows, Own w o.1 o.2
  rds : ∀ r ∈ rds, r.1 ≤ w.heap.size ∧ Reads w r.1 r.2.1 r.2.2
section
variable {w0 w w' : World} {ows : List (Nat × List Value)} {rds : List (Nat × Option Addr × List Value)} {o : Nat × List Value}
theorem Kept.below (h : Kept w0 w ows rds) (hb : Below w.heap.size w w') : Kept w0 w' ows rds :=
  ⟨bt h.bel hb, fun o ho => (h.own o ho).below hb (h.own o ho).lt, fun r hr => ⟨Nat.le_trans (h.rds r hr).1 hb.size, (h.rds r hr).2.below hb (h.rds r hr).1⟩⟩
theorem Kept.grown (h : Kept w0 w ows rds) {g : Nat} (gr : w.grownBy w' (some g)) (hg : w0.heap.size ≤ g) (ho : ∀ o ∈ ows, o.1 ≠ g) (hr : ∀ r ∈ rds, r.1 ≤ g) : Kept w0 w' ows rds :=
  ⟨h.bel.grown gr h.bel.size (fun k hk => by cases hk; exact hg), fun o hm => (h.own o hm).grown gr (by have := ho o hm; simp; omega), fun r hm => ⟨Nat.le_trans (h.rds r hm).1 gr.size, (h.rds r hm).2.grown gr (h.rds r hm).1 (hr r hm)⟩⟩
theorem Kept.low (h : Kept w0 w ows rds) {C : Nat} (hb : Below C w w') (ho : ∀ o ∈ ows, o.1 < C) (hr : ∀ r ∈ rds, r.1 ≤ C) (hC : w0.heap.size ≤ C) : Kept w0 w' ows rds :=
  ⟨h.bel.trans (hb.mono hC), fun o hm => (h.own o hm).below hb (ho o hm), fun r hm => ⟨Nat.le_trans (h.rds r hm).1 hb.size, (h.rds r hm).2.below hb (hr r hm)⟩⟩
theorem Kept.addO (h : Kept w0 w ows rds) {g : Nat} {xs : List Value} (ho : Own w g xs) : Kept w0 w ((g, xs) :: ows) rds :=
  ⟨h.bel, fun o hm => by rcases List.mem_cons.1 hm with rfl | hm; exact ho; exact h.own o hm, h.rds⟩
theorem Kept.addR (h : Kept w0 w ows rds) {C : Nat} {a : Option Addr} {xs : List Value} (hr : Reads w C a xs) (hC : C ≤ w.heap.size) : Kept w0 w ows ((C, a, xs) :: rds) :=
  ⟨h.bel, h.own, fun r hm => by rcases List.mem_cons.1 hm with rfl | hm; exact ⟨hC, hr⟩; exact h.rds r hm⟩
theorem Kept.subO {ows' : List (Nat × List Value)} (h : Kept w0 w ows rds) (hs : ows' ⊆ ows) : Kept w0 w ows' rds := ⟨h.bel, fun o hm => h.own o (hs hm), h.rds⟩
theorem Kept.tailO (h : Kept w0 w (o :: ows) rds) : Kept w0 w ows rds := h.subO (List.subset_cons_self _ _)
theorem Kept.o0 {g : Nat} {xs : List Value} (h : Kept w0 w ((g, xs) :: ows) rds) : Own w g xs := h.own (g, xs) (by simp)
theorem Kept.o1 {p0 : Nat × List Value} {g : Nat} {xs : List Value} (h : Kept w0 w (p0 :: (g, xs) :: ows) rds) : Own w g xs := h.own (g, xs) (by simp)
theorem Kept.o2 {p0 p1 : Nat × List Value} {g : Nat} {xs : List Value} (h : Kept w0 w (p0 :: p1 :: (g, xs) :: ows) rds) : Own w g xs := h.own (g, xs) (by simp)
theorem Kept.o3 {p0 p1 p2 : Nat × List Value} {g : Nat} {xs : List Value} (h : Kept w0 w (p0 :: p1 :: p2 :: (g, xs) :: ows) rds) : Own w g xs := h.own (g, xs) (by simp)
theorem Kept.o4 {p0 p1 p2 p3 : Nat × List Value} {g : Nat} {xs : List Value} (h : Kept w0 w (p0 :: p1 :: p2 :: p3 :: (g, xs) :: ows) rds) : Own w g xs := h.own (g, xs) (by simp)
theorem Kept.at_ {C : Nat} {a : Option Addr} {xs : List Value} (h : Kept w0 w ows rds) (hm : (C, a, xs) ∈ rds) : Reads w w.heap.size a xs := (h.rds _ hm).2.more (h.rds _ hm).1
theorem Kept.r0 {C : Nat} {a : Option Addr} {xs : List Value} (h : Kept w0 w ows ((C, a, xs) :: rds)) : Reads w w.heap.size a xs := h.at_ (C := C) (by simp)
theorem Kept.r1 {p0 : Nat × Option Addr × List Value} {C : Nat} {a : Option Addr} {xs : List Value} (h : Kept w0 w ows (p0 :: (C, a, xs) :: rds)) : Reads w w.heap.size a xs := h.at_ (C := C) (by simp)
theorem Kept.r2 {p0 p1 : Nat × Option Addr × List Value} {C : Nat} {a : Option Addr} {xs : List Value} (h : Kept w0 w ows (p0 :: p1 :: (C, a, xs) :: rds)) : Reads w w.heap.size a xs := h.at_ (C := C) (by simp)
theorem Kept.r3 {p0 p1 p2 : Nat × Option Addr × List Value} {C : Nat} {a : Option Addr} {xs : List Value} (h : Kept w0 w ows (p0 :: p1 :: p2 :: (C, a, xs) :: rds)) : Reads w w.heap.size a xs := h.at_ (C := C) (by simp)
theorem Kept.r4 {p0 p1 p2 p3 : Nat × Option Addr × List Value} {C : Nat} {a : Option Addr} {xs : List Value} (h : Kept w0 w ows (p0 :: p1 :: p2 :: p3 :: (C, a, xs) :: rds)) : Reads w w.heap.size a xs := h.at_ (C := C) (by simp)
end
theorem drewN_below {B : Nat} {w : World} (n : Nat) : Below B w (w.drewN n) := ⟨rfl, rfl, rfl, Nat.le_refl _, fun _ _ => rfl⟩
theorem keep8 {w6 w7 : World} {B0 B5 : Nat} {x0 x1 x2 x3 y0 y1 y2 y3 : Value} (f0 : w6.cell? ⟨B0, 0, none⟩ = some x0) (f1 : w6.cell? ⟨B0, 1, none⟩ = some x1) (f2 : w6.cell? ⟨B0, 2, none⟩ = some x2) (f3 : w6.cell? ⟨B0, 3, none⟩ = some x3)
    (g0 : w6.cell? ⟨B5, 0, none⟩ = some y0) (g1 : w6.cell? ⟨B5, 1, none⟩ = some y1) (g2 : w6.cell? ⟨B5, 2, none⟩ = some y2) (g3 : w6.cell? ⟨B5, 3, none⟩ = some y3)
    (lt0 : B0 < w6.heap.size) (lt5 : B5 < w6.heap.size) (hb : Below w6.drew.heap.size w6.drew w7) :
    w7.cell? ⟨B0, 0, none⟩ = some x0 ∧ w7.cell? ⟨B0, 1, none⟩ = some x1 ∧ w7.cell? ⟨B0, 2, none⟩ = some x2 ∧ w7.cell? ⟨B0, 3, none⟩ = some x3 ∧ w7.cell? ⟨B5, 0, none⟩ = some y0 ∧ w7.cell? ⟨B5, 1, none⟩ = some y1 ∧ w7.cell? ⟨B5, 2, none⟩ = some y2 ∧ w7.cell? ⟨B5, 3, none⟩ = some y3 :=
  ⟨(hb.cell (p := ⟨B0, 0, none⟩) lt0).trans f0, (hb.cell (p := ⟨B0, 1, none⟩) lt0).trans f1, (hb.cell (p := ⟨B0, 2, none⟩) lt0).trans f2, (hb.cell (p := ⟨B0, 3, none⟩) lt0).trans f3,
    (hb.cell (p := ⟨B5, 0, none⟩) lt5).trans g0, (hb.cell (p := ⟨B5, 1, none⟩) lt5).trans g1, (hb.cell (p := ⟨B5, 2, none⟩) lt5).trans g2, (hb.cell (p := ⟨B5, 3, none⟩) lt5).trans g3⟩
end Go.Proofs.Ytbeohccbflhdiaa

/- Arguments that are slices of rotors, as the walks want them. -/
namespace Go.Proofs.Ytbeohccbflhdiaa
open Go.ChangeShapes Go.WideShapes Go.Deep Go.RowKit

section
variable {H : Type} {enc : TypeId × Value → H} {P : Program} {w : World} {base : Nat} {spare : Nat → Bool} {held : Bool}
theorem open_slice_fields {t e : TypeId} {fs : Array Field} {fuel : Nat} {cs : List Value} {x : DataW H × List MemPlace} (ht : P.underlying t = some (.slice e)) (he : P.underlying e = some (.struct fs))
    (hone : oneCellFields P fs = true) (hC : P.cellsOf e = fs.size) (h : DataW.trod enc P w base spare held fuel t cs = some x) :
    (cs = [.slice none 0 0] ∧ x = (.nil, [])) ∨
    ∃ (a : Addr) (len cap m : Nat), cs = [.slice (some a) len cap] ∧ len ≤ cap ∧ cap ≤ maxLen ∧ m = (if spare a.block then cap else len) ∧
      ∀ i, i < m → ∀ (j : Nat) (f : Field), fs[j]? = some f → ∃ (v : Value) (y : DataW H × List MemPlace) (n : Nat), w.cell? (a.add (i * fs.size + j)) = some v ∧ DataW.trod enc P w base spare held n f.type [v] = some y := by
  rcases open_slice ht h with h0 | ⟨a, len, cap, m, n, D, Pl, hcs, hb, hl, hm, hmm, hx, hi⟩
  · exact .inl h0
  · refine .inr ⟨a, len, cap, m, hcs, hl, hm, hmm, fun i him j f hj => ?_⟩
    obtain ⟨cs', hc, ht'⟩ := hi i him
    rw [hC] at hc
    obtain ⟨ys, n', hn', hy, hlen, hyl, hf⟩ := DataW.trod_struct he ht'
    obtain ⟨_, hcl, hat⟩ := World.cells?_some hc
    obtain ⟨ho, hk⟩ := hone_of hone j f hj
    have hjl : j < fs.size := (Array.getElem?_eq_some_iff.1 hj).1
    have hcell := hat j hjl
    have hv : cs'[j]? = some (cs'[j]'(by omega)) := List.getElem?_eq_getElem (by omega)
    have h1 := hf j f hj
    rw [ho, hk] at h1
    have hone' : (cs'.drop j).take 1 = [cs'[j]'(by omega)] := by
      rw [List.drop_eq_getElem_cons (by omega)]
      rfl
    rw [hone'] at h1
    have hys : ys[j]? = some (ys[j]'(by omega)) := List.getElem?_eq_getElem (by omega)
    refine ⟨_, _, n', ?_, h1.trans hys⟩
    rw [← Go.Deep.add_add, hcell, hv]
end
theorem choose_list {α : Type} {Q : Nat → α → Prop} : ∀ n : Nat, (∀ i, i < n → ∃ r, Q i r) → ∃ rs : List α, rs.length = n ∧ ∀ i (h : i < rs.length), Q i rs[i]
  | 0, _ => ⟨[], rfl, fun i h => absurd h (by simp)⟩
  | n + 1, h => by
    obtain ⟨rs, hl, hr⟩ := choose_list n fun i hi => h i (by omega)
    obtain ⟨r, hq⟩ := h n (by omega)
    refine ⟨rs ++ [r], by simp [hl], fun i hi => ?_⟩
    by_cases e : i < rs.length
    · rw [List.getElem_append_left e]; exact hr i e
    · have : i = rs.length := by simp at hi; omega
      subst this
      simp [hl, hq]
theorem rots_open {H : Type} {enc : TypeId × Value → H} {w : World} {fuel : Nat} {v : Value} {x : DataW H × List MemPlace}
    (h : DataW.trod enc Try.prog w 0 (fun _ => true) true fuel 36 [v] = some x) :
    ∃ (a : Option Addr) (cap : Nat) (rs : List Rot), v = .slice a rs.length cap ∧ Reads w w.heap.size a (rvs rs) ∧ BigR rs := by
  rcases open_slice_fields Try.underlying36 Try.underlying134 (by kernel_rfl) (by kernel_rfl) h with ⟨hcs, _⟩ | ⟨a, len, cap, m, hcs, hl, hm, hmm, hf⟩
  · simp at hcs
    exact ⟨none, 0, [], by rw [hcs]; rfl, Reads.nil_, ⟨by simp, by simp⟩⟩
  · simp at hcs
    simp at hmm
    unfold maxLen at hm
    obtain ⟨rs, hrl, hr⟩ := choose_list (Q := fun i (r : Rot) => w.cell? (a.add (i * 2)) = some (.string r.wiring) ∧ w.cell? (a.add (i * 2 + 1)) = some (.string r.notches) ∧ r.wiring.size ≤ 9223372036854775807 ∧ r.notches.size ≤ 9223372036854775807) len fun i hi => by
      obtain ⟨v0, y0, n0, c0, t0⟩ := hf i (by omega) 0 _ rfl
      obtain ⟨v1, y1, n1, c1, t1⟩ := hf i (by omega) 1 _ rfl
      obtain ⟨s0, e0, _, hs0⟩ := DataW.trod_string Try.underlying9 t0
      obtain ⟨s1, e1, _, hs1⟩ := DataW.trod_string Try.underlying9 t1
      simp at e0 e1
      subst e0
      subst e1
      exact ⟨⟨s0, s1⟩, c0, c1, hs0, hs1⟩
    refine ⟨some a, cap, rs, by rw [hrl]; exact hcs, ?_, fun r hm => ?_, by omega⟩
    · by_cases h0 : len = 0
      · left
        rw [List.eq_nil_of_length_eq_zero (hrl.trans h0)]; rfl
      · obtain ⟨b, off, sp⟩ := a
        have h1 := (hr 0 (by omega)).1
        have hsp : sp = none := by simpa [Addr.add] using World.cell?_spot h1
        subst hsp
        have hb : b < w.heap.size := by
          rcases Nat.lt_or_ge b w.heap.size with hlt | hge
          · exact hlt
          · simp [Addr.add, World.cell?, Array.getElem?_eq_none hge] at h1
        refine .inr ⟨b, off, rfl, hb, fun i hi => ?_⟩
        rw [len_rvs] at hi
        have hk : i / 2 < rs.length := by omega
        obtain ⟨k0, k1, _⟩ := hr (i / 2) hk
        rw [add_none] at k0 k1
        rcases Nat.mod_two_eq_zero_or_one i with e | e
        · have := rvs_at0 rs (i / 2) hk
          rw [show 2 * (i / 2) = i by omega] at this
          rw [this, ← k0, show i / 2 * 2 = i by omega]
        · have := rvs_at1 rs (i / 2) hk
          rw [show 2 * (i / 2) + 1 = i by omega] at this
          rw [this, ← k1, show i / 2 * 2 + 1 = i by omega]
    · obtain ⟨j, hj, rfl⟩ := List.getElem_of_mem hm
      obtain ⟨_, _, k2, k3⟩ := hr j hj
      exact ⟨k2, k3⟩
end Go.Proofs.Ytbeohccbflhdiaa

/- Arguments that are machines, lists of strings and lists of numbers, as the walks want them. -/
namespace Go.Proofs.Ytbeohccbflhdiaa
open Go.ChangeShapes Go.WideShapes Go.Deep Go.RowKit Go.Joins

theorem add_none' (b off i : Nat) : (Addr.add ⟨b, off, none⟩ i) = ⟨b, off + i, none⟩ := by
  unfold Addr.add
  split
  · rename_i hi0; subst hi0; rfl
  · rfl
theorem strs_open {H : Type} {enc : TypeId × Value → H} {w : World} {fuel : Nat} {v : Value} {x : DataW H × List MemPlace}
    (h : DataW.trod enc Try.prog w 0 (fun _ => true) true fuel 30 [v] = some x) :
    ∃ (a : Option Addr) (cap : Nat) (ss : List ByteArray), v = .slice a ss.length cap ∧ Reads w w.heap.size a (sv ss) ∧ (∀ s ∈ ss, s.size ≤ 9223372036854775807) ∧ ss.length ≤ 9223372036854775807 := by
  rcases open_strings Try.underlying30 Try.underlying9 (by kernel_rfl) h with ⟨hcs, _⟩ | ⟨a, len, cap, ss, hcs, _, hl, hm, hz, _, hcell, hws⟩
  · simp at hcs
    exact ⟨none, 0, [], by rw [hcs]; rfl, Reads.nil_, by simp, by simp⟩
  · simp at hcs
    simp at hz
    unfold maxLen at hm hws
    have hlen : (ss.take len).length = len := by simp; omega
    refine ⟨some a, cap, ss.take len, by rw [hlen]; exact hcs, ?_, fun s hs => hws s (List.mem_of_mem_take hs), by rw [hlen]; omega⟩
    by_cases h0 : len = 0
    · left; rw [h0]; rfl
    · obtain ⟨b, off, sp⟩ := a
      have h1 := hcell 0 (by omega)
      have hsp : sp = none := by simpa [Addr.add] using World.cell?_spot h1
      subst hsp
      have hb : b < w.heap.size := by
        rcases Nat.lt_or_ge b w.heap.size with hlt | hge
        · exact hlt
        · simp [Addr.add, World.cell?, Array.getElem?_eq_none hge] at h1
      refine .inr ⟨b, off, rfl, hb, fun i hi => ?_⟩
      rw [length_sv, hlen] at hi
      have h2 := hcell i (by omega)
      have hi' : i < ss.length := by omega
      rw [sv_at (by rw [hlen]; exact hi), List.getElem_take]
      have e1 : ss.getD i ByteArray.empty = ss[i] := by simp [List.getD, List.getElem?_eq_getElem hi']
      rw [e1, add_none'] at h2
      exact h2
theorem ints_open {H : Type} {enc : TypeId × Value → H} {w : World} {fuel : Nat} {v : Value} {x : DataW H × List MemPlace}
    (h : DataW.trod enc Try.prog w 0 (fun _ => true) true fuel 41 [v] = some x) :
    ∃ (a : Option Addr) (cap : Nat) (ss : List Int), v = .slice a ss.length cap ∧ Reads w w.heap.size a (iv ss) ∧ ss.length ≤ 9223372036854775807 := by
  rcases open_ints Try.underlying41 Try.underlying3 (by kernel_rfl) h with ⟨hcs, _⟩ | ⟨a, len, cap, ss, hcs, _, hl, hm, hz, _, hcell, _⟩
  · simp at hcs
    exact ⟨none, 0, [], by rw [hcs]; rfl, Reads.nil_, by simp⟩
  · simp at hcs
    simp at hz
    unfold maxLen at hm
    have hlen : (ss.take len).length = len := by simp; omega
    refine ⟨some a, cap, ss.take len, by rw [hlen]; exact hcs, ?_, by rw [hlen]; omega⟩
    by_cases h0 : len = 0
    · left; rw [h0]; rfl
    · obtain ⟨b, off, sp⟩ := a
      have h1 := hcell 0 (by omega)
      have hsp : sp = none := by simpa [Addr.add] using World.cell?_spot h1
      subst hsp
      have hb : b < w.heap.size := by
        rcases Nat.lt_or_ge b w.heap.size with hlt | hge
        · exact hlt
        · simp [Addr.add, World.cell?, Array.getElem?_eq_none hge] at h1
      refine .inr ⟨b, off, rfl, hb, fun i hi => ?_⟩
      rw [length_iv, hlen] at hi
      have h2 := hcell i (by omega)
      have hi' : i < ss.length := by omega
      rw [iv_at (by rw [hlen]; exact hi), List.getElem_take]
      have e1 : ss.getD i 0 = ss[i] := by simp [List.getD, List.getElem?_eq_getElem hi']
      rw [e1, add_none'] at h2
      exact h2
theorem str_open {H : Type} {enc : TypeId × Value → H} {w : World} {fuel : Nat} {v : Value} {x : DataW H × List MemPlace}
    (h : DataW.trod enc Try.prog w 0 (fun _ => true) true fuel 9 [v] = some x) : ∃ m : ByteArray, v = .string m ∧ m.size ≤ 9223372036854775807 := by
  obtain ⟨m, e2, _, hm⟩ := DataW.trod_string Try.underlying9 h
  simp at e2
  exact ⟨m, e2, hm⟩
set_option maxRecDepth 100000 in
theorem mach_open {H : Type} {enc : TypeId × Value → H} {w : World} {r : Reach} {b0 : Nat} {v : Value} {d : DataW H} {p : List MemPlace} (hv : Value.okWide Try.prog w r b0 40 v)
    (h : DataW.Trod enc Try.prog w 0 (fun _ => true) true 40 v d p) :
    ∃ (a : Option Addr) (c : Nat) (m : Mach), v = .agg #[.slice a m.wheels.rotors.length c, .string m.wheels.refl, .string m.rings, .string m.plugs] ∧ Reads w w.heap.size a (rvs m.wheels.rotors) ∧ BigR m.wheels.rotors ∧
      m.wheels.refl.size ≤ 9223372036854775807 ∧ m.rings.size ≤ 9223372036854775807 ∧ m.plugs.size ≤ 9223372036854775807 := by
  obtain ⟨cs, rfl, hsz⟩ := okWide_struct Try.underlying40 hv
  have e4 : Try.prog.cellsOf 40 = 4 := by kernel_rfl
  rw [e4] at hsz
  obtain ⟨c0, c1, c2, c3, rfl⟩ := array4 hsz
  obtain ⟨fuel, hf⟩ := h
  obtain ⟨y0, y1, y2, n, _, _, h0, h1, h2⟩ := trod_struct3 Try.underlying40 hf
  have eW : Try.prog.cellsOf 38 = 2 := by kernel_rfl
  have eS : Try.prog.cellsOf 9 = 1 := by kernel_rfl
  have eR : Try.prog.cellsOf 36 = 1 := by kernel_rfl
  have h0' : DataW.trod enc Try.prog w 0 (fun _ => true) true n 38 [c0, c1] = some y0 := by simpa [Value.cells, eW] using h0
  have h1' : DataW.trod enc Try.prog w 0 (fun _ => true) true n 9 [c2] = some y1 := by simpa [Value.cells, eS] using h1
  have h2' : DataW.trod enc Try.prog w 0 (fun _ => true) true n 9 [c3] = some y2 := by simpa [Value.cells, eS] using h2
  obtain ⟨z0, z1, n2, _, _, g0, g1⟩ := trod_struct2 Try.underlying38 h0'
  have g0' : DataW.trod enc Try.prog w 0 (fun _ => true) true n2 36 [c0] = some z0 := by simpa [Value.cells, eR] using g0
  have g1' : DataW.trod enc Try.prog w 0 (fun _ => true) true n2 9 [c1] = some z1 := by simpa [Value.cells, eS] using g1
  obtain ⟨a, cap, rs, rfl, hr, hz⟩ := rots_open g0'
  obtain ⟨s1, rfl, b1⟩ := str_open g1'
  obtain ⟨s2, rfl, b2⟩ := str_open h1'
  obtain ⟨s3, rfl, b3⟩ := str_open h2'
  exact ⟨a, cap, ⟨⟨rs, s1⟩, s2, s3⟩, rfl, hr, hz, b1, b2, b3⟩
end Go.Proofs.Ytbeohccbflhdiaa

/- The walk of the law that both GroundsWithRepeats answer alike (printed by wip/genexact.py). -/
namespace Go.Proofs.Ytbeohccbflhdiaa
open Go.RowKit

theorem keepG_le (m : Mach) (gs : List ByteArray) (ps : List Int) : (keepG m gs ps).length ≤ 12 := by
  by_cases h : goodG m gs = true
  · rw [keepG_yes h]
    have := keepN_len m gs ps gs.length
    have := goodG_len h
    omega
  · rw [keepG_no (by simpa using h)]
    simp
set_option maxRecDepth 100000 in
set_option maxHeartbeats 4000000 in
theorem exactGroundsWithRepeats_walk (am : Option Addr) (cm : Nat) (m : Mach) (ags : Option Addr) (cgs : Nat) (gs : List ByteArray) (aps : Option Addr) (cps : Nat) (ps : List Int) (w : World) (hm : Reads w w.heap.size am (rvs m.wheels.rotors)) (hz : BigR m.wheels.rotors) (hrf : m.wheels.refl.size ≤ 9223372036854775807) (hrg : m.rings.size ≤ 9223372036854775807) (hpl : m.plugs.size ≤ 9223372036854775807) (hgs : Reads w w.heap.size ags (sv gs)) (zgs : ∀ s ∈ gs, s.size ≤ 9223372036854775807) (lgs : gs.length ≤ 9223372036854775807) (hps : Reads w w.heap.size aps (iv ps)) (lps : ps.length ≤ 9223372036854775807) :
    Calls Try.prog 4 #[.agg #[.slice am m.wheels.rotors.length cm, .string m.wheels.refl, .string m.rings, .string m.plugs], .slice ags gs.length cgs, .slice aps ps.length cps] w fun e w' => e = .returned (.bool true) ∧ Below w.heap.size w w' := by
  have o0 := Own.new w [.slice am m.wheels.rotors.length cm, .string m.wheels.refl, .string m.rings, .string m.plugs] 40
  have hb0 := (Below.refl w.heap.size w).alloc (Nat.le_refl _) (.cells [.slice am m.wheels.rotors.length cm, .string m.wheels.refl, .string m.rings, .string m.plugs].toArray 40)
  by_cases hvps : 1048576 < ps.length
  · go_enter Try.func4, Try.ntmps4
    go_wp2
    go_ret
    exact ⟨rfl, hb0⟩
  · skip
    go_enter Try.func4, Try.ntmps4
    go_wp2_with fail
    generalize (w.alloc (.cells [.slice am m.wheels.rotors.length cm, .string m.wheels.refl, .string m.rings, .string m.plugs].toArray 40)) = W at *
    have K0 := ((((⟨hb0, by simp, by simp⟩ : Kept w W [] []).addR (hps.below hb0 (Nat.le_refl _)) hb0.size).addR (hgs.below hb0 (Nat.le_refl _)) hb0.size).addR (hm.below hb0 (Nat.le_refl _)) hb0.size).addO o0
    clear o0 hb0 hm hgs hps
    refine (szMachine_any am cm m 1048576 W (K0.r0) hz hrf hrg hpl (by omega) (by omega)).mono ?_
    rintro e w2 ⟨q1, rfl, hb, hq⟩
    have K1 := K0.below hb
    clear K0 hb
    rcases hq with rfl | ⟨q1a, q1b, hsm⟩
    · go_wp2
      go_ret
      exact ⟨rfl, K1.bel⟩
    have HSM := Lib.hid hsm
    clear hsm hz hrf hrg hpl
    go_wp2_with fail
    refine (szStringS_any ags cgs gs q1 w2 (K1.r1) zgs lgs (by omega) (by omega)).mono ?_
    rintro e w4 ⟨q3, rfl, hw, hq⟩
    subst hw
    rcases hq with rfl | ⟨q3a, q3b, q3c, q3d⟩
    · go_wp2
      go_ret
      exact ⟨rfl, K1.bel⟩
    have hgs : ∀ s ∈ gs, s.size ≤ 4294967296 := fun s hs => by have := q3d s hs; omega
    have HGS := Lib.hid hgs
    have kgs : gs.length ≤ 1048576 := by omega
    clear hgs q3d zgs lgs
    have kps : ps.length ≤ 1048576 := by omega
    clear lps
    have hbig : (keepG m gs ps).length ≤ 12 := keepG_le m gs ps
    have f0 : w2.cell? ⟨w.heap.size, 0, none⟩ = some (.slice am m.wheels.rotors.length cm) := (K1.o0).at_ (i := 0) rfl
    have f1 : w2.cell? ⟨w.heap.size, 1, none⟩ = some (.string m.wheels.refl) := (K1.o0).at_ (i := 1) rfl
    have f2 : w2.cell? ⟨w.heap.size, 2, none⟩ = some (.string m.rings) := (K1.o0).at_ (i := 2) rfl
    have f3 : w2.cell? ⟨w.heap.size, 3, none⟩ = some (.string m.plugs) := (K1.o0).at_ (i := 3) rfl
    go_wp2_with fail
    refine (toMachine_any am cm m w2 (K1.r0) HSM.out).mono ?_
    rintro e w5 ⟨g6, hg6, rfl, og, hb⟩
    have K2 := (K1.below hb).addO og
    clear K1 hb og f0 f1 f2 f3
    go_wp2_with fail
    refine (toStringS_any ags cgs gs w5 (K2.r1) kgs).mono ?_
    rintro e w7 ⟨g8, hg8, rfl, og, hb⟩
    have K3 := (K2.below hb).addO og
    clear K2 hb og 
    go_wp2_with fail
    refine (toIntS_any aps cps ps w7 (K3.r2) kps).mono ?_
    rintro e w9 ⟨g10, hg10, rfl, og, hb⟩
    have K4 := (K3.below hb).addO og
    clear K3 hb og 
    go_wp2_with fail
    refine (specGroundsWithRepeats_any _ _ _ m _ _ gs _ _ ps w9 (HSM.out.at_ (Reads.of_own K4.o2 K4.o2.lt)) (Reads.of_own K4.o1 K4.o1.lt) (Reads.of_own K4.o0 K4.o0.lt) HGS.out (by omega) (by omega)).mono ?_
    rintro e w11 ⟨v5, rfl, hown5, hb⟩
    obtain ⟨a5, c5, rfl, -, hr5, -⟩ := OwR.val hown5
    have K5 := ((K4.below hb).tailO.tailO.tailO).addR hr5 (Nat.le_refl _)
    clear K4 hb hr5 hown5
    have nn0 := K5.o0.lt
    have f0 : w11.cell? ⟨w.heap.size, 0, none⟩ = some (.slice am m.wheels.rotors.length cm) := (K5.o0).at_ (i := 0) rfl
    have f1 : w11.cell? ⟨w.heap.size, 1, none⟩ = some (.string m.wheels.refl) := (K5.o0).at_ (i := 1) rfl
    have f2 : w11.cell? ⟨w.heap.size, 2, none⟩ = some (.string m.rings) := (K5.o0).at_ (i := 2) rfl
    have f3 : w11.cell? ⟨w.heap.size, 3, none⟩ = some (.string m.plugs) := (K5.o0).at_ (i := 3) rfl
    go_wp2_with fail
    refine (toMachine_any am cm m w11 (K5.r1) HSM.out).mono ?_
    rintro e w12 ⟨g13, hg13, rfl, og, hb⟩
    have K6 := (K5.below hb).addO og
    clear K5 hb og f0 f1 f2 f3
    have ng13 := K6.o0.lt
    go_wp2_with fail
    have nw := Own.new w12 [.slice (some ⟨g13, 0, none⟩) m.wheels.rotors.length m.wheels.rotors.length, .string m.wheels.refl, .string m.rings, .string m.plugs] 27
    have bw := (Below.refl w12.heap.size w12).alloc (Nat.le_refl _) (.cells [.slice (some ⟨g13, 0, none⟩) m.wheels.rotors.length m.wheels.rotors.length, .string m.wheels.refl, .string m.rings, .string m.plugs].toArray 27)
    have sw : (w12.alloc (.cells [.slice (some ⟨g13, 0, none⟩) m.wheels.rotors.length m.wheels.rotors.length, .string m.wheels.refl, .string m.rings, .string m.plugs].toArray 27)).heap.size = w12.heap.size + 1 := by simp
    generalize (w12.alloc (.cells [.slice (some ⟨g13, 0, none⟩) m.wheels.rotors.length m.wheels.rotors.length, .string m.wheels.refl, .string m.rings, .string m.plugs].toArray 27)) = w14 at *
    have K7 := (K6.below bw).addO nw
    clear K6 bw nw
    generalize hBX : w12.heap.size = BX at *
    have nBX := K7.o0.lt
    go_wp2_with fail
    refine (toStringS_any ags cgs gs w14 (K7.r2) kgs).mono ?_
    rintro e w15 ⟨g16, hg16, rfl, og, hb⟩
    have K8 := (K7.below hb).addO og
    clear K7 hb og 
    have ng16 := K8.o0.lt
    go_wp2_with fail
    refine (toIntS_any aps cps ps w15 (K8.r3) kps).mono ?_
    rintro e w17 ⟨g18, hg18, rfl, og, hb⟩
    have K9 := (K8.below hb).addO og
    clear K8 hb og 
    have ng18 := K9.o0.lt
    have k0 : w17.cell? ⟨BX, 0, none⟩ = some (.slice (some ⟨g13, 0, none⟩) m.wheels.rotors.length m.wheels.rotors.length) := (K9.o2).at_ (i := 0) rfl
    have k1 : w17.cell? ⟨BX, 1, none⟩ = some (.string m.wheels.refl) := (K9.o2).at_ (i := 1) rfl
    have k2 : w17.cell? ⟨BX, 2, none⟩ = some (.string m.rings) := (K9.o2).at_ (i := 2) rfl
    have k3 : w17.cell? ⟨BX, 3, none⟩ = some (.string m.plugs) := (K9.o2).at_ (i := 3) rfl
    go_wp2_with fail
    refine (implGroundsWithRepeats_any _ _ _ m _ _ gs _ _ ps w17 (HSM.out.at_ (Reads.of_own K9.o3 K9.o3.lt)) (Reads.of_own K9.o1 K9.o1.lt) (Reads.of_own K9.o0 K9.o0.lt) HGS.out (by omega) (by omega)).mono ?_
    rintro e w19 ⟨v6, rfl, hown, hb⟩
    obtain ⟨a6, c6, rfl, -, hr6, -⟩ := OwR.val hown
    have K10 := K9.below hb
    clear K9 hb k0 k1 k2 k3
    generalize hss : keepG m gs ps = ss at *
    have HSS := Lib.hid hss
    clear hss
    go_wp2_with fail
    refine (eqStringS_any a6 a5 c6 c5 ss ss w19 hr6 K10.r0 (by omega)).mono ?_
    rintro e w20 ⟨rfl, n21, rfl⟩
    simp only [decide_true]
    generalize hw : w19.drewN n21 = w22
    have hb : Below w19.heap.size w19 w22 := hw ▸ drewN_below n21
    clear hw
    have hown1 := OwR.below hown hb (Nat.le_refl _)
    have K11 := K10.below hb
    clear K10 hb hr6 hown
    have f0 : w22.cell? ⟨w.heap.size, 0, none⟩ = some (.slice am m.wheels.rotors.length cm) := (K11.o4).at_ (i := 0) rfl
    have f1 : w22.cell? ⟨w.heap.size, 1, none⟩ = some (.string m.wheels.refl) := (K11.o4).at_ (i := 1) rfl
    have f2 : w22.cell? ⟨w.heap.size, 2, none⟩ = some (.string m.rings) := (K11.o4).at_ (i := 2) rfl
    have f3 : w22.cell? ⟨w.heap.size, 3, none⟩ = some (.string m.plugs) := (K11.o4).at_ (i := 3) rfl
    have k0 : w22.cell? ⟨BX, 0, none⟩ = some (.slice (some ⟨g13, 0, none⟩) m.wheels.rotors.length m.wheels.rotors.length) := (K11.o2).at_ (i := 0) rfl
    have k1 : w22.cell? ⟨BX, 1, none⟩ = some (.string m.wheels.refl) := (K11.o2).at_ (i := 1) rfl
    have k2 : w22.cell? ⟨BX, 2, none⟩ = some (.string m.rings) := (K11.o2).at_ (i := 2) rfl
    have k3 : w22.cell? ⟨BX, 3, none⟩ = some (.string m.plugs) := (K11.o2).at_ (i := 3) rfl
    have lt0 := (K11.o4).lt
    have lt5 := (K11.o2).lt
    go_wp2_with fail
    have hRd : Reads w22.drew w22.drew.heap.size am (rvs m.wheels.rotors) := K11.r1
    have hRy : Reads w22.drew w22.drew.heap.size (some ⟨g13, 0, none⟩) (rvs m.wheels.rotors) := Reads.of_own (K11.o3).drew (K11.o3).lt
    go_region_held3 (fun w' => w'.cell? ⟨w.heap.size, 0, none⟩ = some (Value.slice am m.wheels.rotors.length cm) ∧ w'.cell? ⟨w.heap.size, 1, none⟩ = some (Value.string m.wheels.refl) ∧ w'.cell? ⟨w.heap.size, 2, none⟩ = some (Value.string m.rings) ∧ w'.cell? ⟨w.heap.size, 3, none⟩ = some (Value.string m.plugs) ∧ w'.cell? ⟨BX, 0, none⟩ = some (Value.slice (some ⟨g13, 0, none⟩) m.wheels.rotors.length m.wheels.rotors.length) ∧ w'.cell? ⟨BX, 1, none⟩ = some (Value.string m.wheels.refl) ∧ w'.cell? ⟨BX, 2, none⟩ = some (Value.string m.rings) ∧ w'.cell? ⟨BX, 3, none⟩ = some (Value.string m.plugs))
      (first | go_keep | exact keep8 f0 f1 f2 f3 k0 k1 k2 k3 lt0 lt5 (bt hb8 hb9) | exact keep8 f0 f1 f2 f3 k0 k1 k2 k3 lt0 lt5 hb8)
      (first | (go_at_call 15; refine (toMachine_any am cm m _ hRd HSM.out).mono ?_; rintro e w8 ⟨g8, hg8, rfl, og8, hb8⟩) | (go_at_call 20; refine (eqMachine_any (some ⟨g13, 0, none⟩) (some ⟨g8, 0, none⟩) _ _ m _ ((hRy.below hb8 (Nat.le_refl _)).more hb8.size) (Reads.of_own og8 og8.lt) HSM.out.whl.few).mono ?_; rintro e w9 ⟨rfl, hb9⟩))
    have hb : Below w22.heap.size w22 w9 := bt (a := w22) (b := w8) ⟨hb8.os, hb8.tape, hb8.output, hb8.size, hb8.block⟩ hb9
    have hown1' := OwR.below hown1 hb (Nat.le_refl _)
    have K12 := K11.below hb
    clear K11 hb hb8 hb9 f0 f1 f2 f3 k0 k1 k2 k3 lt0 lt5 hRd hRy og8 hg8 hown1
    go_wp2_with fail
    refine (toStringS_any ags cgs gs w9 (K12.r2) kgs).mono ?_
    rintro e w23 ⟨g24, hg24, rfl, og, hb⟩
    have hown1'' := OwR.below hown1' hb (Nat.le_refl _)
    clear hown1'
    have K13 := (K12.below hb).addO og
    clear K12 hb og 
    go_wp2_with fail
    refine (eqStringS_any (some ⟨g16, 0, none⟩) (some ⟨g24, 0, none⟩) gs.length gs.length gs gs w23 (Reads.of_own K13.o2 K13.o2.lt) (Reads.of_own K13.o0 K13.o0.lt) kgs).mono ?_
    rintro e w25 ⟨rfl, n26, rfl⟩
    simp only [decide_true]
    generalize hw : w23.drewN n26 = w27
    have hb : Below w23.heap.size w23 w27 := hw ▸ drewN_below n26
    clear hw
    have hown1''' := OwR.below hown1'' hb (Nat.le_refl _)
    clear hown1''
    have K14 := (K13.below hb).tailO
    clear K13 hb
    go_wp2_with fail
    refine (toIntS_any aps cps ps w27 (K14.r3) kps).mono ?_
    rintro e w28 ⟨g29, hg29, rfl, og, hb⟩
    have hown1'''' := OwR.below hown1''' hb (Nat.le_refl _)
    clear hown1'''
    have K15 := (K14.below hb).addO og
    clear K14 hb og 
    go_wp2_with fail
    refine (eqIntS_same (some ⟨g18, 0, none⟩) (some ⟨g29, 0, none⟩) ps.length ps.length ps w28 (Reads.of_own K15.o1 K15.o1.lt) (Reads.of_own K15.o0 K15.o0.lt) kps).mono ?_
    rintro e w30 ⟨rfl, n31, rfl⟩
    generalize hw : w28.drewN n31 = w32
    have hb : Below w28.heap.size w28 w32 := hw ▸ drewN_below n31
    clear hw
    have hown1''''' := OwR.below hown1'''' hb (Nat.le_refl _)
    clear hown1''''
    have K16 := (K15.below hb).tailO
    clear K15 hb
    have base0 : OwR w32 _ 9 1 (.slice a6 ss.length c6) ss.length (sv ss) := hown1'''''
    clear hown1'''''
    have k0 : w32.cell? ⟨BX, 0, none⟩ = some (.slice (some ⟨g13, 0, none⟩) m.wheels.rotors.length m.wheels.rotors.length) := (K16.o2).at_ (i := 0) rfl
    have k1 : w32.cell? ⟨BX, 1, none⟩ = some (.string m.wheels.refl) := (K16.o2).at_ (i := 1) rfl
    have k2 : w32.cell? ⟨BX, 2, none⟩ = some (.string m.rings) := (K16.o2).at_ (i := 2) rfl
    have k3 : w32.cell? ⟨BX, 3, none⟩ = some (.string m.plugs) := (K16.o2).at_ (i := 3) rfl
    go_wp2_with fail
    refine (markMachine_to g13 _ m 1 w32 (K16.o3) HSM.out.whl.few (by omega) (by omega)).mono ?_
    rintro e w33 ⟨rfl, gr⟩
    have R34_b : 1 + 2 * m.wheels.rotors.length ≤ 3145731 := by have := HSM.out.whl.few; omega
    have R34_c : 1 ≤ 1 + 2 * m.wheels.rotors.length := by omega
    generalize 1 + 2 * m.wheels.rotors.length = R34 at *
    have base1 := base0.moved gr (by omega)
    have K17 := (K16.subO (ows' := [(g18, iv ps), (g16, sv gs), (w.heap.size, [.slice am m.wheels.rotors.length cm, .string m.wheels.refl, .string m.rings, .string m.plugs])]) (by simp)).grown gr (by omega) (by simp; omega) (by simp; omega)
    clear K16 gr base0 k0 k1 k2 k3
    go_wp2_with fail
    refine (markStringS_own g16 _ R34 gs.length _ w33 (K17.o1) (length_sv _) kgs (by omega) (by omega)).mono ?_
    rintro e w35 ⟨rfl, gr⟩
    have R36_b : R34 + gs.length ≤ 6291461 := by omega
    have R36_c : 1 ≤ R34 + gs.length := by omega
    generalize R34 + gs.length = R36 at *
    have base2 := base1.moved gr (by omega)
    have K18 := (K17.subO (ows' := [(g18, iv ps), (w.heap.size, [.slice am m.wheels.rotors.length cm, .string m.wheels.refl, .string m.rings, .string m.plugs])]) (by simp)).grown gr (by omega) (by simp; omega) (by simp; omega)
    clear K17 gr base1 
    go_wp2_with fail
    refine (markIntS_to g18 _ R36 ps.length _ w35 (K18.o0) (length_iv _) kps (by omega) (by omega)).mono ?_
    rintro e w37 ⟨rfl, gr⟩
    have R38_b : R36 + ps.length ≤ 9437191 := by omega
    have R38_c : 1 ≤ R36 + ps.length := by omega
    generalize R36 + ps.length = R38 at *
    have base3 := base2.moved gr (by omega)
    have K19 := (K18.subO (ows' := [(w.heap.size, [.slice am m.wheels.rotors.length cm, .string m.wheels.refl, .string m.rings, .string m.plugs])]) (by simp)).grown gr (by omega) (by simp; omega) (by simp; omega)
    clear K18 gr base2 
    have tr : decide (((R38 : Nat) : Int) < 0) = false := by simp
    obtain ⟨a7, c7, he, -, hr6, -⟩ := OwR.val base3
    injection he with ea _ ec
    subst ea
    clear ec
    go_wp2_with fail
    refine (eqStringS_any a6 a5 c6 c5 ss ss w37 hr6 K19.r0 (by omega)).mono ?_
    rintro e w39 ⟨rfl, n40, rfl⟩
    simp only [decide_true]
    generalize hw : w37.drewN n40 = w41
    have hb : Below w37.heap.size w37 w41 := hw ▸ drewN_below n40
    clear hw
    have base4 := OwR.below base3 hb (Nat.le_refl _)
    have K20 := K19.below hb
    clear K19 hb hr6 base3
    go_wp2_with fail
    refine (markStringS_any _ ss _ 1 w41 base4 (by omega) (by omega) (by omega)).mono ?_
    rintro e w42 ⟨rfl, hown12, hb⟩
    obtain ⟨a7, c7, he, -, hr8, -⟩ := OwR.val hown12
    injection he with ea _ ec
    subst ea
    clear ec
    have KM : Kept w w42 [(w.heap.size, [.slice am m.wheels.rotors.length cm, .string m.wheels.refl, .string m.rings, .string m.plugs])] [(w11.heap.size, a5, sv ss), (w.heap.size, am, rvs m.wheels.rotors), (w.heap.size, ags, sv gs), (w.heap.size, aps, iv ps)] := K20.low hb (by simp; omega) (by simp; omega) (by omega)
    have K21 := KM.addR hr8 (Nat.le_refl _)
    clear K20 KM hb hr8 hown12 base4
    generalize hMN : (1 + ss.length : Nat) = MN
    have hMNb : MN ≤ 13 := by omega
    have HMN := Lib.hid hMN
    clear hMN
    have hh := heldStringS_any a6 c6 1 ss.length w42 K21.r0 (by omega) (by omega) (by omega)
    rw [HMN.out] at hh
    go_wp2_with fail
    refine hh.mono ?_
    rintro e w43 ⟨rfl, hb⟩
    have K22 := K21.below hb
    clear K21 hb hh
    have f0 : w43.cell? ⟨w.heap.size, 0, none⟩ = some (.slice am m.wheels.rotors.length cm) := (K22.o0).at_ (i := 0) rfl
    have f1 : w43.cell? ⟨w.heap.size, 1, none⟩ = some (.string m.wheels.refl) := (K22.o0).at_ (i := 1) rfl
    have f2 : w43.cell? ⟨w.heap.size, 2, none⟩ = some (.string m.rings) := (K22.o0).at_ (i := 2) rfl
    have f3 : w43.cell? ⟨w.heap.size, 3, none⟩ = some (.string m.plugs) := (K22.o0).at_ (i := 3) rfl
    go_wp2_with fail
    refine (toMachine_any am cm m w43 (K22.r2) HSM.out).mono ?_
    rintro e w44 ⟨g45, hg45, rfl, og, hb⟩
    have K23 := (K22.below hb).addO og
    clear K22 hb og f0 f1 f2 f3
    go_wp2_with fail
    refine (toStringS_any ags cgs gs w44 (K23.r3) kgs).mono ?_
    rintro e w46 ⟨g47, hg47, rfl, og, hb⟩
    have K24 := (K23.below hb).addO og
    clear K23 hb og 
    go_wp2_with fail
    refine (toIntS_any aps cps ps w46 (K24.r4) kps).mono ?_
    rintro e w48 ⟨g49, hg49, rfl, og, hb⟩
    have K25 := (K24.below hb).addO og
    clear K24 hb og 
    go_wp2_with fail
    refine (implGroundsWithRepeats_any _ _ _ m _ _ gs _ _ ps w48 (HSM.out.at_ (Reads.of_own K25.o2 K25.o2.lt)) (Reads.of_own K25.o1 K25.o1.lt) (Reads.of_own K25.o0 K25.o0.lt) HGS.out (by omega) (by omega)).mono ?_
    rintro e w50 ⟨v12, rfl, hown15, hb⟩
    rw [HSS.out] at hown15
    obtain ⟨a12, c12, rfl, -, hr6, -⟩ := OwR.val hown15
    have K26 := K25.below hb
    clear K25 hb hown15
    go_wp2_with fail
    refine (eqStringS_any a12 a5 c12 c5 ss ss w50 hr6 K26.r1 (by omega)).mono ?_
    rintro e w51 ⟨rfl, n52, rfl⟩
    simp only [decide_true]
    generalize hw : w50.drewN n52 = w53
    have hb : Below w50.heap.size w50 w53 := hw ▸ drewN_below n52
    clear hw
    have K27 := K26.below hb
    clear K26 hb hr6
    have hh := heldStringS_any a6 c6 1 ss.length w53 K27.r0 (by omega) (by omega) (by omega)
    rw [HMN.out] at hh
    go_wp2_with fail
    refine hh.mono ?_
    rintro e w54 ⟨rfl, hb⟩
    have K28 := K27.below hb
    clear K27 hb hh
    go_wp2
    go_ret
    exact ⟨rfl, K28.bel⟩
end Go.Proofs.Ytbeohccbflhdiaa
