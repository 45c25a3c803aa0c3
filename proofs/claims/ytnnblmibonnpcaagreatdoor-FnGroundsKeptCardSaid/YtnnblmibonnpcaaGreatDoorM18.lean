/- Several of my texts in one: ExW, ExV, ExU, ExT, ExM, ExI. -/
import Derived.Test.YtnnblmibonnpcaaGreatDoorM4
import Derived.Test.YtnnblmibonnpcaaGreatDoorM8
import Derived.Test.YtnnblmibonnpcaaGreatDoorM1
/- Contracts of the laws' own functions on rotors and wheels, and of the marks. -/
namespace Go.Proofs.YtnnblmibonnpcaaGreatDoor
open Go.RowKit

/-- The digits of a number. -/
def mkD (k : Nat) : List UInt8 := if _h : k = 0 then [] else mkD (k / 10) ++ [UInt8.ofNat (48 + k % 10)]
termination_by k
decreasing_by omega
/-- A mark. -/
def mkT (k : Nat) : ByteArray := S (109 :: mkD k)
theorem mkD_pos {k : Nat} (h : 0 < k) : mkD k = mkD (k / 10) ++ [UInt8.ofNat (48 + k % 10)] := by rw [mkD, dif_neg (by omega)]
theorem mkD_zero : mkD 0 = [] := by rw [mkD, dif_pos rfl]
theorem markText_any (k : Nat) (w : World) (h1 : 1 ≤ k) (hk : k ≤ 100000000) :
    Calls Tryz.prog 51 #[.int .i64 (k : Int)] w fun e w' => e = .returned (.string (mkT k)) ∧ Below w.heap.size w w' := by
  have t0 : decide (k = 0) = false := by simp; omega
  go_enter Tryz.func51, Tryz.ntmps51
  go_wp2
  go_loopw [0, 3] (fun i o wr => ∃ (j : Nat) (t : List UInt8), i = .int .i64 j ∧ o = .string (S t) ∧ t.length + j ≤ k ∧ mkD j ++ t = mkD k ∧ Below w.heap.size w wr) (fun i _ _ => (intOf i).toNat)
  case atStart => exact ⟨k, [], rfl, rfl, by simp, by simp, Below.refl _ _⟩
  case round =>
    obtain ⟨j, t, rfl, rfl, hl, he, hb⟩ := hrel
    have hsz : (S t).size ≤ 100000000 := by rw [size_S]; omega
    have HE := Lib.hid he
    clear he
    by_cases hlt : 0 < j
    · have HP := Lib.hid (mkD_pos hlt)
      have hc := run_conv_new (P := Tryz.prog) wr 22 9 5 Tryz.underlying22 Tryz.underlying5 Tryz.underlying9 [48 + (j : Int) % 10]
      simp only [List.map_cons, List.map_nil, List.length_cons, List.length_nil, Nat.zero_add] at hc
      rw [show (48 + (j : Int) % 10).toNat = 48 + j % 10 by omega] at hc
      generalize UInt8.ofNat (48 + j % 10) = d at hc HP
      have hs1 : (S [d]).size ≤ 1 := by rw [size_S]; simp
      go_wp2
      go_roundw
      case rel =>
        refine ⟨j / 10, d :: t, by go_num, ?_, ?_, ?_, hb.alloc hb.size _⟩
        · rw [S_append]; rfl
        · simp; omega
        · rw [← HE.out, HP.out]; simp
      case measure => simp [intOf]; omega
    · go_wp2
      go_ret
      refine ⟨ret_str ?_, hb⟩
      have h0 := HE.out
      rw [show j = 0 by omega, mkD_zero, List.nil_append] at h0
      unfold mkT
      rw [← h0]
      exact S_append [109] t

/-- The marks from k on. -/
def mks (k n : Nat) : List ByteArray := (List.range n).map fun i => mkT (k + i)
theorem len_mks (k n : Nat) : (mks k n).length = n := by simp [mks]
theorem mks_at {k n i : Nat} (h : i < n) : (mks k n)[i]'(by rw [len_mks]; exact h) = mkT (k + i) := by simp [mks]
/-- The strings of a slice, those before j marked. -/
theorem mks_set {ss : List ByteArray} {k j : Nat} (h : j < ss.length) : (sv ((mks k ss.length).take j ++ ss.drop j)).set j (.string (mkT (k + j))) = sv ((mks k ss.length).take (j + 1) ++ ss.drop (j + 1)) := by
  have := fill_set (A := mks k ss.length) (R := ss) (k := j) (by rw [len_mks]; exact h) (by rw [len_mks])
  rw [mks_at h] at this
  rw [← this]
  simp [sv, List.map_set]
theorem markStringS_any (v : Value) (ss : List ByteArray) (base k : Nat) (w : World) (h : OwR w base 9 1 v ss.length (sv ss)) (hl : ss.length ≤ 1048576) (h1 : 1 ≤ k) (hk : k ≤ 10000000) :
    Calls Tryz.prog 24 #[v, .int .i64 (k : Int)] w fun e w' => e = .returned (.int .i64 ((k + ss.length : Nat) : Int)) ∧ OwR w' base 9 1 v ss.length (sv (mks k ss.length)) ∧ Below base w w' := by
  obtain ⟨a, c, rfl, hc, -, -⟩ := OwR.val h
  go_enter Tryz.func24, Tryz.ntmps24
  go_wp2
  go_loopw [1, 5] (fun m i wr => ∃ j : Nat, j ≤ ss.length ∧ i = .int .i64 j ∧ m = .int .i64 ((k + j : Nat) : Int) ∧ OwR wr base 9 1 (.slice a ss.length c) ss.length (sv ((mks k ss.length).take j ++ ss.drop j)) ∧ Below base w wr) (fun _ i _ => ss.length - (intOf i).toNat)
  case atStart => exact ⟨0, Nat.zero_le _, rfl, rfl, by simpa using h, Below.refl _ _⟩
  case round =>
    clear h
    obtain ⟨j, hj, rfl, rfl, hown, hb⟩ := hrel
    by_cases hlt : j < ss.length
    · obtain ⟨a', c', he, _, _, hg⟩ := OwR.val hown
      injection he with e1 e2 e3
      subst e1
      subst e3
      rcases hg with h0 | ⟨g, rfl, hg, ho⟩
      · omega
      · have HS := Lib.hid (mks_set (k := k) hlt)
        have hln := Lib.hid (show (sv ((mks k ss.length).take j ++ ss.drop j)).length = ss.length by rw [length_sv, fill_len (by rw [len_mks]) (by rw [len_mks]; omega), len_mks])
        have hlt0 := ho.lt
        go_wp2_with fail
        refine (markText_any (k + j) _ (by omega) (by omega)).mono ?_
        rintro e w1 ⟨rfl, hb1⟩
        have o1 := ho.below hb1 ho.lt
        have hown1 := OwR.below hown hb1 (Nat.le_refl _)
        obtain ⟨y, f1⟩ := o1.some_ (i := j) (by rw [hln.out]; exact hlt)
        have f2 := o1.free j (by rw [hln.out]; exact hlt)
        have q1 : (j : Int) < (ss.length : Int) := by omega
        go_wp2
        go_roundw
        case rel =>
          refine ⟨j + 1, by omega, by go_num, by go_num, ?_, (hb.trans (hb1.mono (by omega))).setCell (by simp; omega) _⟩
          have := World.ownsRow.stored hown1 j (.string (mkT (k + j)))
          rw [HS.out] at this
          exact this.1
        case measure => simp [intOf]; omega
    · have hj' : j = ss.length := by omega
      subst hj'
      go_wp2
      go_ret
      refine ⟨ret_int (by omega), ?_, hb⟩
      rw [List.take_of_length_le (by rw [len_mks]; omega), List.drop_eq_nil_of_le (by omega), List.append_nil] at hown
      exact hown

theorem heldStringS_any (a : Option Addr) (c k n : Nat) (w : World) (h : Reads w w.heap.size a (sv (mks k n))) (hl : n ≤ 1048576) (h1 : 1 ≤ k) (hk : k ≤ 10000000) :
    Calls Tryz.prog 25 #[.slice a n c, .int .i64 (k : Int)] w fun e w' => e = .returned (.int .i64 ((k + n : Nat) : Int)) ∧ Below w.heap.size w w' := by
  have HR := Lib.hid h
  clear h
  go_enter Tryz.func25, Tryz.ntmps25
  go_wp2
  go_loopw [1, 5] (fun m i wr => ∃ j : Nat, j ≤ n ∧ i = .int .i64 j ∧ m = .int .i64 ((k + j : Nat) : Int) ∧ Below w.heap.size w wr) (fun _ i _ => n - (intOf i).toNat)
  case atStart => exact ⟨0, Nat.zero_le _, rfl, rfl, Below.refl _ _⟩
  case round =>
    obtain ⟨j, hj, rfl, rfl, hb⟩ := hrel
    by_cases hlt : j < n
    · obtain ⟨b, off, rfl, hbl, hc⟩ := HR.out.open_ (by rw [length_sv, len_mks]; omega)
      have d1 := hc j (by rw [length_sv, len_mks]; exact hlt)
      rw [sv_at (by rw [len_mks]; exact hlt), mks_at hlt] at d1
      have hz := hb.size
      have d2 := (hb.cell (p := ⟨b, off + j, none⟩) hbl).trans d1
      have q1 : (j : Int) < (n : Int) := by omega
      have q4 : b < wr.heap.size := by omega
      clear hc d1
      have hmt := fun W => markText_any (k + j) W (by omega) (by omega)
      have hqb : k + j ≤ 20000000 := by omega
      generalize hq : k + j = q at *
      have HQ := Lib.hid hq
      clear hq
      generalize mkT q = t at *
      have d3 := fun (cc : Cls wr.heap.size wr) => (cc.cell b (off + j) q4).trans d2
      go_wp2_with fail
      refine wp_region_cls (by kernel_rfl) (by kernel_rfl) ?_
      repeat (go_big_quiet_step (first | (go_at_call 51; with_reducible exact cls_of (Nat.le_refl _) (hmt _))))
      refine wpQuiet_nil ?_
      intro wc hbc
      go_wp2
      go_roundw
      case rel => exact ⟨j + 1, by omega, by go_num, by have := HQ.out; congr 1; omega, bt hb hbc⟩
      case measure => simp [intOf]; omega
    · have hj' : j = n := by omega
      subst hj'
      go_wp2
      go_ret
      exact ⟨ret_int (by omega), hb⟩

/-- A number; only block g has turned, and there is new memory. -/
def MarkTo (g r : Nat) (w : World) (e : Ending) (w' : World) : Prop := e = .returned (.int .i64 (r : Int)) ∧ w.grownBy w' (some g)
/-- A number from 0 on; only block g has turned, and there is new memory. -/
def MarkPost (g : Nat) (w : World) (e : Ending) (w' : World) : Prop := ∃ r : Nat, e = .returned (.int .i64 (r : Int)) ∧ w.grownBy w' (some g)
theorem markRotorS_to (g n c k : Nat) (cs : List Value) (w : World) (h : Own w g cs) (hcs : cs.length = 2 * n) (hl : n ≤ 1048576) (h1 : 1 ≤ k) (hk : k ≤ 10000000) :
    Calls Tryz.prog 82 #[.slice (some ⟨g, 0, none⟩) n c, .int .i64 (k : Int)] w (MarkTo g (k + 2 * n) w) := by
  have HC := Lib.hid hcs
  clear hcs
  go_enter Tryz.func82, Tryz.ntmps82
  go_wp2
  go_loopw [1, 5] (fun m i wr => ∃ (j : Nat) (cs : List Value), j ≤ n ∧ cs.length = 2 * n ∧ i = .int .i64 j ∧ m = .int .i64 ((k + 2 * j : Nat) : Int) ∧ Own wr g cs ∧ w.grownBy wr (some g)) (fun _ i _ => n - (intOf i).toNat)
  case atStart => exact ⟨0, cs, Nat.zero_le _, HC.out, rfl, rfl, h, World.grownBy.refl w _⟩
  case round =>
    clear h HC
    obtain ⟨j, cs, hj, hcs, rfl, rfl, ho, hb⟩ := hrel
    have HC := Lib.hid hcs
    clear hcs
    by_cases hlt : j < n
    · have hlt0 := ho.lt
      have q1 : (j : Int) < (n : Int) := by omega
      go_wp2_with fail
      refine (markText_any (k + 2 * j) _ (by omega) (by omega)).mono ?_
      rintro e w1 ⟨rfl, hb1⟩
      have o1 := ho.below hb1 ho.lt
      obtain ⟨y1, f1⟩ := o1.some_ (i := j * 2) (by rw [HC.out]; omega)
      have f2 := o1.free (j * 2) (by rw [HC.out]; omega)
      have o2 := o1.set_ (i := j * 2) (by rw [HC.out]; omega) (.string (mkT (k + 2 * j)))
      have g1 : w.grownBy (w1.setCell ⟨g, j * 2, none⟩ (.string (mkT (k + 2 * j)))) (some g) :=
        grown_trans hb (grown_trans ⟨hb1.os, hb1.tape, hb1.output, hb1.size, fun i hi _ => hb1.block i hi⟩ (grown_setCell w1 g (j * 2) _))
      clear o1 hb1 hb ho
      go_wp2_with fail
      clear f1 f2
      generalize w1.setCell ⟨g, j * 2, none⟩ (.string (mkT (k + 2 * j))) = w2 at *
      have hmt := fun W => markText_any (k + 2 * j + 1) W (by omega) (by omega)
      rw [show ((k + 2 * j + 1 : Nat) : Int) = (k : Int) + 2 * (j : Int) + 1 by omega] at hmt
      refine (hmt _).mono ?_
      rintro e w3 ⟨rfl, hb3⟩
      have o3 := o2.below hb3 o2.lt
      obtain ⟨y3, f3⟩ := o3.some_ (i := j * 2 + 1) (by rw [List.length_set, HC.out]; omega)
      have f4 := o3.free (j * 2 + 1) (by rw [List.length_set, HC.out]; omega)
      have o4 := o3.set_ (i := j * 2 + 1) (by rw [List.length_set, HC.out]; omega) (.string (mkT (k + 2 * j + 1)))
      have g4 : w.grownBy (w3.setCell ⟨g, j * 2 + 1, none⟩ (.string (mkT (k + 2 * j + 1)))) (some g) :=
        grown_trans g1 (grown_trans ⟨hb3.os, hb3.tape, hb3.output, hb3.size, fun i hi _ => hb3.block i hi⟩ (grown_setCell w3 g (j * 2 + 1) _))
      clear o3 hb3 g1 o2 hmt
      go_wp2
      go_roundw
      case rel => exact ⟨j + 1, _, by omega, by rw [List.length_set, List.length_set, HC.out], by go_num, by go_num, o4, g4⟩
      case measure => simp [intOf]; omega
    · go_wp2
      go_ret
      exact ⟨ret_int (by omega), hb⟩
theorem markRotorS_any (g n c k : Nat) (cs : List Value) (w : World) (h : Own w g cs) (hcs : cs.length = 2 * n) (hl : n ≤ 1048576) (h1 : 1 ≤ k) (hk : k ≤ 10000000) :
    Calls Tryz.prog 82 #[.slice (some ⟨g, 0, none⟩) n c, .int .i64 (k : Int)] w (MarkPost g w) :=
  (markRotorS_to g n c k cs w h hcs hl h1 hk).mono fun _ _ h => ⟨_, h.1, h.2⟩
end Go.Proofs.YtnnblmibonnpcaaGreatDoor

/- Contracts of the laws' own functions on rotors and wheels: sizes, copies, comparison. -/
namespace Go.Proofs.YtnnblmibonnpcaaGreatDoor
open Go.RowKit

def SzOne (r : Rot) (left : Int) (w : World) (e : Ending) (w' : World) : Prop :=
  ∃ q : Int, e = .returned (.int .i64 q) ∧ Below w.heap.size w w' ∧ (q = -1 ∨ (0 ≤ q ∧ q ≤ left ∧ (r.wiring.size : Int) ≤ left ∧ (r.notches.size : Int) ≤ left))
theorem szRotor_any (r : Rot) (left : Int) (w : World) (z1 : r.wiring.size ≤ 9223372036854775807) (z2 : r.notches.size ≤ 9223372036854775807) (h0 : 0 ≤ left) (h1 : left ≤ 1048576) :
    Calls Tryz.prog 108 #[.agg #[.string r.wiring, .string r.notches], .int .i64 left] w (SzOne r left w) := by
  have hb := (Below.refl w.heap.size w).alloc (Nat.le_refl _) (.cells [.string r.wiring, .string r.notches].toArray 128)
  by_cases hs : left < r.wiring.size
  · go_enter Tryz.func108, Tryz.ntmps108
    go_wp2
    go_ret
    exact ⟨-1, rfl, hb, .inl rfl⟩
  · by_cases hs2 : left - r.wiring.size < r.notches.size
    · go_enter Tryz.func108, Tryz.ntmps108
      go_wp2
      go_ret
      exact ⟨-1, rfl, hb, .inl rfl⟩
    · go_enter Tryz.func108, Tryz.ntmps108
      go_wp2
      go_ret
      exact ⟨left - r.wiring.size - r.notches.size, rfl, hb, .inr ⟨by omega, by omega, by omega, by omega⟩⟩

/-- The strings of some rotors are small. -/
def SmR (rs : List Rot) (left : Int) : Prop := ∀ r ∈ rs, (r.wiring.size : Int) ≤ left ∧ (r.notches.size : Int) ≤ left
def smTo (rs : List Rot) (left : Int) (k : Nat) : Prop := ∀ j (h : j < rs.length), j < k → (rs[j].wiring.size : Int) ≤ left ∧ (rs[j].notches.size : Int) ≤ left
def BigR (rs : List Rot) : Prop := (∀ r ∈ rs, r.wiring.size ≤ 9223372036854775807 ∧ r.notches.size ≤ 9223372036854775807) ∧ rs.length ≤ 9223372036854775807
def SzRs (rs : List Rot) (left : Int) (w : World) (e : Ending) (w' : World) : Prop :=
  ∃ q : Int, e = .returned (.int .i64 q) ∧ Below w.heap.size w w' ∧ (q = -1 ∨ (0 ≤ q ∧ q ≤ left ∧ (rs.length : Int) ≤ left ∧ SmR rs left))
theorem szRotorS_any (a : Option Addr) (c : Nat) (rs : List Rot) (left : Int) (w : World) (h : Reads w w.heap.size a (rvs rs)) (hz : BigR rs) (h0 : 0 ≤ left) (h1 : left ≤ 1048576) :
    Calls Tryz.prog 78 #[.slice a rs.length c, .int .i64 left] w (SzRs rs left w) := by
  have hl := hz.2
  have Z := Lib.hid hz.1
  clear hz
  by_cases hn : left < rs.length
  · go_enter Tryz.func78, Tryz.ntmps78
    go_wp2
    go_ret
    exact ⟨-1, rfl, Below.refl _ _, .inl rfl⟩
  · have HR := Lib.hid h
    clear h
    go_enter Tryz.func78, Tryz.ntmps78
    go_wp2
    go_loopw [1, 5] (fun l i wr => ∃ (k : Nat) (q : Int), k ≤ rs.length ∧ i = .int .i64 k ∧ l = .int .i64 q ∧ 0 ≤ q ∧ q ≤ left ∧ smTo rs left k ∧ Below w.heap.size w wr) (fun _ i _ => rs.length - (intOf i).toNat)
    case atStart => exact ⟨0, left - rs.length, Nat.zero_le _, rfl, rfl, by omega, by omega, fun _ _ h => absurd h (by omega), Below.refl _ _⟩
    case round =>
      obtain ⟨k, q, hk, rfl, rfl, hq0, hq1, ha, hb⟩ := hrel
      by_cases hlt : k < rs.length
      · obtain ⟨b, off, rfl, hbl, hc⟩ := HR.out.cells (by rw [len_rvs]; omega)
        obtain ⟨f0, f1⟩ := rot_cells (hc.below hb hbl) hlt
        have z1 := (Z.out _ (List.getElem_mem hlt)).1
        have z2 := (Z.out _ (List.getElem_mem hlt)).2
        have q1 : (k : Int) < (rs.length : Int) := by omega
        have HA := Lib.hid ha
        clear hc ha
        go_wp2_with fail
        refine (szRotor_any rs[k] q _ z1 z2 hq0 (by omega)).mono ?_
        rintro e w1 ⟨q', rfl, hb1, hq⟩
        have hb' := bt hb hb1
        clear hb hb1 f0 f1
        rcases hq with rfl | ⟨p0, p1, p2, p3⟩
        · go_wp2
          go_ret
          exact ⟨-1, rfl, hb', .inl rfl⟩
        · go_wp2
          go_roundw
          case rel =>
            refine ⟨k + 1, q', by omega, by go_num, rfl, by omega, by omega, fun j hj hlt' => ?_, hb'⟩
            by_cases e : j = k
            · subst e; exact ⟨by omega, by omega⟩
            · exact HA.out j hj (by omega)
          case measure => simp [intOf]; omega
      · go_wp2
        go_ret
        refine ⟨q, rfl, hb, .inr ⟨hq0, hq1, by omega, fun r hr => ?_⟩⟩
        obtain ⟨j, hj, rfl⟩ := List.getElem_of_mem hr
        exact ha j hj (by omega)

/-- Wheels are small. -/
structure SmW (x : Whl) : Prop where
  few : x.rotors.length ≤ 1048576
  rot : ∀ r ∈ x.rotors, r.wiring.size ≤ 1048576 ∧ r.notches.size ≤ 1048576
  refl : x.refl.size ≤ 1048576
theorem SmW.at_ {x : Whl} (h : SmW x) {w : World} {B : Nat} {a : Option Addr} (hr : Reads w B a (rvs x.rotors)) : WhlAt w B a x.rotors.length x :=
  ⟨hr, rfl, h.few, fun r hr => ⟨by have := (h.rot r hr).1; omega, by have := (h.rot r hr).2; omega⟩, by have := h.refl; omega⟩
def SzW (x : Whl) (left : Int) (w : World) (e : Ending) (w' : World) : Prop :=
  ∃ q : Int, e = .returned (.int .i64 q) ∧ Below w.heap.size w w' ∧ (q = -1 ∨ (0 ≤ q ∧ q ≤ left ∧ SmW x))
theorem szWheels_any (a : Option Addr) (c : Nat) (x : Whl) (left : Int) (w : World) (h : Reads w w.heap.size a (rvs x.rotors)) (hz : BigR x.rotors) (hr : x.refl.size ≤ 9223372036854775807) (h0 : 0 ≤ left) (h1 : left ≤ 1048576) :
    Calls Tryz.prog 43 #[.agg #[.slice a x.rotors.length c, .string x.refl], .int .i64 left] w (SzW x left w) := by
  have o0 := Own.new w [.slice a x.rotors.length c, .string x.refl] 39
  have hb0 := (Below.refl w.heap.size w).alloc (Nat.le_refl _) (.cells [.slice a x.rotors.length c, .string x.refl].toArray 39)
  have h' : Reads (w.alloc (.cells [.slice a x.rotors.length c, .string x.refl].toArray 39)) (w.alloc (.cells [.slice a x.rotors.length c, .string x.refl].toArray 39)).heap.size a (rvs x.rotors) := (h.below hb0 (Nat.le_refl _)).more hb0.size
  go_enter Tryz.func43, Tryz.ntmps43
  go_wp2_with fail
  refine (szRotorS_any a c x.rotors left _ h' hz h0 h1).mono ?_
  rintro e w1 ⟨q, rfl, hb1, hq⟩
  have o1 := o0.below hb1 o0.lt
  have c1 := o1.at_ (i := 1) rfl
  have hb' := bt hb0 hb1
  clear o0 hb0 h' hb1 h
  rcases hq with rfl | ⟨p0, p1, p2, p3⟩
  · go_wp2
    go_ret
    exact ⟨-1, rfl, hb', .inl rfl⟩
  · have HP := Lib.hid p3
    clear p3
    by_cases hs : q < x.refl.size
    · go_wp2
      go_ret
      exact ⟨-1, rfl, hb', .inl rfl⟩
    · go_wp2
      go_ret
      refine ⟨q - x.refl.size, rfl, hb', .inr ⟨by omega, by omega, by omega, fun r hr => ?_, by omega⟩⟩
      have := HP.out r hr
      omega

theorem toRotor_any (r : Rot) (w : World) :
    Calls Tryz.prog 111 #[.agg #[.string r.wiring, .string r.notches]] w fun e w' => e = .returned (.agg #[.string r.wiring, .string r.notches]) ∧ Below w.heap.size w w' := by
  go_enter Tryz.func111, Tryz.ntmps111
  go_wp2
  refine bodyPost_ret (v := .agg #[.string r.wiring, .string r.notches]) (by simp [results, Tryz.results111, go_sem]) rfl ⟨rfl, ?_⟩
  exact ((((((Below.refl w.heap.size w).alloc (Nat.le_refl _) _).alloc (by simp) _).alloc (by simp; omega) _)))
end Go.Proofs.YtnnblmibonnpcaaGreatDoor

/- Contracts of the laws' own functions on wheels: copies, comparison, marks. -/
namespace Go.Proofs.YtnnblmibonnpcaaGreatDoor
open Go.RowKit

theorem rvs_set : ∀ (rs : List Rot) (k : Nat) (r : Rot), k < rs.length → put (rvs rs) (k * 2) (rv r) = rvs (rs.set k r)
  | _ :: _, 0, r, _ => by simp [put, rvs, rv]
  | q :: rs, k + 1, r, h => by
    have ih := rvs_set rs k r (by simpa using h)
    rw [show (k + 1) * 2 = k * 2 + 1 + 1 by omega]
    simp only [put, rv, rvs, List.take_succ_cons, List.length_cons, List.length_nil, List.set_cons_succ, List.cons_append, Nat.zero_add]
    rw [show k * 2 + 1 + 1 + (1 + 1) = (k * 2 + 2) + 1 + 1 by omega, List.drop_succ_cons, List.drop_succ_cons]
    rw [← ih]
    simp [put, rv]
/-- A rotor of empty strings. -/
def rot0 : Rot := ⟨⟨#[]⟩, ⟨#[]⟩⟩
theorem rvs_rep (n : Nat) : (madeCells #[.string ⟨#[]⟩, .string ⟨#[]⟩] (n * 2)) = (rvs (List.replicate n rot0)).toArray := by
  apply Array.toList_inj.1
  refine List.ext_getElem ?_ fun i h1 h2 => ?_
  · have := size_madeCells #[.string ⟨#[]⟩, .string ⟨#[]⟩] (n * 2)
    simp [len_rvs]; omega
  · have hall : ∀ (k : Nat), ∀ v ∈ rvs (List.replicate k rot0), v = .string ⟨#[]⟩ := by
      intro k
      induction k with
      | zero => intro v hv; simp [rvs] at hv
      | succ k ih =>
        intro v hv
        rw [List.replicate_succ] at hv
        simp only [rvs, List.mem_cons] at hv
        rcases hv with rfl | rfl | hv
        · rfl
        · rfl
        · exact ih v hv
    have e2 : (rvs (List.replicate n rot0)).toArray.toList[i] = .string ⟨#[]⟩ := hall n _ (List.getElem_mem _)
    rw [e2]
    simp only [madeCells, Array.toList_map, List.getElem_map]
    have : ∀ j : Nat, (#[Value.string ⟨#[]⟩, .string ⟨#[]⟩] : Array Value)[j % 2]! = .string ⟨#[]⟩ := fun j => by
      rcases Nat.mod_two_eq_zero_or_one j with e | e <;> rw [e] <;> rfl
    exact this _
theorem inf_rot : (Tryz.prog.info? 94).map (fun i => (i.zero, i.size, i.bytes)) = some (some (.agg #[.string ⟨#[]⟩, .string ⟨#[]⟩]), 2, 32) := by kernel_rfl
theorem make_rot (n : Nat) (hn : n ≤ 1048576) (w : World) : (Instr.makeSlice 23 (.int .i64 (n : Int)) (.int .i64 (n : Int))).run Tryz.prog w = .ok (.slice (some ⟨w.heap.size, 0, none⟩) n n) (w.alloc (.cells (rvs (List.replicate n rot0)).toArray 94)) := by
  obtain ⟨i, hi, h1, h2, h3⟩ := info_parts inf_rot
  have hr := run_make (P := Tryz.prog) w 23 94 i _ Tryz.underlying23 hi h1 .i64 .i64 n n (by omega) (by omega) (by rw [h3]; omega) (by omega)
  simp only [Int.toNat_natCast, h2] at hr
  have hz : (Value.agg #[.string ⟨#[]⟩, .string ⟨#[]⟩]).cells = #[.string ⟨#[]⟩, .string ⟨#[]⟩] := rfl
  rw [hz, rvs_rep] at hr
  exact hr

theorem put_two {cs : List Value} {k : Nat} {u v : Value} (h : k + 1 < cs.length) : put cs k [u, v] = (cs.set k u).set (k + 1) v := by
  refine List.ext_getElem (by simp [put]; omega) fun i h1 h2 => ?_
  have hi : i < cs.length := by simpa using h2
  simp only [put, List.append_assoc, List.getElem_set]
  rw [List.getElem_append]
  split
  · rename_i hlt
    have : i < k := by simp at hlt; omega
    rw [if_neg (by omega), if_neg (by omega), List.getElem_take]
  · rename_i hge
    have hlk : (cs.take k).length = k := by simp; omega
    have hik : k ≤ i := by omega
    by_cases e0 : i = k
    · subst e0; simp [hlk]
    · by_cases e1 : i = k + 1
      · subst e1; simp [hlk]
      · rw [if_neg (by omega), if_neg (by omega)]
        rw [List.getElem_append_right (by simp; omega)]
        simp only [List.getElem_drop, List.length_cons, List.length_nil, hlk]
        congr 1; omega
def CopyR (rs : List Rot) (w : World) (e : Ending) (w' : World) : Prop :=
  ∃ g, w.heap.size ≤ g ∧ e = .returned (.slice (some ⟨g, 0, none⟩) rs.length rs.length) ∧ Own w' g (rvs rs) ∧ Below w.heap.size w w'
theorem toRotorS_any (a : Option Addr) (c : Nat) (rs : List Rot) (w : World) (h : Reads w w.heap.size a (rvs rs)) (hl : rs.length ≤ 1048576) :
    Calls Tryz.prog 80 #[.slice a rs.length c] w (CopyR rs w) := by
  have hmk := make_rot rs.length hl
  have HR := Lib.hid h
  clear h
  go_enter Tryz.func80, Tryz.ntmps80
  go_wp2
  go_loopw [4] (fun i wr => ∃ k : Nat, k ≤ rs.length ∧ i = .int .i64 k ∧ Below w.heap.size w wr ∧ Own wr w.heap.size (rvs (rs.take k ++ (List.replicate rs.length rot0).drop k))) (fun i _ => rs.length - (intOf i).toNat)
  case atStart => exact ⟨0, Nat.zero_le _, rfl, (Below.refl _ _).alloc (Nat.le_refl _) _, by simpa using Own.new w (rvs (List.replicate rs.length rot0)) 94⟩
  case round =>
    clear hmk
    obtain ⟨k, hk, rfl, hbel, hown⟩ := hrel
    by_cases hlt : k < rs.length
    · obtain ⟨b, off, rfl, hb, hc⟩ := HR.out.cells (by rw [len_rvs]; omega)
      obtain ⟨f0, f1⟩ := rot_cells (hc.below hbel hb) hlt
      clear hc
      have hlen : Hid ((rs.take k ++ (List.replicate rs.length rot0).drop k).length = rs.length) := by
        show _ = _
        rw [fill_len (by simp) hk]
      have q1 : (k : Int) < (rs.length : Int) := by omega
      go_wp2_with fail
      refine (toRotor_any rs[k] _).mono ?_
      rintro e w1 ⟨rfl, hb1⟩
      have o1 := hown.below hb1 hown.lt
      have l1 : (rvs (rs.take k ++ (List.replicate rs.length rot0).drop k)).length = 2 * rs.length := by rw [len_rvs, hlen.out]
      have L1 := Lib.hid l1
      clear l1
      obtain ⟨y0, g0⟩ := o1.some_ (i := k * 2) (by rw [L1.out]; omega)
      obtain ⟨y1, g1⟩ := o1.some_ (i := k * 2 + 1) (by rw [L1.out]; omega)
      have e0 := o1.free (k * 2) (by rw [L1.out]; omega)
      have e1 := o1.free (k * 2 + 1) (by rw [L1.out]; omega)
      go_wp2
      go_roundw
      case rel =>
        refine ⟨k + 1, by omega, by go_num, ((bt hbel hb1).setCell (by simp) _).setCell (by simp) _, ?_⟩
        have h0 := (o1.set_ (i := k * 2) (by rw [L1.out]; omega) (.string rs[k].wiring)).set_ (i := k * 2 + 1) (by rw [List.length_set, L1.out]; omega) (.string rs[k].notches)
        have hset := rvs_set (rs.take k ++ (List.replicate rs.length rot0).drop k) k rs[k] (by rw [hlen.out]; exact hlt)
        rw [fill_set hlt (by simp)] at hset
        rw [← hset]
        have hp : put (rvs (rs.take k ++ (List.replicate rs.length rot0).drop k)) (k * 2) (rv rs[k]) = ((rvs (rs.take k ++ (List.replicate rs.length rot0).drop k)).set (k * 2) (.string rs[k].wiring)).set (k * 2 + 1) (.string rs[k].notches) := put_two (by rw [L1.out]; omega)
        rw [hp]
        exact h0
      case measure => simp [intOf]; omega
    · have hk' : k = rs.length := by omega
      subst hk'
      go_wp2
      go_ret
      refine ⟨w.heap.size, Nat.le_refl _, rfl, ?_, hbel⟩
      rw [List.take_length, List.drop_of_length_le (by simp), List.append_nil] at hown
      exact hown
end Go.Proofs.YtnnblmibonnpcaaGreatDoor

/- Contracts of the laws' own functions on wheels as a whole. -/
namespace Go.Proofs.YtnnblmibonnpcaaGreatDoor
open Go.RowKit

/-- New wheels: their rotors lie in a block of their own. -/
def NewW (x : Whl) (w : World) (e : Ending) (w' : World) : Prop :=
  ∃ g, w.heap.size ≤ g ∧ e = .returned (.agg #[.slice (some ⟨g, 0, none⟩) x.rotors.length x.rotors.length, .string x.refl]) ∧ Own w' g (rvs x.rotors) ∧ Below w.heap.size w w'
theorem toWheels_any (a : Option Addr) (c : Nat) (x : Whl) (w : World) (h : Reads w w.heap.size a (rvs x.rotors)) (hs : SmW x) :
    Calls Tryz.prog 46 #[.agg #[.slice a x.rotors.length c, .string x.refl]] w (NewW x w) := by
  have hl := hs.few
  have H := Lib.hid h
  clear h hs
  go_enter Tryz.func46, Tryz.ntmps46
  go_wp2_with fail
  obtain ⟨W, hW⟩ : ∃ W, W = (((w.alloc (Obj.cells #[Value.slice a x.rotors.length c, .string x.refl] 39)).alloc (Obj.cells #[Value.slice none 0 0, .string ⟨#[]⟩] 25)).alloc (Obj.cells #[Value.slice none 0 0, .string ⟨#[]⟩] 25)) := ⟨_, rfl⟩
  have o0 : Own W w.heap.size [Value.slice a x.rotors.length c, .string x.refl] := by
    rw [hW]; exact ((Own.new w _ _).alloc _).alloc _
  have o1 : Own W (w.heap.size + 1) [Value.slice none 0 0, .string ⟨#[]⟩] := by
    rw [hW]; have := (Own.new (w.alloc (Obj.cells #[Value.slice a x.rotors.length c, .string x.refl] 39)) [Value.slice none 0 0, .string ⟨#[]⟩] 25).alloc (Obj.cells #[Value.slice none 0 0, .string ⟨#[]⟩] 25); simpa using this
  have o2 : Own W (w.heap.size + 1 + 1) [Value.slice none 0 0, .string ⟨#[]⟩] := by
    rw [hW]; have := Own.new ((w.alloc (Obj.cells #[Value.slice a x.rotors.length c, .string x.refl] 39)).alloc (Obj.cells #[Value.slice none 0 0, .string ⟨#[]⟩] 25)) [Value.slice none 0 0, .string ⟨#[]⟩] 25; simpa using this
  have hb : Below w.heap.size w W := by
    rw [hW]; exact (((Below.refl _ _).alloc (Nat.le_refl _) _).alloc (by simp) _).alloc (by simp; omega) _
  rw [← hW]
  clear hW
  have hR : Reads W W.heap.size a (rvs x.rotors) := (H.out.below hb (Nat.le_refl _)).more hb.size
  refine (toRotorS_any a c x.rotors W hR hl).mono ?_
  rintro e w1 ⟨g, hg, rfl, og, hb1⟩
  have l2 := o2.lt
  have k0 := o0.below hb1 o0.lt
  have k1 := o1.below hb1 o1.lt
  have k2 := o2.below hb1 o2.lt
  have kb := bt hb hb1
  clear o0 o1 o2 hb hb1 hR
  have f1 := k2.at_ (i := 0) rfl
  have f2 := k2.free 0 (by simp)
  have f3 := k0.at_ (i := 1) rfl
  have f4 := k2.at_ (i := 1) rfl
  have f5 := k2.free 1 (by simp)
  have f6 := k1.at_ (i := 0) rfl
  have f7 := k1.at_ (i := 1) rfl
  have f8 := k1.free 0 (by simp)
  have f9 := k1.free 1 (by simp)
  go_wp2
  refine bodyPost_ret (v := .agg #[.slice (some ⟨g, 0, none⟩) x.rotors.length x.rotors.length, .string x.refl]) (by simp [results, Tryz.results46, go_sem, f6, f7]) rfl ?_
  refine ⟨g, by omega, rfl, ?_, ?_⟩
  · exact (((og.far (p := ⟨w.heap.size + 1 + 1, 0, none⟩) (by simp; omega) _).far (p := ⟨w.heap.size + 1 + 1, 1, none⟩) (by simp; omega) _).far (p := ⟨w.heap.size + 1, 0, none⟩) (by simp; omega) _).far (p := ⟨w.heap.size + 1, 1, none⟩) (by simp; omega) _
  · exact (((kb.setCell (by simp; omega) _).setCell (by simp; omega) _).setCell (by simp) _).setCell (by simp) _

theorem eqRotor_any (r : Rot) (w : World) :
    Calls Tryz.prog 112 #[.agg #[.string r.wiring, .string r.notches], .agg #[.string r.wiring, .string r.notches]] w fun e w' => e = .returned (.bool true) ∧ Below w.heap.size w w' := by
  go_enter Tryz.func112, Tryz.ntmps112
  go_wp2
  go_ret
  exact ⟨rfl, ((Below.refl w.heap.size w).alloc (Nat.le_refl _) _).alloc (by simp) _⟩
theorem eqRotorS_any (a b : Option Addr) (c d : Nat) (rs : List Rot) (w : World) (h1 : Reads w w.heap.size a (rvs rs)) (h2 : Reads w w.heap.size b (rvs rs)) (hl : rs.length ≤ 1048576) :
    Calls Tryz.prog 81 #[.slice a rs.length c, .slice b rs.length d] w fun e w' => e = .returned (.bool true) ∧ Below w.heap.size w w' := by
  have R1 := Lib.hid h1
  have R2 := Lib.hid h2
  clear h1 h2
  go_enter Tryz.func81, Tryz.ntmps81
  go_wp2
  go_loopw [5] (fun i wr => ∃ k : Nat, k ≤ rs.length ∧ i = .int .i64 k ∧ Below w.heap.size w wr) (fun i _ => rs.length - (intOf i).toNat)
  case atStart => exact ⟨0, Nat.zero_le _, rfl, Below.refl _ _⟩
  case round =>
    obtain ⟨k, hk, rfl, hb⟩ := hrel
    by_cases hlt : k < rs.length
    · obtain ⟨b1, off1, rfl, hb1, hc1⟩ := R1.out.cells (by rw [len_rvs]; omega)
      obtain ⟨b2, off2, rfl, hb2, hc2⟩ := R2.out.cells (by rw [len_rvs]; omega)
      obtain ⟨f0, f1⟩ := rot_cells (hc1.below hb hb1) hlt
      obtain ⟨g0, g1⟩ := rot_cells (hc2.below hb hb2) hlt
      clear hc1 hc2
      have hz := hb.size
      have q1 : (k : Int) < (rs.length : Int) := by omega
      have l1 : b1 < wr.heap.size := by omega
      have l2 : b2 < wr.heap.size := by omega
      have d0 := fun (cc : Cls wr.heap.size wr) => (cc.cell b1 (off1 + k * 2) l1).trans f0
      have d1 := fun (cc : Cls wr.heap.size wr) => (cc.cell b1 (off1 + k * 2 + 1) l1).trans f1
      have e0 := fun (cc : Cls wr.heap.size wr) => (cc.cell b2 (off2 + k * 2) l2).trans g0
      have e1 := fun (cc : Cls wr.heap.size wr) => (cc.cell b2 (off2 + k * 2 + 1) l2).trans g1
      go_wp2_with fail
      refine wp_region_cls (by kernel_rfl) (by kernel_rfl) ?_
      repeat (go_big_quiet_step (first | (go_at_call 112; with_reducible exact cls_of (Nat.le_refl _) (eqRotor_any _ _))))
      refine wpQuiet_nil ?_
      intro wc hbc
      go_wp2
      go_roundw
      case rel => exact ⟨k + 1, by omega, by go_num, bt hb hbc⟩
      case measure => simp [intOf]; omega
    · go_wp2
      go_ret
      exact ⟨rfl, hb⟩
theorem eqWheels_any (a b : Option Addr) (c d : Nat) (x : Whl) (w : World) (h1 : Reads w w.heap.size a (rvs x.rotors)) (h2 : Reads w w.heap.size b (rvs x.rotors)) (hl : x.rotors.length ≤ 1048576) :
    Calls Tryz.prog 49 #[.agg #[.slice a x.rotors.length c, .string x.refl], .agg #[.slice b x.rotors.length d, .string x.refl]] w fun e w' => e = .returned (.bool true) ∧ Below w.heap.size w w' := by
  have o0 := fun o => (Own.new w [.slice a x.rotors.length c, .string x.refl] 25).alloc o
  have o1 := fun A => Own.new (w.alloc A) [.slice b x.rotors.length d, .string x.refl] 25
  have hb0 := fun A B => ((Below.refl w.heap.size w).alloc (Nat.le_refl _) A).alloc (by simp) B
  have R1 := Lib.hid (fun A B => (h1.below (hb0 A B) (Nat.le_refl _)).more (hb0 A B).size)
  have R2 := Lib.hid (fun A B => (h2.below (hb0 A B) (Nat.le_refl _)).more (hb0 A B).size)
  simp only [World.size_alloc] at o1
  clear h1 h2
  go_enter Tryz.func49, Tryz.ntmps49
  go_wp2_with fail
  refine (eqRotorS_any a b c d x.rotors _ (R1.out _ _) (R2.out _ _) hl).mono ?_
  rintro e w1 ⟨rfl, hb1⟩
  have k0 := (o0 _).below hb1 (o0 _).lt
  have k1 := (o1 _).below hb1 (o1 _).lt
  have f0 := k0.at_ (i := 1) rfl
  have f1 := k1.at_ (i := 1) rfl
  have kb := bt (hb0 _ _) hb1
  clear o0 o1 hb0 hb1 R1 R2
  go_wp2
  go_ret
  exact ⟨rfl, kb⟩

theorem markWheels_to (g c : Nat) (x : Whl) (k : Nat) (w : World) (h : Own w g (rvs x.rotors)) (hl : x.rotors.length ≤ 1048576) (h1 : 1 ≤ k) (hk : k ≤ 1000000) :
    Calls Tryz.prog 50 #[.agg #[.slice (some ⟨g, 0, none⟩) x.rotors.length c, .string x.refl], .int .i64 (k : Int)] w (MarkTo g (k + 2 * x.rotors.length) w) := by
  have h' := fun o => h.alloc o
  have hb0 := fun A => (Below.refl w.heap.size w).alloc (Nat.le_refl _) A
  go_enter Tryz.func50, Tryz.ntmps50
  go_wp2_with fail
  refine (markRotorS_to g x.rotors.length c k _ _ (h' _) (len_rvs _) hl h1 (by omega)).mono ?_
  rintro e w1 ⟨rfl, hg⟩
  have hb := hb0 (.cells #[.slice (some ⟨g, 0, none⟩) x.rotors.length c, .string x.refl] 25)
  clear h' hb0
  go_wp2
  go_ret
  exact ⟨rfl, grown_trans ⟨hb.os, hb.tape, hb.output, hb.size, fun i hi _ => hb.block i hi⟩ hg⟩
theorem markWheels_any (g c : Nat) (x : Whl) (k : Nat) (w : World) (h : Own w g (rvs x.rotors)) (hl : x.rotors.length ≤ 1048576) (h1 : 1 ≤ k) (hk : k ≤ 1000000) :
    Calls Tryz.prog 50 #[.agg #[.slice (some ⟨g, 0, none⟩) x.rotors.length c, .string x.refl], .int .i64 (k : Int)] w (MarkPost g w) :=
  (markWheels_to g c x k w h hl h1 hk).mono fun _ _ h => ⟨_, h.1, h.2⟩
end Go.Proofs.YtnnblmibonnpcaaGreatDoor

/- Contracts of the laws' own functions on machines: sizes, copies, comparison, marks. -/
namespace Go.Proofs.YtnnblmibonnpcaaGreatDoor
open Go.RowKit

/-- A machine is small. -/
structure SmM (m : Mach) : Prop where
  whl : SmW m.wheels
  rings : m.rings.size ≤ 1048576
  plugs : m.plugs.size ≤ 1048576
theorem SmM.at_ {m : Mach} (h : SmM m) {w : World} {B : Nat} {a : Option Addr} (hr : Reads w B a (rvs m.wheels.rotors)) : MachAt w B a m.wheels.rotors.length m :=
  ⟨h.whl.at_ hr, by have := h.rings; omega, by have := h.plugs; omega⟩
def SzM (m : Mach) (left : Int) (w : World) (e : Ending) (w' : World) : Prop :=
  ∃ q : Int, e = .returned (.int .i64 q) ∧ Below w.heap.size w w' ∧ (q = -1 ∨ (0 ≤ q ∧ q ≤ left ∧ SmM m))
theorem szMachine_any (a : Option Addr) (c : Nat) (m : Mach) (left : Int) (w : World) (h : Reads w w.heap.size a (rvs m.wheels.rotors)) (hz : BigR m.wheels.rotors) (hr : m.wheels.refl.size ≤ 9223372036854775807) (hg : m.rings.size ≤ 9223372036854775807) (hp : m.plugs.size ≤ 9223372036854775807) (h0 : 0 ≤ left) (h1 : left ≤ 1048576) :
    Calls Tryz.prog 15 #[.agg #[.slice a m.wheels.rotors.length c, .string m.wheels.refl, .string m.rings, .string m.plugs], .int .i64 left] w (SzM m left w) := by
  have o0 := Own.new w [.slice a m.wheels.rotors.length c, .string m.wheels.refl, .string m.rings, .string m.plugs] 41
  have hb0 := (Below.refl w.heap.size w).alloc (Nat.le_refl _) (.cells [.slice a m.wheels.rotors.length c, .string m.wheels.refl, .string m.rings, .string m.plugs].toArray 41)
  have h' : Reads (w.alloc (.cells [.slice a m.wheels.rotors.length c, .string m.wheels.refl, .string m.rings, .string m.plugs].toArray 41)) (w.alloc (.cells [.slice a m.wheels.rotors.length c, .string m.wheels.refl, .string m.rings, .string m.plugs].toArray 41)).heap.size a (rvs m.wheels.rotors) := (h.below hb0 (Nat.le_refl _)).more hb0.size
  go_enter Tryz.func15, Tryz.ntmps15
  go_wp2_with fail
  refine (szWheels_any a c m.wheels left _ h' hz hr h0 h1).mono ?_
  rintro e w1 ⟨q, rfl, hb1, hq⟩
  have o1 := o0.below hb1 o0.lt
  have c1 := o1.at_ (i := 1) rfl
  have c2 := o1.at_ (i := 2) rfl
  have c3 := o1.at_ (i := 3) rfl
  have hb' := bt hb0 hb1
  clear o0 hb0 h' hb1 h
  rcases hq with rfl | ⟨p0, p1, p2⟩
  · go_wp2
    go_ret
    exact ⟨-1, rfl, hb', .inl rfl⟩
  · have HP := Lib.hid p2
    clear p2
    by_cases hs : q < m.rings.size
    · go_wp2
      go_ret
      exact ⟨-1, rfl, hb', .inl rfl⟩
    · by_cases hs2 : q - m.rings.size < m.plugs.size
      · go_wp2
        go_ret
        exact ⟨-1, rfl, hb', .inl rfl⟩
      · go_wp2
        go_ret
        exact ⟨q - m.rings.size - m.plugs.size, rfl, hb', .inr ⟨by omega, by omega, HP.out, by omega, by omega⟩⟩

/-- A new machine: its rotors lie in a block of their own. -/
def NewM (m : Mach) (w : World) (e : Ending) (w' : World) : Prop :=
  ∃ g, w.heap.size ≤ g ∧ e = .returned (.agg #[.slice (some ⟨g, 0, none⟩) m.wheels.rotors.length m.wheels.rotors.length, .string m.wheels.refl, .string m.rings, .string m.plugs]) ∧ Own w' g (rvs m.wheels.rotors) ∧ Below w.heap.size w w'
set_option maxHeartbeats 1000000 in
theorem toMachine_any (a : Option Addr) (c : Nat) (m : Mach) (w : World) (h : Reads w w.heap.size a (rvs m.wheels.rotors)) (hs : SmM m) :
    Calls Tryz.prog 18 #[.agg #[.slice a m.wheels.rotors.length c, .string m.wheels.refl, .string m.rings, .string m.plugs]] w (NewM m w) := by
  have H := Lib.hid h
  have HS := Lib.hid hs
  clear h hs
  go_enter Tryz.func18, Tryz.ntmps18
  go_wp2_with fail
  obtain ⟨W, hW⟩ : ∃ W, W = (((w.alloc (Obj.cells #[Value.slice a m.wheels.rotors.length c, .string m.wheels.refl, .string m.rings, .string m.plugs] 41)).alloc (Obj.cells #[Value.slice none 0 0, .string ⟨#[]⟩, .string ⟨#[]⟩, .string ⟨#[]⟩] 27)).alloc (Obj.cells #[Value.slice none 0 0, .string ⟨#[]⟩, .string ⟨#[]⟩, .string ⟨#[]⟩] 27)) := ⟨_, rfl⟩
  have o0 : Own W w.heap.size [Value.slice a m.wheels.rotors.length c, .string m.wheels.refl, .string m.rings, .string m.plugs] := by
    rw [hW]; exact ((Own.new w _ _).alloc _).alloc _
  have o1 : Own W (w.heap.size + 1) [Value.slice none 0 0, .string ⟨#[]⟩, .string ⟨#[]⟩, .string ⟨#[]⟩] := by
    rw [hW]; have := (Own.new (w.alloc (Obj.cells #[Value.slice a m.wheels.rotors.length c, .string m.wheels.refl, .string m.rings, .string m.plugs] 41)) [Value.slice none 0 0, .string ⟨#[]⟩, .string ⟨#[]⟩, .string ⟨#[]⟩] 27).alloc (Obj.cells #[Value.slice none 0 0, .string ⟨#[]⟩, .string ⟨#[]⟩, .string ⟨#[]⟩] 27); simpa using this
  have o2 : Own W (w.heap.size + 1 + 1) [Value.slice none 0 0, .string ⟨#[]⟩, .string ⟨#[]⟩, .string ⟨#[]⟩] := by
    rw [hW]; have := Own.new ((w.alloc (Obj.cells #[Value.slice a m.wheels.rotors.length c, .string m.wheels.refl, .string m.rings, .string m.plugs] 41)).alloc (Obj.cells #[Value.slice none 0 0, .string ⟨#[]⟩, .string ⟨#[]⟩, .string ⟨#[]⟩] 27)) [Value.slice none 0 0, .string ⟨#[]⟩, .string ⟨#[]⟩, .string ⟨#[]⟩] 27; simpa using this
  have hb : Below w.heap.size w W := by
    rw [hW]; exact (((Below.refl _ _).alloc (Nat.le_refl _) _).alloc (by simp) _).alloc (by simp; omega) _
  rw [← hW]
  clear hW
  generalize hB2 : w.heap.size + 1 + 1 = B2 at *
  generalize hB1 : w.heap.size + 1 = B1 at *
  generalize hB0 : w.heap.size = B0 at *
  have g1 : B0 < B1 := by omega
  have g2 : B1 < B2 := by omega
  have HB0 := Lib.hid hB0
  clear hB0 hB1 hB2
  have hR : Reads W W.heap.size a (rvs m.wheels.rotors) := by
    exact (H.out.below hb (Nat.le_refl _)).more (by have := o0.lt; omega)
  refine (toWheels_any a c m.wheels W hR HS.out.whl).mono ?_
  rintro e w1 ⟨g, hg, rfl, og, hb1⟩
  have k0 := o0.below hb1 o0.lt
  have k1 := o1.below hb1 o1.lt
  have k2 := o2.below hb1 o2.lt
  have l2 := o2.lt
  have kb : Below B0 w w1 := hb.trans (hb1.mono (by omega))
  clear o0 o1 o2 hb hb1 hR
  have f0 := k2.at_ (i := 0) rfl
  have f1 := k2.at_ (i := 1) rfl
  have f2 := k2.at_ (i := 2) rfl
  have f3 := k2.at_ (i := 3) rfl
  have r0 := k2.free 0 (by simp)
  have r1 := k2.free 1 (by simp)
  have r2 := k2.free 2 (by simp)
  have r3 := k2.free 3 (by simp)
  have c2 := k0.at_ (i := 2) rfl
  have c3 := k0.at_ (i := 3) rfl
  have e0 := k1.at_ (i := 0) rfl
  have e1 := k1.at_ (i := 1) rfl
  have e2 := k1.at_ (i := 2) rfl
  have e3 := k1.at_ (i := 3) rfl
  have s0 := k1.free 0 (by simp)
  have s1 := k1.free 1 (by simp)
  have s2 := k1.free 2 (by simp)
  have s3 := k1.free 3 (by simp)
  have n1 : ¬ B1 = B2 := by omega
  have n2 : ¬ B2 = B1 := by omega
  have n3 : ¬ B2 = B0 := by omega
  have n4 : ¬ B0 = B2 := by omega
  go_wp2
  refine bodyPost_ret (v := .agg #[.slice (some ⟨g, 0, none⟩) m.wheels.rotors.length m.wheels.rotors.length, .string m.wheels.refl, .string m.rings, .string m.plugs]) (by simp [results, Tryz.results18, go_sem, e0, e1, e2, e3]) rfl ?_
  have ge1 : g ≠ B1 := by omega
  have ge2 : g ≠ B2 := by omega
  refine ⟨g, by have := HB0.out; omega, rfl, ?_, ?_⟩
  · repeat' (with_reducible first | exact og | refine Own.far ?_ ?_ _)
    all_goals (simp; omega)
  · rw [HB0.out]
    repeat' (with_reducible first | exact kb | refine Below.setCell ?_ ?_ _)
    all_goals (simp; omega)

theorem eqMachine_any (a b : Option Addr) (c d : Nat) (m : Mach) (w : World) (h1 : Reads w w.heap.size a (rvs m.wheels.rotors)) (h2 : Reads w w.heap.size b (rvs m.wheels.rotors)) (hl : m.wheels.rotors.length ≤ 1048576) :
    Calls Tryz.prog 22 #[.agg #[.slice a m.wheels.rotors.length c, .string m.wheels.refl, .string m.rings, .string m.plugs], .agg #[.slice b m.wheels.rotors.length d, .string m.wheels.refl, .string m.rings, .string m.plugs]] w fun e w' => e = .returned (.bool true) ∧ Below w.heap.size w w' := by
  have o0 := fun o => (Own.new w [.slice a m.wheels.rotors.length c, .string m.wheels.refl, .string m.rings, .string m.plugs] 27).alloc o
  have o1 := fun A => Own.new (w.alloc A) [.slice b m.wheels.rotors.length d, .string m.wheels.refl, .string m.rings, .string m.plugs] 27
  have hb0 := fun A B => ((Below.refl w.heap.size w).alloc (Nat.le_refl _) A).alloc (by simp) B
  have R1 := Lib.hid (fun A B => (h1.below (hb0 A B) (Nat.le_refl _)).more (hb0 A B).size)
  have R2 := Lib.hid (fun A B => (h2.below (hb0 A B) (Nat.le_refl _)).more (hb0 A B).size)
  simp only [World.size_alloc] at o1
  clear h1 h2
  go_enter Tryz.func22, Tryz.ntmps22
  go_wp2_with fail
  refine (eqWheels_any a b c d m.wheels _ (R1.out _ _) (R2.out _ _) hl).mono ?_
  rintro e w1 ⟨rfl, hb1⟩
  have k0 := (o0 _).below hb1 (o0 _).lt
  have k1 := (o1 _).below hb1 (o1 _).lt
  have f1 := k0.at_ (i := 2) rfl
  have f2 := k0.at_ (i := 3) rfl
  have g1 := k1.at_ (i := 2) rfl
  have g2 := k1.at_ (i := 3) rfl
  have kb := bt (hb0 _ _) hb1
  clear o0 o1 hb0 hb1 R1 R2
  go_wp2
  go_ret
  exact ⟨rfl, kb⟩

theorem markMachine_to (g c : Nat) (m : Mach) (k : Nat) (w : World) (h : Own w g (rvs m.wheels.rotors)) (hl : m.wheels.rotors.length ≤ 1048576) (h1 : 1 ≤ k) (hk : k ≤ 1000000) :
    Calls Tryz.prog 23 #[.agg #[.slice (some ⟨g, 0, none⟩) m.wheels.rotors.length c, .string m.wheels.refl, .string m.rings, .string m.plugs], .int .i64 (k : Int)] w (MarkTo g (k + 2 * m.wheels.rotors.length) w) := by
  have h' := fun o => h.alloc o
  have hb0 := fun A => (Below.refl w.heap.size w).alloc (Nat.le_refl _) A
  go_enter Tryz.func23, Tryz.ntmps23
  go_wp2_with fail
  refine (markWheels_to g c m.wheels k _ (h' _) hl h1 (by omega)).mono ?_
  rintro e w1 ⟨rfl, hg⟩
  have hb := hb0 (.cells #[.slice (some ⟨g, 0, none⟩) m.wheels.rotors.length c, .string m.wheels.refl, .string m.rings, .string m.plugs] 27)
  clear h' hb0
  go_wp2
  go_ret
  exact ⟨rfl, grown_trans ⟨hb.os, hb.tape, hb.output, hb.size, fun i hi _ => hb.block i hi⟩ hg⟩
end Go.Proofs.YtnnblmibonnpcaaGreatDoor

/- Contracts of the laws' own functions on lists of numbers, and the marks of a list of strings of its own. -/
namespace Go.Proofs.YtnnblmibonnpcaaGreatDoor
open Go.RowKit

/-- A list of strings is marked where it lies. -/
theorem markStringS_own (g c k : Nat) (n : Nat) (cs : List Value) (w : World) (h : Own w g cs) (hcs : cs.length = n) (hl : n ≤ 1048576) (h1 : 1 ≤ k) (hk : k ≤ 10000000) :
    Calls Tryz.prog 24 #[.slice (some ⟨g, 0, none⟩) n c, .int .i64 (k : Int)] w (MarkTo g (k + n) w) := by
  have HC := Lib.hid hcs
  clear hcs
  go_enter Tryz.func24, Tryz.ntmps24
  go_wp2
  go_loopw [1, 5] (fun m i wr => ∃ (j : Nat) (cs : List Value), j ≤ n ∧ cs.length = n ∧ i = .int .i64 j ∧ m = .int .i64 ((k + j : Nat) : Int) ∧ Own wr g cs ∧ w.grownBy wr (some g)) (fun _ i _ => n - (intOf i).toNat)
  case atStart => exact ⟨0, cs, Nat.zero_le _, HC.out, rfl, rfl, h, World.grownBy.refl w _⟩
  case round =>
    clear h HC
    obtain ⟨j, cs, hj, hcs, rfl, rfl, ho, hb⟩ := hrel
    have HC := Lib.hid hcs
    clear hcs
    by_cases hlt : j < n
    · have hlt0 := ho.lt
      have q1 : (j : Int) < (n : Int) := by omega
      go_wp2_with fail
      refine (markText_any (k + j) _ (by omega) (by omega)).mono ?_
      rintro e w1 ⟨rfl, hb1⟩
      have o1 := ho.below hb1 ho.lt
      obtain ⟨y1, f1⟩ := o1.some_ (i := j) (by rw [HC.out]; omega)
      have f2 := o1.free j (by rw [HC.out]; omega)
      have o2 := o1.set_ (i := j) (by rw [HC.out]; omega) (.string (mkT (k + j)))
      have g1 : w.grownBy (w1.setCell ⟨g, j, none⟩ (.string (mkT (k + j)))) (some g) :=
        grown_trans hb (grown_trans ⟨hb1.os, hb1.tape, hb1.output, hb1.size, fun i hi _ => hb1.block i hi⟩ (grown_setCell w1 g j _))
      clear o1 hb1 hb ho
      go_wp2
      go_roundw
      case rel => exact ⟨j + 1, _, by omega, by rw [List.length_set, HC.out], by go_num, by go_num, o2, g1⟩
      case measure => simp [intOf]; omega
    · have hj' : j = n := by omega
      subst hj'
      go_wp2
      go_ret
      exact ⟨ret_int (by omega), hb⟩




/-- What a walk keeps: the memory below, blocks of its own, and lists that are read. -/
structure Kept (w0 w : World) (ows : List (Nat × List Value)) (rds : List (Nat × Option Addr × List Value)) : Prop where
  bel : Below w0.heap.size w0 w
  own : ∀ o ∈ ows, Own w o.1 o.2
  rds : ∀ r ∈ rds, r.1 ≤ w.heap.size ∧ Reads w r.1 r.2.1 r.2.2
section
variable {w0 w w' : World} {ows : List (Nat × List Value)} {rds : List (Nat × Option Addr × List Value)} {o : Nat × List Value}
theorem Kept.below (h : Kept w0 w ows rds) (hb : Below w.heap.size w w') : Kept w0 w' ows rds :=
  ⟨bt h.bel hb, fun o ho => (h.own o ho).below hb (h.own o ho).lt, fun r hr => ⟨Nat.le_trans (h.rds r hr).1 hb.size, (h.rds r hr).2.below hb (h.rds r hr).1⟩⟩
theorem Kept.grown (h : Kept w0 w ows rds) {g : Nat} (gr : w.grownBy w' (some g)) (hg : w0.heap.size ≤ g) (ho : ∀ o ∈ ows, o.1 ≠ g) (hr : ∀ r ∈ rds, r.1 ≤ g) : Kept w0 w' ows rds :=
  ⟨h.bel.grown gr h.bel.size (fun k hk => by cases hk; exact hg), fun o hm => (h.own o hm).grown gr (by have := ho o hm; simp; omega), fun r hm => ⟨Nat.le_trans (h.rds r hm).1 gr.size, (h.rds r hm).2.grown gr (h.rds r hm).1 (hr r hm)⟩⟩
theorem Kept.low (h : Kept w0 w ows rds) {C : Nat} (hb : Below C w w') (ho : ∀ o ∈ ows, o.1 < C) (hr : ∀ r ∈ rds, r.1 ≤ C) (hC : w0.heap.size ≤ C) : Kept w0 w' ows rds :=
  ⟨h.bel.trans (hb.mono hC), fun o hm => (h.own o hm).below hb (ho o hm), fun r hm => ⟨Nat.le_trans (h.rds r hm).1 hb.size, (h.rds r hm).2.below hb (hr r hm)⟩⟩
theorem Kept.addO (h : Kept w0 w ows rds) {g : Nat} {xs : List Value} (ho : Own w g xs) : Kept w0 w ((g, xs) :: ows) rds :=
  ⟨h.bel, fun o hm => by rcases List.mem_cons.1 hm with rfl | hm; exact ho; exact h.own o hm, h.rds⟩
theorem Kept.addR (h : Kept w0 w ows rds) {C : Nat} {a : Option Addr} {xs : List Value} (hr : Reads w C a xs) (hC : C ≤ w.heap.size) : Kept w0 w ows ((C, a, xs) :: rds) :=
  ⟨h.bel, h.own, fun r hm => by rcases List.mem_cons.1 hm with rfl | hm; exact ⟨hC, hr⟩; exact h.rds r hm⟩
theorem Kept.subO {ows' : List (Nat × List Value)} (h : Kept w0 w ows rds) (hs : ows' ⊆ ows) : Kept w0 w ows' rds := ⟨h.bel, fun o hm => h.own o (hs hm), h.rds⟩
theorem Kept.tailO (h : Kept w0 w (o :: ows) rds) : Kept w0 w ows rds := h.subO (List.subset_cons_self _ _)
theorem Kept.o0 {g : Nat} {xs : List Value} (h : Kept w0 w ((g, xs) :: ows) rds) : Own w g xs := h.own (g, xs) (by simp)
theorem Kept.o1 {p0 : Nat × List Value} {g : Nat} {xs : List Value} (h : Kept w0 w (p0 :: (g, xs) :: ows) rds) : Own w g xs := h.own (g, xs) (by simp)
theorem Kept.o2 {p0 p1 : Nat × List Value} {g : Nat} {xs : List Value} (h : Kept w0 w (p0 :: p1 :: (g, xs) :: ows) rds) : Own w g xs := h.own (g, xs) (by simp)
theorem Kept.o3 {p0 p1 p2 : Nat × List Value} {g : Nat} {xs : List Value} (h : Kept w0 w (p0 :: p1 :: p2 :: (g, xs) :: ows) rds) : Own w g xs := h.own (g, xs) (by simp)
theorem Kept.o4 {p0 p1 p2 p3 : Nat × List Value} {g : Nat} {xs : List Value} (h : Kept w0 w (p0 :: p1 :: p2 :: p3 :: (g, xs) :: ows) rds) : Own w g xs := h.own (g, xs) (by simp)
theorem Kept.at_ {C : Nat} {a : Option Addr} {xs : List Value} (h : Kept w0 w ows rds) (hm : (C, a, xs) ∈ rds) : Reads w w.heap.size a xs := (h.rds _ hm).2.more (h.rds _ hm).1
theorem Kept.r0 {C : Nat} {a : Option Addr} {xs : List Value} (h : Kept w0 w ows ((C, a, xs) :: rds)) : Reads w w.heap.size a xs := h.at_ (C := C) (by simp)
theorem Kept.r1 {p0 : Nat × Option Addr × List Value} {C : Nat} {a : Option Addr} {xs : List Value} (h : Kept w0 w ows (p0 :: (C, a, xs) :: rds)) : Reads w w.heap.size a xs := h.at_ (C := C) (by simp)
theorem Kept.r2 {p0 p1 : Nat × Option Addr × List Value} {C : Nat} {a : Option Addr} {xs : List Value} (h : Kept w0 w ows (p0 :: p1 :: (C, a, xs) :: rds)) : Reads w w.heap.size a xs := h.at_ (C := C) (by simp)
theorem Kept.r3 {p0 p1 p2 : Nat × Option Addr × List Value} {C : Nat} {a : Option Addr} {xs : List Value} (h : Kept w0 w ows (p0 :: p1 :: p2 :: (C, a, xs) :: rds)) : Reads w w.heap.size a xs := h.at_ (C := C) (by simp)
theorem Kept.r4 {p0 p1 p2 p3 : Nat × Option Addr × List Value} {C : Nat} {a : Option Addr} {xs : List Value} (h : Kept w0 w ows (p0 :: p1 :: p2 :: p3 :: (C, a, xs) :: rds)) : Reads w w.heap.size a xs := h.at_ (C := C) (by simp)
end
theorem drewN_below {B : Nat} {w : World} (n : Nat) : Below B w (w.drewN n) := ⟨rfl, rfl, rfl, Nat.le_refl _, fun _ _ => rfl⟩
theorem keep8 {w6 w7 : World} {B0 B5 : Nat} {x0 x1 x2 x3 y0 y1 y2 y3 : Value} (f0 : w6.cell? ⟨B0, 0, none⟩ = some x0) (f1 : w6.cell? ⟨B0, 1, none⟩ = some x1) (f2 : w6.cell? ⟨B0, 2, none⟩ = some x2) (f3 : w6.cell? ⟨B0, 3, none⟩ = some x3)
    (g0 : w6.cell? ⟨B5, 0, none⟩ = some y0) (g1 : w6.cell? ⟨B5, 1, none⟩ = some y1) (g2 : w6.cell? ⟨B5, 2, none⟩ = some y2) (g3 : w6.cell? ⟨B5, 3, none⟩ = some y3)
    (lt0 : B0 < w6.heap.size) (lt5 : B5 < w6.heap.size) (hb : Below w6.drew.heap.size w6.drew w7) :
    w7.cell? ⟨B0, 0, none⟩ = some x0 ∧ w7.cell? ⟨B0, 1, none⟩ = some x1 ∧ w7.cell? ⟨B0, 2, none⟩ = some x2 ∧ w7.cell? ⟨B0, 3, none⟩ = some x3 ∧ w7.cell? ⟨B5, 0, none⟩ = some y0 ∧ w7.cell? ⟨B5, 1, none⟩ = some y1 ∧ w7.cell? ⟨B5, 2, none⟩ = some y2 ∧ w7.cell? ⟨B5, 3, none⟩ = some y3 :=
  ⟨(hb.cell (p := ⟨B0, 0, none⟩) lt0).trans f0, (hb.cell (p := ⟨B0, 1, none⟩) lt0).trans f1, (hb.cell (p := ⟨B0, 2, none⟩) lt0).trans f2, (hb.cell (p := ⟨B0, 3, none⟩) lt0).trans f3,
    (hb.cell (p := ⟨B5, 0, none⟩) lt5).trans g0, (hb.cell (p := ⟨B5, 1, none⟩) lt5).trans g1, (hb.cell (p := ⟨B5, 2, none⟩) lt5).trans g2, (hb.cell (p := ⟨B5, 3, none⟩) lt5).trans g3⟩
end Go.Proofs.YtnnblmibonnpcaaGreatDoor
