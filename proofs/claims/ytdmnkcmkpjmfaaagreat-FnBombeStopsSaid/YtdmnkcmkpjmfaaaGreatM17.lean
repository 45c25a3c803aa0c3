/- Several of my texts in one: Grd, Row, ExW, ExV, ExU, ExT. -/
import Derived.Test.YtdmnkcmkpjmfaaaGreatM16
import Derived.Test.YtdmnkcmkpjmfaaaGreatM2
import Derived.Test.YtdmnkcmkpjmfaaaGreatM4
import Derived.Test.YtdmnkcmkpjmfaaaGreatM8
/- The grounds with repeats in given places, of the program. -/
namespace Go.Proofs.YtdmnkcmkpjmfaaaGreat
open Go.RowKit

theorem Reads.alc {w : World} {a : Option Addr} {xs : List Value} (h : Reads w w.heap.size a xs) (o : Obj) : Reads (w.alloc o) (w.alloc o).heap.size a xs :=
  (h.below ((Below.refl w.heap.size w).alloc (Nat.le_refl _) o) (Nat.le_refl _)).more (by simp)
/-- Whether there are not too many grounds, all of them windows of a valid machine. -/
def goodG (m : Mach) (gs : List ByteArray) : Bool := machB m && (decide (gs.length ≤ 12) && gs.all (setB m))
/-- Whether a ground has repeats in all of some places. -/
def allP (m : Mach) (g : ByteArray) (ps : List Int) : Bool := ps.all (hasB m g)
/-- The first k grounds that have repeats in all of some places. -/
def keepN (m : Mach) (gs : List ByteArray) (ps : List Int) (k : Nat) : List ByteArray := (gs.take k).filter fun g => allP m g ps
/-- What GroundsWithRepeats answers. -/
def keepG (m : Mach) (gs : List ByteArray) (ps : List Int) : List ByteArray := if goodG m gs = true then keepN m gs ps gs.length else []
theorem keepN_snoc {m : Mach} {gs : List ByteArray} {ps : List Int} {k : Nat} (h : k < gs.length) : keepN m gs ps (k + 1) = keepN m gs ps k ++ (if allP m gs[k] ps = true then [gs[k]] else []) := by
  simp only [keepN]
  rw [List.take_succ_eq_append_getElem h, List.filter_append]
  congr 1
  by_cases e : allP m gs[k] ps = true <;> simp [e]
theorem keepN_zero (m : Mach) (gs : List ByteArray) (ps : List Int) : keepN m gs ps 0 = [] := rfl
theorem keepN_len (m : Mach) (gs : List ByteArray) (ps : List Int) (k : Nat) : (keepN m gs ps k).length ≤ k := by
  have h := List.length_filter_le (fun g => allP m g ps) (gs.take k)
  rw [List.length_take] at h
  unfold keepN
  omega
theorem keepG_yes {m : Mach} {gs : List ByteArray} (h : goodG m gs = true) (ps : List Int) : keepG m gs ps = keepN m gs ps gs.length := by simp [keepG, h]
theorem keepG_no {m : Mach} {gs : List ByteArray} (h : goodG m gs = false) (ps : List Int) : keepG m gs ps = [] := by simp [keepG, h]
theorem goodG_len {m : Mach} {gs : List ByteArray} (h : goodG m gs = true) : gs.length ≤ 12 := by
  simp only [goodG, Bool.and_eq_true, decide_eq_true_eq] at h; exact h.2.1
theorem goodG_set {m : Mach} {gs : List ByteArray} (h : goodG m gs = true) : ∀ g ∈ gs, setB m g = true := by
  simp only [goodG, Bool.and_eq_true, List.all_eq_true] at h; exact h.2.2
theorem hasB_in {m : Mach} {g : ByteArray} {p : Nat} (h : setB m g = true) (hp : p < g.size) : hasB m g p = fixB (prodP m g p) := by
  have t0 : decide ((0 : Int) ≤ (p : Int)) = true := decide_eq_true (by omega)
  have t1 : decide ((p : Int) < (g.size : Int)) = true := decide_eq_true (by omega)
  simp only [hasB, h, t0, t1, Bool.true_and, Int.toNat_natCast]
theorem hasB_out {m : Mach} {g : ByteArray} {p : Int} (h : ¬ (0 ≤ p ∧ p < g.size)) : hasB m g p = false := by
  by_cases h0 : 0 ≤ p
  · have t1 : decide (p < (g.size : Int)) = false := decide_eq_false (by omega)
    simp only [hasB, t1, Bool.false_and, Bool.and_false]
  · have t0 : decide ((0 : Int) ≤ p) = false := decide_eq_false h0
    simp only [hasB, t0, Bool.false_and, Bool.and_false]
theorem allP_yes {m : Mach} {g : ByteArray} {ps : List Int} (h : ∀ j (hj : j < ps.length), hasB m g ps[j] = true) : allP m g ps = true := by
  simp only [allP, List.all_eq_true]
  intro x hx
  obtain ⟨j, hj, rfl⟩ := List.getElem_of_mem hx
  exact h j hj
theorem allP_no {m : Mach} {g : ByteArray} {ps : List Int} {j : Nat} (hj : j < ps.length) (h : hasB m g ps[j] = false) : allP m g ps = false := by
  rw [Bool.eq_false_iff]
  intro e
  simp only [allP, List.all_eq_true] at e
  rw [e _ (List.getElem_mem hj)] at h
  cases h
theorem at_iv {ps : List Int} {k : Nat} (h : k < ps.length) : (iv ps)[k]? = some (.int .i64 ps[k]) := by simp [iv, h]
theorem at_sv {gs : List ByteArray} {k : Nat} (h : k < gs.length) : (sv gs)[k]? = some (.string gs[k]) := by simp [sv, h]

end Go.Proofs.YtdmnkcmkpjmfaaaGreat

/- Rows of a sheet: sets of letters as bits, and as texts. -/
namespace Go.Proofs.YtdmnkcmkpjmfaaaGreat
open Go.RowKit

/-- The letters below k with a property, as bits. -/
def rowN (P : Nat → Bool) (k : Nat) : Nat := mask ((List.range k).filter P)
/-- The bytes of a row. -/
def rowL (P : Nat → Bool) : List UInt8 := (List.range 10).map fun i => if P i then 49 else 48
def rowS (P : Nat → Bool) : ByteArray := S (rowL P)
theorem len_rowL (P : Nat → Bool) : (rowL P).length = 10 := by simp [rowL]
theorem size_rowS (P : Nat → Bool) : (rowS P).size = 10 := by rw [rowS, size_S, len_rowL]
theorem rowN_zero (P : Nat → Bool) : rowN P 0 = 0 := rfl
theorem rowN_succ (P : Nat → Bool) (k : Nat) : rowN P (k + 1) = if P k = true then rowN P k ||| 2 ^ k else rowN P k := by
  unfold rowN
  rw [List.range_succ, List.filter_append]
  by_cases h : P k = true
  · rw [if_pos h, List.filter_cons, if_pos h, List.filter_nil, mask_snoc]
  · rw [if_neg h, List.filter_cons, if_neg h, List.filter_nil, List.append_nil]
theorem rowN_test (P : Nat → Bool) (k i : Nat) : (rowN P k).testBit i = (decide (i < k) && P i) := by
  unfold rowN
  rw [mask_test, Bool.eq_iff_iff]
  simp
theorem rowN_lt {P : Nat → Bool} {k : Nat} (h : k ≤ 10) : rowN P k < 1024 := by
  refine mask_lt fun x hx => ?_
  have := (List.mem_filter.1 hx).1
  simp at this; omega
theorem rowL_at (P : Nat → Bool) {k : Nat} (h : k < 10) : (rowL P)[k]'(by rw [len_rowL]; exact h) = if P k then 49 else 48 := by simp [rowL]
theorem u64_of (a : Nat) (ha : a < 18446744073709551616) : (BitVec.ofInt 64 (a : Int)).toNat = a := by
  rw [BitVec.toNat_ofInt]; omega
theorem u64_wrap (n : Int) : IntKind.u64.wrap n = n % 18446744073709551616 := by simp [IntKind.wrap, IntKind.bits, IntKind.signed]
theorem u64_and_nat (a b : Nat) (ha : a < 18446744073709551616) (hb : b < 18446744073709551616) : bits .and .u64 (a : Int) (b : Int) = ((a &&& b : Nat) : Int) := by
  have hx : a &&& b ≤ a := Nat.and_le_left
  show IntKind.u64.wrap ((BitVec.ofInt 64 (a : Int) &&& BitVec.ofInt 64 (b : Int)).toNat : Int) = _
  rw [BitVec.toNat_and, u64_of a ha, u64_of b hb, u64_wrap]
  omega
theorem u64_or_nat (a b : Nat) (ha : a < 18446744073709551616) (hb : b < 18446744073709551616) : bits .or .u64 (a : Int) (b : Int) = ((a ||| b : Nat) : Int) := by
  have hx : a ||| b < 2 ^ 64 := Nat.or_lt_two_pow (by omega) (by omega)
  show IntKind.u64.wrap ((BitVec.ofInt 64 (a : Int) ||| BitVec.ofInt 64 (b : Int)).toNat : Int) = _
  rw [BitVec.toNat_or, u64_of a ha, u64_of b hb, u64_wrap]
  omega
theorem u64_push (r k : Nat) (hr : r < 1024) (hk : k < 10) : bits .or .u64 (r : Int) (IntKind.u64.wrap (2 ^ k)) = ((r ||| 2 ^ k : Nat) : Int) := by
  have h1 := Nat.pow_le_pow_right (n := 2) (by omega) (show k ≤ 9 by omega)
  have h2 : (2 : Int) ^ k = ((2 ^ k : Nat) : Int) := by simp
  have h4 : (2 ^ k : Nat) ≤ 512 := h1
  have h3 : IntKind.u64.wrap (2 ^ k) = ((2 ^ k : Nat) : Int) := by
    rw [u64_wrap, h2]
    clear h1 h2
    generalize (2 ^ k : Nat) = n at *
    omega
  rw [h3, u64_or_nat _ _ (by omega) (Nat.lt_of_le_of_lt h4 (by omega))]
/-- 'n>>d&1' -/
theorem bit_testU (n d : Nat) (hn : n < 18446744073709551616) : bits .and .u64 ((n : Int) / 2 ^ d) 1 = if n.testBit d then 1 else 0 := by
  have h1 : ((n : Int) / 2 ^ d) = ((n / 2 ^ d : Nat) : Int) := by simp
  have h2 : n / 2 ^ d ≤ n := Nat.div_le_self _ _
  have h3 : n.testBit d = decide (n / 2 ^ d % 2 = 1) := by
    rw [Nat.testBit_eq_decide_div_mod_eq]
  rw [h1, show (1 : Int) = ((1 : Nat) : Int) from rfl, u64_and_nat _ _ (by omega) (by omega), Nat.and_one_is_mod, h3]
  rcases Nat.mod_two_eq_zero_or_one (n / 2 ^ d) with h | h <;> simp [h]
theorem rowS_at (P : Nat → Bool) {k : Nat} (h : k < 10) : (rowS P)[k]'(by rw [size_rowS]; exact h) = if P k then 49 else 48 := by
  rw [getElem_L]
  have : L (rowS P) = rowL P := L_S _
  simp only [this]
  exact rowL_at P h
end Go.Proofs.YtdmnkcmkpjmfaaaGreat

/- Contracts of the laws' own functions on rotors and wheels, and of the marks. -/
namespace Go.Proofs.YtdmnkcmkpjmfaaaGreat
open Go.RowKit

/-- The digits of a number. -/
def mkD (k : Nat) : List UInt8 := if _h : k = 0 then [] else mkD (k / 10) ++ [UInt8.ofNat (48 + k % 10)]
termination_by k
decreasing_by omega
/-- A mark. -/
def mkT (k : Nat) : ByteArray := S (109 :: mkD k)
theorem mkD_pos {k : Nat} (h : 0 < k) : mkD k = mkD (k / 10) ++ [UInt8.ofNat (48 + k % 10)] := by rw [mkD, dif_neg (by omega)]
theorem mkD_zero : mkD 0 = [] := by rw [mkD, dif_pos rfl]
theorem markText_any (k : Nat) (w : World) (h1 : 1 ≤ k) (hk : k ≤ 100000000) :
    Calls Tryz.prog 83 #[.int .i64 (k : Int)] w fun e w' => e = .returned (.string (mkT k)) ∧ Below w.heap.size w w' := by
  have t0 : decide (k = 0) = false := by simp; omega
  go_enter Tryz.func83, Tryz.ntmps83
  go_wp2
  go_loopw [0, 3] (fun i o wr => ∃ (j : Nat) (t : List UInt8), i = .int .i64 j ∧ o = .string (S t) ∧ t.length + j ≤ k ∧ mkD j ++ t = mkD k ∧ Below w.heap.size w wr) (fun i _ _ => (intOf i).toNat)
  case atStart => exact ⟨k, [], rfl, rfl, by simp, by simp, Below.refl _ _⟩
  case round =>
    obtain ⟨j, t, rfl, rfl, hl, he, hb⟩ := hrel
    have hsz : (S t).size ≤ 100000000 := by rw [size_S]; omega
    have HE := Lib.hid he
    clear he
    by_cases hlt : 0 < j
    · have HP := Lib.hid (mkD_pos hlt)
      have hc := run_conv_new (P := Tryz.prog) wr 47 9 5 Tryz.underlying47 Tryz.underlying5 Tryz.underlying9 [48 + (j : Int) % 10]
      simp only [List.map_cons, List.map_nil, List.length_cons, List.length_nil, Nat.zero_add] at hc
      rw [show (48 + (j : Int) % 10).toNat = 48 + j % 10 by omega] at hc
      generalize UInt8.ofNat (48 + j % 10) = d at hc HP
      have hs1 : (S [d]).size ≤ 1 := by rw [size_S]; simp
      go_wp2
      go_roundw
      case rel =>
        refine ⟨j / 10, d :: t, by go_num, ?_, ?_, ?_, hb.alloc hb.size _⟩
        · rw [S_append]; rfl
        · simp; omega
        · rw [← HE.out, HP.out]; simp
      case measure => simp [intOf]; omega
    · go_wp2
      go_ret
      refine ⟨ret_str ?_, hb⟩
      have h0 := HE.out
      rw [show j = 0 by omega, mkD_zero, List.nil_append] at h0
      unfold mkT
      rw [← h0]
      exact S_append [109] t

/-- The marks from k on. -/
def mks (k n : Nat) : List ByteArray := (List.range n).map fun i => mkT (k + i)
theorem len_mks (k n : Nat) : (mks k n).length = n := by simp [mks]
theorem mks_at {k n i : Nat} (h : i < n) : (mks k n)[i]'(by rw [len_mks]; exact h) = mkT (k + i) := by simp [mks]
/-- The strings of a slice, those before j marked. -/
theorem mks_set {ss : List ByteArray} {k j : Nat} (h : j < ss.length) : (sv ((mks k ss.length).take j ++ ss.drop j)).set j (.string (mkT (k + j))) = sv ((mks k ss.length).take (j + 1) ++ ss.drop (j + 1)) := by
  have := fill_set (A := mks k ss.length) (R := ss) (k := j) (by rw [len_mks]; exact h) (by rw [len_mks])
  rw [mks_at h] at this
  rw [← this]
  simp [sv, List.map_set]
theorem markStringS_any (v : Value) (ss : List ByteArray) (base k : Nat) (w : World) (h : OwR w base 9 1 v ss.length (sv ss)) (hl : ss.length ≤ 1048576) (h1 : 1 ≤ k) (hk : k ≤ 10000000) :
    Calls Tryz.prog 32 #[v, .int .i64 (k : Int)] w fun e w' => e = .returned (.int .i64 ((k + ss.length : Nat) : Int)) ∧ OwR w' base 9 1 v ss.length (sv (mks k ss.length)) ∧ Below base w w' := by
  obtain ⟨a, c, rfl, hc, -, -⟩ := OwR.val h
  go_enter Tryz.func32, Tryz.ntmps32
  go_wp2
  go_loopw [1, 5] (fun m i wr => ∃ j : Nat, j ≤ ss.length ∧ i = .int .i64 j ∧ m = .int .i64 ((k + j : Nat) : Int) ∧ OwR wr base 9 1 (.slice a ss.length c) ss.length (sv ((mks k ss.length).take j ++ ss.drop j)) ∧ Below base w wr) (fun _ i _ => ss.length - (intOf i).toNat)
  case atStart => exact ⟨0, Nat.zero_le _, rfl, rfl, by simpa using h, Below.refl _ _⟩
  case round =>
    clear h
    obtain ⟨j, hj, rfl, rfl, hown, hb⟩ := hrel
    by_cases hlt : j < ss.length
    · obtain ⟨a', c', he, _, _, hg⟩ := OwR.val hown
      injection he with e1 e2 e3
      subst e1
      subst e3
      rcases hg with h0 | ⟨g, rfl, hg, ho⟩
      · omega
      · have HS := Lib.hid (mks_set (k := k) hlt)
        have hln := Lib.hid (show (sv ((mks k ss.length).take j ++ ss.drop j)).length = ss.length by rw [length_sv, fill_len (by rw [len_mks]) (by rw [len_mks]; omega), len_mks])
        have hlt0 := ho.lt
        go_wp2_with fail
        refine (markText_any (k + j) _ (by omega) (by omega)).mono ?_
        rintro e w1 ⟨rfl, hb1⟩
        have o1 := ho.below hb1 ho.lt
        have hown1 := OwR.below hown hb1 (Nat.le_refl _)
        obtain ⟨y, f1⟩ := o1.some_ (i := j) (by rw [hln.out]; exact hlt)
        have f2 := o1.free j (by rw [hln.out]; exact hlt)
        have q1 : (j : Int) < (ss.length : Int) := by omega
        go_wp2
        go_roundw
        case rel =>
          refine ⟨j + 1, by omega, by go_num, by go_num, ?_, (hb.trans (hb1.mono (by omega))).setCell (by simp; omega) _⟩
          have := World.ownsRow.stored hown1 j (.string (mkT (k + j)))
          rw [HS.out] at this
          exact this.1
        case measure => simp [intOf]; omega
    · have hj' : j = ss.length := by omega
      subst hj'
      go_wp2
      go_ret
      refine ⟨ret_int (by omega), ?_, hb⟩
      rw [List.take_of_length_le (by rw [len_mks]; omega), List.drop_eq_nil_of_le (by omega), List.append_nil] at hown
      exact hown

theorem heldStringS_any (a : Option Addr) (c k n : Nat) (w : World) (h : Reads w w.heap.size a (sv (mks k n))) (hl : n ≤ 1048576) (h1 : 1 ≤ k) (hk : k ≤ 10000000) :
    Calls Tryz.prog 33 #[.slice a n c, .int .i64 (k : Int)] w fun e w' => e = .returned (.int .i64 ((k + n : Nat) : Int)) ∧ Below w.heap.size w w' := by
  have HR := Lib.hid h
  clear h
  go_enter Tryz.func33, Tryz.ntmps33
  go_wp2
  go_loopw [1, 5] (fun m i wr => ∃ j : Nat, j ≤ n ∧ i = .int .i64 j ∧ m = .int .i64 ((k + j : Nat) : Int) ∧ Below w.heap.size w wr) (fun _ i _ => n - (intOf i).toNat)
  case atStart => exact ⟨0, Nat.zero_le _, rfl, rfl, Below.refl _ _⟩
  case round =>
    obtain ⟨j, hj, rfl, rfl, hb⟩ := hrel
    by_cases hlt : j < n
    · obtain ⟨b, off, rfl, hbl, hc⟩ := HR.out.open_ (by rw [length_sv, len_mks]; omega)
      have d1 := hc j (by rw [length_sv, len_mks]; exact hlt)
      rw [sv_at (by rw [len_mks]; exact hlt), mks_at hlt] at d1
      have hz := hb.size
      have d2 := (hb.cell (p := ⟨b, off + j, none⟩) hbl).trans d1
      have q1 : (j : Int) < (n : Int) := by omega
      have q4 : b < wr.heap.size := by omega
      clear hc d1
      have hmt := fun W => markText_any (k + j) W (by omega) (by omega)
      have hqb : k + j ≤ 20000000 := by omega
      generalize hq : k + j = q at *
      have HQ := Lib.hid hq
      clear hq
      generalize mkT q = t at *
      have d3 := fun (cc : Cls wr.heap.size wr) => (cc.cell b (off + j) q4).trans d2
      go_wp2_with fail
      refine wp_region_cls (by kernel_rfl) (by kernel_rfl) ?_
      repeat (go_big_quiet_step (first | (go_at_call 83; with_reducible exact cls_of (Nat.le_refl _) (hmt _))))
      refine wpQuiet_nil ?_
      intro wc hbc
      go_wp2
      go_roundw
      case rel => exact ⟨j + 1, by omega, by go_num, by have := HQ.out; congr 1; omega, bt hb hbc⟩
      case measure => simp [intOf]; omega
    · have hj' : j = n := by omega
      subst hj'
      go_wp2
      go_ret
      exact ⟨ret_int (by omega), hb⟩

/-- A number; only block g has turned, and there is new memory. -/
def MarkTo (g r : Nat) (w : World) (e : Ending) (w' : World) : Prop := e = .returned (.int .i64 (r : Int)) ∧ w.grownBy w' (some g)
/-- A number from 0 on; only block g has turned, and there is new memory. -/
def MarkPost (g : Nat) (w : World) (e : Ending) (w' : World) : Prop := ∃ r : Nat, e = .returned (.int .i64 (r : Int)) ∧ w.grownBy w' (some g)
theorem markRotorS_to (g n c k : Nat) (cs : List Value) (w : World) (h : Own w g cs) (hcs : cs.length = 2 * n) (hl : n ≤ 1048576) (h1 : 1 ≤ k) (hk : k ≤ 10000000) :
    Calls Tryz.prog 128 #[.slice (some ⟨g, 0, none⟩) n c, .int .i64 (k : Int)] w (MarkTo g (k + 2 * n) w) := by
  have HC := Lib.hid hcs
  clear hcs
  go_enter Tryz.func128, Tryz.ntmps128
  go_wp2
  go_loopw [1, 5] (fun m i wr => ∃ (j : Nat) (cs : List Value), j ≤ n ∧ cs.length = 2 * n ∧ i = .int .i64 j ∧ m = .int .i64 ((k + 2 * j : Nat) : Int) ∧ Own wr g cs ∧ w.grownBy wr (some g)) (fun _ i _ => n - (intOf i).toNat)
  case atStart => exact ⟨0, cs, Nat.zero_le _, HC.out, rfl, rfl, h, World.grownBy.refl w _⟩
  case round =>
    clear h HC
    obtain ⟨j, cs, hj, hcs, rfl, rfl, ho, hb⟩ := hrel
    have HC := Lib.hid hcs
    clear hcs
    by_cases hlt : j < n
    · have hlt0 := ho.lt
      have q1 : (j : Int) < (n : Int) := by omega
      go_wp2_with fail
      refine (markText_any (k + 2 * j) _ (by omega) (by omega)).mono ?_
      rintro e w1 ⟨rfl, hb1⟩
      have o1 := ho.below hb1 ho.lt
      obtain ⟨y1, f1⟩ := o1.some_ (i := j * 2) (by rw [HC.out]; omega)
      have f2 := o1.free (j * 2) (by rw [HC.out]; omega)
      have o2 := o1.set_ (i := j * 2) (by rw [HC.out]; omega) (.string (mkT (k + 2 * j)))
      have g1 : w.grownBy (w1.setCell ⟨g, j * 2, none⟩ (.string (mkT (k + 2 * j)))) (some g) :=
        grown_trans hb (grown_trans ⟨hb1.os, hb1.tape, hb1.output, hb1.size, fun i hi _ => hb1.block i hi⟩ (grown_setCell w1 g (j * 2) _))
      clear o1 hb1 hb ho
      go_wp2_with fail
      clear f1 f2
      generalize w1.setCell ⟨g, j * 2, none⟩ (.string (mkT (k + 2 * j))) = w2 at *
      have hmt := fun W => markText_any (k + 2 * j + 1) W (by omega) (by omega)
      rw [show ((k + 2 * j + 1 : Nat) : Int) = (k : Int) + 2 * (j : Int) + 1 by omega] at hmt
      refine (hmt _).mono ?_
      rintro e w3 ⟨rfl, hb3⟩
      have o3 := o2.below hb3 o2.lt
      obtain ⟨y3, f3⟩ := o3.some_ (i := j * 2 + 1) (by rw [List.length_set, HC.out]; omega)
      have f4 := o3.free (j * 2 + 1) (by rw [List.length_set, HC.out]; omega)
      have o4 := o3.set_ (i := j * 2 + 1) (by rw [List.length_set, HC.out]; omega) (.string (mkT (k + 2 * j + 1)))
      have g4 : w.grownBy (w3.setCell ⟨g, j * 2 + 1, none⟩ (.string (mkT (k + 2 * j + 1)))) (some g) :=
        grown_trans g1 (grown_trans ⟨hb3.os, hb3.tape, hb3.output, hb3.size, fun i hi _ => hb3.block i hi⟩ (grown_setCell w3 g (j * 2 + 1) _))
      clear o3 hb3 g1 o2 hmt
      go_wp2
      go_roundw
      case rel => exact ⟨j + 1, _, by omega, by rw [List.length_set, List.length_set, HC.out], by go_num, by go_num, o4, g4⟩
      case measure => simp [intOf]; omega
    · go_wp2
      go_ret
      exact ⟨ret_int (by omega), hb⟩
theorem markRotorS_any (g n c k : Nat) (cs : List Value) (w : World) (h : Own w g cs) (hcs : cs.length = 2 * n) (hl : n ≤ 1048576) (h1 : 1 ≤ k) (hk : k ≤ 10000000) :
    Calls Tryz.prog 128 #[.slice (some ⟨g, 0, none⟩) n c, .int .i64 (k : Int)] w (MarkPost g w) :=
  (markRotorS_to g n c k cs w h hcs hl h1 hk).mono fun _ _ h => ⟨_, h.1, h.2⟩
end Go.Proofs.YtdmnkcmkpjmfaaaGreat

/- Contracts of the laws' own functions on rotors and wheels: sizes, copies, comparison. -/
namespace Go.Proofs.YtdmnkcmkpjmfaaaGreat
open Go.RowKit

def SzOne (r : Rot) (left : Int) (w : World) (e : Ending) (w' : World) : Prop :=
  ∃ q : Int, e = .returned (.int .i64 q) ∧ Below w.heap.size w w' ∧ (q = -1 ∨ (0 ≤ q ∧ q ≤ left ∧ (r.wiring.size : Int) ≤ left ∧ (r.notches.size : Int) ≤ left))
theorem szRotor_any (r : Rot) (left : Int) (w : World) (z1 : r.wiring.size ≤ 9223372036854775807) (z2 : r.notches.size ≤ 9223372036854775807) (h0 : 0 ≤ left) (h1 : left ≤ 1048576) :
    Calls Tryz.prog 147 #[.agg #[.string r.wiring, .string r.notches], .int .i64 left] w (SzOne r left w) := by
  have hb := (Below.refl w.heap.size w).alloc (Nat.le_refl _) (.cells [.string r.wiring, .string r.notches].toArray 165)
  by_cases hs : left < r.wiring.size
  · go_enter Tryz.func147, Tryz.ntmps147
    go_wp2
    go_ret
    exact ⟨-1, rfl, hb, .inl rfl⟩
  · by_cases hs2 : left - r.wiring.size < r.notches.size
    · go_enter Tryz.func147, Tryz.ntmps147
      go_wp2
      go_ret
      exact ⟨-1, rfl, hb, .inl rfl⟩
    · go_enter Tryz.func147, Tryz.ntmps147
      go_wp2
      go_ret
      exact ⟨left - r.wiring.size - r.notches.size, rfl, hb, .inr ⟨by omega, by omega, by omega, by omega⟩⟩

/-- The strings of some rotors are small. -/
def SmR (rs : List Rot) (left : Int) : Prop := ∀ r ∈ rs, (r.wiring.size : Int) ≤ left ∧ (r.notches.size : Int) ≤ left
def smTo (rs : List Rot) (left : Int) (k : Nat) : Prop := ∀ j (h : j < rs.length), j < k → (rs[j].wiring.size : Int) ≤ left ∧ (rs[j].notches.size : Int) ≤ left
def BigR (rs : List Rot) : Prop := (∀ r ∈ rs, r.wiring.size ≤ 9223372036854775807 ∧ r.notches.size ≤ 9223372036854775807) ∧ rs.length ≤ 9223372036854775807
def SzRs (rs : List Rot) (left : Int) (w : World) (e : Ending) (w' : World) : Prop :=
  ∃ q : Int, e = .returned (.int .i64 q) ∧ Below w.heap.size w w' ∧ (q = -1 ∨ (0 ≤ q ∧ q ≤ left ∧ (rs.length : Int) ≤ left ∧ SmR rs left))
theorem szRotorS_any (a : Option Addr) (c : Nat) (rs : List Rot) (left : Int) (w : World) (h : Reads w w.heap.size a (rvs rs)) (hz : BigR rs) (h0 : 0 ≤ left) (h1 : left ≤ 1048576) :
    Calls Tryz.prog 116 #[.slice a rs.length c, .int .i64 left] w (SzRs rs left w) := by
  have hl := hz.2
  have Z := Lib.hid hz.1
  clear hz
  by_cases hn : left < rs.length
  · go_enter Tryz.func116, Tryz.ntmps116
    go_wp2
    go_ret
    exact ⟨-1, rfl, Below.refl _ _, .inl rfl⟩
  · have HR := Lib.hid h
    clear h
    go_enter Tryz.func116, Tryz.ntmps116
    go_wp2
    go_loopw [1, 5] (fun l i wr => ∃ (k : Nat) (q : Int), k ≤ rs.length ∧ i = .int .i64 k ∧ l = .int .i64 q ∧ 0 ≤ q ∧ q ≤ left ∧ smTo rs left k ∧ Below w.heap.size w wr) (fun _ i _ => rs.length - (intOf i).toNat)
    case atStart => exact ⟨0, left - rs.length, Nat.zero_le _, rfl, rfl, by omega, by omega, fun _ _ h => absurd h (by omega), Below.refl _ _⟩
    case round =>
      obtain ⟨k, q, hk, rfl, rfl, hq0, hq1, ha, hb⟩ := hrel
      by_cases hlt : k < rs.length
      · obtain ⟨b, off, rfl, hbl, hc⟩ := HR.out.cells (by rw [len_rvs]; omega)
        obtain ⟨f0, f1⟩ := rot_cells (hc.below hb hbl) hlt
        have z1 := (Z.out _ (List.getElem_mem hlt)).1
        have z2 := (Z.out _ (List.getElem_mem hlt)).2
        have q1 : (k : Int) < (rs.length : Int) := by omega
        have HA := Lib.hid ha
        clear hc ha
        go_wp2_with fail
        refine (szRotor_any rs[k] q _ z1 z2 hq0 (by omega)).mono ?_
        rintro e w1 ⟨q', rfl, hb1, hq⟩
        have hb' := bt hb hb1
        clear hb hb1 f0 f1
        rcases hq with rfl | ⟨p0, p1, p2, p3⟩
        · go_wp2
          go_ret
          exact ⟨-1, rfl, hb', .inl rfl⟩
        · go_wp2
          go_roundw
          case rel =>
            refine ⟨k + 1, q', by omega, by go_num, rfl, by omega, by omega, fun j hj hlt' => ?_, hb'⟩
            by_cases e : j = k
            · subst e; exact ⟨by omega, by omega⟩
            · exact HA.out j hj (by omega)
          case measure => simp [intOf]; omega
      · go_wp2
        go_ret
        refine ⟨q, rfl, hb, .inr ⟨hq0, hq1, by omega, fun r hr => ?_⟩⟩
        obtain ⟨j, hj, rfl⟩ := List.getElem_of_mem hr
        exact ha j hj (by omega)

/-- Wheels are small. -/
structure SmW (x : Whl) : Prop where
  few : x.rotors.length ≤ 1048576
  rot : ∀ r ∈ x.rotors, r.wiring.size ≤ 1048576 ∧ r.notches.size ≤ 1048576
  refl : x.refl.size ≤ 1048576
theorem SmW.at_ {x : Whl} (h : SmW x) {w : World} {B : Nat} {a : Option Addr} (hr : Reads w B a (rvs x.rotors)) : WhlAt w B a x.rotors.length x :=
  ⟨hr, rfl, h.few, fun r hr => ⟨by have := (h.rot r hr).1; omega, by have := (h.rot r hr).2; omega⟩, by have := h.refl; omega⟩
def SzW (x : Whl) (left : Int) (w : World) (e : Ending) (w' : World) : Prop :=
  ∃ q : Int, e = .returned (.int .i64 q) ∧ Below w.heap.size w w' ∧ (q = -1 ∨ (0 ≤ q ∧ q ≤ left ∧ SmW x))
theorem szWheels_any (a : Option Addr) (c : Nat) (x : Whl) (left : Int) (w : World) (h : Reads w w.heap.size a (rvs x.rotors)) (hz : BigR x.rotors) (hr : x.refl.size ≤ 9223372036854775807) (h0 : 0 ≤ left) (h1 : left ≤ 1048576) :
    Calls Tryz.prog 66 #[.agg #[.slice a x.rotors.length c, .string x.refl], .int .i64 left] w (SzW x left w) := by
  have o0 := Own.new w [.slice a x.rotors.length c, .string x.refl] 24
  have hb0 := (Below.refl w.heap.size w).alloc (Nat.le_refl _) (.cells [.slice a x.rotors.length c, .string x.refl].toArray 24)
  have h' : Reads (w.alloc (.cells [.slice a x.rotors.length c, .string x.refl].toArray 24)) (w.alloc (.cells [.slice a x.rotors.length c, .string x.refl].toArray 24)).heap.size a (rvs x.rotors) := (h.below hb0 (Nat.le_refl _)).more hb0.size
  go_enter Tryz.func66, Tryz.ntmps66
  go_wp2_with fail
  refine (szRotorS_any a c x.rotors left _ h' hz h0 h1).mono ?_
  rintro e w1 ⟨q, rfl, hb1, hq⟩
  have o1 := o0.below hb1 o0.lt
  have c1 := o1.at_ (i := 1) rfl
  have hb' := bt hb0 hb1
  clear o0 hb0 h' hb1 h
  rcases hq with rfl | ⟨p0, p1, p2, p3⟩
  · go_wp2
    go_ret
    exact ⟨-1, rfl, hb', .inl rfl⟩
  · have HP := Lib.hid p3
    clear p3
    by_cases hs : q < x.refl.size
    · go_wp2
      go_ret
      exact ⟨-1, rfl, hb', .inl rfl⟩
    · go_wp2
      go_ret
      refine ⟨q - x.refl.size, rfl, hb', .inr ⟨by omega, by omega, by omega, fun r hr => ?_, by omega⟩⟩
      have := HP.out r hr
      omega

theorem toRotor_any (r : Rot) (w : World) :
    Calls Tryz.prog 154 #[.agg #[.string r.wiring, .string r.notches]] w fun e w' => e = .returned (.agg #[.string r.wiring, .string r.notches]) ∧ Below w.heap.size w w' := by
  go_enter Tryz.func154, Tryz.ntmps154
  go_wp2
  refine bodyPost_ret (v := .agg #[.string r.wiring, .string r.notches]) (by simp [results, Tryz.results154, go_sem]) rfl ⟨rfl, ?_⟩
  exact ((((((Below.refl w.heap.size w).alloc (Nat.le_refl _) _).alloc (by simp) _).alloc (by simp; omega) _)))
end Go.Proofs.YtdmnkcmkpjmfaaaGreat

/- Contracts of the laws' own functions on wheels: copies, comparison, marks. -/
namespace Go.Proofs.YtdmnkcmkpjmfaaaGreat
open Go.RowKit

theorem rvs_set : ∀ (rs : List Rot) (k : Nat) (r : Rot), k < rs.length → put (rvs rs) (k * 2) (rv r) = rvs (rs.set k r)
  | _ :: _, 0, r, _ => by simp [put, rvs, rv]
  | q :: rs, k + 1, r, h => by
    have ih := rvs_set rs k r (by simpa using h)
    rw [show (k + 1) * 2 = k * 2 + 1 + 1 by omega]
    simp only [put, rv, rvs, List.take_succ_cons, List.length_cons, List.length_nil, List.set_cons_succ, List.cons_append, Nat.zero_add]
    rw [show k * 2 + 1 + 1 + (1 + 1) = (k * 2 + 2) + 1 + 1 by omega, List.drop_succ_cons, List.drop_succ_cons]
    rw [← ih]
    simp [put, rv]
/-- A rotor of empty strings. -/
def rot0 : Rot := ⟨⟨#[]⟩, ⟨#[]⟩⟩
theorem rvs_rep (n : Nat) : (madeCells #[.string ⟨#[]⟩, .string ⟨#[]⟩] (n * 2)) = (rvs (List.replicate n rot0)).toArray := by
  apply Array.toList_inj.1
  refine List.ext_getElem ?_ fun i h1 h2 => ?_
  · have := size_madeCells #[.string ⟨#[]⟩, .string ⟨#[]⟩] (n * 2)
    simp [len_rvs]; omega
  · have hall : ∀ (k : Nat), ∀ v ∈ rvs (List.replicate k rot0), v = .string ⟨#[]⟩ := by
      intro k
      induction k with
      | zero => intro v hv; simp [rvs] at hv
      | succ k ih =>
        intro v hv
        rw [List.replicate_succ] at hv
        simp only [rvs, List.mem_cons] at hv
        rcases hv with rfl | rfl | hv
        · rfl
        · rfl
        · exact ih v hv
    have e2 : (rvs (List.replicate n rot0)).toArray.toList[i] = .string ⟨#[]⟩ := hall n _ (List.getElem_mem _)
    rw [e2]
    simp only [madeCells, Array.toList_map, List.getElem_map]
    have : ∀ j : Nat, (#[Value.string ⟨#[]⟩, .string ⟨#[]⟩] : Array Value)[j % 2]! = .string ⟨#[]⟩ := fun j => by
      rcases Nat.mod_two_eq_zero_or_one j with e | e <;> rw [e] <;> rfl
    exact this _
theorem inf_rot : (Tryz.prog.info? 159).map (fun i => (i.zero, i.size, i.bytes)) = some (some (.agg #[.string ⟨#[]⟩, .string ⟨#[]⟩]), 2, 32) := by kernel_rfl
theorem make_rot (n : Nat) (hn : n ≤ 1048576) (w : World) : (Instr.makeSlice 32 (.int .i64 (n : Int)) (.int .i64 (n : Int))).run Tryz.prog w = .ok (.slice (some ⟨w.heap.size, 0, none⟩) n n) (w.alloc (.cells (rvs (List.replicate n rot0)).toArray 159)) := by
  obtain ⟨i, hi, h1, h2, h3⟩ := info_parts inf_rot
  have hr := run_make (P := Tryz.prog) w 32 159 i _ Tryz.underlying32 hi h1 .i64 .i64 n n (by omega) (by omega) (by rw [h3]; omega) (by omega)
  simp only [Int.toNat_natCast, h2] at hr
  have hz : (Value.agg #[.string ⟨#[]⟩, .string ⟨#[]⟩]).cells = #[.string ⟨#[]⟩, .string ⟨#[]⟩] := rfl
  rw [hz, rvs_rep] at hr
  exact hr

theorem put_two {cs : List Value} {k : Nat} {u v : Value} (h : k + 1 < cs.length) : put cs k [u, v] = (cs.set k u).set (k + 1) v := by
  refine List.ext_getElem (by simp [put]; omega) fun i h1 h2 => ?_
  have hi : i < cs.length := by simpa using h2
  simp only [put, List.append_assoc, List.getElem_set]
  rw [List.getElem_append]
  split
  · rename_i hlt
    have : i < k := by simp at hlt; omega
    rw [if_neg (by omega), if_neg (by omega), List.getElem_take]
  · rename_i hge
    have hlk : (cs.take k).length = k := by simp; omega
    have hik : k ≤ i := by omega
    by_cases e0 : i = k
    · subst e0; simp [hlk]
    · by_cases e1 : i = k + 1
      · subst e1; simp [hlk]
      · rw [if_neg (by omega), if_neg (by omega)]
        rw [List.getElem_append_right (by simp; omega)]
        simp only [List.getElem_drop, List.length_cons, List.length_nil, hlk]
        congr 1; omega
def CopyR (rs : List Rot) (w : World) (e : Ending) (w' : World) : Prop :=
  ∃ g, w.heap.size ≤ g ∧ e = .returned (.slice (some ⟨g, 0, none⟩) rs.length rs.length) ∧ Own w' g (rvs rs) ∧ Below w.heap.size w w'
theorem toRotorS_any (a : Option Addr) (c : Nat) (rs : List Rot) (w : World) (h : Reads w w.heap.size a (rvs rs)) (hl : rs.length ≤ 1048576) :
    Calls Tryz.prog 125 #[.slice a rs.length c] w (CopyR rs w) := by
  have hmk := make_rot rs.length hl
  have HR := Lib.hid h
  clear h
  go_enter Tryz.func125, Tryz.ntmps125
  go_wp2
  go_loopw [4] (fun i wr => ∃ k : Nat, k ≤ rs.length ∧ i = .int .i64 k ∧ Below w.heap.size w wr ∧ Own wr w.heap.size (rvs (rs.take k ++ (List.replicate rs.length rot0).drop k))) (fun i _ => rs.length - (intOf i).toNat)
  case atStart => exact ⟨0, Nat.zero_le _, rfl, (Below.refl _ _).alloc (Nat.le_refl _) _, by simpa using Own.new w (rvs (List.replicate rs.length rot0)) 159⟩
  case round =>
    clear hmk
    obtain ⟨k, hk, rfl, hbel, hown⟩ := hrel
    by_cases hlt : k < rs.length
    · obtain ⟨b, off, rfl, hb, hc⟩ := HR.out.cells (by rw [len_rvs]; omega)
      obtain ⟨f0, f1⟩ := rot_cells (hc.below hbel hb) hlt
      clear hc
      have hlen : Hid ((rs.take k ++ (List.replicate rs.length rot0).drop k).length = rs.length) := by
        show _ = _
        rw [fill_len (by simp) hk]
      have q1 : (k : Int) < (rs.length : Int) := by omega
      go_wp2_with fail
      refine (toRotor_any rs[k] _).mono ?_
      rintro e w1 ⟨rfl, hb1⟩
      have o1 := hown.below hb1 hown.lt
      have l1 : (rvs (rs.take k ++ (List.replicate rs.length rot0).drop k)).length = 2 * rs.length := by rw [len_rvs, hlen.out]
      have L1 := Lib.hid l1
      clear l1
      obtain ⟨y0, g0⟩ := o1.some_ (i := k * 2) (by rw [L1.out]; omega)
      obtain ⟨y1, g1⟩ := o1.some_ (i := k * 2 + 1) (by rw [L1.out]; omega)
      have e0 := o1.free (k * 2) (by rw [L1.out]; omega)
      have e1 := o1.free (k * 2 + 1) (by rw [L1.out]; omega)
      go_wp2
      go_roundw
      case rel =>
        refine ⟨k + 1, by omega, by go_num, ((bt hbel hb1).setCell (by simp) _).setCell (by simp) _, ?_⟩
        have h0 := (o1.set_ (i := k * 2) (by rw [L1.out]; omega) (.string rs[k].wiring)).set_ (i := k * 2 + 1) (by rw [List.length_set, L1.out]; omega) (.string rs[k].notches)
        have hset := rvs_set (rs.take k ++ (List.replicate rs.length rot0).drop k) k rs[k] (by rw [hlen.out]; exact hlt)
        rw [fill_set hlt (by simp)] at hset
        rw [← hset]
        have hp : put (rvs (rs.take k ++ (List.replicate rs.length rot0).drop k)) (k * 2) (rv rs[k]) = ((rvs (rs.take k ++ (List.replicate rs.length rot0).drop k)).set (k * 2) (.string rs[k].wiring)).set (k * 2 + 1) (.string rs[k].notches) := put_two (by rw [L1.out]; omega)
        rw [hp]
        exact h0
      case measure => simp [intOf]; omega
    · have hk' : k = rs.length := by omega
      subst hk'
      go_wp2
      go_ret
      refine ⟨w.heap.size, Nat.le_refl _, rfl, ?_, hbel⟩
      rw [List.take_length, List.drop_of_length_le (by simp), List.append_nil] at hown
      exact hown
end Go.Proofs.YtdmnkcmkpjmfaaaGreat

/- Contracts of the laws' own functions on wheels as a whole. -/
namespace Go.Proofs.YtdmnkcmkpjmfaaaGreat
open Go.RowKit

/-- New wheels: their rotors lie in a block of their own. -/
def NewW (x : Whl) (w : World) (e : Ending) (w' : World) : Prop :=
  ∃ g, w.heap.size ≤ g ∧ e = .returned (.agg #[.slice (some ⟨g, 0, none⟩) x.rotors.length x.rotors.length, .string x.refl]) ∧ Own w' g (rvs x.rotors) ∧ Below w.heap.size w w'
theorem toWheels_any (a : Option Addr) (c : Nat) (x : Whl) (w : World) (h : Reads w w.heap.size a (rvs x.rotors)) (hs : SmW x) :
    Calls Tryz.prog 73 #[.agg #[.slice a x.rotors.length c, .string x.refl]] w (NewW x w) := by
  have hl := hs.few
  have H := Lib.hid h
  clear h hs
  go_enter Tryz.func73, Tryz.ntmps73
  go_wp2_with fail
  obtain ⟨W, hW⟩ : ∃ W, W = (((w.alloc (Obj.cells #[Value.slice a x.rotors.length c, .string x.refl] 24)).alloc (Obj.cells #[Value.slice none 0 0, .string ⟨#[]⟩] 34)).alloc (Obj.cells #[Value.slice none 0 0, .string ⟨#[]⟩] 34)) := ⟨_, rfl⟩
  have o0 : Own W w.heap.size [Value.slice a x.rotors.length c, .string x.refl] := by
    rw [hW]; exact ((Own.new w _ _).alloc _).alloc _
  have o1 : Own W (w.heap.size + 1) [Value.slice none 0 0, .string ⟨#[]⟩] := by
    rw [hW]; have := (Own.new (w.alloc (Obj.cells #[Value.slice a x.rotors.length c, .string x.refl] 24)) [Value.slice none 0 0, .string ⟨#[]⟩] 34).alloc (Obj.cells #[Value.slice none 0 0, .string ⟨#[]⟩] 34); simpa using this
  have o2 : Own W (w.heap.size + 1 + 1) [Value.slice none 0 0, .string ⟨#[]⟩] := by
    rw [hW]; have := Own.new ((w.alloc (Obj.cells #[Value.slice a x.rotors.length c, .string x.refl] 24)).alloc (Obj.cells #[Value.slice none 0 0, .string ⟨#[]⟩] 34)) [Value.slice none 0 0, .string ⟨#[]⟩] 34; simpa using this
  have hb : Below w.heap.size w W := by
    rw [hW]; exact (((Below.refl _ _).alloc (Nat.le_refl _) _).alloc (by simp) _).alloc (by simp; omega) _
  rw [← hW]
  clear hW
  have hR : Reads W W.heap.size a (rvs x.rotors) := (H.out.below hb (Nat.le_refl _)).more hb.size
  refine (toRotorS_any a c x.rotors W hR hl).mono ?_
  rintro e w1 ⟨g, hg, rfl, og, hb1⟩
  have l2 := o2.lt
  have k0 := o0.below hb1 o0.lt
  have k1 := o1.below hb1 o1.lt
  have k2 := o2.below hb1 o2.lt
  have kb := bt hb hb1
  clear o0 o1 o2 hb hb1 hR
  have f1 := k2.at_ (i := 0) rfl
  have f2 := k2.free 0 (by simp)
  have f3 := k0.at_ (i := 1) rfl
  have f4 := k2.at_ (i := 1) rfl
  have f5 := k2.free 1 (by simp)
  have f6 := k1.at_ (i := 0) rfl
  have f7 := k1.at_ (i := 1) rfl
  have f8 := k1.free 0 (by simp)
  have f9 := k1.free 1 (by simp)
  go_wp2
  refine bodyPost_ret (v := .agg #[.slice (some ⟨g, 0, none⟩) x.rotors.length x.rotors.length, .string x.refl]) (by simp [results, Tryz.results73, go_sem, f6, f7]) rfl ?_
  refine ⟨g, by omega, rfl, ?_, ?_⟩
  · exact (((og.far (p := ⟨w.heap.size + 1 + 1, 0, none⟩) (by simp; omega) _).far (p := ⟨w.heap.size + 1 + 1, 1, none⟩) (by simp; omega) _).far (p := ⟨w.heap.size + 1, 0, none⟩) (by simp; omega) _).far (p := ⟨w.heap.size + 1, 1, none⟩) (by simp; omega) _
  · exact (((kb.setCell (by simp; omega) _).setCell (by simp; omega) _).setCell (by simp) _).setCell (by simp) _

theorem eqRotor_any (r : Rot) (w : World) :
    Calls Tryz.prog 156 #[.agg #[.string r.wiring, .string r.notches], .agg #[.string r.wiring, .string r.notches]] w fun e w' => e = .returned (.bool true) ∧ Below w.heap.size w w' := by
  go_enter Tryz.func156, Tryz.ntmps156
  go_wp2
  go_ret
  exact ⟨rfl, ((Below.refl w.heap.size w).alloc (Nat.le_refl _) _).alloc (by simp) _⟩
theorem eqRotorS_any (a b : Option Addr) (c d : Nat) (rs : List Rot) (w : World) (h1 : Reads w w.heap.size a (rvs rs)) (h2 : Reads w w.heap.size b (rvs rs)) (hl : rs.length ≤ 1048576) :
    Calls Tryz.prog 127 #[.slice a rs.length c, .slice b rs.length d] w fun e w' => e = .returned (.bool true) ∧ Below w.heap.size w w' := by
  have R1 := Lib.hid h1
  have R2 := Lib.hid h2
  clear h1 h2
  go_enter Tryz.func127, Tryz.ntmps127
  go_wp2
  go_loopw [5] (fun i wr => ∃ k : Nat, k ≤ rs.length ∧ i = .int .i64 k ∧ Below w.heap.size w wr) (fun i _ => rs.length - (intOf i).toNat)
  case atStart => exact ⟨0, Nat.zero_le _, rfl, Below.refl _ _⟩
  case round =>
    obtain ⟨k, hk, rfl, hb⟩ := hrel
    by_cases hlt : k < rs.length
    · obtain ⟨b1, off1, rfl, hb1, hc1⟩ := R1.out.cells (by rw [len_rvs]; omega)
      obtain ⟨b2, off2, rfl, hb2, hc2⟩ := R2.out.cells (by rw [len_rvs]; omega)
      obtain ⟨f0, f1⟩ := rot_cells (hc1.below hb hb1) hlt
      obtain ⟨g0, g1⟩ := rot_cells (hc2.below hb hb2) hlt
      clear hc1 hc2
      have hz := hb.size
      have q1 : (k : Int) < (rs.length : Int) := by omega
      have l1 : b1 < wr.heap.size := by omega
      have l2 : b2 < wr.heap.size := by omega
      have d0 := fun (cc : Cls wr.heap.size wr) => (cc.cell b1 (off1 + k * 2) l1).trans f0
      have d1 := fun (cc : Cls wr.heap.size wr) => (cc.cell b1 (off1 + k * 2 + 1) l1).trans f1
      have e0 := fun (cc : Cls wr.heap.size wr) => (cc.cell b2 (off2 + k * 2) l2).trans g0
      have e1 := fun (cc : Cls wr.heap.size wr) => (cc.cell b2 (off2 + k * 2 + 1) l2).trans g1
      go_wp2_with fail
      refine wp_region_cls (by kernel_rfl) (by kernel_rfl) ?_
      repeat (go_big_quiet_step (first | (go_at_call 156; with_reducible exact cls_of (Nat.le_refl _) (eqRotor_any _ _))))
      refine wpQuiet_nil ?_
      intro wc hbc
      go_wp2
      go_roundw
      case rel => exact ⟨k + 1, by omega, by go_num, bt hb hbc⟩
      case measure => simp [intOf]; omega
    · go_wp2
      go_ret
      exact ⟨rfl, hb⟩
theorem eqWheels_any (a b : Option Addr) (c d : Nat) (x : Whl) (w : World) (h1 : Reads w w.heap.size a (rvs x.rotors)) (h2 : Reads w w.heap.size b (rvs x.rotors)) (hl : x.rotors.length ≤ 1048576) :
    Calls Tryz.prog 80 #[.agg #[.slice a x.rotors.length c, .string x.refl], .agg #[.slice b x.rotors.length d, .string x.refl]] w fun e w' => e = .returned (.bool true) ∧ Below w.heap.size w w' := by
  have o0 := fun o => (Own.new w [.slice a x.rotors.length c, .string x.refl] 34).alloc o
  have o1 := fun A => Own.new (w.alloc A) [.slice b x.rotors.length d, .string x.refl] 34
  have hb0 := fun A B => ((Below.refl w.heap.size w).alloc (Nat.le_refl _) A).alloc (by simp) B
  have R1 := Lib.hid (fun A B => (h1.below (hb0 A B) (Nat.le_refl _)).more (hb0 A B).size)
  have R2 := Lib.hid (fun A B => (h2.below (hb0 A B) (Nat.le_refl _)).more (hb0 A B).size)
  simp only [World.size_alloc] at o1
  clear h1 h2
  go_enter Tryz.func80, Tryz.ntmps80
  go_wp2_with fail
  refine (eqRotorS_any a b c d x.rotors _ (R1.out _ _) (R2.out _ _) hl).mono ?_
  rintro e w1 ⟨rfl, hb1⟩
  have k0 := (o0 _).below hb1 (o0 _).lt
  have k1 := (o1 _).below hb1 (o1 _).lt
  have f0 := k0.at_ (i := 1) rfl
  have f1 := k1.at_ (i := 1) rfl
  have kb := bt (hb0 _ _) hb1
  clear o0 o1 hb0 hb1 R1 R2
  go_wp2
  go_ret
  exact ⟨rfl, kb⟩

theorem markWheels_to (g c : Nat) (x : Whl) (k : Nat) (w : World) (h : Own w g (rvs x.rotors)) (hl : x.rotors.length ≤ 1048576) (h1 : 1 ≤ k) (hk : k ≤ 1000000) :
    Calls Tryz.prog 82 #[.agg #[.slice (some ⟨g, 0, none⟩) x.rotors.length c, .string x.refl], .int .i64 (k : Int)] w (MarkTo g (k + 2 * x.rotors.length) w) := by
  have h' := fun o => h.alloc o
  have hb0 := fun A => (Below.refl w.heap.size w).alloc (Nat.le_refl _) A
  go_enter Tryz.func82, Tryz.ntmps82
  go_wp2_with fail
  refine (markRotorS_to g x.rotors.length c k _ _ (h' _) (len_rvs _) hl h1 (by omega)).mono ?_
  rintro e w1 ⟨rfl, hg⟩
  have hb := hb0 (.cells #[.slice (some ⟨g, 0, none⟩) x.rotors.length c, .string x.refl] 34)
  clear h' hb0
  go_wp2
  go_ret
  exact ⟨rfl, grown_trans ⟨hb.os, hb.tape, hb.output, hb.size, fun i hi _ => hb.block i hi⟩ hg⟩
theorem markWheels_any (g c : Nat) (x : Whl) (k : Nat) (w : World) (h : Own w g (rvs x.rotors)) (hl : x.rotors.length ≤ 1048576) (h1 : 1 ≤ k) (hk : k ≤ 1000000) :
    Calls Tryz.prog 82 #[.agg #[.slice (some ⟨g, 0, none⟩) x.rotors.length c, .string x.refl], .int .i64 (k : Int)] w (MarkPost g w) :=
  (markWheels_to g c x k w h hl h1 hk).mono fun _ _ h => ⟨_, h.1, h.2⟩
end Go.Proofs.YtdmnkcmkpjmfaaaGreat
