/- Several of my texts in one: Row, SheetI, SheetS, DrawSh, ShW. -/
import Derived.Test.YtbeohccbflhdiaaGreatM2
import Derived.Test.YtbeohccbflhdiaaGreatM27
import Derived.Test.YtbeohccbflhdiaaGreatM30
import Derived.Test.YtbeohccbflhdiaaGreatM8
import Derived.Test.YtbeohccbflhdiaaGreatM25
import Derived.Test.YtbeohccbflhdiaaGreatM31
import Derived.Test.YtbeohccbflhdiaaGreatM23
import Derived.Test.YtbeohccbflhdiaaGreatM14
/- Rows of a sheet: sets of letters as bits, and as texts. -/
namespace Go.Proofs.YtbeohccbflhdiaaGreat
open Go.RowKit

/-- The letters below k with a property, as bits. -/
def rowN (P : Nat → Bool) (k : Nat) : Nat := mask ((List.range k).filter P)
/-- The bytes of a row. -/
def rowL (P : Nat → Bool) : List UInt8 := (List.range 10).map fun i => if P i then 49 else 48
def rowS (P : Nat → Bool) : ByteArray := S (rowL P)
theorem len_rowL (P : Nat → Bool) : (rowL P).length = 10 := by simp [rowL]
theorem size_rowS (P : Nat → Bool) : (rowS P).size = 10 := by rw [rowS, size_S, len_rowL]
theorem rowN_zero (P : Nat → Bool) : rowN P 0 = 0 := rfl
theorem rowN_succ (P : Nat → Bool) (k : Nat) : rowN P (k + 1) = if P k = true then rowN P k ||| 2 ^ k else rowN P k := by
  unfold rowN
  rw [List.range_succ, List.filter_append]
  by_cases h : P k = true
  · rw [if_pos h, List.filter_cons, if_pos h, List.filter_nil, mask_snoc]
  · rw [if_neg h, List.filter_cons, if_neg h, List.filter_nil, List.append_nil]
theorem rowN_test (P : Nat → Bool) (k i : Nat) : (rowN P k).testBit i = (decide (i < k) && P i) := by
  unfold rowN
  rw [mask_test, Bool.eq_iff_iff]
  simp
theorem rowN_lt {P : Nat → Bool} {k : Nat} (h : k ≤ 10) : rowN P k < 1024 := by
  refine mask_lt fun x hx => ?_
  have := (List.mem_filter.1 hx).1
  simp at this; omega
theorem rowL_at (P : Nat → Bool) {k : Nat} (h : k < 10) : (rowL P)[k]'(by rw [len_rowL]; exact h) = if P k then 49 else 48 := by simp [rowL]
theorem u64_of (a : Nat) (ha : a < 18446744073709551616) : (BitVec.ofInt 64 (a : Int)).toNat = a := by
  rw [BitVec.toNat_ofInt]; omega
theorem u64_wrap (n : Int) : IntKind.u64.wrap n = n % 18446744073709551616 := by simp [IntKind.wrap, IntKind.bits, IntKind.signed]
theorem u64_and_nat (a b : Nat) (ha : a < 18446744073709551616) (hb : b < 18446744073709551616) : bits .and .u64 (a : Int) (b : Int) = ((a &&& b : Nat) : Int) := by
  have hx : a &&& b ≤ a := Nat.and_le_left
  show IntKind.u64.wrap ((BitVec.ofInt 64 (a : Int) &&& BitVec.ofInt 64 (b : Int)).toNat : Int) = _
  rw [BitVec.toNat_and, u64_of a ha, u64_of b hb, u64_wrap]
  omega
theorem u64_or_nat (a b : Nat) (ha : a < 18446744073709551616) (hb : b < 18446744073709551616) : bits .or .u64 (a : Int) (b : Int) = ((a ||| b : Nat) : Int) := by
  have hx : a ||| b < 2 ^ 64 := Nat.or_lt_two_pow (by omega) (by omega)
  show IntKind.u64.wrap ((BitVec.ofInt 64 (a : Int) ||| BitVec.ofInt 64 (b : Int)).toNat : Int) = _
  rw [BitVec.toNat_or, u64_of a ha, u64_of b hb, u64_wrap]
  omega
theorem u64_push (r k : Nat) (hr : r < 1024) (hk : k < 10) : bits .or .u64 (r : Int) (IntKind.u64.wrap (2 ^ k)) = ((r ||| 2 ^ k : Nat) : Int) := by
  have h1 := Nat.pow_le_pow_right (n := 2) (by omega) (show k ≤ 9 by omega)
  have h2 : (2 : Int) ^ k = ((2 ^ k : Nat) : Int) := by simp
  have h4 : (2 ^ k : Nat) ≤ 512 := h1
  have h3 : IntKind.u64.wrap (2 ^ k) = ((2 ^ k : Nat) : Int) := by
    rw [u64_wrap, h2]
    clear h1 h2
    generalize (2 ^ k : Nat) = n at *
    omega
  rw [h3, u64_or_nat _ _ (by omega) (Nat.lt_of_le_of_lt h4 (by omega))]
/-- 'n>>d&1' -/
theorem bit_testU (n d : Nat) (hn : n < 18446744073709551616) : bits .and .u64 ((n : Int) / 2 ^ d) 1 = if n.testBit d then 1 else 0 := by
  have h1 : ((n : Int) / 2 ^ d) = ((n / 2 ^ d : Nat) : Int) := by simp
  have h2 : n / 2 ^ d ≤ n := Nat.div_le_self _ _
  have h3 : n.testBit d = decide (n / 2 ^ d % 2 = 1) := by
    rw [Nat.testBit_eq_decide_div_mod_eq]
  rw [h1, show (1 : Int) = ((1 : Nat) : Int) from rfl, u64_and_nat _ _ (by omega) (by omega), Nat.and_one_is_mod, h3]
  rcases Nat.mod_two_eq_zero_or_one (n / 2 ^ d) with h | h <;> simp [h]
theorem rowString_any (P : Nat → Bool) (w : World) :
    Calls Tryz.prog 108 #[.int .u64 (rowN P 10 : Nat)] w fun e w' => e = .returned (.string (rowS P)) ∧ Below w.heap.size w w' := by
  have hA := len_rowL P
  have hr := rowN_lt (P := P) (k := 10) (by omega)
  have ht := rowN_test P 10
  have HT := Lib.hid ht
  clear ht
  have o3 := Own.new w (bv zb) 94
  have hb := (Below.refl w.heap.size w).alloc (Nat.le_refl _) (.cells (bv zb).toArray 94)
  generalize hr0 : rowN P 10 = r at *
  clear hr0
  go_enter Tryz.func108, Tryz.ntmps108
  go_wp2_with fail
  go_loopw [4, 5] (fun _ i wr => ∃ k : Nat, k ≤ 10 ∧ i = .int .i64 k ∧ Own wr w.heap.size (bv ((rowL P).take k ++ zb.drop k)) ∧ Below w.heap.size w wr) (fun _ i _ => 10 - (intOf i).toNat)
  case atStart => exact ⟨0, by omega, rfl, o3, hb⟩
  case round =>
    clear o3 hb
    obtain ⟨k, hk, rfl, o3, hb⟩ := hrel
    have hl3 : (bv ((rowL P).take k ++ zb.drop k)).length = 10 := by rw [length_bv, fill_len (by rw [hA]; simp [zb]) (by omega), hA]
    by_cases hlt : k < 10
    · obtain ⟨x3, f3⟩ := o3.some_ (i := k) (by omega)
      have g3 := o3.free k (by omega)
      have hfill := Lib.hid (fill_set (A := rowL P) (R := zb) (k := k) (by omega) (by rw [hA]; simp [zb]))
      have htk := HT.out k
      have hat := Lib.hid (rowL_at P hlt)
      rw [decide_eq_true hlt, Bool.true_and] at htk
      have hbt := bit_testU r k (by omega)
      rw [htk] at hbt
      have hv : (48 + bits .and .u64 ((r : Int) / 2 ^ k) 1) % 256 = (((rowL P)[k]'(by omega)).toNat : Int) := by
        rw [hat.out, hbt]
        cases P k <;> rfl
      rw [hat.out] at hv
      clear hbt htk
      go_wp2_with fail
      refine ⟨⟨k + 1, by omega, by go_num, ?_, hb.setCell (by simp) _⟩, by simp [intOf]; omega⟩
      rw [← hfill.out, ← bv_set, hat.out]
      have := o3.set_ (i := k) (by omega) (.int .u8 ((48 + bits .and .u64 ((r : Int) / 2 ^ k) 1) % 256))
      rw [hv] at this
      first | exact this | (rw [hv]; exact this)
    · have hk' : k = 10 := by omega
      subst hk'
      have hfin : (rowL P).take 10 ++ zb.drop 10 = rowL P := by
        rw [List.take_of_length_le (by omega), List.drop_eq_nil_of_le (by simp [zb]), List.append_nil]
      rw [hfin] at o3
      have hc := o3.conv (P := Tryz.prog) 22 9 5 Tryz.underlying22 Tryz.underlying5 Tryz.underlying9 (n := 10) hA.symm 10
      go_wp2
      go_ret
      exact ⟨rfl, hb⟩
theorem rowS_at (P : Nat → Bool) {k : Nat} (h : k < 10) : (rowS P)[k]'(by rw [size_rowS]; exact h) = if P k then 49 else 48 := by
  rw [getElem_L]
  have : L (rowS P) = rowL P := L_S _
  simp only [this]
  exact rowL_at P h
set_option maxRecDepth 100000 in
theorem rowOf_any (P : Nat → Bool) (w : World) :
    Calls Tryz.prog 112 #[.string (rowS P)] w fun e w' => e = .returned (.tuple #[.int .u64 (rowN P 10 : Nat), .bool true]) ∧ w = w' := by
  have hsz := size_rowS P
  have g1 : (rowS P).size ≤ 10 := by omega
  have g2 : 10 ≤ (rowS P).size := by omega
  have t0 : (((rowS P).size : Int) != 10) = false := by rw [bne_eq_false_iff_eq]; omega
  have HAT : Hid (∀ k (h : k < (rowS P).size), (rowS P)[k] = if P k then 49 else 48) := Lib.hid (fun k h => rowS_at P (by rw [size_rowS] at h; exact h))
  generalize rowS P = s at *
  have HSZ := Lib.hid hsz
  clear hsz
  go_enter Tryz.func112, Tryz.ntmps112
  go_wp2_with fail
  go_loop [4, 5, 11] (fun r _ i => ∃ k : Nat, k ≤ 10 ∧ i = .int .i64 k ∧ r = .int .u64 (rowN P k : Nat)) (fun _ _ i => 10 - (intOf i).toNat)
  case atStart => exact ⟨0, by omega, rfl, rfl⟩
  case round =>
    obtain ⟨k, hk, rfl, rfl⟩ := hrel
    by_cases hlt : k < 10
    · have q1 : (0 : Int) ≤ (k : Int) := by omega
      have q2 : (k : Int) < (s.size : Int) := by omega
      have hat := HAT.out k (by omega)
      have HS := Lib.hid (rowN_succ P k)
      have hn := rowN_lt (P := P) (k := k) (by omega)
      cases hp : P k with
      | true =>
        rw [hp, if_pos rfl] at hat
        rw [hp, if_pos rfl] at HS
        have e1 : ((s[k].toNat : Int) == 49) = true := by rw [hat]; rfl
        clear hat hp
        generalize rowN P k = r at *
        have hpu := u64_push r k hn hlt
        go_wp2_with fail
        go_round
        case rel => exact ⟨k + 1, by omega, by go_num, by rw [HS.out]⟩
        case measure => simp [intOf]; omega
      | false =>
        rw [hp, if_neg (by simp)] at hat
        rw [hp, if_neg (by simp)] at HS
        have e1 : ((s[k].toNat : Int) == 49) = false := by rw [hat]; rfl
        have e2 : ((s[k].toNat : Int) == 48) = true := by rw [hat]; rfl
        clear hat hp
        generalize rowN P k = r at *
        go_wp2_with fail
        go_round
        case rel => exact ⟨k + 1, by omega, by go_num, by rw [HS.out]⟩
        case measure => simp [intOf]; omega
    · have hk' : k = 10 := by omega
      subst hk'
      go_wp2
      refine bodyPost_ret (v := .tuple #[.int .u64 (rowN P 10 : Nat), .bool true]) (by simp [results, Tryz.results112, go_sem]) rfl ?_
      exact ⟨rfl, rfl⟩
theorem isOffset_zero (w : World) : Calls Tryz.prog 113 #[.int .i64 0] w fun e w' => e = .returned (.bool true) ∧ w = w' := by
  go_enter Tryz.func113, Tryz.ntmps113
  go_wp2
  go_ret
  exact ⟨by simp, rfl⟩
set_option maxRecDepth 100000 in
theorem implShiftRow_yes (P : Nat → Bool) (w : World) :
    Calls Tryz.prog 58 #[.string (rowS P), .int .i64 0] w fun e w' => e = .returned (.string (rowS P)) ∧ Below w.heap.size w w' := by
  have n1 := fun W => rowOf_any P W
  have hz := size_rowS P
  have g1 : (rowS P).size ≤ 10 := by omega
  have he : (rowS P).extract 0 (rowS P).size ++ (rowS P).extract 0 0 = rowS P := by simp
  go_enter Tryz.func58, Tryz.ntmps58
  have q1 : (0 : Int) ≤ ((rowS P).size : Int) := by omega
  go_wp2_with (first | (go_at_call 112; ((with_reducible refine (n1 _).mono ?_); rintro e w' ⟨rfl, rfl⟩)) | (go_at_call 113; ((with_reducible refine (isOffset_zero _).mono ?_); rintro e w' ⟨rfl, rfl⟩)))
  go_quiet (fail)
  go_wp2
  go_ret
  refine ⟨?_, bel_drewN (Below.refl _ _) _⟩
  first | rfl | (rw [he]) | skip
  done
set_option maxRecDepth 100000 in
theorem implStackRows_one (P : Nat → Bool) (b cp : Nat) (w : World) (h : Own w b [.string (rowS P)]) :
    Calls Tryz.prog 59 #[.slice (some ⟨b, 0, none⟩) 1 cp] w fun e w' => e = .returned (.string (rowS P)) ∧ Below w.heap.size w w' := by
  have n1 := fun W => rowOf_any P W
  have n2 := fun W => rowString_any P W
  have f0 := h.at_ (i := 0) rfl
  have hr := rowN_lt (P := P) (k := 10) (by omega)
  have hand : bits .and .u64 (1023 : Int) ((rowN P 10 : Nat) : Int) = ((rowN P 10 : Nat) : Int) := by
    rw [show (1023 : Int) = ((1023 : Nat) : Int) from rfl, u64_and_nat _ _ (by omega) (by omega), Nat.and_comm, show (1023 : Nat) = 2 ^ 10 - 1 from rfl, Nat.and_two_pow_sub_one_eq_mod, Nat.mod_eq_of_lt (by omega)]
  generalize rowN P 10 = r at *
  generalize rowS P = s at *
  go_enter Tryz.func59, Tryz.ntmps59
  go_wp2_with fail
  go_loop [3, 5, 6, 7, 18] (fun x _ _ _ i => ∃ k : Nat, k ≤ 1 ∧ i = .int .i64 k ∧ ((k = 0 ∧ x = .int .u64 1023) ∨ (k = 1 ∧ x = .int .u64 (r : Int)))) (fun _ _ _ _ i => 1 - (intOf i).toNat)
  case atStart => exact ⟨0, by omega, rfl, .inl ⟨rfl, rfl⟩⟩
  case round =>
    obtain ⟨k, hk, rfl, hx⟩ := hrel
    rcases hx with ⟨rfl, rfl⟩ | ⟨rfl, rfl⟩
    · go_wp2_with (first | (go_at_call 112; ((with_reducible refine (n1 _).mono ?_); rintro e w' ⟨rfl, rfl⟩)))
      go_round
      case rel => exact ⟨1, by omega, by go_num, .inr ⟨rfl, rfl⟩⟩
      case measure => simp [intOf]
    · go_wp2_with (first | (go_at_call 108; ((with_reducible refine (n2 _).mono ?_); rintro e w3 ⟨rfl, hb3⟩)))
      go_ret
      exact ⟨rfl, hb3⟩
end Go.Proofs.YtbeohccbflhdiaaGreat

/- SheetRow of the program. -/
namespace Go.Proofs.YtbeohccbflhdiaaGreat
open Go.RowKit
attribute [local go_sem] Oper.semAt_some

/-- Whether there is a repeat at the grounds of a row. -/
def shP (m : Mach) (p : ByteArray) (q : Int) : Nat → Bool := fun k => hasB m (p ++ S [letr (k : Int)]) q
/-- What SheetRow answers. -/
def sheetT (m : Mach) (p : ByteArray) (q : Int) : ByteArray := if setB m (p ++ S [97]) = true ∧ 0 ≤ q ∧ q ≤ p.size then rowS (shP m p q) else S []
theorem sheetT_yes {m : Mach} {p : ByteArray} {q : Int} (h : setB m (p ++ S [97]) = true ∧ 0 ≤ q ∧ q ≤ p.size) : sheetT m p q = rowS (shP m p q) := by simp only [sheetT, if_pos h]
theorem sheetT_no {m : Mach} {p : ByteArray} {q : Int} (h : ¬ (setB m (p ++ S [97]) = true ∧ 0 ≤ q ∧ q ≤ p.size)) : sheetT m p q = S [] := by simp only [sheetT, if_neg h]
theorem setB_front {m : Mach} {p : ByteArray} {c : UInt8} (h : setB m (p ++ S [c]) = true) : machB m = true ∧ p.size + 1 = m.rings.size ∧ wordB p = true := by
  have h1 := setB_size h
  have h2 := setB_word h
  rw [ByteArray.size_append, size_S] at h1
  refine ⟨setB_mach h, by simpa using h1, ?_⟩
  have hs := wordB_size h2
  rw [ByteArray.size_append, size_S] at hs
  simp only [List.length_cons, List.length_nil] at hs
  simp only [wordB, Bool.and_eq_true, decide_eq_true_eq, List.all_eq_true, L_append, List.mem_append] at h2 ⊢
  exact ⟨by omega, fun c hc => h2.2 c (.inl hc)⟩
theorem setB_tail {m : Mach} {p : ByteArray} {c : UInt8} (hc : isL c = true) (hm : machB m = true) (hs : p.size + 1 = m.rings.size) (hw : wordB p = true) : setB m (p ++ S [c]) = true := by
  have h3 : m.rings.size ≤ 3 := by rw [(machB_fit hm).size]; exact (machB_fit hm).three
  refine setB_mk hm (by rw [ByteArray.size_append, size_S]; simpa using hs) ?_
  simp only [wordB, Bool.and_eq_true, decide_eq_true_eq, List.all_eq_true, L_append, List.mem_append, L_S, List.mem_singleton] at hw ⊢
  refine ⟨by rw [ByteArray.size_append, size_S]; simp; omega, ?_⟩
  rintro x (hx | rfl)
  · exact hw.2 x hx
  · exact hc
theorem setB_back {m : Mach} {p : ByteArray} (hm : machB m = true) (hs : p.size + 1 = m.rings.size) (hw : wordB p = true) : setB m (p ++ S [97]) = true := setB_tail (by decide) hm hs hw
theorem setB_last {m : Mach} {p : ByteArray} {k : Nat} (h : setB m (p ++ S [97]) = true) : setB m (p ++ S [letr (k : Int)]) = true :=
  let ⟨h1, h2, h3⟩ := setB_front h
  setB_tail (isL_letr _) h1 h2 h3
set_option maxRecDepth 100000 in
set_option maxHeartbeats 1000000 in
theorem implSheetRow_any (a : Option Addr) (n c : Nat) (m : Mach) (p : ByteArray) (q : Int) (w : World) (h : MachAt w w.heap.size a n m) (hp : p.size ≤ 4294967296) :
    Calls Tryz.prog 56 #[.agg #[.slice a n c, .string m.wheels.refl, .string m.rings, .string m.plugs], .string p, .int .i64 q] w fun e w' => e = .returned (.string (sheetT m p q)) ∧ Below w.heap.size w w' := by
  have hrg := h.rings
  have o0 := Own.new w [.slice a n c, .string m.wheels.refl, .string m.rings, .string m.plugs] 27
  have hb0 := (Below.refl w.heap.size w).alloc (Nat.le_refl _) (.cells [.slice a n c, .string m.wheels.refl, .string m.rings, .string m.plugs].toArray 27)
  have h' := h.alloc_ (.cells [.slice a n c, .string m.wheels.refl, .string m.rings, .string m.plugs].toArray 27)
  have hsub : IntKind.i64.wrap ((m.rings.size : Int) - 1) = (m.rings.size : Int) - 1 := IntWalk.i64_in _ (by omega)
  go_enter Tryz.func56, Tryz.ntmps56
  go_wp2_with fail
  refine (implMachineValid_any _ _ _ _ _ h').mono ?_
  rintro e w1 ⟨rfl, hb1⟩
  have o1 := o0.below hb1 o0.lt
  have hM := (h'.below hb1 (Nat.le_refl _)).more hb1.size
  have hb := bt hb0 hb1
  clear o0 h' hb0 hb1
  cases hm : machB m with
  | false =>
    clear hsub
    have HM : Hid (sheetT m p q = S []) := Lib.hid (sheetT_no (fun h => by rw [setB_mach h.1] at hm; cases hm))
    go_wp2
    go_ret
    exact ⟨by rw [HM.out]; rfl, hb⟩
  | true =>
    have hr1 : 1 ≤ m.rings.size := by rw [(machB_fit hm).size]; exact (machB_fit hm).one
    have hr3 : m.rings.size ≤ 3 := by rw [(machB_fit hm).size]; exact (machB_fit hm).three
    have f0 := o1.at_ (i := 0) rfl
    have f1 := o1.at_ (i := 1) rfl
    have f2 := o1.at_ (i := 2) rfl
    have f3 := o1.at_ (i := 3) rfl
    by_cases hsz : p.size + 1 = m.rings.size
    · have t1 : ((p.size : Int) != (m.rings.size : Int) - 1) = false := by rw [bne_eq_false_iff_eq]; omega
      have nw := fun W => implWordValid_any p W (by omega)
      cases hw : wordB p with
      | false =>
        rw [hw] at nw
        have HM : Hid (sheetT m p q = S []) := Lib.hid (sheetT_no (fun h => by rw [(setB_front h.1).2.2] at hw; cases hw))
        go_wp2_with (go_at_call 35; ((with_reducible refine (nw _).mono ?_); rintro e w' ⟨rfl, rfl⟩))
        go_ret
        exact ⟨by rw [HM.out]; rfl, hb⟩
      | true =>
        rw [hw] at nw
        by_cases hq0 : q < 0
        · have t2 : decide (q < (0 : Int)) = true := decide_eq_true hq0
          have HM : Hid (sheetT m p q = S []) := Lib.hid (sheetT_no (fun h => by have := h.2.1; omega))
          go_wp2_with (go_at_call 35; ((with_reducible refine (nw _).mono ?_); rintro e w' ⟨rfl, rfl⟩))
          go_ret
          exact ⟨by rw [HM.out]; rfl, hb⟩
        · have t2 : decide (q < (0 : Int)) = false := decide_eq_false hq0
          by_cases hq1 : (m.rings.size : Int) ≤ q
          · have t3 : decide ((m.rings.size : Int) ≤ q) = true := decide_eq_true hq1
            have HM : Hid (sheetT m p q = S []) := Lib.hid (sheetT_no (fun h => by have := h.2.2; omega))
            go_wp2_with (go_at_call 35; ((with_reducible refine (nw _).mono ?_); rintro e w' ⟨rfl, rfl⟩))
            go_ret
            exact ⟨by rw [HM.out]; rfl, hb⟩
          · have t3 : decide ((m.rings.size : Int) ≤ q) = false := decide_eq_false hq1
            have hok : setB m (p ++ S [97]) = true := setB_back hm hsz hw
            have HM : Hid (sheetT m p q = rowS (shP m p q)) := Lib.hid (sheetT_yes ⟨hok, by omega, by omega⟩)
            have HB := Lib.hid (fun k => setB_last (k := k) hok)
            clear hok
            go_wp2_with (go_at_call 35; ((with_reducible refine (nw _).mono ?_); rintro e w' ⟨rfl, rfl⟩))
            go_loopw [7, 8, 37] (fun r _ i wr => ∃ k : Nat, k ≤ 10 ∧ i = .int .i64 k ∧ r = .int .u64 (rowN (shP m p q) k : Nat) ∧ Own wr w.heap.size [.slice a n c, .string m.wheels.refl, .string m.rings, .string m.plugs] ∧ MachAt wr wr.heap.size a n m ∧ Below w.heap.size w wr) (fun _ _ i _ => 10 - (intOf i).toNat)
            case atStart => exact ⟨0, by omega, rfl, rfl, o1, hM, hb⟩
            case round =>
              clear o1 hM hb f0 f1 f2 f3
              obtain ⟨k, hk, rfl, rfl, o1, hM, hb⟩ := hrel
              by_cases hlt : k < 10
              · have HS := Lib.hid (rowN_succ (shP m p q) k)
                have hn := rowN_lt (P := shP m p q) (k := k) (by omega)
                have hpu := u64_push (rowN (shP m p q) k) k hn hlt
                have nl := fun W => implLetter_any (k : Int) W (by omega) (by omega)
                have hps : (p ++ S [letr (k : Int)]).size ≤ 4 := by rw [ByteArray.size_append, size_S]; simp; omega
                have nh := fun W hW => implHasRepeat_any a n c m (p ++ S [letr (k : Int)]) q W hW (by omega)
                rw [show hasB m (p ++ S [letr (k : Int)]) q = shP m p q k from rfl] at nh
                have hsm : p.size + (S [letr (k : Int)]).size ≤ 9223372036854775807 := by rw [size_S]; simp; omega
                have lo := o1.lt
                go_wp2_with fail
                refine wp_onlyN ?_
                refine wp_region_any (by kernel_rfl) ?_
                refine wpAny_of_K (S := fun w' => w'.rangeAt w.heap.size 0 [.slice a n c, .string m.wheels.refl, .string m.rings, .string m.plugs]) (kp := fun _ => true) _ _ _ _ ?_
                have hbd : Below wr.heap.size wr wr.drew := (Below.refl _ _).drew
                have hS : wr.drew.rangeAt w.heap.size 0 [.slice a n c, .string m.wheels.refl, .string m.rings, .string m.plugs] := (o1.below hbd lo).cells.range
                refine kr_take 0 40 (v := .agg #[.slice a n c, .string m.wheels.refl, .string m.rings, .string m.plugs]) rfl (by kernel_rfl) (by kernel_rfl) (by kernel_rfl) (by kernel_rfl) (fun _ _ _ h => by cases h.1) rfl hS (yieldsIf_load_mid (by rfl) _ _ rfl _ _ rfl _ _ (fun _ h => h) Tryz.underlying27 rfl (by kernel_rfl)) ?_
                simp only [Act.put, List.setIfInBounds_toArray, List.set_cons_succ, List.set_cons_zero]
                refine kr_take 1 41 (v := .string p) rfl (by kernel_rfl) (by kernel_rfl) (by kernel_rfl) (by kernel_rfl) (fun _ _ _ h => by cases h.1) rfl hS (Or.inl ⟨by rfl, fun _ _ => rfl⟩) ?_
                simp only [Act.put, List.setIfInBounds_toArray, List.set_cons_succ, List.set_cons_zero]
                refine kr_take 2 42 (v := .int .i64 (k : Int)) rfl (by kernel_rfl) (by kernel_rfl) (by kernel_rfl) (by kernel_rfl) (fun _ _ _ h => by cases h.1) rfl hS (Or.inl ⟨by rfl, fun _ _ => rfl⟩) ?_
                simp only [Act.put, List.setIfInBounds_toArray, List.set_cons_succ, List.set_cons_zero]
                refine kr_take 7 47 (v := .int .i64 q) rfl (by kernel_rfl) (by kernel_rfl) (by kernel_rfl) (by kernel_rfl) (fun _ _ _ h => by cases h.1) rfl hS (Or.inl ⟨by rfl, fun _ _ => rfl⟩) ?_
                simp only [Act.put, List.setIfInBounds_toArray, List.set_cons_succ, List.set_cons_zero]
                refine kr_call 3 43 (by kernel_rfl) rfl (by rfl) rfl (fun w => by simp [go_sem]) (nl wr.drew) (fun w5 hT5 => ?_)
                subst hT5
                refine ⟨hS, ?_⟩
                simp only [Act.put, List.setIfInBounds_toArray, List.set_cons_succ, List.set_cons_zero]
                have oc := Own.new wr.drew (bv [letr (k : Int)]) 5
                have hbc := hbd.alloc (by simp) (.cells (bv [letr (k : Int)]).toArray 5)
                have hSc : (wr.drew.alloc (.cells (bv [letr (k : Int)]).toArray 5)).rangeAt w.heap.size 0 [.slice a n c, .string m.wheels.refl, .string m.rings, .string m.plugs] := (o1.below hbc lo).cells.range
                refine kr_value 4 44 (v := .slice (some ⟨wr.heap.size, 0, none⟩) 1 1) (w' := wr.drew.alloc (.cells (bv [letr (k : Int)]).toArray 5)) (by kernel_rfl) rfl (by rfl) rfl (by simp [go_sem, bv]) ⟨hSc, ?_⟩
                simp only [Act.put, List.setIfInBounds_toArray, List.set_cons_succ, List.set_cons_zero]
                have hcv := oc.conv (P := Tryz.prog) 22 9 5 Tryz.underlying22 Tryz.underlying5 Tryz.underlying9 (n := 1) rfl 1
                rw [show wr.drew.heap.size = wr.heap.size from rfl] at hcv
                refine kr_value 5 45 (v := .string (S [letr (k : Int)])) (w' := wr.drew.alloc (.cells (bv [letr (k : Int)]).toArray 5)) (by kernel_rfl) rfl (by rfl) rfl (by simp [go_sem]; rw [show (wr.alloc (.cells (bv [letr (k : Int)]).toArray 5)).drew = wr.drew.alloc (.cells (bv [letr (k : Int)]).toArray 5) from rfl, hcv]; rfl) ⟨hSc, ?_⟩
                simp only [Act.put, List.setIfInBounds_toArray, List.set_cons_succ, List.set_cons_zero]
                refine kr_value 6 46 (v := .string (p ++ S [letr (k : Int)])) (w' := wr.drew.alloc (.cells (bv [letr (k : Int)]).toArray 5)) (by kernel_rfl) rfl (by rfl) rfl (by simp [go_sem, hsm]) ⟨hSc, ?_⟩
                simp only [Act.put, List.setIfInBounds_toArray, List.set_cons_succ, List.set_cons_zero]
                have hMc := (hM.below hbc (Nat.le_refl _)).more hbc.size
                refine kr_call 8 48 (by kernel_rfl) rfl (by rfl) rfl (fun w => by simp [go_sem]) (nh _ hMc) (fun w6 hb6 => ?_)
                have hb16 := bt hbc hb6
                have o6 := o1.below hb16 lo
                have hM6 := (hM.below hb16 (Nat.le_refl _)).more hb16.size
                have hbw6 := bt hb hb16
                refine ⟨o6.cells.range, ?_⟩
                simp only [Act.put, List.setIfInBounds_toArray, List.set_cons_succ, List.set_cons_zero]
                refine ⟨by kernel_rfl, onlyN_mk ?_⟩
                cases hp : shP m p q k with
                | true =>
                  rw [hp, if_pos rfl] at HS
                  clear hp
                  generalize rowN (shP m p q) k = r at *
                  go_wp2
                  go_roundw
                  case rel => exact ⟨k + 1, by omega, by go_num, by rw [HS.out], o6, hM6, hbw6⟩
                  case measure => simp [intOf]; omega
                | false =>
                  rw [hp, if_neg (by simp)] at HS
                  clear hp
                  generalize rowN (shP m p q) k = r at *
                  go_wp2
                  go_roundw
                  case rel => exact ⟨k + 1, by omega, by go_num, by rw [HS.out], o6, hM6, hbw6⟩
                  case measure => simp [intOf]; omega
              · have hk' : k = 10 := by omega
                subst hk'
                go_wp2_with (go_at_call 108; ((with_reducible refine (rowString_any _ _).mono ?_); rintro e w3 ⟨rfl, hb3⟩))
                go_ret
                exact ⟨by rw [HM.out]; rfl, bt hb hb3⟩
    · have t1 : ((p.size : Int) != (m.rings.size : Int) - 1) = true := by rw [bne_iff_ne]; omega
      have HM : Hid (sheetT m p q = S []) := Lib.hid (sheetT_no (fun h => by have := (setB_front h.1).2.1; omega))
      go_wp2
      go_ret
      exact ⟨by rw [HM.out]; rfl, hb⟩
end Go.Proofs.YtbeohccbflhdiaaGreat

/- SheetRow of the reference. -/
namespace Go.Proofs.YtbeohccbflhdiaaGreat
open Go.RowKit

/-- The first letters of a row. -/
def rowP (P : Nat → Bool) (k : Nat) : ByteArray := S ((rowL P).take k)
theorem rowP_succ {P : Nat → Bool} {k : Nat} (h : k < 10) : rowP P (k + 1) = rowP P k ++ S [if P k then 49 else 48] := by
  unfold rowP
  rw [List.take_succ_eq_append_getElem (by rw [len_rowL]; exact h), S_append, rowL_at P h]
theorem rowP_full (P : Nat → Bool) : rowP P 10 = rowS P := by unfold rowP rowS; rw [List.take_of_length_le (by rw [len_rowL]; omega)]
theorem size_rowP (P : Nat → Bool) (k : Nat) : (rowP P k).size ≤ 10 := by unfold rowP; rw [size_S, List.length_take, len_rowL]; omega
set_option maxRecDepth 100000 in
set_option maxHeartbeats 1000000 in
theorem specSheetRow_any (a : Option Addr) (n c : Nat) (m : Mach) (p : ByteArray) (q : Int) (w : World) (h : MachAt w w.heap.size a n m) (hp : p.size ≤ 4294967295) :
    Calls Tryz.prog 57 #[.agg #[.slice a n c, .string m.wheels.refl, .string m.rings, .string m.plugs], .string p, .int .i64 q] w fun e w' => e = .returned (.string (sheetT m p q)) ∧ Below w.heap.size w w' := by
  have o0 := Own.new w [.slice a n c, .string m.wheels.refl, .string m.rings, .string m.plugs] 27
  have hb0 := (Below.refl w.heap.size w).alloc (Nat.le_refl _) (.cells [.slice a n c, .string m.wheels.refl, .string m.rings, .string m.plugs].toArray 27)
  have h' := h.alloc_ (.cells [.slice a n c, .string m.wheels.refl, .string m.rings, .string m.plugs].toArray 27)
  have hsz : (p ++ S [97]).size ≤ 4294967296 := by rw [ByteArray.size_append, size_S]; simp; omega
  have hin := fun W => l1In_any q 0 (p.size : Int) W
  have nf := fun W hW => l8Fits_any a n c m (p ++ S [97]) W hW hsz
  go_enter Tryz.func57, Tryz.ntmps57
  go_wp2_with fail
  refine (nf _ h').mono ?_
  rintro e w1 ⟨rfl, hb1⟩
  have o1 := o0.below hb1 o0.lt
  have hM := (h'.below hb1 (Nat.le_refl _)).more hb1.size
  have hb := bt hb0 hb1
  clear o0 h' hb0 hb1 nf
  cases hok : setB m (p ++ S [97]) with
  | false =>
    have HM : Hid (sheetT m p q = S []) := Lib.hid (sheetT_no (fun h => by rw [h.1] at hok; cases hok))
    go_wp2
    go_ret
    exact ⟨by rw [HM.out]; rfl, hb⟩
  | true =>
    by_cases hq : 0 ≤ q ∧ q ≤ p.size
    · rw [show (decide ((0 : Int) ≤ q) && decide (q ≤ (p.size : Int))) = true by rw [Bool.and_eq_true, decide_eq_true_eq, decide_eq_true_eq]; exact hq] at hin
      have HM : Hid (sheetT m p q = rowS (shP m p q)) := Lib.hid (sheetT_yes ⟨hok, hq.1, hq.2⟩)
      have HB := Lib.hid (fun k => setB_last (k := k) hok)
      obtain ⟨j, rfl⟩ := Int.eq_ofNat_of_zero_le hq.1
      have hj : j ≤ p.size := by have := hq.2; omega
      have hp3 : p.size ≤ 3 := by
        have h1 := (setB_front hok).2.1
        have h2 := machB_fit (setB_mach hok)
        have := h2.size
        have := h2.three
        omega
      clear hok hq
      go_wp2_with (go_at_call 109; ((with_reducible refine (hin _).mono ?_); rintro e w' ⟨rfl, rfl⟩))
      go_loopw [7, 8] (fun o i wr => ∃ k : Nat, k ≤ 10 ∧ i = .int .i64 k ∧ o = .string (rowP (shP m p j) k) ∧ Own wr w.heap.size [.slice a n c, .string m.wheels.refl, .string m.rings, .string m.plugs] ∧ MachAt wr wr.heap.size a n m ∧ Below w.heap.size w wr) (fun _ i _ => 10 - (intOf i).toNat)
      case atStart => exact ⟨0, by omega, rfl, rfl, o1, hM, hb⟩
      case round =>
        clear o1 hM hb
        obtain ⟨k, hk, rfl, rfl, o1, hM, hb⟩ := hrel
        by_cases hlt : k < 10
        · have HS := Lib.hid (rowP_succ (P := shP m p j) hlt)
          have hrs := size_rowP (shP m p j) k
          have hset := HB.out k
          have hps : (p ++ S [letr (k : Int)]).size = p.size + 1 := by rw [ByteArray.size_append, size_S]; simp
          have lo := o1.lt
          have d0 := fun (cc : Cls wr.heap.size wr) => (cc.cell w.heap.size 0 lo).trans (o1.at_ (i := 0) rfl)
          have d1 := fun (cc : Cls wr.heap.size wr) => (cc.cell w.heap.size 1 lo).trans (o1.at_ (i := 1) rfl)
          have d2 := fun (cc : Cls wr.heap.size wr) => (cc.cell w.heap.size 2 lo).trans (o1.at_ (i := 2) rfl)
          have d3 := fun (cc : Cls wr.heap.size wr) => (cc.cell w.heap.size 3 lo).trans (o1.at_ (i := 3) rfl)
          have nl := fun W => l1Letter_any (k : Int) W
          have nh := fun (cc : Cls wr.heap.size wr) => l11Has_any a n c m (p ++ S [letr (k : Int)]) j cc.w ((hM.below cc.bel (Nat.le_refl _)).more cc.bel.size) hset (by omega)
          rw [← hasB_in hset (p := j) (by omega), show hasB m (p ++ S [letr (k : Int)]) (j : Int) = shP m p j k from rfl] at nh
          have hsm : (p.size : Int) + ((S [letr (k : Int)]).size : Int) ≤ 9223372036854775807 := by rw [size_S]; simp; omega
          clear hset hps
          cases hpk : shP m p j k with
          | true =>
            rw [hpk, if_pos rfl] at HS
            rw [hpk] at nh
            clear hpk
            generalize rowP (shP m p j) k = r at *
            generalize S [letr (k : Int)] = y at *
            go_wp2_with fail
            refine wp_region_cls (by kernel_rfl) (by kernel_rfl) ?_
            repeat (go_big_quiet_step (first | (go_at_call 111; with_reducible exact cls_of (Nat.le_refl _) (nl _)) | (go_at_call 110; with_reducible exact cls_of (Nat.le_refl _) (nh _))))
            refine wpQuiet_nil ?_
            intro wc hbc
            go_wp2
            go_roundw
            case rel => exact ⟨k + 1, by omega, by go_num, by rw [HS.out]; rfl, o1.below hbc lo, (hM.below hbc (Nat.le_refl _)).more hbc.size, bt hb hbc⟩
            case measure => simp [intOf]; omega
          | false =>
            rw [hpk, if_neg (by simp)] at HS
            rw [hpk] at nh
            clear hpk
            generalize rowP (shP m p j) k = r at *
            generalize S [letr (k : Int)] = y at *
            go_wp2_with fail
            refine wp_region_cls (by kernel_rfl) (by kernel_rfl) ?_
            repeat (go_big_quiet_step (first | (go_at_call 111; with_reducible exact cls_of (Nat.le_refl _) (nl _)) | (go_at_call 110; with_reducible exact cls_of (Nat.le_refl _) (nh _))))
            refine wpQuiet_nil ?_
            intro wc hbc
            go_wp2
            go_roundw
            case rel => exact ⟨k + 1, by omega, by go_num, by rw [HS.out]; rfl, o1.below hbc lo, (hM.below hbc (Nat.le_refl _)).more hbc.size, bt hb hbc⟩
            case measure => simp [intOf]; omega
        · have hk' : k = 10 := by omega
          subst hk'
          go_wp2
          go_ret
          exact ⟨by rw [HM.out, ← rowP_full]; rfl, hb⟩
    · rw [show (decide ((0 : Int) ≤ q) && decide (q ≤ (p.size : Int))) = false by rw [Bool.eq_false_iff]; intro e; rw [Bool.and_eq_true, decide_eq_true_eq, decide_eq_true_eq] at e; exact hq e] at hin
      have HM : Hid (sheetT m p q = S []) := Lib.hid (sheetT_no (fun h => hq h.2))
      clear hq hok
      go_wp2_with (go_at_call 109; ((with_reducible refine (hin _).mono ?_); rintro e w' ⟨rfl, rfl⟩))
      go_ret
      exact ⟨by rw [HM.out]; rfl, hb⟩
end Go.Proofs.YtbeohccbflhdiaaGreat

/- What SheetRow and HasRepeat are drawn. -/
namespace Go.Proofs.YtbeohccbflhdiaaGreat
open Go.RowKit
attribute [local go_sem] Oper.semAt_some

theorem l8Off1_any (R : Nat) (u : ByteArray) (c : Nat) (w : World) (h : Rd w R c) (hc : c ≤ 9000000) (h1 : 1 ≤ u.size) (hu : u.size ≤ 200) :
    Calls Tryz.prog 71 #[.pointer (some ⟨R, 0, none⟩), .string u] w (StrP R (fun s => 1 ≤ s.size ∧ s.size ≤ 300) (c + 2) w) := by
  have s1 := sl_1 u h1
  have z1 : (u.extract 1 u.size).size ≤ 200 := by simp only [ByteArray.size_extract]; omega
  go_enter Tryz.func71, Tryz.ntmps71
  go_wp2_with fail
  refine (pick_any R _ c _ h (by omega) (by omega) (by omega)).mono ?_
  rintro e w1 ⟨v, rfl, hv0, hv1, _, hr1, hm1⟩
  clear hv1 h
  by_cases e0 : v = 0
  · have t0 : (v == 0) = true := by simp [e0]
    clear e0 s1
    go_wp2
    go_ret
    refine ⟨u ++ ⟨#[97]⟩, ?_, rfl, hr1.more (by omega), hm1⟩
    show 1 ≤ (u ++ ⟨#[97]⟩ : ByteArray).size ∧ (u ++ ⟨#[97]⟩ : ByteArray).size ≤ 300
    rw [ByteArray.size_append]; have : (⟨#[97]⟩ : ByteArray).size = 1 := rfl; omega
  · have t0 : (v == 0) = false := by simp [e0]
    by_cases e1 : v = 1
    · have t1 : (v == 1) = true := by simp [e1]
      clear e0 e1
      generalize u.extract 1 u.size = ux at *
      go_wp2
      go_ret
      refine ⟨ux ++ ⟨#[107]⟩, ?_, rfl, hr1.more (by omega), hm1⟩
      show 1 ≤ (ux ++ ⟨#[107]⟩ : ByteArray).size ∧ (ux ++ ⟨#[107]⟩ : ByteArray).size ≤ 300
      rw [ByteArray.size_append]; have : (⟨#[107]⟩ : ByteArray).size = 1 := rfl; omega
    · have t1 : (v == 1) = false := by simp [e1]
      clear e0 e1 s1
      go_wp2
      go_ret
      exact ⟨u, by omega, rfl, hr1.more (by omega), hm1⟩
/-- A machine, a word and a number are drawn. -/
def DrawnNv (w : World) (e : Ending) (w' : World) : Prop :=
  ∃ (m : Mach) (v : ByteArray) (N : Int) (a : Option Addr) (cap : Nat), DrawnM w m a w' ∧ v.size ≤ 300 ∧ -1 ≤ N ∧ N ≤ 9223372036854775807 ∧
    e = .returned (.tuple #[.agg #[.slice a m.wheels.rotors.length cap, .string m.wheels.refl, .string m.rings, .string m.plugs], .string v, .int .i64 N])
/-- A machine, windows and a place are drawn. -/
def DrawnH (w : World) (e : Ending) (w' : World) : Prop :=
  ∃ (m : Mach) (v : ByteArray) (N : Int) (a : Option Addr) (cap : Nat), DrawnM w m a w' ∧ 1 ≤ v.size ∧ v.size ≤ 300 ∧ -1 ≤ N ∧ N ≤ 9223372036854775807 ∧
    e = .returned (.tuple #[.agg #[.slice a m.wheels.rotors.length cap, .string m.wheels.refl, .string m.rings, .string m.plugs], .string v, .int .i64 N])
set_option maxRecDepth 100000 in
set_option maxHeartbeats 2000000 in
theorem DrawHasRepeat_any (a0 : Option Addr) (len cap : Nat) (zs : List Int) (w : World) (h : IsRow .u8 w a0 len cap zs) (hl : len ≤ 1048576) :
    Calls Tryz.prog 107 #[.slice a0 len cap] w (DrawnH w) := by
  have o0 := Own.new w [.slice none 0 0, .string ⟨#[]⟩, .string ⟨#[]⟩, .string ⟨#[]⟩] 27
  have hb0 := (Below.refl w.heap.size w).alloc (Nat.le_refl _) (.cells #[.slice none 0 0, .string ⟨#[]⟩, .string ⟨#[]⟩, .string ⟨#[]⟩] 27)
  go_enter Tryz.func107, Tryz.ntmps107
  go_wp2_with fail
  refine (l21Open_any a0 len cap zs _ (h.alloc_ _) hl).mono ?_
  rintro e w1 ⟨rfl, hr1, hb1⟩
  have o1 := o0.below hb1 o0.lt
  have hbw1 := bt hb0 hb1
  rw [World.size_alloc] at hr1
  clear o0 hb0 hb1 h
  go_wp2_with fail
  generalize hB0 : w.heap.size = B0 at *
  have HB0 := Lib.hid hB0
  clear hB0
  refine (l8Any_any (B0 + 1) 0 _ hr1 (by omega)).mono ?_
  rintro e w2 ⟨m, v, g, cp, hx, hset, rfl, hown2, hg, hr2, hm2⟩
  have l1 := hr1.lt
  have o2 := o1.grown hm2 (by simp)
  have hbw2 : Below B0 w w2 := hbw1.trans (hm2.toBelow (by omega) (by omega))
  have hv3 : v.size ≤ 3 := by rw [setB_len hset]; exact hx.2.1
  have hv1 : 1 ≤ v.size := by rw [setB_len hset]; exact hx.1
  clear o1 hr1 hbw1 hm2
  have p2 := Own.new w2 [.slice (some ⟨g, 0, none⟩) m.wheels.rotors.length cp, .string m.wheels.refl, .string m.rings, .string m.plugs] 27
  have o2' := o2.alloc (.cells [.slice (some ⟨g, 0, none⟩) m.wheels.rotors.length cp, .string m.wheels.refl, .string m.rings, .string m.plugs].toArray 27)
  have hr2' := hr2.alloc (.cells [.slice (some ⟨g, 0, none⟩) m.wheels.rotors.length cp, .string m.wheels.refl, .string m.rings, .string m.plugs].toArray 27)
  have hown2' := World.ownsRow.alloc hown2 (.cells [.slice (some ⟨g, 0, none⟩) m.wheels.rotors.length cp, .string m.wheels.refl, .string m.rings, .string m.plugs].toArray 27)
  have hbw2' := hbw2.alloc (by have := o2.lt; omega) (.cells [.slice (some ⟨g, 0, none⟩) m.wheels.rotors.length cp, .string m.wheels.refl, .string m.rings, .string m.plugs].toArray 27)
  have l2 := o2.lt
  have lr2 := hr2.lt
  have lg := (World.ownsRow.lt hown2 g rfl).2
  go_wp2_with fail
  generalize (w2.alloc (.cells [.slice (some ⟨g, 0, none⟩) m.wheels.rotors.length cp, .string m.wheels.refl, .string m.rings, .string m.plugs].toArray 27)) = W2 at *
  generalize w2.heap.size = B2 at *
  clear o2 hr2 hown2 hbw2
  refine (pick_any (B0 + 1) _ _ _ hr2' (by omega) (by omega) (by omega)).mono ?_
  rintro e w3 ⟨x, rfl, hx0, hx1, _, hr3, hm3⟩
  have hx13 := hx1 (by omega)
  have o3 := o2'.grown hm3 (by simp)
  have p3 := p2.grown hm3 (by simp; omega)
  have hown3 := OwR.movedR hown2' hm3 (by simp [Value.ownBlock]; omega)
  have hbw3 := hbw2'.trans (hm3.toBelow (by omega) (by have := o2'.lt; omega))
  clear o2' p2 hown2' hbw2' hm3 hr2'
  go_wp2_with fail
  refine (pick_any (B0 + 1) _ _ _ hr3 (by omega) (by omega) (by omega)).mono ?_
  rintro e w4 ⟨y, rfl, _, _, _, hr4, hm4⟩
  have l3 := p3.lt
  have o4 := o3.grown hm4 (by simp)
  have p4 := p3.grown hm4 (by simp; omega)
  have hown4 := OwR.movedR hown3 hm4 (by simp [Value.ownBlock]; omega)
  have hbw4 := hbw3.trans (hm4.toBelow (by omega) (by omega))
  clear o3 p3 hown3 hbw3 hm4 hr3
  go_upto_if 22 with (fail)
  go_cut [8] (fun u wr => ∃ N : Int, u = .int .i64 N ∧ -1 ≤ N ∧ N ≤ 9223372036854775807 ∧ Own wr B0 [.slice none 0 0, .string ⟨#[]⟩, .string ⟨#[]⟩, .string ⟨#[]⟩] ∧ Own wr B2 [.slice (some ⟨g, 0, none⟩) m.wheels.rotors.length cp, .string m.wheels.refl, .string m.rings, .string m.plugs] ∧ OwR wr w1.heap.size 137 2 (.slice (some ⟨g, 0, none⟩) m.wheels.rotors.length cp) m.wheels.rotors.length (rvs m.wheels.rotors) ∧ Rd wr (B0 + 1) 720 ∧ Below B0 w wr)
  case first =>
    by_cases e0 : y = 0
    · have t0 : (y == 0) = true := by simp [e0]
      clear e0
      have l4 := p4.lt
      have o5 := o4.alloc (.cells [.int .i64 (-1), .int .i64 3, .int .i64 9223372036854775807].toArray 3)
      have p5 := p4.alloc (.cells [.int .i64 (-1), .int .i64 3, .int .i64 9223372036854775807].toArray 3)
      have hr5 := hr4.alloc (.cells [.int .i64 (-1), .int .i64 3, .int .i64 9223372036854775807].toArray 3)
      have hown5 := World.ownsRow.alloc hown4 (.cells [.int .i64 (-1), .int .i64 3, .int .i64 9223372036854775807].toArray 3)
      have hbw5 := hbw4.alloc (by omega) (.cells [.int .i64 (-1), .int .i64 3, .int .i64 9223372036854775807].toArray 3)
      go_wp2_with fail
      refine (num_any (B0 + 1) _ _ _ [-1, 3, 9223372036854775807] _ _ rfl (Own.new _ _ _) (by simp) (by omega) hr5 (by omega) (by simp)).mono ?_
      rintro e w6 ⟨z, hz, rfl, hr6, hm6⟩
      have hzb : -1 ≤ z ∧ z ≤ 9223372036854775807 := by
        simp only [List.mem_cons, List.not_mem_nil, or_false] at hz
        rcases hz with rfl | rfl | rfl <;> omega
      have o6 := o5.grown hm6 (by simp)
      have p6 := p5.grown hm6 (by simp; omega)
      have hown6 := OwR.movedR hown5 hm6 (by simp [Value.ownBlock]; omega)
      have hbw6 := hbw5.trans (hm6.toBelow (by omega) (by simp; omega))
      go_wp2_with fail
      go_meet
      exact ⟨z, rfl, hzb.1, hzb.2, o6, p6, hown6, hr6.more (by omega), hbw6⟩
    · have t0 : (y == 0) = false := by simp [e0]
      clear e0
      go_wp2_with fail
      go_meet
      exact ⟨x, rfl, by omega, by omega, o4, p4, hown4, hr4.more (by omega), hbw4⟩
  case rest =>
  clear o4 p4 hown4 hr4 hbw4 l3
  obtain ⟨N, rfl, hN1, hN2, o2', p2, hown2', hr2', hbw2'⟩ := hcut
  have HNB : Hid (-1 ≤ N ∧ N ≤ 9223372036854775807) := Lib.hid ⟨hN1, hN2⟩
  clear hN1 hN2
  have lw := p2.lt
  have f0 := p2.at_ (i := 0) rfl
  have f1 := p2.at_ (i := 1) rfl
  have f2 := p2.at_ (i := 2) rfl
  have f3 := p2.at_ (i := 3) rfl
  go_wp2_with fail
  refine (l8Bad_any (B0 + 1) g cp _ m v _ _ hr2' (by omega) hx hset hown2' (by omega)).mono ?_
  rintro e w6 ⟨m6, a6, cap6, hm6, rfl, hrd6, hbl6, hr6, ht6⟩
  have o6 := o2'.tu ht6 (by omega) (by omega)
  have hbw6 := hbw2'.trans (ht6.toBelow (by omega) (by omega) (by omega))
  have hbl : ∀ ad, a6 = some ad → B0 + 1 < ad.block := fun ad h => by
    have h1 := hbl6 ad h
    omega
  have HBL := Lib.hid hbl
  have HM := Lib.hid hm6
  clear f0 f1 f2 f3 p2 o2' hr2' hown2' hbw2' ht6 hm6 hbl6 hbl
  go_wp2_with fail
  refine (l8Off1_any (B0 + 1) v _ _ hr6 (by omega) hv1 (by omega)).mono ?_
  rintro e w9 ⟨v9, hv9, rfl, hr9, hm9⟩
  have z6 := o6.lt
  have o9 := o6.grown hm9 (by simp)
  have hbw9 := hbw6.trans (hm9.toBelow (by omega) (by omega))
  have hrd9 := Reads.moved hrd6 hm9 (fun ad h => by have := HBL.out ad h; omega) (Nat.le_refl _)
  clear o6 hrd6 hr6 hbw6 hm9
  have HRD := Lib.hid hrd9
  clear hrd9
  have c0 := o9.at_ (i := 0) rfl
  have c1 := o9.at_ (i := 1) rfl
  have c2 := o9.at_ (i := 2) rfl
  have c3 := o9.at_ (i := 3) rfl
  have b0 := o9.free 0 (by simp)
  have b1 := o9.free 1 (by simp)
  have b2 := o9.free 2 (by simp)
  have b3 := o9.free 3 (by simp)
  go_wp2
  have oz := o9.set4 (.slice a6 m6.wheels.rotors.length cap6) (.string m6.wheels.refl) (.string m6.rings) (.string m6.plugs)
  have k0 := oz.at_ (i := 0) rfl
  have k1 := oz.at_ (i := 1) rfl
  have k2 := oz.at_ (i := 2) rfl
  have k3 := oz.at_ (i := 3) rfl
  refine bodyPost_ret (v := .tuple #[.agg #[.slice a6 m6.wheels.rotors.length cap6, .string m6.wheels.refl, .string m6.rings, .string m6.plugs], .string v9, .int .i64 N]) (by unfold set4 at *; simp [results, Tryz.results107, go_sem, k0, k1, k2, k3]) rfl ?_
  refine ⟨m6, v9, N, a6, cap6, ⟨HM.out, ?_, ?_, ?_⟩, hv9.1, hv9.2, HNB.out.1, HNB.out.2, rfl⟩
  · show Reads (set4 w9 B0 _ _ _ _) (set4 w9 B0 _ _ _ _).heap.size _ _
    rw [size_set4]
    exact HRD.out.set4 (fun ad h => by have := HBL.out ad h; omega) _ _ _ _
  · intro ad h
    rw [HB0.out]
    have := HBL.out ad h; omega
  · rw [HB0.out]
    exact bel_set4 hbw9 (Nat.le_refl _) _ _ _ _
set_option maxRecDepth 100000 in
set_option maxHeartbeats 1000000 in
theorem DrawSheetRow_any (a0 : Option Addr) (len cap : Nat) (zs : List Int) (w : World) (h : IsRow .u8 w a0 len cap zs) (hl : len ≤ 1048576) :
    Calls Tryz.prog 55 #[.slice a0 len cap] w (DrawnNv w) := by
  have o0 := Own.new w [.slice none 0 0, .string ⟨#[]⟩, .string ⟨#[]⟩, .string ⟨#[]⟩] 27
  have hb0 := (Below.refl w.heap.size w).alloc (Nat.le_refl _) (.cells #[.slice none 0 0, .string ⟨#[]⟩, .string ⟨#[]⟩, .string ⟨#[]⟩] 27)
  go_enter Tryz.func55, Tryz.ntmps55
  go_wp2_with fail
  refine (DrawHasRepeat_any a0 len cap zs _ (h.alloc_ _) hl).mono ?_
  rintro e w9 ⟨m6, v9, N, a6, cap6, ⟨hm, hrd, hbl, hb9⟩, hv1, hv9, hN1, hN2, rfl⟩
  have o8 := o0.below hb9 o0.lt
  have hbw8 := bt hb0 hb9
  simp only [World.size_alloc] at hbl
  generalize hB0 : w.heap.size = B0 at *
  have HB0 := Lib.hid hB0
  clear hB0 o0 hb0 hb9 h
  have x9 := Own.new w9 [.slice a6 m6.wheels.rotors.length cap6, .string m6.wheels.refl, .string m6.rings, .string m6.plugs] 27
  have o9 := o8.alloc (.cells [.slice a6 m6.wheels.rotors.length cap6, .string m6.wheels.refl, .string m6.rings, .string m6.plugs].toArray 27)
  have hbw9 := hbw8.alloc (by have := o8.lt; omega) (.cells [.slice a6 m6.wheels.rotors.length cap6, .string m6.wheels.refl, .string m6.rings, .string m6.plugs].toArray 27)
  have hrd9 := hrd.keep (w' := w9.alloc (.cells [.slice a6 m6.wheels.rotors.length cap6, .string m6.wheels.refl, .string m6.rings, .string m6.plugs].toArray 27)) (fun p hp => World.cell?_of_block (w := w9) (Below.heap_alloc w9 _ p.block hp))
  have l8 := o8.lt
  have hz9 : (w9.alloc (.cells [.slice a6 m6.wheels.rotors.length cap6, .string m6.wheels.refl, .string m6.rings, .string m6.plugs].toArray 27)).heap.size = w9.heap.size + 1 := by simp
  have HZ := Lib.hid hz9
  have HRD := Lib.hid hrd9
  have HBL := Lib.hid hbl
  have HNB : Hid (-1 ≤ N ∧ N ≤ 9223372036854775807) := Lib.hid ⟨hN1, hN2⟩
  have s1 := sl_1 v9 hv1
  have hvx : (v9.extract 1 v9.size).size ≤ 300 := by simp only [ByteArray.size_extract]; omega
  clear hrd hbl hN1 hN2 o8 hbw8 hrd9 hz9
  go_wp2_with fail
  generalize hW9 : (w9.alloc (.cells [.slice a6 m6.wheels.rotors.length cap6, .string m6.wheels.refl, .string m6.rings, .string m6.plugs].toArray 27)) = W9 at *
  clear hW9
  generalize w9.heap.size = BX at *
  have lx := x9.lt
  have hvi : (1 : Int) ≤ (v9.size : Int) := by omega
  refine wp_onlyN ?_
  refine wp_region_any (by kernel_rfl) ?_
  refine wpAny_of_K (S := fun w' => w'.rangeAt BX 0 [.slice a6 m6.wheels.rotors.length cap6, .string m6.wheels.refl, .string m6.rings, .string m6.plugs]) (kp := fun _ => true) _ _ _ _ ?_
  have hbd : Below W9.heap.size W9 W9.drew := (Below.refl _ _).drew
  have hS : W9.drew.rangeAt BX 0 [.slice a6 m6.wheels.rotors.length cap6, .string m6.wheels.refl, .string m6.rings, .string m6.plugs] := (x9.below hbd lx).cells.range
  refine kr_take 0 14 (v := .agg #[.slice a6 m6.wheels.rotors.length cap6, .string m6.wheels.refl, .string m6.rings, .string m6.plugs]) rfl (by kernel_rfl) (by kernel_rfl) (by kernel_rfl) (by kernel_rfl) (fun _ _ _ h => by cases h.1) rfl hS (yieldsIf_load_mid (by rfl) _ _ rfl _ _ rfl _ _ (fun _ h => h) Tryz.underlying27 rfl (by kernel_rfl)) ?_
  simp only [Act.put, List.setIfInBounds_toArray, List.set_cons_succ, List.set_cons_zero]
  refine kr_take 1 15 (v := .string v9) rfl (by kernel_rfl) (by kernel_rfl) (by kernel_rfl) (by kernel_rfl) (fun _ _ _ h => by cases h.1) rfl hS (Or.inl ⟨by rfl, fun _ _ => rfl⟩) ?_
  simp only [Act.put, List.setIfInBounds_toArray, List.set_cons_succ, List.set_cons_zero]
  refine kr_take 2 16 (v := .string (v9.extract 1 v9.size)) rfl (by kernel_rfl) (by kernel_rfl) (by kernel_rfl) (by kernel_rfl) (fun _ _ _ h => by cases h.1) rfl hS (Or.inl ⟨by rfl, fun w' _ => by simp [go_sem, hvi]⟩) ?_
  simp only [Act.put, List.setIfInBounds_toArray, List.set_cons_succ, List.set_cons_zero]
  refine kr_take 3 17 (v := .int .i64 N) rfl (by kernel_rfl) (by kernel_rfl) (by kernel_rfl) (by kernel_rfl) (fun _ _ _ h => by cases h.1) rfl hS (Or.inl ⟨by rfl, fun _ _ => rfl⟩) ?_
  simp only [Act.put, List.setIfInBounds_toArray, List.set_cons_succ, List.set_cons_zero]
  have oc := o9
  have c0 := oc.at_ (i := 0) rfl
  have c1 := oc.at_ (i := 1) rfl
  have c2 := oc.at_ (i := 2) rfl
  have c3 := oc.at_ (i := 3) rfl
  have b0 := oc.free 0 (by simp)
  have b1 := oc.free 1 (by simp)
  have b2 := oc.free 2 (by simp)
  have b3 := oc.free 3 (by simp)
  refine kr_one 4 (by kernel_rfl) rfl (by rfl) ?_
  simp [Oper.wp, Oper.upon, go_sem, c0, c1, c2, c3, b0, b1, b2, b3]
  have x4 := (((x9.far (p := ⟨B0, 0, none⟩) (by simp; omega) (.slice a6 m6.wheels.rotors.length cap6)).far (p := ⟨B0, 1, none⟩) (by simp; omega) (.string m6.wheels.refl)).far (p := ⟨B0, 2, none⟩) (by simp; omega) (.string m6.rings)).far (p := ⟨B0, 3, none⟩) (by simp; omega) (.string m6.plugs)
  have hS4 := x4.cells.range
  have hS5 := x4.drew.cells.range
  refine ⟨hS4, ?_⟩
  refine kr_take 5 3 (v := .string (v9.extract 1 v9.size)) rfl (by kernel_rfl) (by kernel_rfl) (by kernel_rfl) (by kernel_rfl) (fun _ _ _ h => by cases h.1) rfl hS5 (Or.inl ⟨by rfl, fun _ _ => rfl⟩) ?_
  simp only [Act.put, List.setIfInBounds_toArray, List.set_cons_succ, List.set_cons_zero]
  refine kr_take 6 4 (v := .int .i64 N) rfl (by kernel_rfl) (by kernel_rfl) (by kernel_rfl) (by kernel_rfl) (fun _ _ _ h => by cases h.1) rfl hS5 (Or.inl ⟨by rfl, fun _ _ => rfl⟩) ?_
  simp only [Act.put, List.setIfInBounds_toArray, List.set_cons_succ, List.set_cons_zero]
  refine ⟨by kernel_rfl, onlyN_mk ?_⟩
  have oz := o9.set4 (.slice a6 m6.wheels.rotors.length cap6) (.string m6.wheels.refl) (.string m6.rings) (.string m6.plugs)
  have k0 := oz.at_ (i := 0) rfl
  have k1 := oz.at_ (i := 1) rfl
  have k2 := oz.at_ (i := 2) rfl
  have k3 := oz.at_ (i := 3) rfl
  unfold set4 at k0 k1 k2 k3
  go_wp2
  refine bodyPost_ret (v := .tuple #[.agg #[.slice a6 m6.wheels.rotors.length cap6, .string m6.wheels.refl, .string m6.rings, .string m6.plugs], .string (v9.extract 1 v9.size), .int .i64 N]) (by simp [results, Tryz.results55, go_sem, k0, k1, k2, k3]) rfl ?_
  refine ⟨m6, v9.extract 1 v9.size, N, a6, cap6, ⟨hm, ?_, ?_, ?_⟩, hvx, HNB.out.1, HNB.out.2, rfl⟩
  · show Reads (set4 W9 B0 _ _ _ _) (set4 W9 B0 _ _ _ _).heap.size _ _
    rw [size_set4]
    exact (HRD.out.more (by have := HZ.out; omega)).set4 (fun ad h => by have := HBL.out ad h; omega) _ _ _ _
  · intro ad h
    rw [HB0.out]
    have := HBL.out ad h; omega
  · rw [HB0.out]
    exact (bel_set4 hbw9 (Nat.le_refl _) _ _ _ _).drew
end Go.Proofs.YtbeohccbflhdiaaGreat

/- The walk of the law that a row of a sheet does not hang on the plugboard. -/
namespace Go.Proofs.YtbeohccbflhdiaaGreat
open Go.RowKit

theorem sheet_bare {m : Mach} {p : ByteArray} {q : Int} (h : setB m (p ++ S [97]) = true ∧ 0 ≤ q ∧ q ≤ p.size) : sheetT (bareM m) p q = rowS (shP m p q) := by
  rw [sheetT_yes ⟨setB_bare h.1, h.2⟩]
  congr 1
  funext k
  have hs := setB_last (k := k) h.1
  obtain ⟨j, rfl⟩ := Int.eq_ofNat_of_zero_le h.2.1
  have hj : j < (p ++ S [letr (k : Int)]).size := by
    rw [ByteArray.size_append, size_S]
    have := h.2.2
    simp
    omega
  unfold shP
  rw [hasB_in (setB_bare hs) hj, hasB_in hs hj, fix_prod_bare (setB_mach hs)]
set_option maxRecDepth 100000 in
set_option maxHeartbeats 4000000 in
theorem sheetRowPlugs_walk (a : Option Addr) (len cap : Nat) (zs : List Int) (w : World) (h : IsRow .u8 w a len cap zs) :
    Calls Tryz.prog 15 #[.slice a len cap] w fun e w' => e = .returned (.bool true) ∧ Below w.heap.size w w' := by
  have hlen : len ≤ 9223372036854775807 := by
    rcases h with ⟨_, rfl, _⟩ | ⟨x, _, hl, hm, _⟩
    · omega
    · unfold maxLen at hm; omega
  by_cases hl : 1048576 < len
  · go_enter Tryz.func15, Tryz.ntmps15
    go_wp2
    go_ret
    exact ⟨rfl, Below.refl _ _⟩
  · go_enter Tryz.func15, Tryz.ntmps15
    go_wp2_with fail
    refine (DrawSheetRow_any a len cap zs _ h (by omega)).mono ?_
    rintro e w1 ⟨m, v, N, a1, cap1, ⟨hsm, hrd, -, hb1⟩, hv, hN1, hN2, rfl⟩
    have o1 := Own.new w1 [.slice a1 m.wheels.rotors.length cap1, .string m.wheels.refl, .string m.rings, .string m.plugs] 27
    have hb1' := hb1.alloc hb1.size (.cells [.slice a1 m.wheels.rotors.length cap1, .string m.wheels.refl, .string m.rings, .string m.plugs].toArray 27)
    have hat := (hsm.at_ hrd).alloc_ (.cells [.slice a1 m.wheels.rotors.length cap1, .string m.wheels.refl, .string m.rings, .string m.plugs].toArray 27)
    clear hrd hb1 h hsm
    go_wp2_with fail
    generalize (w1.alloc (.cells [.slice a1 m.wheels.rotors.length cap1, .string m.wheels.refl, .string m.rings, .string m.plugs].toArray 27)) = W1 at *
    generalize w1.heap.size = B1 at *
    refine (implSheetRow_any a1 _ cap1 m v N _ hat (by omega)).mono ?_
    rintro e w2 ⟨rfl, hb2⟩
    have o2 := o1.below hb2 o1.lt
    have hbw2 := bt hb1' hb2
    have hat2 := (hat.below hb2 (Nat.le_refl _)).more hb2.size
    clear o1 hb1' hat hb2
    have nsp := fun W hW => specSheetRow_any a1 m.wheels.rotors.length cap1 m v N W hW (by omega)
    have HY := Lib.hid (fun h => sheetT_yes (m := m) (p := v) (q := N) h)
    have HN := Lib.hid (fun h => sheetT_no (m := m) (p := v) (q := N) h)
    have nbr := fun W hW => implSheetRow_any a1 m.wheels.rotors.length cap1 (bareM m) v N W hW (by omega)
    have HB := Lib.hid (fun h => sheet_bare (m := m) (p := v) (q := N) h)
    generalize sheetT (bareM m) v N = TB at *
    generalize sheetT m v N = T at *
    have f0 := o2.at_ (i := 0) rfl
    have f1 := o2.at_ (i := 1) rfl
    have f2 := o2.at_ (i := 2) rfl
    have f3 := o2.at_ (i := 3) rfl
    have tne : (T.toList != T.toList) = false := by simp
    have teq : (T.toList == T.toList) = true := by simp
    go_wp2_with fail
    refine (nsp _ hat2).mono ?_
    rintro e w3 ⟨rfl, hb3⟩
    have o3 := o2.below hb3 o2.lt
    have hbw3 := bt hbw2 hb3
    have hat3 := (hat2.below hb3 (Nat.le_refl _)).more hb3.size
    clear o2 hbw2 hat2 hb3 f0 f1 f2 f3
    have f0 := o3.at_ (i := 0) rfl
    have f1 := o3.at_ (i := 1) rfl
    have f2 := o3.at_ (i := 2) rfl
    have f3 := o3.at_ (i := 3) rfl
    by_cases hyes : setB m (v ++ S [97]) = true ∧ 0 ≤ N ∧ N ≤ v.size
    · have hT := HY.out hyes
      have hTB := HB.out hyes
      clear HY HN HB hyes
      subst hT
      subst hTB
      have he := ne_empty (s := rowS (shP m v N)) (by rw [size_rowS]; omega)
      have n2 := fun W => implShiftRow_yes (shP m v N) W
      have n3 := fun b W hW => implStackRows_one (shP m v N) b 1 W hW
      generalize rowS (shP m v N) = s at *
      go_wp2_with fail
      refine (rcBare_any a1 _ cap1 m _).mono ?_
      rintro e w4 ⟨rfl, hb4⟩
      have hbw4 := bt hbw3 hb4
      have hat4 := ((hat3.below hb4 (Nat.le_refl _)).more hb4.size).bare
      clear o3 hbw3 hat3 hb4 f0 f1 f2 f3
      go_wp2_with fail
      refine (nbr _ hat4).mono ?_
      rintro e w5 ⟨rfl, hb5⟩
      have hbw5 := bt hbw4 hb5
      clear hbw4 hat4 hb5
      go_wp2_with fail
      refine (n2 _).mono ?_
      rintro e w6 ⟨rfl, hb6⟩
      have hbw6 := bt hbw5 hb6
      clear hbw5 hb6
      have x6 := Own.new w6 [.string s] 9
      have hb6' := hbw6.alloc hbw6.size (.cells [.string s].toArray 9)
      go_wp2_with fail
      refine (n3 _ _ x6).mono ?_
      rintro e w7 ⟨rfl, hb7⟩
      go_wp2
      go_ret
      exact ⟨by simp, bt hb6' hb7⟩
    · have hT := HN.out hyes
      clear HY HN HB hyes
      subst hT
      have he := is_empty (s := S []) (by rw [size_S]; rfl)
      go_wp2_with fail
      refine (nsp _ hat3).mono ?_
      rintro e w4 ⟨rfl, hb4⟩
      go_wp2
      go_ret
      exact ⟨by simp, bt hbw3 hb4⟩
end Go.Proofs.YtbeohccbflhdiaaGreat
