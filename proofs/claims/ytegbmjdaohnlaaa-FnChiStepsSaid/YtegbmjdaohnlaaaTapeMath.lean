/- Plain laws on sums of tapes. -/
import Derived.Test.YtegbmjdaohnlaaaBase
namespace Go.Proofs.Ytegbmjdaohnlaaa

theorem dig_nat {x : UInt8} (h : 0 ≤ dig x) : ((dig x).toNat : Int) = dig x := by omega
theorem letr_dig {x : UInt8} (h0 : 0 ≤ dig x) (h1 : dig x ≤ 9) : letr (dig x) = x := by
  apply UInt8.toNat.inj
  rw [letr_toNat]
  unfold dig at *
  omega
theorem dig_xor {x y : UInt8} (hx : dig x ≤ 7) (hy : dig y ≤ 7) : dig (letr (xn x y : Nat)) = (xn x y : Nat) := by
  have := xn_lt hx hy
  rw [dig_letr]; omega
theorem xn_comm (x y : UInt8) : xn x y = xn y x := Nat.xor_comm _ _
theorem xn_back {x y : UInt8} (hx0 : 0 ≤ dig x) (hx : dig x ≤ 7) (hy : dig y ≤ 7) : letr (xn (letr (xn x y : Nat)) y : Nat) = x := by
  have h : xn (letr (xn x y : Nat)) y = (dig x).toNat := by
    unfold xn
    have hd := dig_xor hx hy
    unfold xn at hd
    rw [hd, Int.toNat_natCast, Nat.xor_assoc, Nat.xor_self, Nat.xor_zero]
  rw [h, dig_nat hx0]
  exact letr_dig hx0 (by omega)
theorem xorL_tape : ∀ {a b : List UInt8}, a.all isTp = true → b.all isTp = true → (xorL a b).all isTp = true
  | [], _, _, _ => by simp [xorL]
  | _ :: _, [], _, _ => by simp [xorL]
  | x :: a, y :: b, ha, hb => by
    simp only [List.all_cons, Bool.and_eq_true] at ha hb
    have h1 := (isTp_iff x).1 ha.1
    have h2 := (isTp_iff y).1 hb.1
    have ih := xorL_tape ha.2 hb.2
    have h3 := xn_lt h1.2 h2.2
    have hd := dig_xor h1.2 h2.2
    simp only [xorL, List.zipWith_cons_cons, List.all_cons, Bool.and_eq_true]
    exact ⟨(isTp_iff _).2 (by rw [hd]; omega), ih⟩
theorem xorL_comm : ∀ (a b : List UInt8), xorL a b = xorL b a
  | [], [] => rfl
  | [], _ :: _ => rfl
  | _ :: _, [] => rfl
  | x :: a, y :: b => by
    have := xorL_comm a b
    simp only [xorL, List.zipWith_cons_cons] at this ⊢
    rw [this, xn_comm]
theorem xorL_back : ∀ {a b : List UInt8}, a.all isTp = true → b.all isTp = true → a.length = b.length → xorL (xorL a b) b = a
  | [], [], _, _, _ => rfl
  | [], _ :: _, _, _, h => by simp at h
  | _ :: _, [], _, _, h => by simp at h
  | x :: a, y :: b, ha, hb, hl => by
    simp only [List.all_cons, Bool.and_eq_true] at ha hb
    have h1 := (isTp_iff x).1 ha.1
    have h2 := (isTp_iff y).1 hb.1
    have ih := xorL_back ha.2 hb.2 (by simpa using hl)
    simp only [xorL, List.zipWith_cons_cons] at ih ⊢
    rw [ih, xn_back h1.1 h1.2 h2.2]

theorem tapeB_all {v : ByteArray} (h : tapeB v = true) : (L v).all isTp = true := by
  simp only [tapeB, Bool.and_eq_true] at h; exact h.2
theorem xorT_ok {v u : ByteArray} (h1 : tapeB v = true) (h2 : tapeB u = true) (h3 : v.size = u.size) : xorT v u = (S (xorL (L v) (L u)), true) := by simp [xorT, h1, h2, h3]
theorem size_sum {v u : ByteArray} (h3 : v.size = u.size) : (S (xorL (L v) (L u))).size = v.size := by rw [size_S, length_xorL, size_L, size_L]; omega
theorem tape_sum {v u : ByteArray} (h1 : tapeB v = true) (h2 : tapeB u = true) (h3 : v.size = u.size) : tapeB (S (xorL (L v) (L u))) = true := by
  have hs := size_sum h3
  have := tapeB_size h1
  simp only [tapeB, Bool.and_eq_true, decide_eq_true_eq, L_S]
  exact ⟨by omega, xorL_tape (tapeB_all h1) (tapeB_all h2)⟩
theorem xorT_back {v u : ByteArray} (h1 : tapeB v = true) (h2 : tapeB u = true) (h3 : v.size = u.size) : xorT (S (xorL (L v) (L u))) u = (v, true) := by
  rw [xorT_ok (tape_sum h1 h2 h3) h2 (by rw [size_sum h3]; exact h3), L_S, xorL_back (tapeB_all h1) (tapeB_all h2) (by rw [size_L, size_L]; exact h3), S_L]
theorem xorT_back' {v u : ByteArray} (h1 : tapeB v = true) (h2 : tapeB u = true) (h3 : v.size = u.size) : xorT (S (xorL (L v) (L u))) v = (u, true) := by
  rw [xorL_comm]; exact xorT_back h2 h1 h3.symm
theorem xorT_comm {v u : ByteArray} (h1 : tapeB v = true) (h2 : tapeB u = true) (h3 : v.size = u.size) : xorT u v = (S (xorL (L v) (L u)), true) := by
  rw [xorT_ok h2 h1 h3.symm, xorL_comm]
theorem xorT_no {v u : ByteArray} (h : ¬ (tapeB v = true ∧ tapeB u = true ∧ v.size = u.size)) : xorT v u = (S [], false) := by simp only [xorT, if_neg h]

theorem xor_par (p q : Nat) : (p ^^^ q) % 2 = (p % 2 + q % 2) % 2 := by
  have h := Nat.testBit_xor p q 0
  simp only [Nat.testBit_zero] at h
  rcases Nat.mod_two_eq_zero_or_one p with a | a <;> rcases Nat.mod_two_eq_zero_or_one q with b | b <;> rcases Nat.mod_two_eq_zero_or_one (p ^^^ q) with c | c <;> rw [a, b, c] at h ⊢ <;> first | rfl | (exact absurd h (by decide))
/-- The bits of a sum. -/
theorem sum_bits {x y : UInt8} (hx0 : 0 ≤ dig x) (hy0 : 0 ≤ dig y) (k : Nat) :
    (xn x y >>> k) % 2 = ((dig x).toNat >>> k % 2 + (dig y).toNat >>> k % 2) % 2 := by
  obtain ⟨a, ha⟩ := Int.eq_ofNat_of_zero_le hx0
  obtain ⟨b, hb⟩ := Int.eq_ofNat_of_zero_le hy0
  unfold xn
  rw [ha, hb, Int.toNat_natCast, Int.toNat_natCast, Nat.shiftRight_xor_distrib]
  generalize a >>> k = p
  generalize b >>> k = q
  exact xor_par p q

/-- The byte at an index, zero past the end. -/
def bAt (v : ByteArray) (i : Nat) : UInt8 := (L v).getD i 0
theorem bAt_eq {v : ByteArray} {i : Nat} (h : i < v.size) : bAt v i = v[i] := by
  simp [bAt, List.getD, List.getElem?_eq_getElem (show i < (L v).length by rw [size_L]; exact h), getElem_L]
theorem extract_one {s : ByteArray} {k : Nat} (h : k < s.size) : s.extract k (k + 1) = S [s[k]] := by
  apply L_inj
  rw [L_extract, L_S, List.drop_take]
  have hk : k < (L s).length := by rw [size_L]; exact h
  rw [show k + 1 - k = 1 by omega, List.drop_eq_getElem_cons hk, List.take_succ_cons, List.take_zero]
  rfl
theorem extract_snoc {s : ByteArray} {k : Nat} (h : k < s.size) : s.extract 0 k ++ S [s[k]] = s.extract 0 (k + 1) := by
  apply L_inj
  have hk : k < (L s).length := by rw [size_L]; exact h
  rw [L_append, L_extract, L_extract, L_S, List.drop_zero, List.drop_zero, List.take_succ_eq_append_getElem hk]
  rfl
theorem size_ext {s : ByteArray} {a b : Nat} (hb : b ≤ s.size) : (s.extract a b).size = b - a := by rw [ByteArray.size_extract]; omega
theorem get_ext {s : ByteArray} {b i : Nat} (hb : b ≤ s.size) (hi : i < b) : (s.extract 0 b)[i]'(by rw [size_ext hb]; omega) = s[i]'(by omega) := by
  simp only [getElem_L, L_extract, List.drop_zero, List.getElem_take]
theorem get_S {l : List UInt8} {i : Nat} (h : i < (S l).size) : (S l)[i] = l[i]'(by rw [size_S] at h; exact h) := by simp only [getElem_L, L_S]
theorem tape_one {x : UInt8} (h0 : 0 ≤ dig x) (h1 : dig x ≤ 7) : tapeB (S [x]) = true := by
  simp only [tapeB, Bool.and_eq_true, decide_eq_true_eq, L_S, size_S]
  exact ⟨by simp, by simp [(isTp_iff x).2 ⟨h0, h1⟩]⟩

/-- Adding a change to a letter gives the next one. -/
theorem delta_next {v : ByteArray} {k : Nat} (h1 : tapeB v = true) (hk : k + 1 < v.size) :
    xorT ((v.extract 0 (k + 1)).extract k (k + 1)) ((S (xorL (L v) (L v).tail)).extract k (k + 1)) = (S [v[k + 1]], true) := by
  have hd1 := tapeB_at h1 k (by omega)
  have hd2 := tapeB_at h1 (k + 1) hk
  have hl : (xorL (L v) (L v).tail).length = v.size - 1 := by rw [length_xorL, List.length_tail, size_L]; omega
  have hs : k < (S (xorL (L v) (L v).tail)).size := by rw [size_S, hl]; omega
  rw [extract_one (s := v.extract 0 (k + 1)) (by rw [size_ext (by omega)]; omega), get_ext (by omega) (by omega), extract_one hs, get_S hs]
  have hg : (xorL (L v) (L v).tail)[k]'(by rw [hl]; omega) = letr (xn v[k] v[k + 1] : Nat) := by simp [xorL, getElem_L]
  have hdx := dig_xor hd1.2 hd2.2
  have hxl := xn_lt hd1.2 hd2.2
  rw [hg, xorT_ok (tape_one hd1.1 hd1.2) (tape_one (by rw [hdx]; omega) (by rw [hdx]; omega)) (by rw [size_S, size_S]; rfl), L_S, L_S]
  congr 2
  simp only [xorL, List.zipWith_cons_cons, List.zipWith_nil_left]
  rw [xn_comm, xn_comm v[k] v[k + 1], xn_back hd2.1 hd2.2 hd1.2]

theorem deltaT_ok {v : ByteArray} (h1 : tapeB v = true) : deltaT v = S (xorL (L v) (L v).tail) := by simp [deltaT, h1]

theorem i64_and_nat (a b : Nat) (ha : a < 9223372036854775808) (hb : b < 9223372036854775808) : bits .and .i64 (a : Int) (b : Int) = ((a &&& b : Nat) : Int) := by
  have hx : a &&& b < 2 ^ 63 := Nat.and_lt_two_pow _ (by omega)
  show IntKind.i64.wrap ((BitVec.ofInt 64 (a : Int) &&& BitVec.ofInt 64 (b : Int)).toNat : Int) = _
  rw [BitVec.toNat_and, ofInt_i64 a ha, ofInt_i64 b hb, IntKind.wrap_i64]
  omega
/-- The bit of a letter's number, as the program reckons it. -/
theorem bit_of {x : UInt8} (h0 : 0 ≤ dig x) (k : Nat) : bits .and .i64 (((x.toNat : Int) - 97) / 2 ^ k) 1 = (((dig x).toNat >>> k % 2 : Nat) : Int) := by
  have hb := dig_bd x
  obtain ⟨n, hn⟩ := Int.eq_ofNat_of_zero_le h0
  have e : ((x.toNat : Int) - 97) = (n : Int) := hn
  have e2 : ((n : Int) / 2 ^ k) = ((n >>> k : Nat) : Int) := by
    rw [Nat.shiftRight_eq_div_pow, Int.natCast_ediv]; simp
  have hl : n >>> k ≤ n := Nat.shiftRight_le _ _
  rw [e, e2, show (1 : Int) = ((1 : Nat) : Int) from rfl, i64_and_nat _ _ (by omega) (by omega), Nat.and_one_is_mod, hn, Int.toNat_natCast]
theorem bits_fact {x y z : UInt8} (hx0 : 0 ≤ dig x) (hy0 : 0 ≤ dig y) (hz : dig z = (xn x y : Nat)) (k : Nat) :
    ∃ c1 c2 c3 : Int, bits .and .i64 (((x.toNat : Int) - 97) / 2 ^ k) 1 = c1 ∧ bits .and .i64 (((y.toNat : Int) - 97) / 2 ^ k) 1 = c2 ∧ bits .and .i64 (((z.toNat : Int) - 97) / 2 ^ k) 1 = c3 ∧
      0 ≤ c1 ∧ c1 ≤ 1 ∧ 0 ≤ c2 ∧ c2 ≤ 1 ∧ (c3 != (c1 + c2) % 2) = false := by
  refine ⟨_, _, _, bit_of hx0 k, bit_of hy0 k, bit_of (by omega) k, by omega, by omega, by omega, by omega, ?_⟩
  have hs := sum_bits hx0 hy0 k
  rw [hz, Int.toNat_natCast, hs]
  simp
end Go.Proofs.Ytegbmjdaohnlaaa
