/- Contracts of the functions that draw wheels, tapes and numbers. -/
import Derived.Test.YtegbmjdaohnlaaaDraw
namespace Go.Proofs.Ytegbmjdaohnlaaa
open Go.RowKit

/-- What the drawing of a string leaves: a string of at most m bytes. -/
def StrPost (R : Nat) (m : Nat) (c : Nat) (w : World) (e : Ending) (w' : World) : Prop :=
  ∃ s : ByteArray, s.size ≤ m ∧ e = .returned (.string s) ∧ Rd w' R c ∧ Moved R w w'

set_option maxRecDepth 100000 in
theorem l15Wheel_any (R : Nat) (c : Nat) (w : World) (h : Rd w R c) (hc : c ≤ 10000000) :
    Calls Try.prog 69 #[.pointer (some ⟨R, 0, none⟩)] w (StrPost R 9 (c + 11) w) := by
  go_enter Try.func69, Try.ntmps69
  go_wp2_with fail
  refine (pick_any R _ c w h (by omega) (by omega) (by omega)).mono ?_
  rintro e w1 ⟨v, rfl, hv0, hv1, _, hr, hm⟩
  have hv2 : v < 8 := hv1 (by omega)
  clear hv1
  go_wp2_with fail
  go_loopw [3, 4] (fun o i wr => ∃ (k : Nat) (s : ByteArray), k ≤ 9 ∧ i = .int .i64 k ∧ o = .string s ∧ s.size + k ≤ 9 ∧ Rd wr R (c + 11 - k) ∧ Moved R w wr) (fun _ i _ => (intOf i).toNat)
  case atStart =>
    obtain ⟨k, rfl⟩ := Int.eq_ofNat_of_zero_le hv0
    exact ⟨k + 2, ⟨#[]⟩, by omega, by congr 1; omega, rfl, by rw [size_nil]; omega, hr.more (by omega), hm⟩
  case round =>
    obtain ⟨k, s, hk, rfl, rfl, hs, hr', hm'⟩ := hrel
    by_cases hlt : 0 < k
    · go_wp2_with fail
      refine (of_any R _ _ _ [⟨#[48]⟩, ⟨#[49]⟩] (c + 11 - k) _ rfl (Own.new _ _ _) (by simp) (by have := hr'.lt; simp; omega) (hr'.alloc _) (by omega) (by simp)).mono ?_
      rintro e w2 ⟨t, ht, rfl, hr2, hm2⟩
      have hts : t.size = 1 := by
        simp at ht
        rcases ht with rfl | rfl <;> rfl
      have hts1 : t.size ≤ 1 := by omega
      have Ht := Lib.hid hts
      clear hts ht
      go_wp2
      go_roundw
      case rel =>
        refine ⟨k - 1, s ++ t, by omega, ?_, rfl, ?_, hr2.more (by omega), hm'.trans ((Moved.refl _ _).alloc _ |>.trans hm2)⟩
        · congr 1; omega
        · rw [ByteArray.size_append, Ht.out]; omega
      case measure => simp [intOf]; omega
    · go_wp2
      go_ret
      exact ⟨s, by omega, rfl, hr'.more (by omega), hm'⟩

theorem many_step (s k : Nat) : s * k = (s + s) * (k / 2) + (if k % 2 = 1 then s else 0) := by
  have e : ∀ q, (s + s) * q = s * (2 * q) := fun q => by rw [← Nat.two_mul, Nat.mul_assoc 2 s q, Nat.mul_left_comm]
  rcases Nat.mod_two_eq_zero_or_one k with h | h
  · rw [e, if_neg (by omega), show 2 * (k / 2) = k by omega, Nat.add_zero]
  · rw [e, if_pos h, ← Nat.mul_succ, show (2 * (k / 2)).succ = k by omega]

theorem l21Many_any (s0 : ByteArray) (n : Nat) (w : World) (M : Nat) (hM : s0.size * n ≤ M) (hM2 : M ≤ 1000000) (hs0 : s0.size ≤ 1000000) (hn : n ≤ 1000000) :
    Calls Try.prog 67 #[.string s0, .int .i64 (n : Int)] w fun e w' => ∃ o : ByteArray, o.size ≤ M ∧ e = .returned (.string o) ∧ w = w' := by
  go_enter Try.func67, Try.ntmps67
  go_wp2
  go_loop [0, 1, 5] (fun a i o => ∃ (k : Nat) (s t : ByteArray), k ≤ 1000000 ∧ a = .string s ∧ i = .int .i64 k ∧ o = .string t ∧ t.size + s.size * k ≤ M ∧ s.size ≤ 2 * M + s0.size) (fun _ i _ => (intOf i).toNat)
  case atStart => exact ⟨n, s0, ⟨#[]⟩, hn, rfl, rfl, rfl, by rw [size_nil]; omega, by omega⟩
  case round =>
    obtain ⟨k, s, t, hk, rfl, rfl, rfl, h1, h2⟩ := hrel
    by_cases hlt : 0 < k
    · have hst := many_step s.size k
      have hsk : s.size ≤ s.size * k := Nat.le_mul_of_pos_right _ hlt
      by_cases ho : k % 2 = 1
      · have t1 : ((k : Int) % 2 == 1) = true := by rw [beq_iff_eq]; omega
        rw [if_pos ho] at hst
        have HST := Lib.hid hst
        have hq : t.size + s.size ≤ M := by omega
        clear ho hst
        go_wp2
        go_round
        case rel =>
          refine ⟨k / 2, s ++ s, t ++ s, by omega, rfl, by go_num, rfl, ?_, ?_⟩
          · have := HST.out; rw [ByteArray.size_append, ByteArray.size_append]; omega
          · rw [ByteArray.size_append]; omega
        case measure => simp [intOf]; omega
      · have t1 : ((k : Int) % 2 == 1) = false := by rw [beq_eq_false_iff_ne]; omega
        rw [if_neg ho] at hst
        have HST := Lib.hid hst
        clear ho hst
        go_wp2
        go_round
        case rel =>
          refine ⟨k / 2, s ++ s, t, by omega, rfl, by go_num, rfl, ?_, ?_⟩
          · have := HST.out; rw [ByteArray.size_append]; omega
          · rw [ByteArray.size_append]; omega
        case measure => simp [intOf]; omega
    · go_wp2
      go_ret
      exact ⟨t, by omega, rfl, rfl⟩

theorem l16Tape_any (R : Nat) (n : Nat) (c : Nat) (w : World) (h : Rd w R c) (hc : c ≤ 10000000) (hn : n ≤ 1000) :
    Calls Try.prog 52 #[.pointer (some ⟨R, 0, none⟩), .int .i64 (n : Int)] w (StrPost R n (c + n) w) := by
  go_enter Try.func52, Try.ntmps52
  go_wp2
  go_loopw [5, 6] (fun o i wr => ∃ (k : Nat) (s : ByteArray), k ≤ n ∧ i = .int .i64 k ∧ o = .string s ∧ s.size ≤ k ∧ Rd wr R (c + k) ∧ Moved R w wr) (fun _ i _ => n - (intOf i).toNat)
  case atStart => exact ⟨0, ⟨#[]⟩, by omega, rfl, rfl, by rw [size_nil]; omega, h, Moved.refl _ _⟩
  case round =>
    obtain ⟨k, s, hk, rfl, rfl, hs, hr, hm⟩ := hrel
    by_cases hlt : k < n
    · go_wp2_with fail
      refine (pick_any R _ (c + k) _ hr (by omega) (by omega) (by omega)).mono ?_
      rintro e w2 ⟨v, rfl, hv0, hv1, _, hr2, hm2⟩
      clear hv1
      have hs1 : (S [letr v]).size ≤ 1 := by rw [size_S]; simp
      go_wp2_with (go_at_call 41; ((with_reducible refine (l1Letter_any _ _).mono ?_); rintro e w3 ⟨rfl, hb3⟩))
      go_roundw
      case rel =>
        refine ⟨k + 1, s ++ S [letr v], by omega, by go_num, rfl, ?_, hr2.below hb3 hr2.lt, (hm.trans hm2).below hb3⟩
        rw [ByteArray.size_append]; omega
      case measure => simp [intOf]; omega
    · go_wp2
      go_ret
      exact ⟨s, by omega, rfl, hr.more (by omega), hm⟩

theorem l16Bad_any (R : Nat) (s : ByteArray) (c : Nat) (w : World) (h : Rd w R c) (hc : c ≤ 10000000) (hs : s.size ≤ 1000) :
    Calls Try.prog 51 #[.pointer (some ⟨R, 0, none⟩), .string s] w (StrPost R 1001 (c + 2) w) := by
  go_enter Try.func51, Try.ntmps51
  go_wp2_with fail
  refine (pick_any R _ c w h (by omega) (by omega) (by omega)).mono ?_
  rintro e w1 ⟨v, rfl, hv0, hv1, _, hr, hm⟩
  clear hv1
  by_cases e0 : v = 0
  · have t0 : (v == 0) = true := by simp [e0]
    clear e0
    go_wp2_with fail
    refine (of_any R _ _ _ [⟨#[105]⟩, ⟨#[106]⟩, ⟨#[107]⟩, ⟨#[32]⟩] (c + 1) _ rfl (Own.new _ _ _) (by simp) (by have := hr.lt; simp; omega) (hr.alloc _) (by omega) (by simp)).mono ?_
    rintro e w2 ⟨t, ht, rfl, hr2, hm2⟩
    have hts : t.size ≤ 1 := by
      simp at ht
      rcases ht with rfl | rfl | rfl | rfl <;> decide
    clear ht
    go_wp2
    go_ret
    exact ⟨s ++ t, by rw [ByteArray.size_append]; omega, rfl, hr2, hm.trans ((Moved.refl _ _).alloc _ |>.trans hm2)⟩
  · have t0 : (v == 0) = false := by simp [e0]
    by_cases e1 : v = 1
    · have t1 : (v == 1) = true := by simp [e1]
      clear e1 e0
      go_wp2_with fail
      refine (num_any R _ _ _ [200, 201] (c + 1) _ rfl (Own.new _ _ _) (by simp) (by have := hr.lt; simp; omega) (hr.alloc _) (by omega) (by simp)).mono ?_
      rintro e w2 ⟨t, ht, rfl, hr2, hm2⟩
      obtain ⟨q, rfl, hq⟩ : ∃ q : Nat, t = (q : Int) ∧ q ≤ 201 := by
        simp at ht
        rcases ht with rfl | rfl
        · exact ⟨200, rfl, by omega⟩
        · exact ⟨201, rfl, by omega⟩
      clear ht
      go_wp2_with fail
      refine (l21Many_any _ q _ 201 (by show 1 * q ≤ 201; omega) (by omega) (by decide) (by omega)).mono ?_
      rintro e w3 ⟨o, ho, rfl, rfl⟩
      go_wp2
      go_ret
      exact ⟨o, by omega, rfl, hr2, hm.trans ((Moved.refl _ _).alloc _ |>.trans hm2)⟩
    · have t1 : (v == 1) = false := by simp [e1]
      clear e1 e0
      go_wp2
      go_ret
      exact ⟨s, by omega, rfl, hr.more (by omega), hm⟩

/-- What the drawing of a number leaves. -/
def IntPost (R : Nat) (P : Int → Prop) (c : Nat) (w : World) (e : Ending) (w' : World) : Prop :=
  ∃ n : Int, P n ∧ e = .returned (.int .i64 n) ∧ Rd w' R c ∧ Moved R w w'
def Is64 (n : Int) : Prop := -9223372036854775808 ≤ n ∧ n ≤ 9223372036854775807
theorem l16Number_any (R : Nat) (c : Nat) (w : World) (h : Rd w R c) (hc : c ≤ 10000000) :
    Calls Try.prog 60 #[.pointer (some ⟨R, 0, none⟩)] w (IntPost R Is64 (c + 2) w) := by
  go_enter Try.func60, Try.ntmps60
  go_wp2_with fail
  refine (pick_any R _ c w h (by omega) (by omega) (by omega)).mono ?_
  rintro e w1 ⟨v, rfl, hv0, hv1, _, hr, hm⟩
  clear hv1
  by_cases e0 : v = 0
  · have t0 : (v == 0) = true := by simp [e0]
    clear e0
    go_wp2_with fail
    refine (num_any R _ _ _ [-1, 200, 201, 9223372036854775807] (c + 1) _ rfl (Own.new _ _ _) (by simp) (by have := hr.lt; simp; omega) (hr.alloc _) (by omega) (by simp)).mono ?_
    rintro e w2 ⟨t, ht, rfl, hr2, hm2⟩
    have Hts : Is64 t := by
      simp at ht
      unfold Is64
      omega
    clear ht
    go_wp2
    go_ret
    exact ⟨t, Hts, rfl, hr2, hm.trans ((Moved.refl _ _).alloc _ |>.trans hm2)⟩
  · have t0 : (v == 0) = false := by simp [e0]
    clear e0
    go_wp2_with fail
    refine (pick_any R _ (c + 1) _ hr (by omega) (by omega) (by omega)).mono ?_
    rintro e w2 ⟨u, rfl, hu0, hu1, _, hr2, hm2⟩
    have hu2 := hu1 (by omega)
    clear hu1
    go_wp2
    go_ret
    exact ⟨u, by unfold Is64; omega, rfl, hr2, hm.trans hm2⟩
end Go.Proofs.Ytegbmjdaohnlaaa
