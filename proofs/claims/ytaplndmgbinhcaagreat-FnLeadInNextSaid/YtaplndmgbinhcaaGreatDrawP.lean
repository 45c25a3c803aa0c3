/- Contracts of the functions that draw words and permutations. -/
import Derived.Test.YtaplndmgbinhcaaGreatDraw
import Derived.Test.YtaplndmgbinhcaaGreatSpecC
import Derived.Deep.RegionLaw
import Derived.Deep.RegionHeld3
import Derived.Deep.DeepCutAuto
import Derived.Laws.Strings2
namespace Go.Proofs.YtaplndmgbinhcaaGreat
open Go.RowKit

theorem sl_one (s : ByteArray) (i : Nat) (h : i < s.size) (W : World) : (Instr.slice 9 (.string s) (some (.int .i64 (i : Int))) (some (.int .i64 ((i : Int) + 1))) none).run Tryz.prog W = .ok (.string (s.extract i (i + 1))) W :=
  run_slice_string W 9 s .i64 .i64 i (i + 1) Tryz.underlying9 (by omega) (by omega) (by omega)
theorem sl_to (s : ByteArray) (j : Nat) (h : j ≤ s.size) (W : World) : (Instr.slice 9 (.string s) none (some (.int .i64 (j : Int))) none).run Tryz.prog W = .ok (.string (s.extract 0 j)) W :=
  run_slice_string_h W 9 s Tryz.underlying9 .i64 j (by omega) (by omega)
theorem sl_from (s : ByteArray) (i : Nat) (h : i ≤ s.size) (W : World) : (Instr.slice 9 (.string s) (some (.int .i64 (i : Int))) none none).run Tryz.prog W = .ok (.string (s.extract i s.size)) W :=
  run_slice_string_l W 9 s Tryz.underlying9 .i64 i (by omega) (by omega)
theorem sl_next (s : ByteArray) (i : Nat) (h : i < s.size) (W : World) : (Instr.slice 9 (.string s) (some (.int .i64 ((i : Int) + 1))) none none).run Tryz.prog W = .ok (.string (s.extract (i + 1) s.size)) W :=
  run_slice_string_l W 9 s Tryz.underlying9 .i64 ((i : Int) + 1) (by omega) (by omega)

/-- What the drawing of a string leaves: a string with P. -/
def StrP (R : Nat) (P : ByteArray → Prop) (c : Nat) (w : World) (e : Ending) (w' : World) : Prop :=
  ∃ s : ByteArray, P s ∧ e = .returned (.string s) ∧ Rd w' R c ∧ Moved R w w'
/-- A word of n letters. -/
def Wd (n : Nat) (s : ByteArray) : Prop := wordB s = true ∧ s.size = n
theorem wd_of {l : List UInt8} (h : l.all isL = true) (hl : l.length ≤ 200) : Wd l.length (S l) := by
  refine ⟨?_, size_S l⟩
  simp only [wordB, Bool.and_eq_true, decide_eq_true_eq]
  exact ⟨by rw [size_S]; exact hl, by rw [L_S]; exact h⟩
theorem Wd.app {a b : ByteArray} {m n : Nat} (h : Wd m a) (k : Wd n b) (hl : m + n ≤ 200) : Wd (m + n) (a ++ b) := by
  obtain ⟨h1, h2⟩ := h
  obtain ⟨k1, k2⟩ := k
  have e : a ++ b = S (L a ++ L b) := L_inj (by rw [L_append, L_S])
  simp only [wordB, Bool.and_eq_true] at h1 k1
  have := wd_of (l := L a ++ L b) (by rw [List.all_append, h1.2, k1.2]; rfl) (by rw [List.length_append, size_L, size_L]; omega)
  rw [List.length_append, size_L, size_L, h2, k2, ← e] at this
  exact this
theorem Wd.letr (n : Int) : Wd 1 (S [letr n]) := wd_of (l := [Go.Proofs.YtaplndmgbinhcaaGreat.letr n]) (by simp [isL_letr]) (by simp)
theorem Wd.nil : Wd 0 ⟨#[]⟩ := wd_of (l := []) rfl (by simp)
theorem Wd.ext {s : ByteArray} {n : Nat} (h : Wd n s) (a b : Nat) (hb : b ≤ n) : Wd (b - a) (s.extract a b) := by
  obtain ⟨h1, h2⟩ := h
  simp only [wordB, Bool.and_eq_true, decide_eq_true_eq] at h1
  have hl : L (s.extract a b) = ((L s).take b).drop a := L_extract s a b
  have hal : (((L s).take b).drop a).all isL = true := by
    rw [List.all_eq_true] at *
    intro x hx
    exact h1.2 x (List.mem_of_mem_take (List.mem_of_mem_drop hx))
  have hlen : (((L s).take b).drop a).length = b - a := by simp [size_L]; omega
  have := wd_of hal (by omega)
  rw [hlen, ← hl, S_L] at this
  exact this

theorem l1Some_any (R : Nat) (n : Nat) (c : Nat) (w : World) (h : Rd w R c) (hc : c ≤ 10000000) (hn : n ≤ 200) :
    Calls Tryz.prog 46 #[.pointer (some ⟨R, 0, none⟩), .int .i64 (n : Int)] w (StrP R (Wd n) (c + n) w) := by
  go_enter Tryz.func46, Tryz.ntmps46
  go_wp2
  go_loopw [5, 6] (fun o i wr => ∃ (k : Nat) (s : ByteArray), k ≤ n ∧ i = .int .i64 k ∧ o = .string s ∧ Wd k s ∧ Rd wr R (c + k) ∧ Moved R w wr) (fun _ i _ => n - (intOf i).toNat)
  case atStart => exact ⟨0, ⟨#[]⟩, by omega, rfl, rfl, Wd.nil, h, Moved.refl _ _⟩
  case round =>
    obtain ⟨k, s, hk, rfl, rfl, hs, hr, hm⟩ := hrel
    have HS := Lib.hid hs
    have hsz : s.size ≤ 200 := by rw [hs.2]; omega
    clear hs
    by_cases hlt : k < n
    · go_wp2_with fail
      refine (pick_any R _ (c + k) _ hr (by omega) (by omega) (by omega)).mono ?_
      rintro e w2 ⟨v, rfl, hv0, hv1, _, hr2, hm2⟩
      clear hv1
      have hs1 : (S [letr v]).size ≤ 1 := by rw [size_S]; simp
      go_wp2_with (go_at_call 36; ((with_reducible refine (l1Letter_any _ _).mono ?_); rintro e w3 ⟨rfl, hb3⟩))
      go_roundw
      case rel => exact ⟨k + 1, s ++ S [letr v], by omega, by go_num, rfl, HS.out.app (Wd.letr v) (by omega), hr2.below hb3 hr2.lt, (hm.trans hm2).below hb3⟩
      case measure => simp [intOf]; omega
    · have hk' : k = n := by omega
      subst hk'
      go_wp2
      go_ret
      exact ⟨s, HS.out, rfl, hr, hm⟩

theorem specIdentityPerm_any (w : World) :
    Calls Tryz.prog 83 #[] w fun e w' => e = .returned (.string (wd idP)) ∧ Below w.heap.size w w' := by
  go_enter Tryz.func83, Tryz.ntmps83
  go_wp2
  go_loopw [1, 2] (fun o i wr => ∃ k : Nat, k ≤ 10 ∧ i = .int .i64 k ∧ o = .string (wd (List.range k)) ∧ Below w.heap.size w wr) (fun _ i _ => 10 - (intOf i).toNat)
  case atStart => exact ⟨0, by omega, rfl, rfl, Below.refl _ _⟩
  case round =>
    obtain ⟨k, hk, rfl, rfl, hb⟩ := hrel
    have hsz : (wd (List.range k)).size ≤ 10 := by rw [size_wd]; simp; omega
    have hs1 : (S [letr (k : Int)]).size ≤ 1 := by rw [size_S]; simp
    by_cases hlt : k < 10
    · go_wp2_with (go_at_call 36; ((with_reducible refine (l1Letter_any _ _).mono ?_); rintro e w1 ⟨rfl, hb1⟩))
      go_roundw
      case rel => exact ⟨k + 1, by omega, by go_num, by rw [List.range_succ, wd_snoc], bt hb hb1⟩
      case measure => simp [intOf]; omega
    · have hk' : k = 10 := by omega
      subst hk'
      go_wp2
      go_ret
      exact ⟨rfl, hb⟩

/-- A word, n added to its letters. -/
def shW (s : ByteArray) (n : Int) : ByteArray := S ((L s).map fun c => letr (dig c + n))
theorem size_shW (s : ByteArray) (n : Int) : (shW s n).size = s.size := by simp [shW, size_S, size_L]
theorem specShiftWord_any (s : ByteArray) (n : Int) (w : World) (hs : wordB s = true) (h0 : 0 ≤ n) (h9 : n ≤ 9) :
    Calls Tryz.prog 89 #[.string s, .int .i64 n] w fun e w' => e = .returned (.string (shW s n)) ∧ Below w.heap.size w w' := by
  have hb200 := wordB_size hs
  have hwv := fun W => specWordValid_any s W (by omega)
  rw [hs] at hwv
  have hin := fun W => l1In_any n 0 9 W
  have e1 : (decide ((0 : Int) ≤ n) && decide (n ≤ 9)) = true := by simp; omega
  rw [e1] at hin
  clear e1
  go_enter Tryz.func89, Tryz.ntmps89
  go_wp2_with (first | (go_at_call 33; ((with_reducible refine (hwv _).mono ?_); rintro e w' ⟨rfl, rfl⟩)) | (go_at_call 51; ((with_reducible refine (hin _).mono ?_); rintro e w' ⟨rfl, rfl⟩)))
  go_loopw [5, 6] (fun o i wr => ∃ k : Nat, k ≤ s.size ∧ i = .int .i64 k ∧ o = .string (S (((L s).map fun c => letr (dig c + n)).take k)) ∧ Below w.heap.size w wr) (fun _ i _ => s.size - (intOf i).toNat)
  case atStart => exact ⟨0, by omega, rfl, rfl, Below.refl _ _⟩
  case round =>
    clear hwv hin
    obtain ⟨k, hk, rfl, rfl, hb⟩ := hrel
    have hsz : (S (((L s).map fun c => letr (dig c + n)).take k)).size ≤ 200 := by rw [size_S]; have := List.length_take_le k ((L s).map fun c => letr (dig c + n)); omega
    by_cases hlt : k < s.size
    · have hd := dig_bd s[k]
      have hs1 : (S [letr (dig s[k] + n)]).size ≤ 1 := by rw [size_S]; simp
      have hsk : s[(k : Int).toNat]'(by omega) = s[k] := by simp
      have hdg := fun W => l1Digit_any s k W (by omega) (by omega) (by omega)
      rw [hsk] at hdg
      have HT := Lib.hid (show ((L s).map fun c => letr (dig c + n)).take (k + 1) = ((L s).map fun c => letr (dig c + n)).take k ++ [letr (dig s[k] + n)] by
        rw [List.take_succ_eq_append_getElem (by simpa [size_L] using hlt)]; simp [getElem_L])
      clear hsk
      go_wp2_with (first | (go_at_call 37; ((with_reducible refine (hdg _).mono ?_); rintro e w' ⟨rfl, rfl⟩)) | (go_at_call 36; ((with_reducible refine (l1Letter_any _ _).mono ?_); rintro e w1 ⟨rfl, hb1⟩)))
      go_roundw
      case rel => exact ⟨k + 1, by omega, by go_num, by rw [HT.out, S_append], bt hb hb1⟩
      case measure => simp [intOf]; omega
    · go_wp2
      go_ret
      refine ⟨ret_str ?_, hb⟩
      rw [List.take_of_length_le (by simp [size_L]; omega)]; rfl
theorem rev_step {s : ByteArray} {j : Nat} (h : j < s.size) : S ((L s).drop (j + 1)).reverse ++ s.extract j (j + 1) = S ((L s).drop j).reverse := by
  apply L_inj
  have hj : j < (L s).length := by rw [size_L]; exact h
  have e : ((L s).take (j + 1)).drop j = [(L s)[j]] := by
    rw [List.take_succ_eq_append_getElem hj, List.drop_append_of_le_length (by simp; omega), List.drop_eq_nil_of_le (by simp; omega)]; rfl
  rw [L_append, L_S, L_S, L_extract, e]
  conv => rhs; rw [List.drop_eq_getElem_cons hj, List.reverse_cons]
set_option maxRecDepth 100000 in
theorem specReverseWord_any (s : ByteArray) (w : World) (hs : wordB s = true) :
    Calls Tryz.prog 100 #[.string s] w fun e w' => e = .returned (.string (S (L s).reverse)) ∧ w = w' := by
  have hb200 := wordB_size hs
  have hwv := fun W => specWordValid_any s W (by omega)
  rw [hs] at hwv
  go_enter Tryz.func100, Tryz.ntmps100
  go_wp2_with (go_at_call 33; ((with_reducible refine (hwv _).mono ?_); rintro e w' ⟨rfl, rfl⟩))
  go_loop [3, 4] (fun o i => ∃ k : Nat, k ≤ s.size ∧ i = .int .i64 ((k : Int) - 1) ∧ o = .string (S ((L s).drop k).reverse)) (fun _ i => (intOf i + 1).toNat)
  case atStart => exact ⟨s.size, Nat.le_refl _, rfl, by rw [List.drop_of_length_le (by rw [size_L]; omega)]; rfl⟩
  case round =>
    clear hwv
    obtain ⟨k, hk, rfl, rfl⟩ := hrel
    have hsz : (S ((L s).drop k).reverse).size ≤ 200 := by rw [size_S]; simp [size_L]; omega
    by_cases hlt : 0 < k
    · obtain ⟨j, rfl⟩ : ∃ j, k = j + 1 := ⟨k - 1, by omega⟩
      have q1 : (((j + 1 : Nat)) : Int) - 1 = (j : Int) := by omega
      have HX := Lib.hid (rev_step (show j < s.size by omega))
      have hx1 : (s.extract j (j + 1)).size ≤ 1 := by simp; omega
      rw [q1]
      clear q1
      have hsl := sl_one s j (by omega)
      go_wp2
      go_round
      case rel => exact ⟨j, by omega, rfl, by rw [HX.out]⟩
      case measure => simp [intOf]
    · have hk0 : k = 0 := by omega
      subst hk0
      go_wp2
      go_ret
      exact ⟨rfl, rfl⟩
end Go.Proofs.YtaplndmgbinhcaaGreat
