/- Contracts of the functions that read permutations, plugboards and reflectors. -/
import Derived.Test.YtaplndmgbinhcaaGreatPermV2
namespace Go.Proofs.YtaplndmgbinhcaaGreat
open Go.RowKit

/-- The set of some numbers, as bits. -/
def mask (l : List Nat) : Nat := l.foldl (fun n x => n ||| 2 ^ x) 0
theorem mask_snoc (l : List Nat) (x : Nat) : mask (l ++ [x]) = mask l ||| 2 ^ x := by simp [mask]
theorem mask_foldl : ∀ (l : List Nat) (n y : Nat), (l.foldl (fun n x => n ||| 2 ^ x) n).testBit y = (n.testBit y || decide (y ∈ l))
  | [], n, y => by simp
  | x :: l, n, y => by
    rw [List.foldl_cons, mask_foldl l, Nat.testBit_or, Nat.testBit_two_pow]
    by_cases h : x = y
    · subst h; simp
    · have h' : ¬ y = x := fun e => h e.symm
      simp [h, h']
theorem mask_test (l : List Nat) (y : Nat) : (mask l).testBit y = decide (y ∈ l) := by rw [mask, mask_foldl]; simp
theorem mask_lt {l : List Nat} (h : ∀ x ∈ l, x < 10) : mask l < 1024 := by
  have : mask l < 2 ^ 10 := Nat.lt_pow_two_of_testBit _ fun i hi => by
    rw [mask_test]; simp; intro hm; have := h i hm; omega
  simpa using this
theorem i64_and_nat (a b : Nat) (ha : a < 9223372036854775808) (hb : b < 9223372036854775808) : bits .and .i64 (a : Int) (b : Int) = ((a &&& b : Nat) : Int) := by
  have hx : a &&& b ≤ a := Nat.and_le_left
  show IntKind.i64.wrap ((BitVec.ofInt 64 (a : Int) &&& BitVec.ofInt 64 (b : Int)).toNat : Int) = _
  rw [BitVec.toNat_and, ofInt_i64 a ha, ofInt_i64 b hb, IntKind.wrap_i64]
  omega
theorem i64_or_nat (a b : Nat) (ha : a < 9223372036854775808) (hb : b < 9223372036854775808) : bits .or .i64 (a : Int) (b : Int) = ((a ||| b : Nat) : Int) := by
  have hx : a ||| b < 2 ^ 63 := Nat.or_lt_two_pow (by omega) (by omega)
  show IntKind.i64.wrap ((BitVec.ofInt 64 (a : Int) ||| BitVec.ofInt 64 (b : Int)).toNat : Int) = _
  rw [BitVec.toNat_or, ofInt_i64 a ha, ofInt_i64 b hb, IntKind.wrap_i64]
  omega
/-- 'n>>d&1' -/
theorem bit_test (n d : Nat) (hn : n < 9223372036854775808) : bits .and .i64 ((n : Int) / 2 ^ d) 1 = if n.testBit d then 1 else 0 := by
  have h1 : ((n : Int) / 2 ^ d) = ((n / 2 ^ d : Nat) : Int) := by simp
  have h2 : n / 2 ^ d ≤ n := Nat.div_le_self _ _
  have h3 : n.testBit d = decide (n / 2 ^ d % 2 = 1) := by
    rw [Nat.testBit_eq_decide_div_mod_eq]
  rw [h1, show (1 : Int) = ((1 : Nat) : Int) from rfl, i64_and_nat _ _ (by omega) (by omega), Nat.and_one_is_mod, h3]
  rcases Nat.mod_two_eq_zero_or_one (n / 2 ^ d) with h | h <;> simp [h]

theorem size_z10 : (Tryz.prog.info? 91).map (·.size) = some z10.length := by rw [len_z10]; exact size_perm
theorem one_z10 : ∀ v ∈ z10, v.oneCell' = true := by
  intro v hv
  rw [List.eq_of_mem_replicate hv]
  rfl
theorem put_z10 {cs : List Value} (h : cs.length = 10) : put z10 0 cs = cs := put_all (by rw [h, len_z10])
theorem permB_size_no {s : ByteArray} (h : s.size ≠ 10) : permB s = false := by simp [permB, h]
theorem permB_word_no {s : ByteArray} {k : Nat} (hk : k < s.size) (hp : isL s[k] = false) : permB s = false := by simp [permB, wordB_no hk hp]
theorem dg_take_succ {s : ByteArray} {k : Nat} (hk : k < s.size) : (dg s).take (k + 1) = (dg s).take k ++ [(dig s[k]).toNat] := by
  have h : k < (dg s).length := by rw [len_dg]; exact hk
  rw [List.take_succ_eq_append_getElem h, ← pAt_get h, dg_at hk]
theorem permB_dup_no {s : ByteArray} {k : Nat} (hk : k < s.size) (hm : (dig s[k]).toNat ∈ (dg s).take k) : permB s = false := by
  simp only [permB, Bool.and_eq_false_iff, decide_eq_false_iff_not]
  refine .inr fun hn => ?_
  have h2 : ((dg s).take (k + 1)).Nodup := hn.sublist (List.take_sublist _ _)
  rw [dg_take_succ hk, List.nodup_append] at h2
  exact h2.2.2 _ hm _ (by simp) rfl
theorem permB_yes {s : ByteArray} (h10 : s.size = 10) (ha : allTo isL s 10) (hn : ((dg s).take 10).Nodup) : permB s = true := by
  simp only [permB, Bool.and_eq_true, decide_eq_true_eq]
  refine ⟨⟨h10, wordB_yes (by omega) ha (by omega)⟩, ?_⟩
  rw [List.take_of_length_le (by rw [len_dg]; omega)] at hn
  exact hn
theorem dg_take_lt {s : ByteArray} {k : Nat} (ha : allTo isL s k) : ∀ x ∈ (dg s).take k, x < 10 := by
  intro x hx
  obtain ⟨i, hi, rfl⟩ := List.getElem_of_mem hx
  have hi' : i < k ∧ i < s.size := by simp [len_dg] at hi; omega
  rw [List.getElem_take, ← pAt_get (by rw [len_dg]; exact hi'.2), dg_at hi'.2]
  have := (isL_iff _).1 (ha i hi'.2 hi'.1)
  omega

theorem wrap_pow : ∀ d, d < 10 → wrap64 (2 ^ d) = ((2 ^ d : Nat) : Int)  := fun d hd => by
  have h1 := Nat.pow_le_pow_right (n := 2) (by omega) (show d ≤ 9 by omega)
  have h2 : (2 : Int) ^ d = ((2 ^ d : Nat) : Int) := by simp
  rw [h2]
  clear h2
  generalize (2 ^ d : Nat) = n at *
  unfold wrap64; omega
/-- What permOf answers: the cells. -/
def permC (b : Bool) (s : ByteArray) : List Value := if b = true then pv (dg s) else z10
theorem permC_yes (s : ByteArray) : permC true s = pv (dg s) := rfl
theorem permC_no (s : ByteArray) : permC false s = z10 := rfl
theorem ret_ab {a b : List Value} {c d : Bool} (h : a = b) (h' : c = d) : Ending.returned (.tuple #[.agg a.toArray, .bool c]) = .returned (.tuple #[.agg b.toArray, .bool d]) := by rw [h, h']
theorem len_permC {b : Bool} {s : ByteArray} (h : b = true → permB s = true) : (permC b s).length = 10 := by
  cases b
  · exact len_z10
  · rw [permC_yes, length_pv, len_dg]; exact permB_size (h rfl)
theorem one_permC (b : Bool) (s : ByteArray) : ∀ v ∈ permC b s, v.oneCell' = true := by
  cases b
  · exact one_z10
  · exact pv_one _
theorem size_permC {b : Bool} {s : ByteArray} (h : b = true → permB s = true) : (Tryz.prog.info? 91).map (·.size) = some (permC b s).length := by rw [len_permC h]; exact size_perm

theorem permOf_any (s : ByteArray) (w : World) (_hs : s.size ≤ 4294967296) :
    Calls Tryz.prog 93 #[.string s] w fun e w' => e = .returned (.tuple #[.agg (permC (permB s) s).toArray, .bool (permB s)]) ∧ Below w.heap.size w w' := by
  by_cases h10 : s.size = 10
  · have H10 := Lib.hid h10
    have hne : ((s.size : Int) != 10) = false := by simp [h10]
    have hdl : (dg s).length = 10 := by rw [len_dg]; exact h10
    have hdl' : (pv (dg s)).length = 10 := by rw [length_pv]; exact hdl
    go_enter Tryz.func93, Tryz.ntmps93
    go_wp2_with fail
    have o2 := (Own.new w z10 91).alloc (.cells z10.toArray 91)
    have o3 := Own.new (w.alloc (.cells z10.toArray 91)) z10 91
    simp only [World.size_alloc] at o2 o3
    have hb := ((Below.refl w.heap.size w).alloc (Nat.le_refl _) (.cells z10.toArray 91)).alloc (by simp) (.cells z10.toArray 91)
    go_loopw [5, 6, 11] (fun m _ i wr => ∃ k : Nat, k ≤ 10 ∧ i = .int .i64 k ∧ allTo isL s k ∧ ((dg s).take k).Nodup ∧ m = .int .i64 (mask ((dg s).take k) : Nat) ∧ Own wr w.heap.size z10 ∧ Own wr (w.heap.size + 1) ((pv (dg s)).take k ++ z10.drop k) ∧ Below w.heap.size w wr) (fun _ _ i _ => 10 - (intOf i).toNat)
    case atStart => exact ⟨0, by omega, rfl, allTo_zero _ _, by simp, rfl, o2, by rw [zfill0]; exact o3, hb⟩
    case round =>
      clear o2 o3 hb
      obtain ⟨k, hk, rfl, ha, hnd, rfl, o2, o3, hb⟩ := hrel
      have hsz := o3.lt
      by_cases hlt : k < 10
      · have hks : k < s.size := by omega
        cases hd : isL s[k]
        · have hf := Lib.hid (permB_word_no hks hd)
          go_wp2_with (first | (go_at_call 42; ((with_reducible refine (implIsLetter_any _ _).mono ?_); rintro e w' ⟨rfl, rfl⟩)) | ((with_reducible refine wl_store 91 0 o2 size_z10 one_z10 (by rw [len_z10]; omega) ?_ ?_ ?_ ?_); (· rfl); (· rfl); (· rfl); intro w5 o5 b5 s5))
          rw [put_z10 len_z10] at o5
          refine bodyPost_ret (results_cell_tmp_own Tryz.results93 _ _ _ _ _ _ (by rfl) (by rfl) o5.cells Tryz.underlying91 rfl size_z10) rfl ?_
          exact ⟨ret_ab (by rw [hf.out]; rfl) (by rw [hf.out]), bel_store hb b5 (by omega) (by omega)⟩
        · obtain ⟨hd0, hd1⟩ := (isL_iff _).1 hd
          have hd97 : 97 ≤ s[k].toNat := by unfold dig at hd0; omega
          have hmk := mask_lt (dg_take_lt ha)
          have hmt := mask_test ((dg s).take k) (dig s[k]).toNat
          have hms := mask_snoc ((dg s).take k) (dig s[k]).toNat
          rw [← dg_take_succ hks] at hms
          obtain ⟨d, hdd⟩ := Int.eq_ofNat_of_zero_le hd0
          have hn := fun W => implNumber_any s[k] W hd97
          have hdup := fun hm => permB_dup_no hks hm
          have hnd' := dg_take_succ hks
          have hat := dg_at hks
          rw [hdd] at hn hd1
          rw [hdd, Int.toNat_natCast] at hmt hms hdup hnd' hat
          have hbt := bit_test (mask ((dg s).take k)) d (by omega)
          have HMS := Lib.hid hms
          have HNS := Lib.hid hnd'
          have HAT := Lib.hid hat
          clear hdd hd0 hms hnd' hat
          have hd9 : d ≤ 9 := by omega
          by_cases hm : d ∈ (dg s).take k
          · have hf := Lib.hid (hdup hm)
            rw [hmt, decide_eq_true hm, if_pos rfl] at hbt
            clear hdup
            go_wp2_with (first | (go_at_call 42; ((with_reducible refine (implIsLetter_any _ _).mono ?_); rintro e w' ⟨rfl, rfl⟩)) | (go_at_call 27; ((with_reducible refine (hn _).mono ?_); rintro e w' ⟨rfl, rfl⟩)) | ((with_reducible refine wl_store 91 0 o2 size_z10 one_z10 (by rw [len_z10]; omega) ?_ ?_ ?_ ?_); (· rfl); (· rfl); (· rfl); intro w5 o5 b5 s5))
            rw [put_z10 len_z10] at o5
            refine bodyPost_ret (results_cell_tmp_own Tryz.results93 _ _ _ _ _ _ (by rfl) (by rfl) o5.cells Tryz.underlying91 rfl size_z10) rfl ?_
            exact ⟨ret_ab (by rw [hf.out]; rfl) (by rw [hf.out]), bel_store hb b5 (by omega) (by omega)⟩
          · rw [hmt, decide_eq_false hm, if_neg (by simp)] at hbt
            clear hdup
            have hor := i64_or_nat (mask ((dg s).take k)) (2 ^ d) (by omega) (by have := Nat.pow_le_pow_right (n := 2) (by omega) hd9; omega)
            have hl3 := zfill_len hdl' hk
            obtain ⟨x3, f3⟩ := o3.some_ (i := k) (by omega)
            have g3 := o3.free k (by omega)
            go_wp2_with (first | (go_at_call 42; ((with_reducible refine (implIsLetter_any _ _).mono ?_); rintro e w' ⟨rfl, rfl⟩)) | (go_at_call 27; ((with_reducible refine (hn _).mono ?_); rintro e w' ⟨rfl, rfl⟩)))
            go_roundw
            case rel =>
              refine ⟨k + 1, by omega, by go_num, allTo_succ ha hks hd, ?_, ?_, o2.far (by simp) _, ?_, hb.setCell (by simp) _⟩
              · rw [HNS.out, List.nodup_append]
                exact ⟨hnd, by simp, fun a ha' b hb' e => by simp at hb'; subst hb'; exact hm (e ▸ ha')⟩
              · rw [HMS.out, wrap_pow d (by omega), hor]
              · rw [← zfill_set hdl hlt, HAT.out]
                exact o3.set_ (by omega) _
            case measure => simp [intOf]; omega
      · have hk' : k = 10 := by omega
        subst hk'
        rw [zfill10 hdl'] at o3
        have hy := Lib.hid (permB_yes h10 ha hnd)
        go_wp2_with (first | ((with_reducible refine wl_load 91 o3.cells (size_pv hdl) Tryz.underlying91 ?_ ?_ ?_ ?_); (· rfl); (· rfl); (· rfl)) | ((with_reducible refine wl_store 91 0 o2 (size_pv hdl) (pv_one _) (by rw [hdl', len_z10]; omega) ?_ ?_ ?_ ?_); (· rfl); (· rfl); (· rfl); intro w5 o5 b5 s5))
        rw [put_z10 hdl'] at o5
        refine bodyPost_ret (results_cell_tmp_own Tryz.results93 _ _ _ _ _ _ (by rfl) (by rfl) o5.cells Tryz.underlying91 rfl (size_pv hdl)) rfl ?_
        exact ⟨ret_ab (by rw [hy.out]; rfl) (by rw [hy.out]), bel_store hb b5 (by omega) (by omega)⟩
  · have hne : ((s.size : Int) != 10) = true := by simp; omega
    have hf := Lib.hid (permB_size_no h10)
    have o2 : Own ((w.alloc (.cells #[.int .u8 0, .int .u8 0, .int .u8 0, .int .u8 0, .int .u8 0, .int .u8 0, .int .u8 0, .int .u8 0, .int .u8 0, .int .u8 0] 91)).alloc (.cells #[.int .u8 0, .int .u8 0, .int .u8 0, .int .u8 0, .int .u8 0, .int .u8 0, .int .u8 0, .int .u8 0, .int .u8 0, .int .u8 0] 91)) w.heap.size z10 := (Own.new w z10 91).alloc (.cells z10.toArray 91)
    have o3 := Own.new (w.alloc (.cells z10.toArray 91)) z10 91
    simp only [World.size_alloc] at o3
    replace o3 : Own ((w.alloc (.cells #[.int .u8 0, .int .u8 0, .int .u8 0, .int .u8 0, .int .u8 0, .int .u8 0, .int .u8 0, .int .u8 0, .int .u8 0, .int .u8 0] 91)).alloc (.cells #[.int .u8 0, .int .u8 0, .int .u8 0, .int .u8 0, .int .u8 0, .int .u8 0, .int .u8 0, .int .u8 0, .int .u8 0, .int .u8 0] 91)) (w.heap.size + 1) z10 := o3
    have hb := ((Below.refl w.heap.size w).alloc (Nat.le_refl _) (.cells z10.toArray 91)).alloc (by simp) (.cells z10.toArray 91)
    go_enter Tryz.func93, Tryz.ntmps93
    go_wp2_with (first | ((with_reducible refine wl_load 91 o3.cells size_z10 Tryz.underlying91 ?_ ?_ ?_ ?_); (· rfl); (· rfl); (· rfl)) | ((with_reducible refine wl_store 91 0 o2 size_z10 one_z10 (by rw [len_z10]; omega) ?_ ?_ ?_ ?_); (· rfl); (· rfl); (· rfl); intro w5 o5 b5 s5))
    rw [put_z10 len_z10] at o5
    refine bodyPost_ret (results_cell_tmp_own Tryz.results93 _ _ _ _ _ _ (by rfl) (by rfl) o5.cells Tryz.underlying91 rfl size_z10) rfl ?_
    exact ⟨ret_ab (by rw [hf.out]; rfl) (by rw [hf.out]), bel_store hb b5 (by simp; omega) (by omega)⟩

theorem implPermValid_any (s : ByteArray) (w : World) (hs : s.size ≤ 4294967296) :
    Calls Tryz.prog 72 #[.string s] w fun e w' => e = .returned (.bool (permB s)) ∧ Below w.heap.size w w' := by
  go_enter Tryz.func72, Tryz.ntmps72
  go_wp2_with fail
  refine (permOf_any s w hs).mono ?_
  rintro e w1 ⟨rfl, hb1⟩
  generalize hc : permC (permB s) s = cs
  have hl : cs.length = 10 := by rw [← hc]; exact len_permC id
  have o1 : Own (w1.alloc (.cells #[.int .u8 0, .int .u8 0, .int .u8 0, .int .u8 0, .int .u8 0, .int .u8 0, .int .u8 0, .int .u8 0, .int .u8 0, .int .u8 0] 91)) w1.heap.size z10 := Own.new w1 z10 91
  go_wp2_with (first | ((with_reducible refine wl_store 91 0 o1 (by rw [hl]; exact size_perm) (by rw [← hc]; exact one_permC _ _) (by rw [hl, len_z10]; omega) ?_ ?_ ?_ ?_); (· rfl); (· rfl); (· rfl); intro w5 o5 b5 s5))
  go_ret
  exact ⟨rfl, bel_store (hb1.alloc hb1.size _) b5 (by have := hb1.size; simp; omega) hb1.size⟩
end Go.Proofs.YtaplndmgbinhcaaGreat
