/- The specification's cycles, fixed letters and reflectors. -/
import Derived.Test.YtaplndmgbinhcaaGreatSpecP
import Derived.Test.YtaplndmgbinhcaaGreatCyc
import Derived.Test.YtaplndmgbinhcaaGreatList
namespace Go.Proofs.YtaplndmgbinhcaaGreat
open Go.RowKit

theorem idx_no (c : UInt8) : ∀ (l : List UInt8), (∀ x ∈ l, x ≠ c) → Lib.indexByte l c = -1
  | [], _ => rfl
  | b :: l, h => by
    have h1 : (b == c) = false := by simpa using h b (by simp)
    have h2 := idx_no c l (fun x hx => h x (by simp [hx]))
    simp [Lib.indexByte, h1, h2]
theorem idx_yes (c : UInt8) : ∀ (l : List UInt8) (k : Nat) (hk : k < l.length), (∀ j (hj : j < k), l[j] ≠ c) → l[k] = c → Lib.indexByte l c = k
  | b :: l, 0, _, _, e => by simp at e; simp [Lib.indexByte, e]
  | b :: l, k + 1, hk, h, e => by
    have h1 : (b == c) = false := by simpa using h 0 (by omega)
    have h2 := idx_yes c l k (by simpa using hk) (fun j hj => by simpa using h (j + 1) (by omega)) (by simpa using e)
    have h3 : ¬ ((k : Int) = -1) := by omega
    simp [Lib.indexByte, h1, h2, h3]
theorem idx_mem {l : List UInt8} {c : UInt8} (h : c ∈ l) : ∃ n : Nat, n < l.length ∧ Lib.indexByte l c = (n : Int) := by
  induction l with
  | nil => simp at h
  | cons b l ih =>
    by_cases e : b = c
    · exact ⟨0, by simp, by simp [Lib.indexByte, e]⟩
    · have hm : c ∈ l := by
        rcases List.mem_cons.1 h with h | h
        · exact absurd h.symm e
        · exact h
      obtain ⟨n, hn, he⟩ := ih hm
      refine ⟨n + 1, by simp; omega, ?_⟩
      have h3 : ¬ ((n : Int) = -1) := by omega
      simp [Lib.indexByte, e, he, h3]
/-- None of the first k bytes is c. -/
def noTo (s : ByteArray) (c : UInt8) (k : Nat) : Prop := ∀ j (h : j < s.size), j < k → s[j] ≠ c
theorem l21Find_any (s : ByteArray) (c : UInt8) (w : World) (hs : s.size ≤ 4294967296) :
    Calls Tryz.prog 75 #[.string s, .int .u8 (c.toNat : Int)] w fun e w' => e = .returned (.int .i64 (Lib.indexByte (L s) c)) ∧ w = w' := by
  go_enter Tryz.func75, Tryz.ntmps75
  go_wp2
  go_loop [5] (fun i => ∃ k : Nat, k ≤ s.size ∧ i = .int .i64 k ∧ noTo s c k) (fun i => s.size - (intOf i).toNat)
  case atStart => exact ⟨0, Nat.zero_le _, rfl, fun _ _ h => absurd h (by omega)⟩
  case round =>
    obtain ⟨k, hk, rfl, ha⟩ := hrel
    have HA := Lib.hid ha
    clear ha
    by_cases hlt : k < s.size
    · by_cases he : s[k] = c
      · have t1 : ((s[k].toNat : Int) == (c.toNat : Int)) = true := by simp [he]
        have HE := Lib.hid he
        clear he
        go_wp2
        go_ret
        refine ⟨ret_int ?_, rfl⟩
        exact (idx_yes c (L s) k (by rw [size_L]; exact hlt) (fun j hj => HA.out j (by omega) hj) HE.out).symm
      · have t1 : ((s[k].toNat : Int) == (c.toNat : Int)) = false := by
          rw [beq_eq_false_iff_ne]
          exact fun h => he (UInt8.toNat.inj (by omega))
        have HE := Lib.hid he
        clear he
        go_wp2
        go_round
        case rel =>
          refine ⟨k + 1, by omega, by go_num, fun j hj hl => ?_⟩
          by_cases e : j = k
          · subst e; exact HE.out
          · exact HA.out j hj (by omega)
        case measure => simp [intOf]; omega
    · go_wp2
      go_ret
      refine ⟨ret_int ?_, rfl⟩
      refine (idx_no c (L s) fun x hx => ?_).symm
      obtain ⟨j, hj, rfl⟩ := List.getElem_of_mem hx
      rw [size_L] at hj
      exact HA.out j hj (by omega)

theorem wd_snoc (l : List Nat) (n : Nat) : wd (l ++ [n]) = wd l ++ S [letr (n : Int)] := by unfold wd; rw [S_append]; simp
theorem wd_append (a b : List Nat) : wd (a ++ b) = wd a ++ wd b := by unfold wd; rw [S_append]; simp
theorem wd_one (n : Nat) : wd [n] = S [letr (n : Int)] := rfl
theorem l3Cycle_any (s : ByteArray) (a : Nat) (w : World) (hp : permB s = true) (ha : a < 10) :
    Calls Tryz.prog 107 #[.string s, .int .i64 (a : Int)] w fun e w' => e = .returned (.string (wd (cycL (dg s) a))) ∧ Below w.heap.size w w' := by
  have hP := permB_isP hp
  have ho10 := ordP_le hP ha
  go_enter Tryz.func107, Tryz.ntmps107
  go_wp2_with (first | (go_at_call 36; ((with_reducible refine (l1Letter_any _ _).mono ?_); rintro e w1 ⟨rfl, hb1⟩)) | (go_at_call 106; ((with_reducible refine (l2Image_any s a _ hp ha).mono ?_); rintro e w' ⟨rfl, rfl⟩)))
  go_loopw [5, 6] (fun o n wr => ∃ k : Nat, 1 ≤ k ∧ k ≤ ordP (dg s) a ∧ o = .string (wd ((List.range k).map fun i => itP (dg s) i a)) ∧ n = .int .i64 (itP (dg s) k a : Nat) ∧ Below w.heap.size w wr) (fun o _ _ => 10 - (match o with | .string t => t.size | _ => 0))
  case atStart => exact ⟨1, by omega, ordP_pos _ _, rfl, rfl, hb1⟩
  case round =>
    clear hb1
    obtain ⟨k, hk1, hk2, rfl, rfl, hb⟩ := hrel
    have hlt := itP_lt hP ha k
    by_cases he : itP (dg s) k a = a
    · have t1 : (((itP (dg s) k a : Nat) : Int) != (a : Int)) = false := by simp [he]
      have HK := Lib.hid (ordP_eq hk1 hk2 he)
      clear he
      go_wp2
      go_ret
      refine ⟨ret_str ?_, hb⟩
      unfold cycL
      rw [← HK.out]
    · have t1 : (((itP (dg s) k a : Nat) : Int) != (a : Int)) = true := by rw [bne_iff_ne]; omega
      have hk3 : k < ordP (dg s) a := by
        rcases Nat.lt_or_ge k (ordP (dg s) a) with h | h
        · exact h
        · have : k = ordP (dg s) a := by omega
          exact absurd (this ▸ ordP_spec hP ha) he
      clear he
      have hsz : (wd ((List.range k).map fun i => itP (dg s) i a)).size ≤ 10 := by rw [size_wd]; simp; omega
      have Hsz := Lib.hid (show (wd ((List.range k).map fun i => itP (dg s) i a)).size = k by rw [size_wd]; simp)
      have hs1 : (S [letr ((itP (dg s) k a : Nat) : Int)]).size ≤ 1 := by rw [size_S]; simp
      go_wp2_with (first | (go_at_call 36; ((with_reducible refine (l1Letter_any _ _).mono ?_); rintro e w1 ⟨rfl, hb1⟩)) | (go_at_call 106; ((with_reducible refine (l2Image_any s _ _ hp hlt).mono ?_); rintro e w' ⟨rfl, rfl⟩)))
      go_roundw
      case rel =>
        refine ⟨k + 1, by omega, by omega, ?_, rfl, bt hb hb1⟩
        rw [List.range_succ, List.map_append, List.map_cons, List.map_nil, wd_snoc]
      case measure =>
        have := Hsz.out
        simp only [ByteArray.size_append, size_S, List.length_cons, List.length_nil]
        omega

theorem inf_str : (Tryz.prog.info? 9).map (fun i => (i.zero, i.size, i.bytes)) = some (some (.string ⟨#[]⟩), 1, 16) := by kernel_rfl
/-- What a function that answers strings leaves. -/
def StrsPost (ss : List ByteArray) (w : World) (e : Ending) (w' : World) : Prop := RowPost 9 1 ss.length (sv ss) w e w'
/-- The cycles of a string, as words. -/
def cycsS (s : ByteArray) : List ByteArray := if permB s = true then (cycs (dg s)).map wd else []
set_option maxHeartbeats 400000 in
theorem specCyclesOf_any (s : ByteArray) (w : World) (hs : s.size ≤ 4294967296) :
    Calls Tryz.prog 104 #[.string s] w (StrsPost (cycsS s) w) := by
  have hb0 := (Below.refl w.heap.size w).alloc (Nat.le_refl _) (.cells #[] 9)
  have r0 : OwR (w.alloc (.cells #[] 9)) w.heap.size 9 1 (.slice (some ⟨w.heap.size, 0, none⟩) 0 0) 0 [] := World.ownsRow_lit w #[] 0 (Nat.le_refl _) (by unfold maxLen; omega) rfl
  cases hp : permB s with
  | false =>
    have hst : cycsS s = [] := by simp [cycsS, hp]
    have hc := fun W => specPermValid_any s W hs
    rw [hp] at hc
    rw [hst]
    go_enter Tryz.func104, Tryz.ntmps104
    go_wp2_with (go_at_call 73; ((with_reducible refine (hc _).mono ?_); rintro e w1 ⟨rfl, hb1⟩))
    go_ret
    exact ⟨_, rfl, OwR.below r0 hb1 (Nat.le_refl _), bt hb0 hb1⟩
  | true =>
    have hst := Lib.hid (show cycsS s = (cycsTo (dg s) 10).map wd by simp [cycsS, hp, cycs])
    have hc := fun W => specPermValid_any s W hs
    rw [hp] at hc
    have hP := permB_isP hp
    go_enter Tryz.func104, Tryz.ntmps104
    go_wp2_with (go_at_call 73; ((with_reducible refine (hc _).mono ?_); rintro e w1 ⟨rfl, hb1⟩))
    have r1 := OwR.below r0 hb1 (Nat.le_refl _)
    have hbw := bt hb0 hb1
    clear r0 hb0 hb1 hc
    go_loopw [3, 4, 5] (fun v o i wr => ∃ k : Nat, k ≤ 10 ∧ i = .int .i64 k ∧ o = .string (wd (cycsTo (dg s) k).flatten) ∧ OwR wr w.heap.size 9 1 v (cycsTo (dg s) k).length (sv ((cycsTo (dg s) k).map wd)) ∧ Below w.heap.size w wr) (fun _ _ i _ => 10 - (intOf i).toNat)
    case atStart => exact ⟨0, by omega, rfl, rfl, r1, hbw⟩
    case round =>
      clear r1 hbw
      obtain ⟨k, hk, rfl, rfl, hown, hb⟩ := hrel
      by_cases hlt : k < 10
      · have hfl := cycsTo_flat_lt hP (show k ≤ 10 by omega)
        have hln := cycsTo_len (dg s) k
        have hflen : (cycsTo (dg s) k).flatten.length ≤ 100 := by
          have h1 : ∀ c ∈ cycsTo (dg s) k, c.length ≤ 10 := fun c hc => (cycsTo_size hP (by omega) c hc).2
          have h2 : ∀ (l : List (List Nat)), (∀ c ∈ l, c.length ≤ 10) → l.flatten.length ≤ 10 * l.length := by
            intro l
            induction l with
            | nil => intro _; simp
            | cons a l ih =>
              intro h
              have := ih fun c hc => h c (by simp [hc])
              have := h a (by simp)
              simp only [List.flatten_cons, List.length_append, List.length_cons]; omega
          have := h2 _ h1
          omega
        have hsz : (wd (cycsTo (dg s) k).flatten).size ≤ 100 := by rw [size_wd]; exact hflen
        have hfd := fun W => l21Find_any (wd (cycsTo (dg s) k).flatten) (letr (k : Int)) W (by omega)
        have hlk : ((letr (k : Int)).toNat : Int) = 97 + (k : Int) := by rw [letr_toNat]; omega
        rw [hlk] at hfd
        have hmem : letr (k : Int) ∈ L (wd (cycsTo (dg s) k).flatten) ↔ k ∈ (cycsTo (dg s) k).flatten := by
          unfold wd
          rw [L_S, List.mem_map]
          constructor
          · rintro ⟨n, hn, e⟩
            have h1 := congrArg UInt8.toNat e
            rw [letr_toNat, letr_toNat] at h1
            have := hfl n hn
            have : n = k := by omega
            exact this ▸ hn
          · exact fun h => ⟨k, h, rfl⟩
        clear hlk hfl hflen
        by_cases hm : k ∈ (cycsTo (dg s) k).flatten
        · obtain ⟨n, hn, e⟩ := idx_mem (hmem.2 hm)
          rw [e] at hfd
          have HY := Lib.hid (cycsTo_yes hm)
          clear hm hmem e hn
          go_wp2_with (go_at_call 75; ((with_reducible refine (hfd _).mono ?_); rintro e w' ⟨rfl, rfl⟩))
          go_roundw
          case rel => exact ⟨k + 1, by omega, by go_num, by rw [HY.out], by rw [HY.out]; exact hown, hb⟩
          case measure => simp [intOf]; omega
        · have e : Lib.indexByte (L (wd (cycsTo (dg s) k).flatten)) (letr (k : Int)) = -1 := idx_no _ _ fun x hx he => hm (hmem.1 (he ▸ hx))
          rw [e] at hfd
          have HN := Lib.hid (cycsTo_no hm)
          clear hm hmem e
          have hcs : (wd (cycL (dg s) k)).size ≤ 10 := by rw [size_wd, len_cycL]; exact ordP_le hP hlt
          generalize hN : (cycsTo (dg s) k).length = N at hown hln
          go_wp2_with (first | (go_at_call 75; ((with_reducible refine (hfd _).mono ?_); rintro e w' ⟨rfl, rfl⟩)) | (go_at_call 107; ((with_reducible refine (l3Cycle_any s k _ hp hlt).mono ?_); rintro e w1 ⟨rfl, hb1⟩)) | (at_builtin; ((with_reducible refine wl_push 30 9 inf_str Tryz.underlying30 rfl (by omega) (OwR.below hown hb1 (Nat.le_refl _)) (Nat.le_trans hb.size hb1.size) rfl (by simp [Value.oneCell']) (by omega) (by omega) rfl rfl ?_); intro g cap w4 o4 b4 s4; have f4 := OwR.last o4)))
          go_roundw
          case rel =>
            refine ⟨k + 1, by omega, by go_num, ?_, ?_, ((bt hb hb1).trans b4)⟩
            · rw [HN.out, List.flatten_append, wd_append]; simp
            · rw [HN.out, List.length_append, hN, List.map_append, sv_append]; exact o4
          case measure => simp [intOf]; omega
      · have hk' : k = 10 := by omega
        subst hk'
        go_wp2
        go_ret
        refine ⟨_, rfl, ?_, hb⟩
        rw [hst.out, List.length_map]
        exact hown

/-- What FixedLetters answers. -/
def fixS (s : ByteArray) : ByteArray := if permB s = true then wd (fixL (dg s)) else S []
theorem fold_ones : ∀ (l : List (List Nat)) (acc : List Nat), ((l.map wd).filter fun c => c.size == 1).foldl (· ++ ·) (wd acc) = wd (acc ++ (l.filter fun c => c.length == 1).flatten)
  | [], acc => by simp
  | c :: l, acc => by
    simp only [List.map_cons, List.filter_cons, size_wd]
    split
    · simp only [List.foldl_cons, ← wd_append, fold_ones l, List.flatten_cons, List.append_assoc]
    · exact fold_ones l acc
theorem fixS_of (s : ByteArray) : ((cycsS s).filter fun c => c.size == 1).foldl (· ++ ·) (S []) = fixS s := by
  unfold cycsS fixS
  split
  · rename_i h
    have h1 := fix_cycs (permB_isP h) 10 (Nat.le_refl _)
    rw [fixL, ← h1, cycs]
    generalize cycsTo (dg s) 10 = l
    have := fold_ones l []
    rw [List.nil_append] at this
    rw [← this]
    rfl
  · simp
theorem foldl_take_succ {ss : List ByteArray} {k : Nat} (h : k < ss.length) : ((ss.take (k + 1)).filter fun c => c.size == 1).foldl (· ++ ·) (S []) = if ss[k].size == 1 then ((ss.take k).filter fun c => c.size == 1).foldl (· ++ ·) (S []) ++ ss[k] else ((ss.take k).filter fun c => c.size == 1).foldl (· ++ ·) (S []) := by
  rw [List.take_succ_eq_append_getElem h, List.filter_append, List.foldl_append]
  by_cases e : ss[k].size = 1 <;> simp [e]
theorem cycsS_few (s : ByteArray) : (cycsS s).length ≤ 10 ∧ ∀ c ∈ cycsS s, c.size ≤ 10 := by
  unfold cycsS
  split
  · rename_i h
    refine ⟨by rw [List.length_map]; exact cycsTo_len _ _, fun c hc => ?_⟩
    obtain ⟨l, hl, rfl⟩ := List.mem_map.1 hc
    rw [size_wd]; exact (cycsTo_size (permB_isP h) (Nat.le_refl _) l hl).2
  · simp
theorem specFixedLetters_any (s : ByteArray) (w : World) (hs : s.size ≤ 4294967296) :
    Calls Tryz.prog 96 #[.string s] w fun e w' => e = .returned (.string (fixS s)) ∧ Below w.heap.size w w' := by
  have hfew := cycsS_few s
  have HF := Lib.hid (fixS_of s)
  have hcy := fun W => specCyclesOf_any s W hs
  generalize cycsS s = ss at hfew HF hcy
  obtain ⟨hf1, hf2⟩ := hfew
  have HF2 := Lib.hid hf2
  clear hf2
  go_enter Tryz.func96, Tryz.ntmps96
  go_wp2_with fail
  refine (hcy _).mono ?_
  rintro e w1 ⟨v, rfl, hown, hb⟩
  obtain ⟨a, c, rfl, hc, hr, -⟩ := OwR.val hown
  clear hown hcy
  have HR := Lib.hid hr
  clear hr
  go_wp2_with fail
  go_loop [3, 5] (fun o i => ∃ k : Nat, k ≤ ss.length ∧ i = .int .i64 k ∧ o = .string (((ss.take k).filter fun c => c.size == 1).foldl (· ++ ·) (S [])) ∧ (((ss.take k).filter fun c => c.size == 1).foldl (· ++ ·) (S [])).size ≤ k) (fun _ i => ss.length - (intOf i).toNat)
  case atStart => exact ⟨0, Nat.zero_le _, rfl, rfl, Nat.le_refl _⟩
  case round =>
    obtain ⟨k, hk, rfl, rfl, hz⟩ := hrel
    by_cases hlt : k < ss.length
    · have HT := Lib.hid (foldl_take_succ hlt)
      obtain ⟨b, off, rfl, hb1, hcs⟩ := HR.out.open_ (by rw [length_sv]; omega)
      have d1 := hcs k (by rw [length_sv]; exact hlt)
      rw [sv_at hlt] at d1
      clear hcs
      have hz2 := HF2.out _ (List.getElem_mem hlt)
      generalize hG : ((ss.take k).filter fun c => c.size == 1).foldl (· ++ ·) (S []) = t at *
      by_cases he : ss[k].size = 1
      · have t1 : ((ss[k].size : Int) == 1) = true := by simp [he]
        have HE := Lib.hid he
        clear he hG
        go_wp2
        go_round
        case rel =>
          have h0 := HT.out
          rw [if_pos (by simpa using HE.out)] at h0
          refine ⟨k + 1, by omega, by go_num, by rw [h0], ?_⟩
          rw [h0, ByteArray.size_append, HE.out]; omega
        case measure => simp [intOf]; omega
      · have t1 : ((ss[k].size : Int) == 1) = false := by rw [beq_eq_false_iff_ne]; omega
        have HE := Lib.hid he
        clear he hG
        go_wp2
        go_round
        case rel =>
          have h0 := HT.out
          rw [if_neg (by simpa using HE.out)] at h0
          exact ⟨k + 1, by omega, by go_num, by rw [h0], by rw [h0]; omega⟩
        case measure => simp [intOf]; omega
    · go_wp2
      go_ret
      refine ⟨ret_str ?_, hb⟩
      rw [List.take_of_length_le (by omega)]; exact HF.out

/-- What PlugCount answers. -/
def plugN (s : ByteArray) : Int := if plugB s = true then ((movedN (dg s) / 2 : Nat) : Int) else -1
theorem specPlugCount_any (s : ByteArray) (w : World) (hs : s.size ≤ 4294967296) :
    Calls Tryz.prog 74 #[.string s] w fun e w' => e = .returned (.int .i64 (plugN s)) ∧ Below w.heap.size w w' := by
  have hc := fun W => specPlugsValid_any s W hs
  cases h : plugB s with
  | false =>
    have hn := Lib.hid (show plugN s = -1 by simp [plugN, h])
    rw [h] at hc
    go_enter Tryz.func74, Tryz.ntmps74
    go_wp2_with (go_at_call 95; ((with_reducible refine (hc _).mono ?_); rintro e w1 ⟨rfl, hb⟩))
    go_ret
    exact ⟨ret_int hn.out.symm, hb⟩
  | true =>
    have hp := plugB_perm h
    have hl := len_fixL (dg s)
    have hm : movedN (dg s) ≤ 10 := by omega
    have hn := Lib.hid (show plugN s = ((movedN (dg s) / 2 : Nat) : Int) by simp [plugN, h])
    have hsz : (fixS s).size + movedN (dg s) = 10 := by unfold fixS; rw [if_pos hp, size_wd]; exact hl
    have hq : (fixS s).size ≤ 10 := by omega
    have HZ := Lib.hid hsz
    clear hsz hl
    rw [h] at hc
    go_enter Tryz.func74, Tryz.ntmps74
    go_wp2_with (first | (go_at_call 95; ((with_reducible refine (hc _).mono ?_); rintro e w1 ⟨rfl, hb⟩)) | (go_at_call 96; ((with_reducible refine (specFixedLetters_any _ _ hs).mono ?_); rintro e w2 ⟨rfl, hb2⟩)))
    go_ret
    refine ⟨ret_int ?_, bt hb hb2⟩
    rw [hn.out]
    have := HZ.out
    omega
theorem reflB_plugN (s : ByteArray) : reflB s = (plugN s == 5) := by
  unfold reflB plugN
  cases plugB s
  · rfl
  · simp only [Bool.true_and, if_true]
    rw [Bool.eq_iff_iff]; simp; omega
theorem specReflectorValid_any (s : ByteArray) (w : World) (hs : s.size ≤ 4294967296) :
    Calls Tryz.prog 52 #[.string s] w fun e w' => e = .returned (.bool (reflB s)) ∧ Below w.heap.size w w' := by
  have hr := Lib.hid (reflB_plugN s)
  go_enter Tryz.func52, Tryz.ntmps52
  go_wp2_with (go_at_call 74; ((with_reducible refine (specPlugCount_any _ _ hs).mono ?_); rintro e w1 ⟨rfl, hb⟩))
  go_ret
  exact ⟨ret_bool hr.out.symm, hb⟩
end Go.Proofs.YtaplndmgbinhcaaGreat
