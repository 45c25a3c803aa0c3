/- Several of my texts in one: SpecP, Cyc, List, SpecC, SpecW, SpecS. -/
import Derived.Test.YtnnblmibonnpcaaGreatM3
import Derived.Test.YtnnblmibonnpcaaGreatM1
import Derived.Deep.AppendLies
import Derived.Deep.Onto
import Derived.Laws.OwnMore
import Derived.OwnWalk
/- The specification's permutations and plugboards: LetterCounts, PermValid, l2Image, l2Back, PlugsValid. -/
namespace Go.Proofs.YtnnblmibonnpcaaGreat
open Go.RowKit

theorem specLetterCounts_word (s : ByteArray) (w : World) (hw : wordB s = true) :
    Calls Tryz.prog 111 #[.string s] w (CountsPost s w) := by
  have hb := wordB_size hw
  have hmk : ∀ W : World, (Instr.makeSlice 56 (.int .i64 10) (.int .i64 10)).run Tryz.prog W = .ok (.slice (some ⟨W.heap.size, 0, none⟩) 10 10) (W.alloc (.cells (List.replicate 10 (Value.int .i64 0)).toArray 3)) :=
    run_make1 (P := Tryz.prog) Tryz.underlying56 info_int rfl 10 10 (Nat.le_refl _) (by omega) (by omega)
  go_enter Tryz.func111, Tryz.ntmps111
  go_wp2_with (go_at_call 38; ((with_reducible refine (specWordValid_any _ _ (by omega)).mono ?_); rintro e w' ⟨rfl, rfl⟩))
  go_loopw [4] (fun i wr => ∃ k : Nat, k ≤ s.size ∧ i = .int .i64 k ∧ Below w.heap.size w wr ∧ Own wr w.heap.size ((cnts ((L s).take k)).map (.int .i64))) (fun i _ => s.size - (intOf i).toNat)
  case atStart =>
    refine ⟨0, Nat.zero_le _, rfl, (Below.refl _ _).alloc (Nat.le_refl _) _, ?_⟩
    have := Own.new w (List.replicate 10 (Value.int .i64 0)) 3
    exact this
  case round =>
    obtain ⟨k, hk, rfl, hbel, hown⟩ := hrel
    by_cases hlt : k < s.size
    · obtain ⟨hd0, hd1⟩ := wordB_at hw k hlt
      obtain ⟨d, hd⟩ := Int.eq_ofNat_of_zero_le hd0
      have hd10 : d < 10 := by omega
      have hlen : ((cnts ((L s).take k)).map (Value.int .i64)).length = 10 := by rw [List.length_map, length_cnts]
      have hcd : ((cnts ((L s).take k)).map (Value.int .i64))[d]? = some (.int .i64 ((((L s).take k).countP fun c => dig c == (d : Int)) : Int)) := by
        rw [List.getElem?_map, List.getElem?_eq_getElem (by rw [length_cnts]; exact hd10), cnts_at _ _ hd10]; rfl
      have hc := hown.at_ hcd
      have hf := hown.free d (by omega)
      have hcn : (((L s).take k).countP fun c => dig c == (d : Int)) ≤ 200 := by
        have h1 := List.countP_le_length (p := fun c => dig c == (d : Int)) (l := (L s).take k)
        have h2 := List.length_take_le k (L s)
        omega
      have hsn := Lib.hid (cnts_snoc ((L s).take k) s[k] d hd10 (by omega))
      generalize hN : (((L s).take k).countP fun c => dig c == (d : Int)) = N at hc hcn hsn
      clear hcd hlen hN
      have Hd := Lib.hid hd
      have hn := fun W => l1Digit_any s k W (by omega) (by omega) (by omega)
      have hsk : s[(k : Int).toNat]'(by omega) = s[k] := by simp
      rw [hsk] at hn
      rw [hd] at hn
      clear hd hd0 hd1 hsk
      go_wp2_with (go_at_call 66; ((with_reducible refine (hn _).mono ?_); rintro e w' ⟨rfl, rfl⟩))
      go_roundw
      case rel =>
        refine ⟨k + 1, by omega, by go_num, hbel.setCell (Nat.le_refl _) _, ?_⟩
        have h0 := hown.set_ (i := d) (by rw [List.length_map, length_cnts]; exact hd10) (.int .i64 ((N : Int) + 1))
        have ht : (L s).take (k + 1) = (L s).take k ++ [s[k]] := by rw [List.take_succ_eq_append_getElem (by rw [size_L]; exact hlt)]; rfl
        rw [ht, hsn.out, List.map_set]
        exact h0
      case measure => simp [intOf]; omega
    · have hk' : k = s.size := by omega
      subst hk'
      go_wp2
      go_ret
      refine ⟨w.heap.size, rfl, ?_, hbel⟩
      rw [List.take_of_length_le (by rw [size_L]; exact Nat.le_refl _)] at hown
      exact hown

/-- In a word of ten letters each letter occurs once exactly if no two are equal. -/
theorem count_dg (s : ByteArray) (hw : wordB s = true) (d : Nat) : (L s).countP (fun c => dig c == (d : Int)) = (dg s).count d := by
  rw [dg, List.count, List.countP_map]
  refine List.countP_congr fun c hc => ?_
  have h1 : isL c = true := by simp only [wordB, Bool.and_eq_true] at hw; exact List.all_eq_true.1 hw.2 c hc
  have := (isL_iff c).1 h1
  simp only [Function.comp, beq_iff_eq]
  omega
theorem permB_of_counts {s : ByteArray} (h10 : s.size = 10) (hw : wordB s = true) (h : ∀ d : Nat, d < 10 → (L s).countP (fun c => dig c == (d : Int)) = 1) : permB s = true := by
  have hn : (dg s).Nodup := by
    rw [List.nodup_iff_count]
    intro d
    by_cases hd : d < 10
    · rw [← count_dg s hw, h d hd]; omega
    · rw [List.count_eq_zero_of_not_mem (fun hm => hd (word_dg_lt hw d hm))]; omega
  simp [permB, h10, hw, hn]
theorem permB_count {s : ByteArray} (h : permB s = true) (d : Nat) (hd : d < 10) : (L s).countP (fun c => dig c == (d : Int)) = 1 := by
  have hp := permB_isP h
  rw [count_dg s (permB_word h)]
  have h1 := List.count_pos_iff.2 (hp.mem hd)
  have h2 := List.nodup_iff_count.1 hp.nd d
  omega

theorem specPermValid_any (s : ByteArray) (w : World) (hs : s.size ≤ 4294967296) :
    Calls Tryz.prog 85 #[.string s] w fun e w' => e = .returned (.bool (permB s)) ∧ Below w.heap.size w w' := by
  by_cases h10 : s.size = 10
  · have e10 : (s.size : Int) = 10 := by omega
    by_cases hw : wordB s = true
    · go_enter Tryz.func85, Tryz.ntmps85
      go_wp2_with (first | (go_at_call 38; ((with_reducible refine (specWordValid_any _ _ (by omega)).mono ?_); rintro e w' ⟨rfl, rfl⟩)) | (go_at_call 111; ((with_reducible refine (specLetterCounts_word s _ hw).mono ?_); rintro e w1 ⟨g, rfl, ho, hb⟩)))
      go_loopw [4] (fun i wr => ∃ k : Nat, k ≤ 10 ∧ i = .int .i64 k ∧ wr = w1 ∧ ∀ d : Nat, d < k → (L s).countP (fun c => dig c == (d : Int)) = 1) (fun i _ => 10 - (intOf i).toNat)
      case atStart => exact ⟨0, by omega, rfl, rfl, fun d hd => absurd hd (by omega)⟩
      case round =>
        obtain ⟨k, hk, rfl, rfl, hc⟩ := hrel
        by_cases hlt : k < 10
        · have f0 := ho.at_ (i := k) (u := .int .i64 (((L s).countP fun c => dig c == (k : Int)) : Int)) (by
            rw [List.getElem?_map, List.getElem?_eq_getElem (by rw [length_cnts]; exact hlt), cnts_at _ _ hlt]; rfl)
          by_cases h1 : (L s).countP (fun c => dig c == (k : Int)) = 1
          · rw [h1] at f0
            have Hc := Lib.hid hc
            have H1 := Lib.hid h1
            clear hc h1
            go_wp2
            go_roundw
            case rel =>
              refine ⟨k + 1, by omega, by go_num, trivial, fun d hd => ?_⟩
              by_cases e : d = k
              · subst e; exact H1.out
              · exact Hc.out d (by omega)
            case measure => simp [intOf]; omega
          · have hno : Hid (permB s = false) := by
              show _ = _
              cases e : permB s with
              | false => rfl
              | true => exact absurd (permB_count e k hlt) h1
            generalize (L s).countP (fun c => dig c == (k : Int)) = N at f0 h1
            have h1' : (((N : Int) == 1) = false) := by rw [beq_eq_false_iff_ne]; omega
            clear hc h1
            go_wp2
            go_ret
            exact ⟨ret_bool hno.out.symm, hb⟩
        · have hk' : k = 10 := by omega
          subst hk'
          have hyes := Lib.hid (permB_of_counts h10 hw hc)
          clear hc
          go_wp2
          go_ret
          exact ⟨ret_bool hyes.out.symm, hb⟩
    · have hno : Hid (permB s = false) := by show _ = _; simp [permB, hw]
      have hw' : wordB s = false := by simpa using hw
      clear hw
      go_enter Tryz.func85, Tryz.ntmps85
      go_wp2_with (go_at_call 38; ((with_reducible refine (specWordValid_any _ _ (by omega)).mono ?_); rintro e w' ⟨rfl, rfl⟩))
      go_ret
      exact ⟨ret_bool hno.out.symm, Below.refl _ _⟩
  · have hno := Lib.hid (permB_size_no h10)
    have e10 : ((s.size : Int) == 10) = false := by rw [beq_eq_false_iff_ne]; omega
    go_enter Tryz.func85, Tryz.ntmps85
    go_wp2
    go_ret
    exact ⟨ret_bool hno.out.symm, Below.refl _ _⟩

theorem l2Image_any (s : ByteArray) (i : Nat) (w : World) (h : permB s = true) (hi : i < 10) :
    Calls Tryz.prog 70 #[.string s, .int .i64 i] w fun e w' => e = .returned (.int .i64 (pAt (dg s) i)) ∧ w = w' := by
  have h10 := permB_size h
  have hd := wordB_at (permB_word h) i (by omega)
  have he : dig s[i] = (pAt (dg s) i : Int) := by rw [dg_at (by omega)]; omega
  have hn := fun W => l1Digit_any s i W (by omega) (by omega) (by omega)
  have hsk : s[(i : Int).toNat]'(by omega) = s[i] := by simp
  rw [hsk, he] at hn
  clear hd he hsk
  go_enter Tryz.func70, Tryz.ntmps70
  go_wp2_with (go_at_call 66; ((with_reducible refine (hn _).mono ?_); rintro e w' ⟨rfl, rfl⟩))
  go_ret
  exact ⟨rfl, rfl⟩

theorem info_u8s : (Tryz.prog.info? 5).map (fun i => (i.zero, i.size, i.bytes)) = some (some (.int .u8 0), 1, 1) := by kernel_rfl
theorem l2Back_any (s : ByteArray) (w : World) (h : permB s = true) :
    Calls Tryz.prog 86 #[.string s] w fun e w' => e = .returned (.string (wd (backP (dg s)))) ∧ Below w.heap.size w w' := by
  have hp := permB_isP h
  have hmk : ∀ W : World, (Instr.makeSlice 22 (.int .i64 10) (.int .i64 10)).run Tryz.prog W = .ok (.slice (some ⟨W.heap.size, 0, none⟩) 10 10) (W.alloc (.cells (List.replicate 10 (Value.int .u8 0)).toArray 5)) :=
    run_make1 (P := Tryz.prog) Tryz.underlying22 info_u8s rfl 10 10 (Nat.le_refl _) (by omega) (by omega)
  go_enter Tryz.func86, Tryz.ntmps86
  go_wp2
  go_loopw [4] (fun i wr => ∃ (k : Nat) (cs : List Value), k ≤ 10 ∧ i = .int .i64 k ∧ cs.length = 10 ∧ (∀ j, j < k → cs[pAt (dg s) j]? = some (.int .u8 ((97 + j : Nat) : Int))) ∧ Below w.heap.size w wr ∧ Own wr w.heap.size cs) (fun i _ => 10 - (intOf i).toNat)
  case atStart =>
    exact ⟨0, _, by omega, rfl, by simp, fun j hj => absurd hj (by omega), (Below.refl _ _).alloc (Nat.le_refl _) _, Own.new w (List.replicate 10 (Value.int .u8 0)) 5⟩
  case round =>
    obtain ⟨k, cs, hk, rfl, hcl, hcs, hbel, hown⟩ := hrel
    by_cases hlt : k < 10
    · have hx := hp.at_lt hlt
      obtain ⟨x3, f3⟩ := hown.some_ (i := pAt (dg s) k) (by omega)
      have g3 := hown.free (pAt (dg s) k) (by omega)
      have Hcs := Lib.hid hcs
      clear hcs
      go_wp2_with (go_at_call 70; ((with_reducible refine (l2Image_any s k _ h hlt).mono ?_); rintro e w' ⟨rfl, rfl⟩))
      go_roundw
      case rel =>
        refine ⟨k + 1, cs.set (pAt (dg s) k) (.int .u8 ((97 + k : Nat) : Int)), by omega, by go_num, by simp [hcl], fun j hj => ?_, hbel.setCell (Nat.le_refl _) _, ?_⟩
        · by_cases e : j = k
          · subst e; rw [List.getElem?_set_self (by omega)]
          · rw [List.getElem?_set_ne (fun he => e (hp.inj hlt (by omega) he).symm)]
            exact Hcs.out j (by omega)
        · have := hown.set_ (i := pAt (dg s) k) (by omega) (.int .u8 ((97 + k : Nat) : Int))
          rw [show ((97 + k : Nat) : Int) = 97 + (k : Int) by omega] at this ⊢
          exact this
      case measure => simp [intOf]; omega
    · have hk' : k = 10 := by omega
      subst hk'
      have hce : cs = bv (L (wd (backP (dg s)))) := by
        have hl2 : (L (wd (backP (dg s)))).length = 10 := by rw [size_L, size_wd, len_back]
        refine List.ext_getElem? fun x => ?_
        by_cases hx : x < 10
        · rw [bv_at (by omega)]
          have h3 := hcs ((dg s).idxOf x) (hp.idx_lt hx)
          have h4 := hp.at_idx hx
          rw [at_back (dg s) hx] at h4
          rw [h4] at h3
          rw [h3]
          have h5 : (L (wd (backP (dg s))))[x]'(by omega) = letr (((dg s).idxOf x : Nat) : Int) := by
            simp [wd, L_S, backP]
          rw [h5, letr_toNat]
          have := hp.idx_lt hx
          congr 2; omega
        · rw [List.getElem?_eq_none (by omega), List.getElem?_eq_none (by rw [length_bv]; omega)]
      subst hce
      have hcv := hown.conv (P := Tryz.prog) 22 9 5 Tryz.underlying22 Tryz.underlying5 Tryz.underlying9 (n := 10) (by rw [size_L, size_wd, len_back]) 10
      rw [S_L] at hcv
      clear hcs
      go_wp2
      go_ret
      exact ⟨rfl, hbel⟩

theorem back_eq_iff {s : ByteArray} (h : permB s = true) : (wd (backP (dg s)) = s) ↔ plugB s = true := by
  have hp := permB_isP h
  constructor
  · intro e
    have e' : backP (dg s) = dg s := by
      have := congrArg dg e
      rwa [dg_wd hp.back.lt] at this
    simp only [plugB, h, Bool.true_and, decide_eq_true_eq]
    have := then_back hp
    rwa [e'] at this
  · intro e
    have := back_unique hp hp (plugB_inv e)
    rw [← this]
    exact wd_dg (permB_word h)
theorem specPlugsValid_any (s : ByteArray) (w : World) (hs : s.size ≤ 4294967296) :
    Calls Tryz.prog 64 #[.string s] w fun e w' => e = .returned (.bool (plugB s)) ∧ Below w.heap.size w w' := by
  cases h : permB s with
  | false =>
    have hno : Hid (plugB s = false) := by show _ = _; simp [plugB, h]
    have hc := fun W => specPermValid_any s W hs
    simp only [h] at hc
    go_enter Tryz.func64, Tryz.ntmps64
    go_wp2_with (go_at_call 85; ((with_reducible refine (hc _).mono ?_); rintro e w1 ⟨rfl, hb⟩))
    go_ret
    exact ⟨ret_bool hno.out.symm, hb⟩
  | true =>
    have hc := fun W => specPermValid_any s W hs
    simp only [h] at hc
    by_cases e : wd (backP (dg s)) = s
    · have hy := Lib.hid ((back_eq_iff h).1 e)
      have hq := fun W => l2Back_any s W h
      rw [e] at hq
      clear e
      go_enter Tryz.func64, Tryz.ntmps64
      go_wp2_with (first | (go_at_call 85; ((with_reducible refine (hc _).mono ?_); rintro e w1 ⟨rfl, hb⟩)) | (go_at_call 86; ((with_reducible refine (hq _).mono ?_); rintro e w2 ⟨rfl, hb2⟩)))
      go_ret
      exact ⟨ret_bool (by rw [hy.out]), bt hb hb2⟩
    · have hy : Hid (plugB s = false) := by
        show _ = _
        cases e' : plugB s with
        | false => rfl
        | true => exact absurd ((back_eq_iff h).2 e') e
      have hq := fun W => l2Back_any s W h
      generalize wd (backP (dg s)) = t at e hq
      go_enter Tryz.func64, Tryz.ntmps64
      go_wp2_with (first | (go_at_call 85; ((with_reducible refine (hc _).mono ?_); rintro e w1 ⟨rfl, hb⟩)) | (go_at_call 86; ((with_reducible refine (hq _).mono ?_); rintro e w2 ⟨rfl, hb2⟩)))
      go_ret
      refine ⟨ret_bool ?_, bt hb hb2⟩
      rw [hy.out]
      simp only [toList_L, ne_eq, beq_eq_false_iff_ne]
      exact fun h' => e (L_inj h')
end Go.Proofs.YtnnblmibonnpcaaGreat

/- Plain laws on the cycles of a permutation of ten letters. -/
namespace Go.Proofs.YtnnblmibonnpcaaGreat

/-- p applied n times. -/
def itP (p : List Nat) : Nat → Nat → Nat
  | 0, a => a
  | n + 1, a => pAt p (itP p n a)
theorem itP_lt {p : List Nat} (h : IsP p) {a : Nat} (ha : a < 10) : ∀ n, itP p n a < 10
  | 0 => ha
  | n + 1 => h.at_lt (itP_lt h ha n)
theorem itP_add (p : List Nat) (m : Nat) (a : Nat) : ∀ n, itP p (n + m) a = itP p n (itP p m a)
  | 0 => by simp [itP]
  | n + 1 => by rw [show n + 1 + m = (n + m) + 1 by omega]; simp only [itP]; rw [itP_add p m a n]
theorem itP_inj {p : List Nat} (h : IsP p) {a b : Nat} (ha : a < 10) (hb : b < 10) : ∀ n, itP p n a = itP p n b → a = b
  | 0, e => e
  | n + 1, e => itP_inj h ha hb n (h.inj (itP_lt h ha n) (itP_lt h hb n) e)
theorem itP_back {p : List Nat} (h : IsP p) {a : Nat} (ha : a < 10) : ∃ k, 1 ≤ k ∧ k ≤ 10 ∧ itP p k a = a := by
  have hn : ¬ ((List.range 11).map fun n => itP p n a).Nodup := fun hd => by
    have := nodup_le 10 _ hd (fun x hx => by
      obtain ⟨n, _, rfl⟩ := List.mem_map.1 hx
      exact itP_lt h ha n)
    simp at this
  rw [List.nodup_iff_pairwise_ne, List.pairwise_iff_getElem] at hn
  apply Classical.byContradiction
  intro hno
  apply hn
  intro i j hi hj hlt e
  simp only [List.length_map, List.length_range] at hi hj
  simp only [List.getElem_map, List.getElem_range] at e
  refine hno ⟨j - i, by omega, by omega, ?_⟩
  have e2 : itP p i (itP p (j - i) a) = itP p i a := by rw [← itP_add, show i + (j - i) = j by omega]; exact e.symm
  exact itP_inj h (itP_lt h ha _) ha i e2
/-- The length of the cycle of a letter. -/
def ordP (p : List Nat) (a : Nat) : Nat := ((List.range 10).findIdx fun k => itP p (k + 1) a == a) + 1
theorem ordP_pos (p : List Nat) (a : Nat) : 1 ≤ ordP p a := by unfold ordP; omega
theorem ordP_lt {p : List Nat} (h : IsP p) {a : Nat} (ha : a < 10) : (List.range 10).findIdx (fun k => itP p (k + 1) a == a) < (List.range 10).length := by
  obtain ⟨k, h1, h2, e⟩ := itP_back h ha
  rw [List.findIdx_lt_length]
  exact ⟨k - 1, by simp; omega, by rw [show k - 1 + 1 = k by omega, e]; simp⟩
theorem ordP_le {p : List Nat} (h : IsP p) {a : Nat} (ha : a < 10) : ordP p a ≤ 10 := by
  have := ordP_lt h ha
  simp only [List.length_range] at this
  unfold ordP; omega
theorem ordP_spec {p : List Nat} (h : IsP p) {a : Nat} (ha : a < 10) : itP p (ordP p a) a = a := by
  have := List.findIdx_getElem (w := ordP_lt h ha)
  simpa [ordP] using this
theorem ordP_min {p : List Nat} (a : Nat) {k : Nat} (h1 : 1 ≤ k) (hk : k < ordP p a) : itP p k a ≠ a := by
  unfold ordP at hk
  have := List.not_of_lt_findIdx (p := fun k => itP p (k + 1) a == a) (xs := List.range 10) (i := k - 1) (by omega)
  simp only [List.getElem_range] at this
  rw [show k - 1 + 1 = k by omega] at this
  simpa using this
theorem ordP_eq {p : List Nat} {a : Nat} {k : Nat} (h1 : 1 ≤ k) (hk : k ≤ ordP p a) (e : itP p k a = a) : k = ordP p a := by
  rcases Nat.lt_or_ge k (ordP p a) with h | h
  · exact absurd e (ordP_min a h1 h)
  · omega
theorem ordP_one {p : List Nat} (h : IsP p) {a : Nat} (ha : a < 10) : ordP p a = 1 ↔ pAt p a = a := by
  constructor
  · intro e; have := ordP_spec h ha; rw [e] at this; exact this
  · intro e
    have := ordP_eq (p := p) (a := a) (k := 1) (by omega) (ordP_pos p a) e
    omega
/-- The cycle of a letter. -/
def cycL (p : List Nat) (a : Nat) : List Nat := (List.range (ordP p a)).map fun k => itP p k a
theorem len_cycL (p : List Nat) (a : Nat) : (cycL p a).length = ordP p a := by simp [cycL]
theorem cycL_lt {p : List Nat} (h : IsP p) {a : Nat} (ha : a < 10) : ∀ x ∈ cycL p a, x < 10 := by
  intro x hx
  obtain ⟨k, _, rfl⟩ := List.mem_map.1 hx
  exact itP_lt h ha k
theorem self_cycL (p : List Nat) (a : Nat) : a ∈ cycL p a := List.mem_map.2 ⟨0, by simp [ordP], rfl⟩
/-- The cycles that begin with one of the first k letters. -/
def cycsTo (p : List Nat) : Nat → List (List Nat)
  | 0 => []
  | k + 1 => if k ∈ (cycsTo p k).flatten then cycsTo p k else cycsTo p k ++ [cycL p k]
/-- All cycles. -/
def cycs (p : List Nat) : List (List Nat) := cycsTo p 10
theorem cycsTo_yes {p : List Nat} {k : Nat} (h : k ∈ (cycsTo p k).flatten) : cycsTo p (k + 1) = cycsTo p k := by simp only [cycsTo, if_pos h]
theorem cycsTo_no {p : List Nat} {k : Nat} (h : ¬ k ∈ (cycsTo p k).flatten) : cycsTo p (k + 1) = cycsTo p k ++ [cycL p k] := by simp only [cycsTo, if_neg h]
theorem cycsTo_len (p : List Nat) : ∀ k, (cycsTo p k).length ≤ k
  | 0 => by simp [cycsTo]
  | k + 1 => by
    have := cycsTo_len p k
    by_cases h : k ∈ (cycsTo p k).flatten
    · rw [cycsTo_yes h]; omega
    · rw [cycsTo_no h]; simp; omega
theorem cycsTo_mem {p : List Nat} : ∀ (k : Nat) (c : List Nat), c ∈ cycsTo p k → ∃ a, a < k ∧ c = cycL p a
  | 0, c, h => by simp [cycsTo] at h
  | k + 1, c, h => by
    by_cases hk : k ∈ (cycsTo p k).flatten
    · rw [cycsTo_yes hk] at h
      obtain ⟨a, ha, e⟩ := cycsTo_mem k c h
      exact ⟨a, by omega, e⟩
    · rw [cycsTo_no hk, List.mem_append] at h
      rcases h with h | h
      · obtain ⟨a, ha, e⟩ := cycsTo_mem k c h
        exact ⟨a, by omega, e⟩
      · exact ⟨k, by omega, by simpa using h⟩
theorem cycsTo_flat_lt {p : List Nat} (h : IsP p) {k : Nat} (hk : k ≤ 10) : ∀ x ∈ (cycsTo p k).flatten, x < 10 := by
  intro x hx
  obtain ⟨c, hc, hxc⟩ := List.mem_flatten.1 hx
  obtain ⟨a, ha, rfl⟩ := cycsTo_mem k c hc
  exact cycL_lt h (by omega) x hxc
theorem cycsTo_size {p : List Nat} (h : IsP p) {k : Nat} (hk : k ≤ 10) : ∀ c ∈ cycsTo p k, 1 ≤ c.length ∧ c.length ≤ 10 := by
  intro c hc
  obtain ⟨a, ha, rfl⟩ := cycsTo_mem k c hc
  rw [len_cycL]
  exact ⟨ordP_pos p a, ordP_le h (by omega)⟩
/-- A fixed letter lies in no other letter's cycle. -/
theorem fixed_alone {p : List Nat} (h : IsP p) {a b : Nat} (ha : a < 10) (hb : b < 10) (hf : pAt p b = b) (hm : b ∈ cycL p a) : a = b := by
  obtain ⟨k, _, e⟩ := List.mem_map.1 hm
  have hk : ∀ n, itP p n b = b := fun n => by
    induction n with
    | zero => rfl
    | succ n ih => simp only [itP, ih, hf]
  exact itP_inj h ha hb k (e.trans (hk k).symm)
/-- The fixed letters among the first k. -/
def fixTo (p : List Nat) (k : Nat) : List Nat := (List.range k).filter fun i => pAt p i == i
theorem fixTo_succ (p : List Nat) (k : Nat) : fixTo p (k + 1) = fixTo p k ++ if pAt p k == k then [k] else [] := by
  simp only [fixTo, List.range_succ, List.filter_append, List.filter_cons, List.filter_nil]
theorem fix_cycs {p : List Nat} (h : IsP p) : ∀ k, k ≤ 10 → ((cycsTo p k).filter fun c => c.length == 1).flatten = fixTo p k
  | 0, _ => by simp [cycsTo, fixTo]
  | k + 1, hk => by
    have ih := fix_cycs h k (by omega)
    rw [fixTo_succ]
    by_cases hf : pAt p k = k
    · have hn : ¬ k ∈ (cycsTo p k).flatten := fun hm => by
        obtain ⟨c, hc, hxc⟩ := List.mem_flatten.1 hm
        obtain ⟨a, ha, rfl⟩ := cycsTo_mem k c hc
        have := fixed_alone h (by omega) (by omega) hf hxc
        omega
      have h1 : ordP p k = 1 := (ordP_one h (by omega)).2 hf
      have hc : cycL p k = [k] := by simp [cycL, h1, itP]
      rw [cycsTo_no hn, List.filter_append, List.flatten_append, ih, hc, hf]
      simp
    · have h1 : ¬ ordP p k = 1 := fun e => hf ((ordP_one h (by omega)).1 e)
      rw [if_neg (by simpa using hf), List.append_nil]
      by_cases hm : k ∈ (cycsTo p k).flatten
      · rw [cycsTo_yes hm, ih]
      · rw [cycsTo_no hm, List.filter_append, List.flatten_append, ih]
        simp [len_cycL, h1]
/-- The fixed letters. -/
def fixL (p : List Nat) : List Nat := fixTo p 10
theorem fixL_lt (p : List Nat) : ∀ x ∈ fixL p, x < 10 := by
  intro x hx
  simp only [fixL, fixTo, List.mem_filter, List.mem_range] at hx
  exact hx.1
theorem len_fixL (p : List Nat) : (fixL p).length + movedN p = 10 := by
  unfold fixL fixTo movedN
  have := List.length_eq_countP_add_countP (fun i => pAt p i == i) (l := List.range 10)
  rw [List.countP_eq_length_filter] at this
  simp only [List.length_range] at this
  have e : (List.range 10).countP (fun i => decide ¬(pAt p i == i) = true) = (List.range 10).countP (fun i => pAt p i != i) := by
    refine List.countP_congr fun i _ => ?_
    simp
  rw [e] at this
  exact this.symm
theorem fixL_nil_iff (p : List Nat) : fixL p = [] ↔ Free p := by
  simp only [fixL, fixTo, List.filter_eq_nil_iff, List.mem_range, beq_iff_eq, Free, ne_eq]
end Go.Proofs.YtnnblmibonnpcaaGreat

/- Slices that a call owns and grows by append. -/
namespace Go.Proofs.YtnnblmibonnpcaaGreat
open Go.RowKit

/-- The slice v with n elements of type e, of sz cells each, holds the cells xs in a row from block base on. -/
abbrev OwR (w : World) (base : Nat) (e : TypeId) (sz : Nat) (v : Value) (n : Nat) (xs : List Value) : Prop := w.ownsRow base e sz v n xs
section
variable {w w' : World} {base sz n : Nat} {e : TypeId} {v : Value} {xs : List Value}
theorem OwR.below (h : OwR w base e sz v n xs) {B : Nat} (hb : Below B w w') (hB : w.heap.size ≤ B) : OwR w' base e sz v n xs := by
  refine ⟨h.1, ?_⟩
  rcases h.2 with h0 | ⟨g, cap, cur, rfl, hg, hh, h1⟩
  · exact .inl h0
  · have hlt : g < w.heap.size := by
      rcases Nat.lt_or_ge g w.heap.size with h2 | h2
      · exact h2
      · rw [Array.getElem?_eq_none h2] at hh; cases hh
    exact .inr ⟨g, cap, cur, rfl, hg, (hb.block g (by omega)).trans hh, h1⟩
theorem OwR.far (h : OwR w base e sz v n xs) {p : Addr} (hp : p.block < base) (u : Value) : OwR (w.setCell p u) base e sz v n xs := by
  refine ⟨h.1, ?_⟩
  rcases h.2 with h0 | ⟨g, cap, cur, rfl, hg, hh, h1⟩
  · exact .inl h0
  · exact .inr ⟨g, cap, cur, rfl, hg, (Below.heap_setCell w p u g (by omega)).trans hh, h1⟩
theorem OwR.moved {R : Nat} (h : OwR w base e sz v n xs) (hb : w.grownBy w' (some R)) (hR : R < base) : OwR w' base e sz v n xs := by
  refine World.ownsRow.kept h hb ?_
  cases e' : v.ownBlock with
  | none => exact .inl rfl
  | some g => have := (World.ownsRow.lt h g e').1; exact .inr (by simp; omega)
theorem OwR.movedR {R : Nat} (h : OwR w base e sz v n xs) (hb : w.grownBy w' (some R)) (hR : v.ownBlock ≠ some R) : OwR w' base e sz v n xs := World.ownsRow.kept h hb (.inr hR)
theorem OwR.off (h : OwR w base e sz v n xs) {p : Addr} (hp : v.ownBlock ≠ some p.block) (u : Value) : OwR (w.setCell p u) base e sz v n xs := by
  refine ⟨h.1, ?_⟩
  rcases h.2 with h0 | ⟨g, cap, cur, rfl, hg, hh, h1⟩
  · exact .inl h0
  · exact .inr ⟨g, cap, cur, rfl, hg, (Below.heap_setCell w p u g (fun e => hp (by rw [← e]; rfl))).trans hh, h1⟩
theorem OwR.drewN (h : OwR w base e sz v n xs) (k : Nat) : OwR (w.drewN k) base e sz v n xs := h
theorem OwR.val (h : OwR w base e sz v n xs) : ∃ a c, v = .slice a n c ∧ n ≤ c ∧ Reads w w.heap.size a xs ∧ (n = 0 ∨ ∃ g, a = some ⟨g, 0, none⟩ ∧ base ≤ g ∧ Own w g xs) := by
  rcases h.2 with ⟨rfl, h0⟩ | ⟨g, cap, cur, rfl, hb, hh, hn, hm, hs, ht⟩
  · have := h.1; rw [h0] at this ⊢
    exact ⟨none, 0, rfl, Nat.le_refl _, .inl (List.eq_nil_of_length_eq_zero (by omega)), .inl rfl⟩
  · have hlt : g < w.heap.size := by
      rcases Nat.lt_or_ge g w.heap.size with h1 | h1
      · exact h1
      · rw [Array.getElem?_eq_none h1] at hh; cases hh
    have ho : Own w g xs := by
      refine ⟨hlt, fun i hi => ?_, fun i hi => by simp [World.frozen?, hh]⟩
      rw [cell_of_row w g i cur _ _ hh, ← ht]
      have : i < n * sz := by rw [← h.1]; exact hi
      rw [List.getElem?_take_of_lt this]
      simp
    exact ⟨_, _, rfl, hn, Reads.of_own ho hlt, .inr ⟨g, rfl, hb, ho⟩⟩
end

section
variable {P : Program} {ops : Array Oper} {rest : List Oper} {dst : Option Tmp} {ty : TypeId} {pos : String} {after : Array Edge} {a : Act} {w0 : World} {Q : Exit → Act → World → Prop}
/-- 'x = append(x, u)', x of the call's own. -/
theorem wl_push (t e : TypeId) {s x : Operand} {z : Value} {sz bytes : Nat} (hinfo : (P.info? e).map (fun i => (i.zero, i.size, i.bytes)) = some (some z, sz, bytes)) (ht : P.underlying t = some (.slice e)) (hzs : z.cells.size = sz) (hsz : 0 < sz)
    {base n : Nat} {v : Value} {xs us : List Value} (hown : OwR w0 base e sz v n xs) (hb : base ≤ w0.heap.size) (hus : us.length = sz) (h1 : ∀ u ∈ us, u.oneCell' = true) (hn : n ≤ 1048576) (hby : bytes ≤ 1000)
    (hs : a.eval s = v) (hx : a.eval x = .slice (some ⟨w0.heap.size, 0, none⟩) 1 1)
    (h : ∀ g cap w', OwR w' base e sz (.slice (some ⟨g, 0, none⟩) (n + 1) cap) (n + 1) (xs ++ us) → Below base w0 w' → w0.heap.size < w'.heap.size → wpList P ops Q rest (a.put dst (.slice (some ⟨g, 0, none⟩) (n + 1) cap)) w') :
    wpList P ops Q (⟨dst, .call { callee := .builtin .append, args := #[s, x], argTypes := #[t, t] }, ty, pos, after, none⟩ :: rest) a (w0.alloc (.cells us.toArray e)) := by
  obtain ⟨i0, hi0, hz0, hz1, hz2⟩ := info_parts hinfo
  refine wpList_append_lies _ rfl s x t rfl base e i0 z sz bytes ht hi0 hz0 hz1 hz2 hzs hsz v n xs hs (World.ownsRow.alloc hown _) ⟨w0.heap.size, 0, none⟩ 1 1 us hx (by omega) ?_ h1 (by omega) (by unfold maxLen; omega) ?_ (by simp; omega) (w0.heap.size + 1) (by simp) ?_
  · intro j u hu
    rw [show ((⟨w0.heap.size, 0, none⟩ : Addr).add j) = ⟨w0.heap.size, j, none⟩ by unfold Addr.add; split <;> simp_all]
    rw [World.cell?_alloc_mark]; simpa using hu
  · have : (n + 1) * bytes ≤ (1048576 + 1) * 1000 := Nat.mul_le_mul (by omega) hby
    omega
  · intro g cap w' ho hg hat hlt
    refine h g cap w' ho ?_ ?_
    · refine ((Below.refl base w0).alloc hb _).grown hg (by simp; omega) (fun k hk => ?_)
      exact (World.ownsRow.lt hown k hk).1
    · have := hg.size; simp at this; omega
end

theorem OwR.last {w : World} {base g cap n : Nat} {e : TypeId} {xs : List Value} {u : Value} (h : OwR w base e 1 (.slice (some ⟨g, 0, none⟩) (n + 1) cap) (n + 1) (xs ++ [u])) : w.cell? ⟨g, n, none⟩ = some u := by
  rw [World.ownsRow.cellAt h n (by omega)]
  have := h.1
  simp only [List.length_append, List.length_cons, List.length_nil] at this
  rw [List.getElem?_append_right (by omega), show n - xs.length = 0 by omega]; rfl
/-- What a function that answers a slice leaves. -/
def RowPost (e : TypeId) (sz n : Nat) (xs : List Value) (w : World) (E : Ending) (w' : World) : Prop := ∃ v, E = .returned v ∧ OwR w' w.heap.size e sz v n xs ∧ Below w.heap.size w w'
theorem sv_append (a b : List ByteArray) : sv (a ++ b) = sv a ++ sv b := by simp [sv]
theorem sv_one (s : ByteArray) : sv [s] = [.string s] := rfl
end Go.Proofs.YtnnblmibonnpcaaGreat

/- The specification's cycles, fixed letters and reflectors. -/
namespace Go.Proofs.YtnnblmibonnpcaaGreat
open Go.RowKit

theorem idx_no (c : UInt8) : ∀ (l : List UInt8), (∀ x ∈ l, x ≠ c) → Lib.indexByte l c = -1
  | [], _ => rfl
  | b :: l, h => by
    have h1 : (b == c) = false := by simpa using h b (by simp)
    have h2 := idx_no c l (fun x hx => h x (by simp [hx]))
    simp [Lib.indexByte, h1, h2]
theorem idx_yes (c : UInt8) : ∀ (l : List UInt8) (k : Nat) (hk : k < l.length), (∀ j (hj : j < k), l[j] ≠ c) → l[k] = c → Lib.indexByte l c = k
  | b :: l, 0, _, _, e => by simp at e; simp [Lib.indexByte, e]
  | b :: l, k + 1, hk, h, e => by
    have h1 : (b == c) = false := by simpa using h 0 (by omega)
    have h2 := idx_yes c l k (by simpa using hk) (fun j hj => by simpa using h (j + 1) (by omega)) (by simpa using e)
    have h3 : ¬ ((k : Int) = -1) := by omega
    simp [Lib.indexByte, h1, h2, h3]
theorem idx_mem {l : List UInt8} {c : UInt8} (h : c ∈ l) : ∃ n : Nat, n < l.length ∧ Lib.indexByte l c = (n : Int) := by
  induction l with
  | nil => simp at h
  | cons b l ih =>
    by_cases e : b = c
    · exact ⟨0, by simp, by simp [Lib.indexByte, e]⟩
    · have hm : c ∈ l := by
        rcases List.mem_cons.1 h with h | h
        · exact absurd h.symm e
        · exact h
      obtain ⟨n, hn, he⟩ := ih hm
      refine ⟨n + 1, by simp; omega, ?_⟩
      have h3 : ¬ ((n : Int) = -1) := by omega
      simp [Lib.indexByte, e, he, h3]
/-- None of the first k bytes is c. -/
def noTo (s : ByteArray) (c : UInt8) (k : Nat) : Prop := ∀ j (h : j < s.size), j < k → s[j] ≠ c
theorem l21Find_any (s : ByteArray) (c : UInt8) (w : World) (hs : s.size ≤ 4294967296) :
    Calls Tryz.prog 126 #[.string s, .int .u8 (c.toNat : Int)] w fun e w' => e = .returned (.int .i64 (Lib.indexByte (L s) c)) ∧ w = w' := by
  go_enter Tryz.func126, Tryz.ntmps126
  go_wp2
  go_loop [5] (fun i => ∃ k : Nat, k ≤ s.size ∧ i = .int .i64 k ∧ noTo s c k) (fun i => s.size - (intOf i).toNat)
  case atStart => exact ⟨0, Nat.zero_le _, rfl, fun _ _ h => absurd h (by omega)⟩
  case round =>
    obtain ⟨k, hk, rfl, ha⟩ := hrel
    have HA := Lib.hid ha
    clear ha
    by_cases hlt : k < s.size
    · by_cases he : s[k] = c
      · have t1 : ((s[k].toNat : Int) == (c.toNat : Int)) = true := by simp [he]
        have HE := Lib.hid he
        clear he
        go_wp2
        go_ret
        refine ⟨ret_int ?_, rfl⟩
        exact (idx_yes c (L s) k (by rw [size_L]; exact hlt) (fun j hj => HA.out j (by omega) hj) HE.out).symm
      · have t1 : ((s[k].toNat : Int) == (c.toNat : Int)) = false := by
          rw [beq_eq_false_iff_ne]
          exact fun h => he (UInt8.toNat.inj (by omega))
        have HE := Lib.hid he
        clear he
        go_wp2
        go_round
        case rel =>
          refine ⟨k + 1, by omega, by go_num, fun j hj hl => ?_⟩
          by_cases e : j = k
          · subst e; exact HE.out
          · exact HA.out j hj (by omega)
        case measure => simp [intOf]; omega
    · go_wp2
      go_ret
      refine ⟨ret_int ?_, rfl⟩
      refine (idx_no c (L s) fun x hx => ?_).symm
      obtain ⟨j, hj, rfl⟩ := List.getElem_of_mem hx
      rw [size_L] at hj
      exact HA.out j hj (by omega)

theorem wd_snoc (l : List Nat) (n : Nat) : wd (l ++ [n]) = wd l ++ S [letr (n : Int)] := by unfold wd; rw [S_append]; simp
theorem wd_append (a b : List Nat) : wd (a ++ b) = wd a ++ wd b := by unfold wd; rw [S_append]; simp
theorem wd_one (n : Nat) : wd [n] = S [letr (n : Int)] := rfl
theorem l3Cycle_any (s : ByteArray) (a : Nat) (w : World) (hp : permB s = true) (ha : a < 10) :
    Calls Tryz.prog 134 #[.string s, .int .i64 (a : Int)] w fun e w' => e = .returned (.string (wd (cycL (dg s) a))) ∧ Below w.heap.size w w' := by
  have hP := permB_isP hp
  have ho10 := ordP_le hP ha
  go_enter Tryz.func134, Tryz.ntmps134
  go_wp2_with (first | (go_at_call 69; ((with_reducible refine (l1Letter_any _ _).mono ?_); rintro e w1 ⟨rfl, hb1⟩)) | (go_at_call 70; ((with_reducible refine (l2Image_any s a _ hp ha).mono ?_); rintro e w' ⟨rfl, rfl⟩)))
  go_loopw [5, 6] (fun o n wr => ∃ k : Nat, 1 ≤ k ∧ k ≤ ordP (dg s) a ∧ o = .string (wd ((List.range k).map fun i => itP (dg s) i a)) ∧ n = .int .i64 (itP (dg s) k a : Nat) ∧ Below w.heap.size w wr) (fun o _ _ => 10 - (match o with | .string t => t.size | _ => 0))
  case atStart => exact ⟨1, by omega, ordP_pos _ _, rfl, rfl, hb1⟩
  case round =>
    clear hb1
    obtain ⟨k, hk1, hk2, rfl, rfl, hb⟩ := hrel
    have hlt := itP_lt hP ha k
    by_cases he : itP (dg s) k a = a
    · have t1 : (((itP (dg s) k a : Nat) : Int) != (a : Int)) = false := by simp [he]
      have HK := Lib.hid (ordP_eq hk1 hk2 he)
      clear he
      go_wp2
      go_ret
      refine ⟨ret_str ?_, hb⟩
      unfold cycL
      rw [← HK.out]
    · have t1 : (((itP (dg s) k a : Nat) : Int) != (a : Int)) = true := by rw [bne_iff_ne]; omega
      have hk3 : k < ordP (dg s) a := by
        rcases Nat.lt_or_ge k (ordP (dg s) a) with h | h
        · exact h
        · have : k = ordP (dg s) a := by omega
          exact absurd (this ▸ ordP_spec hP ha) he
      clear he
      have hsz : (wd ((List.range k).map fun i => itP (dg s) i a)).size ≤ 10 := by rw [size_wd]; simp; omega
      have Hsz := Lib.hid (show (wd ((List.range k).map fun i => itP (dg s) i a)).size = k by rw [size_wd]; simp)
      have hs1 : (S [letr ((itP (dg s) k a : Nat) : Int)]).size ≤ 1 := by rw [size_S]; simp
      go_wp2_with (first | (go_at_call 69; ((with_reducible refine (l1Letter_any _ _).mono ?_); rintro e w1 ⟨rfl, hb1⟩)) | (go_at_call 70; ((with_reducible refine (l2Image_any s _ _ hp hlt).mono ?_); rintro e w' ⟨rfl, rfl⟩)))
      go_roundw
      case rel =>
        refine ⟨k + 1, by omega, by omega, ?_, rfl, bt hb hb1⟩
        rw [List.range_succ, List.map_append, List.map_cons, List.map_nil, wd_snoc]
      case measure =>
        have := Hsz.out
        simp only [ByteArray.size_append, size_S, List.length_cons, List.length_nil]
        omega

theorem inf_str : (Tryz.prog.info? 9).map (fun i => (i.zero, i.size, i.bytes)) = some (some (.string ⟨#[]⟩), 1, 16) := by kernel_rfl
/-- What a function that answers strings leaves. -/
def StrsPost (ss : List ByteArray) (w : World) (e : Ending) (w' : World) : Prop := RowPost 9 1 ss.length (sv ss) w e w'
/-- The cycles of a string, as words. -/
def cycsS (s : ByteArray) : List ByteArray := if permB s = true then (cycs (dg s)).map wd else []
set_option maxHeartbeats 400000 in
theorem specCyclesOf_any (s : ByteArray) (w : World) (hs : s.size ≤ 4294967296) :
    Calls Tryz.prog 133 #[.string s] w (StrsPost (cycsS s) w) := by
  have hb0 := (Below.refl w.heap.size w).alloc (Nat.le_refl _) (.cells #[] 9)
  have r0 : OwR (w.alloc (.cells #[] 9)) w.heap.size 9 1 (.slice (some ⟨w.heap.size, 0, none⟩) 0 0) 0 [] := World.ownsRow_lit w #[] 0 (Nat.le_refl _) (by unfold maxLen; omega) rfl
  cases hp : permB s with
  | false =>
    have hst : cycsS s = [] := by simp [cycsS, hp]
    have hc := fun W => specPermValid_any s W hs
    rw [hp] at hc
    rw [hst]
    go_enter Tryz.func133, Tryz.ntmps133
    go_wp2_with (go_at_call 85; ((with_reducible refine (hc _).mono ?_); rintro e w1 ⟨rfl, hb1⟩))
    go_ret
    exact ⟨_, rfl, OwR.below r0 hb1 (Nat.le_refl _), bt hb0 hb1⟩
  | true =>
    have hst := Lib.hid (show cycsS s = (cycsTo (dg s) 10).map wd by simp [cycsS, hp, cycs])
    have hc := fun W => specPermValid_any s W hs
    rw [hp] at hc
    have hP := permB_isP hp
    go_enter Tryz.func133, Tryz.ntmps133
    go_wp2_with (go_at_call 85; ((with_reducible refine (hc _).mono ?_); rintro e w1 ⟨rfl, hb1⟩))
    have r1 := OwR.below r0 hb1 (Nat.le_refl _)
    have hbw := bt hb0 hb1
    clear r0 hb0 hb1 hc
    go_loopw [3, 4, 5] (fun v o i wr => ∃ k : Nat, k ≤ 10 ∧ i = .int .i64 k ∧ o = .string (wd (cycsTo (dg s) k).flatten) ∧ OwR wr w.heap.size 9 1 v (cycsTo (dg s) k).length (sv ((cycsTo (dg s) k).map wd)) ∧ Below w.heap.size w wr) (fun _ _ i _ => 10 - (intOf i).toNat)
    case atStart => exact ⟨0, by omega, rfl, rfl, r1, hbw⟩
    case round =>
      clear r1 hbw
      obtain ⟨k, hk, rfl, rfl, hown, hb⟩ := hrel
      by_cases hlt : k < 10
      · have hfl := cycsTo_flat_lt hP (show k ≤ 10 by omega)
        have hln := cycsTo_len (dg s) k
        have hflen : (cycsTo (dg s) k).flatten.length ≤ 100 := by
          have h1 : ∀ c ∈ cycsTo (dg s) k, c.length ≤ 10 := fun c hc => (cycsTo_size hP (by omega) c hc).2
          have h2 : ∀ (l : List (List Nat)), (∀ c ∈ l, c.length ≤ 10) → l.flatten.length ≤ 10 * l.length := by
            intro l
            induction l with
            | nil => intro _; simp
            | cons a l ih =>
              intro h
              have := ih fun c hc => h c (by simp [hc])
              have := h a (by simp)
              simp only [List.flatten_cons, List.length_append, List.length_cons]; omega
          have := h2 _ h1
          omega
        have hsz : (wd (cycsTo (dg s) k).flatten).size ≤ 100 := by rw [size_wd]; exact hflen
        have hfd := fun W => l21Find_any (wd (cycsTo (dg s) k).flatten) (letr (k : Int)) W (by omega)
        have hlk : ((letr (k : Int)).toNat : Int) = 97 + (k : Int) := by rw [letr_toNat]; omega
        rw [hlk] at hfd
        have hmem : letr (k : Int) ∈ L (wd (cycsTo (dg s) k).flatten) ↔ k ∈ (cycsTo (dg s) k).flatten := by
          unfold wd
          rw [L_S, List.mem_map]
          constructor
          · rintro ⟨n, hn, e⟩
            have h1 := congrArg UInt8.toNat e
            rw [letr_toNat, letr_toNat] at h1
            have := hfl n hn
            have : n = k := by omega
            exact this ▸ hn
          · exact fun h => ⟨k, h, rfl⟩
        clear hlk hfl hflen
        by_cases hm : k ∈ (cycsTo (dg s) k).flatten
        · obtain ⟨n, hn, e⟩ := idx_mem (hmem.2 hm)
          rw [e] at hfd
          have HY := Lib.hid (cycsTo_yes hm)
          clear hm hmem e hn
          go_wp2_with (go_at_call 126; ((with_reducible refine (hfd _).mono ?_); rintro e w' ⟨rfl, rfl⟩))
          go_roundw
          case rel => exact ⟨k + 1, by omega, by go_num, by rw [HY.out], by rw [HY.out]; exact hown, hb⟩
          case measure => simp [intOf]; omega
        · have e : Lib.indexByte (L (wd (cycsTo (dg s) k).flatten)) (letr (k : Int)) = -1 := idx_no _ _ fun x hx he => hm (hmem.1 (he ▸ hx))
          rw [e] at hfd
          have HN := Lib.hid (cycsTo_no hm)
          clear hm hmem e
          have hcs : (wd (cycL (dg s) k)).size ≤ 10 := by rw [size_wd, len_cycL]; exact ordP_le hP hlt
          generalize hN : (cycsTo (dg s) k).length = N at hown hln
          go_wp2_with (first | (go_at_call 126; ((with_reducible refine (hfd _).mono ?_); rintro e w' ⟨rfl, rfl⟩)) | (go_at_call 134; ((with_reducible refine (l3Cycle_any s k _ hp hlt).mono ?_); rintro e w1 ⟨rfl, hb1⟩)) | (at_builtin; ((with_reducible refine wl_push 30 9 inf_str Tryz.underlying30 rfl (by omega) (OwR.below hown hb1 (Nat.le_refl _)) (Nat.le_trans hb.size hb1.size) rfl (by simp [Value.oneCell']) (by omega) (by omega) rfl rfl ?_); intro g cap w4 o4 b4 s4; have f4 := OwR.last o4)))
          go_roundw
          case rel =>
            refine ⟨k + 1, by omega, by go_num, ?_, ?_, ((bt hb hb1).trans b4)⟩
            · rw [HN.out, List.flatten_append, wd_append]; simp
            · rw [HN.out, List.length_append, hN, List.map_append, sv_append]; exact o4
          case measure => simp [intOf]; omega
      · have hk' : k = 10 := by omega
        subst hk'
        go_wp2
        go_ret
        refine ⟨_, rfl, ?_, hb⟩
        rw [hst.out, List.length_map]
        exact hown

/-- What FixedLetters answers. -/
def fixS (s : ByteArray) : ByteArray := if permB s = true then wd (fixL (dg s)) else S []
theorem fold_ones : ∀ (l : List (List Nat)) (acc : List Nat), ((l.map wd).filter fun c => c.size == 1).foldl (· ++ ·) (wd acc) = wd (acc ++ (l.filter fun c => c.length == 1).flatten)
  | [], acc => by simp
  | c :: l, acc => by
    simp only [List.map_cons, List.filter_cons, size_wd]
    split
    · simp only [List.foldl_cons, ← wd_append, fold_ones l, List.flatten_cons, List.append_assoc]
    · exact fold_ones l acc
theorem fixS_of (s : ByteArray) : ((cycsS s).filter fun c => c.size == 1).foldl (· ++ ·) (S []) = fixS s := by
  unfold cycsS fixS
  split
  · rename_i h
    have h1 := fix_cycs (permB_isP h) 10 (Nat.le_refl _)
    rw [fixL, ← h1, cycs]
    generalize cycsTo (dg s) 10 = l
    have := fold_ones l []
    rw [List.nil_append] at this
    rw [← this]
    rfl
  · simp
theorem foldl_take_succ {ss : List ByteArray} {k : Nat} (h : k < ss.length) : ((ss.take (k + 1)).filter fun c => c.size == 1).foldl (· ++ ·) (S []) = if ss[k].size == 1 then ((ss.take k).filter fun c => c.size == 1).foldl (· ++ ·) (S []) ++ ss[k] else ((ss.take k).filter fun c => c.size == 1).foldl (· ++ ·) (S []) := by
  rw [List.take_succ_eq_append_getElem h, List.filter_append, List.foldl_append]
  by_cases e : ss[k].size = 1 <;> simp [e]
theorem cycsS_few (s : ByteArray) : (cycsS s).length ≤ 10 ∧ ∀ c ∈ cycsS s, c.size ≤ 10 := by
  unfold cycsS
  split
  · rename_i h
    refine ⟨by rw [List.length_map]; exact cycsTo_len _ _, fun c hc => ?_⟩
    obtain ⟨l, hl, rfl⟩ := List.mem_map.1 hc
    rw [size_wd]; exact (cycsTo_size (permB_isP h) (Nat.le_refl _) l hl).2
  · simp
theorem specFixedLetters_any (s : ByteArray) (w : World) (hs : s.size ≤ 4294967296) :
    Calls Tryz.prog 132 #[.string s] w fun e w' => e = .returned (.string (fixS s)) ∧ Below w.heap.size w w' := by
  have hfew := cycsS_few s
  have HF := Lib.hid (fixS_of s)
  have hcy := fun W => specCyclesOf_any s W hs
  generalize cycsS s = ss at hfew HF hcy
  obtain ⟨hf1, hf2⟩ := hfew
  have HF2 := Lib.hid hf2
  clear hf2
  go_enter Tryz.func132, Tryz.ntmps132
  go_wp2_with fail
  refine (hcy _).mono ?_
  rintro e w1 ⟨v, rfl, hown, hb⟩
  obtain ⟨a, c, rfl, hc, hr, -⟩ := OwR.val hown
  clear hown hcy
  have HR := Lib.hid hr
  clear hr
  go_wp2_with fail
  go_loop [3, 5] (fun o i => ∃ k : Nat, k ≤ ss.length ∧ i = .int .i64 k ∧ o = .string (((ss.take k).filter fun c => c.size == 1).foldl (· ++ ·) (S [])) ∧ (((ss.take k).filter fun c => c.size == 1).foldl (· ++ ·) (S [])).size ≤ k) (fun _ i => ss.length - (intOf i).toNat)
  case atStart => exact ⟨0, Nat.zero_le _, rfl, rfl, Nat.le_refl _⟩
  case round =>
    obtain ⟨k, hk, rfl, rfl, hz⟩ := hrel
    by_cases hlt : k < ss.length
    · have HT := Lib.hid (foldl_take_succ hlt)
      obtain ⟨b, off, rfl, hb1, hcs⟩ := HR.out.open_ (by rw [length_sv]; omega)
      have d1 := hcs k (by rw [length_sv]; exact hlt)
      rw [sv_at hlt] at d1
      clear hcs
      have hz2 := HF2.out _ (List.getElem_mem hlt)
      generalize hG : ((ss.take k).filter fun c => c.size == 1).foldl (· ++ ·) (S []) = t at *
      by_cases he : ss[k].size = 1
      · have t1 : ((ss[k].size : Int) == 1) = true := by simp [he]
        have HE := Lib.hid he
        clear he hG
        go_wp2
        go_round
        case rel =>
          have h0 := HT.out
          rw [if_pos (by simpa using HE.out)] at h0
          refine ⟨k + 1, by omega, by go_num, by rw [h0], ?_⟩
          rw [h0, ByteArray.size_append, HE.out]; omega
        case measure => simp [intOf]; omega
      · have t1 : ((ss[k].size : Int) == 1) = false := by rw [beq_eq_false_iff_ne]; omega
        have HE := Lib.hid he
        clear he hG
        go_wp2
        go_round
        case rel =>
          have h0 := HT.out
          rw [if_neg (by simpa using HE.out)] at h0
          exact ⟨k + 1, by omega, by go_num, by rw [h0], by rw [h0]; omega⟩
        case measure => simp [intOf]; omega
    · go_wp2
      go_ret
      refine ⟨ret_str ?_, hb⟩
      rw [List.take_of_length_le (by omega)]; exact HF.out

/-- What PlugCount answers. -/
def plugN (s : ByteArray) : Int := if plugB s = true then ((movedN (dg s) / 2 : Nat) : Int) else -1
theorem specPlugCount_any (s : ByteArray) (w : World) (hs : s.size ≤ 4294967296) :
    Calls Tryz.prog 125 #[.string s] w fun e w' => e = .returned (.int .i64 (plugN s)) ∧ Below w.heap.size w w' := by
  have hc := fun W => specPlugsValid_any s W hs
  cases h : plugB s with
  | false =>
    have hn := Lib.hid (show plugN s = -1 by simp [plugN, h])
    rw [h] at hc
    go_enter Tryz.func125, Tryz.ntmps125
    go_wp2_with (go_at_call 64; ((with_reducible refine (hc _).mono ?_); rintro e w1 ⟨rfl, hb⟩))
    go_ret
    exact ⟨ret_int hn.out.symm, hb⟩
  | true =>
    have hp := plugB_perm h
    have hl := len_fixL (dg s)
    have hm : movedN (dg s) ≤ 10 := by omega
    have hn := Lib.hid (show plugN s = ((movedN (dg s) / 2 : Nat) : Int) by simp [plugN, h])
    have hsz : (fixS s).size + movedN (dg s) = 10 := by unfold fixS; rw [if_pos hp, size_wd]; exact hl
    have hq : (fixS s).size ≤ 10 := by omega
    have HZ := Lib.hid hsz
    clear hsz hl
    rw [h] at hc
    go_enter Tryz.func125, Tryz.ntmps125
    go_wp2_with (first | (go_at_call 64; ((with_reducible refine (hc _).mono ?_); rintro e w1 ⟨rfl, hb⟩)) | (go_at_call 132; ((with_reducible refine (specFixedLetters_any _ _ hs).mono ?_); rintro e w2 ⟨rfl, hb2⟩)))
    go_ret
    refine ⟨ret_int ?_, bt hb hb2⟩
    rw [hn.out]
    have := HZ.out
    omega
theorem reflB_plugN (s : ByteArray) : reflB s = (plugN s == 5) := by
  unfold reflB plugN
  cases plugB s
  · rfl
  · simp only [Bool.true_and, if_true]
    rw [Bool.eq_iff_iff]; simp; omega
theorem specReflectorValid_any (s : ByteArray) (w : World) (hs : s.size ≤ 4294967296) :
    Calls Tryz.prog 110 #[.string s] w fun e w' => e = .returned (.bool (reflB s)) ∧ Below w.heap.size w w' := by
  have hr := Lib.hid (reflB_plugN s)
  go_enter Tryz.func110, Tryz.ntmps110
  go_wp2_with (go_at_call 125; ((with_reducible refine (specPlugCount_any _ _ hs).mono ?_); rintro e w1 ⟨rfl, hb⟩))
  go_ret
  exact ⟨ret_bool hr.out.symm, hb⟩
end Go.Proofs.YtnnblmibonnpcaaGreat

/- The specification's rotors, wheels and steps. -/
namespace Go.Proofs.YtnnblmibonnpcaaGreat
open Go.RowKit

theorem specRotorValid_any (r : Rot) (w : World) (hr : SzR r) :
    Calls Tryz.prog 109 #[.agg #[.string r.wiring, .string r.notches]] w fun e w' => e = .returned (.bool (rotorB r)) ∧ Below w.heap.size w w' := by
  have h1 := hr.1
  have h2 := hr.2
  have o0 := Own.new w (rv r) 73
  have hb0 := (Below.refl w.heap.size w).alloc (Nat.le_refl _) (.cells (rv r).toArray 73)
  go_enter Tryz.func109, Tryz.ntmps109
  go_wp2_with fail
  refine (specPermValid_any _ _ h1).mono ?_
  rintro e w1 ⟨rfl, hb1⟩
  have o1 := o0.below hb1 o0.lt
  have c0 := o1.at_ (i := 0) rfl
  have c1 := o1.at_ (i := 1) rfl
  have hb : Below w.heap.size w w1 := bt hb0 hb1
  clear o0 hb0 hb1 o1
  cases hp : permB r.wiring
  · have HF := Lib.hid (show rotorB r = false by simp [rotorB, hp])
    go_wp2
    go_ret
    exact ⟨ret_bool HF.out.symm, hb⟩
  · by_cases h3 : r.notches.size ≤ 3
    · have hq : decide ((3 : Int) < (r.notches.size : Int)) = false := by simp; omega
      cases hw : wordB r.notches
      · have HF := Lib.hid (show rotorB r = false by simp [rotorB, hw])
        go_wp2_with (go_at_call 38; ((with_reducible refine (specWordValid_any _ _ h2).mono ?_); rintro e w' ⟨rfl, rfl⟩))
        go_ret
        exact ⟨ret_bool HF.out.symm, hb⟩
      · have HF := Lib.hid (rotorB_of hp h3 hw)
        go_wp2_with (go_at_call 38; ((with_reducible refine (specWordValid_any _ _ h2).mono ?_); rintro e w' ⟨rfl, rfl⟩))
        clear hp hw
        go_loopw [3] (fun i wr => ∃ k n : Nat, k ≤ 3 ∧ i = .int .i64 ((k : Int) + 1) ∧ ascTo r.notches (k + 1) ∧ wr = w1.drewN n) (fun i _ => 4 - (intOf i).toNat)
        case atStart => exact ⟨0, 0, by omega, rfl, ascTo_one _, rfl⟩
        case round =>
          obtain ⟨k, n, hk4, rfl, ha, rfl⟩ := hrel
          by_cases hlt : k + 1 < r.notches.size
          · have q1 : (k : Int) < (r.notches.size : Int) := by omega
            have q1' : k < r.notches.size := by omega
            have q2 : (k : Int) + 1 < (r.notches.size : Int) := by omega
            have HW := Lib.hid (show IntKind.i64.wrap (k : Int) = (k : Int) from IntWalk.i64_in _ (by omega))
            by_cases hc : r.notches[k + 1].toNat ≤ r.notches[k].toNat
            · have HN := Lib.hid (ascB_no (k := k + 1) (by omega) hlt hc)
              have hd : decide (r.notches[k + 1].toNat ≤ r.notches[k].toNat) = true := by simp; omega
              clear hc
              go_wp2_with fail
              have hw1 := HW.out
              have hw2 : (0 : Int) ≤ (k : Int) + 1 := by omega
              have hw3 : ((k : Int) + 1).toNat = k + 1 := by omega
              go_quiet (fail)
              clear hw1
              go_wp2
              go_ret
              exact ⟨ret_bool (by rw [HF.out, HN.out]), bel_drewN (bel_drewN hb _) _⟩
            · have HA := Lib.hid (ascTo_succ ha (by omega) hlt (by simpa using hc))
              have hd : decide (r.notches[k + 1].toNat ≤ r.notches[k].toNat) = false := by simp; omega
              clear hc
              go_wp2_with fail
              have hw1 := HW.out
              have hw2 : (0 : Int) ≤ (k : Int) + 1 := by omega
              have hw3 : ((k : Int) + 1).toNat = k + 1 := by omega
              go_quiet (fail)
              clear hw1
              go_wp2
              go_roundw
              case rel => exact ⟨k + 1, _, by omega, by go_num, HA.out, rfl⟩
              case measure => simp [intOf]; omega
          · go_wp2
            go_ret
            refine ⟨ret_bool ?_, bel_drewN hb n⟩
            rw [HF.out, ascB_yes ha (by omega)]
    · have HF := Lib.hid (show rotorB r = false by simp [rotorB, h3])
      have hq : 3 < r.notches.size := by omega
      go_wp2
      go_ret
      exact ⟨ret_bool HF.out.symm, hb⟩


theorem specWheelsValid_any (a : Option Addr) (n c : Nat) (x : Whl) (w : World) (h : WhlAt w w.heap.size a n x) :
    Calls Tryz.prog 84 #[.agg #[.slice a n c, .string x.refl]] w fun e w' => e = .returned (.bool (wheelsB x)) ∧ Below w.heap.size w w' := by
  have hn := h.len
  subst hn
  have hrf := h.refl
  have hfew := h.few
  have o0 := Own.new w [.slice a x.rotors.length c, .string x.refl] 25
  have hb0 := (Below.refl w.heap.size w).alloc (Nat.le_refl _) (.cells [.slice a x.rotors.length c, .string x.refl].toArray 25)
  go_enter Tryz.func84, Tryz.ntmps84
  go_wp2_with fail
  go_loopw [3] (fun i wr => ∃ k : Nat, k ≤ x.rotors.length ∧ i = .int .i64 k ∧ rotTo x.rotors k ∧ Own wr w.heap.size [.slice a x.rotors.length c, .string x.refl] ∧ Below w.heap.size w wr) (fun i _ => x.rotors.length - (intOf i).toNat)
  case atStart => exact ⟨0, by omega, rfl, fun _ _ h => absurd h (by omega), o0, hb0⟩
  case round =>
    clear hb0 o0
    obtain ⟨k, hk, rfl, ha, o0, hb⟩ := hrel
    have c0 := o0.at_ (i := 0) rfl
    have c1 := o0.at_ (i := 1) rfl
    by_cases hlt : k < x.rotors.length
    · obtain ⟨b, off, rfl, hbl, hc⟩ := h.cells (by omega)
      have hc' := hc.below hb hbl
      obtain ⟨f0, f1⟩ := rot_cells hc' hlt
      have hsz := h.rot _ (List.getElem_mem hlt)
      have q2 : (k : Int) < (x.rotors.length : Int) := by omega
      go_wp2_with fail
      refine (specRotorValid_any _ _ hsz).mono ?_
      rintro e w2 ⟨rfl, hb2⟩
      have hb' : Below w.heap.size w w2 := bt hb hb2
      have o2 := o0.below hb2 o0.lt
      clear hb hb2 c0 c1
      cases hv : rotorB x.rotors[k]
      · have HN := Lib.hid (show wheelsB x = false by simp [wheelsB, rotTo_no hlt hv])
        clear hv
        go_wp2
        go_ret
        exact ⟨ret_bool HN.out.symm, hb'⟩
      · have HA := Lib.hid (rotTo_succ ha hlt hv)
        clear hv
        go_wp2
        go_roundw
        case rel => exact ⟨k + 1, by omega, by go_num, HA.out, o2, hb'⟩
        case measure => simp [intOf]; omega
    · have HF := Lib.hid (show wheelsB x = (decide ((1 : Int) ≤ (x.rotors.length : Int)) && decide ((x.rotors.length : Int) ≤ 3) && reflB x.refl) by
        have e1 : decide (1 ≤ x.rotors.length) = decide ((1 : Int) ≤ (x.rotors.length : Int)) := decide_eq_decide.2 (by omega)
        have e2 : decide (x.rotors.length ≤ 3) = decide ((x.rotors.length : Int) ≤ 3) := decide_eq_decide.2 (by omega)
        simp only [wheelsB, rotTo_all ha (by omega), Bool.and_true, e1, e2])
      have hin := fun W => l1In_any (x.rotors.length : Int) 1 3 W
      cases hv : (decide ((1 : Int) ≤ (x.rotors.length : Int)) && decide ((x.rotors.length : Int) ≤ 3))
      · rw [hv] at hin HF
        clear hv
        go_wp2_with (go_at_call 65; ((with_reducible refine (hin _).mono ?_); rintro e w' ⟨rfl, rfl⟩))
        go_ret
        exact ⟨ret_bool HF.out.symm, hb⟩
      · rw [hv] at hin HF
        clear hv
        go_wp2_with (first | (go_at_call 65; ((with_reducible refine (hin _).mono ?_); rintro e w' ⟨rfl, rfl⟩)) | (go_at_call 110; ((with_reducible refine (specReflectorValid_any _ _ hrf).mono ?_); rintro e w2 ⟨rfl, hb2⟩)))
        go_ret
        exact ⟨ret_bool (by rw [HF.out]; simp), bt hb hb2⟩

theorem l7Windows_any (a : Option Addr) (n c : Nat) (x : Whl) (v : ByteArray) (w : World) (h : WhlAt w w.heap.size a n x) (hv : v.size ≤ 4294967296) :
    Calls Tryz.prog 63 #[.agg #[.slice a n c, .string x.refl], .string v] w fun e w' => e = .returned (.bool (fitB x v)) ∧ Below w.heap.size w w' := by
  have o0 := Own.new w [.slice a n c, .string x.refl] 25
  have hb0 := (Below.refl w.heap.size w).alloc (Nat.le_refl _) (.cells [.slice a n c, .string x.refl].toArray 25)
  have h' := h.alloc_ (.cells [.slice a n c, .string x.refl].toArray 25)
  have hn := h.len
  subst hn
  go_enter Tryz.func63, Tryz.ntmps63
  go_wp2_with fail
  refine (specWheelsValid_any _ _ _ _ _ h').mono ?_
  rintro e w1 ⟨rfl, hb1⟩
  have o1 := o0.below hb1 o0.lt
  have c0 := o1.at_ (i := 0) rfl
  have hb : Below w.heap.size w w1 := bt hb0 hb1
  clear o0 hb0 hb1 o1 h'
  cases hw : wheelsB x
  · have HF := Lib.hid (show fitB x v = false by simp [fitB, hw])
    go_wp2
    go_ret
    exact ⟨ret_bool HF.out.symm, hb⟩
  · cases hwd : wordB v
    · have HF := Lib.hid (show fitB x v = false by simp [fitB, hwd])
      clear hw
      have hq := fun W => specWordValid_any v W hv
      rw [hwd] at hq
      go_wp2_with (go_at_call 38; ((with_reducible refine (hq _).mono ?_); rintro e w' ⟨rfl, rfl⟩))
      go_ret
      exact ⟨ret_bool HF.out.symm, hb⟩
    · have hq := fun W => specWordValid_any v W hv
      rw [hwd] at hq
      have HF := Lib.hid (show fitB x v = ((v.size : Int) == (x.rotors.length : Int)) by
        simp only [fitB, hw, hwd, Bool.true_and, Bool.and_true]
        rw [Bool.eq_iff_iff]; simp; omega)
      clear hw hwd
      go_wp2_with (go_at_call 38; ((with_reducible refine (hq _).mono ?_); rintro e w' ⟨rfl, rfl⟩))
      go_ret
      exact ⟨ret_bool HF.out.symm, hb⟩

theorem l7At_any (a : Option Addr) (n c : Nat) (x : Whl) (v : ByteArray) (i : Nat) (w : World) (h : WhlAt w w.heap.size a n x) (hv : i < v.size) (hi : i < x.rotors.length) (hvs : v.size ≤ 4294967296) :
    Calls Tryz.prog 112 #[.agg #[.slice a n c, .string x.refl], .string v, .int .i64 (i : Int)] w fun e w' => e = .returned (.bool (atB x v i)) ∧ Below w.heap.size w w' := by
  have o0 := Own.new w [.slice a n c, .string x.refl] 25
  have hb0 := (Below.refl w.heap.size w).alloc (Nat.le_refl _) (.cells [.slice a n c, .string x.refl].toArray 25)
  obtain ⟨b, off, rfl, hbl, hc⟩ := h.cells (by omega)
  have hn := h.len
  subst hn
  obtain ⟨-, f1⟩ := rot_cells (hc.below hb0 hbl) hi
  have c0 := o0.at_ (i := 0) rfl
  have hca := Lib.hid (atB_idx hi hv)
  have hsz := (h.rot _ (List.getElem_mem hi)).2
  have q1 : (i : Int) < (v.size : Int) := by omega
  have q2 : (i : Int) < (x.rotors.length : Int) := by omega
  have hbl2 : b < w.heap.size + 1 := by omega
  have hlf := fun W => l21Find_any x.rotors[i].notches v[i] W hsz
  clear hc h o0
  go_enter Tryz.func112, Tryz.ntmps112
  go_wp2_with fail
  generalize hW : (w.alloc (.cells [.slice (some ⟨b, off, none⟩) x.rotors.length c, .string x.refl].toArray 25)) = W at *
  have hz : W.heap.size = w.heap.size + 1 := by rw [← hW]; simp
  have q3 : w.heap.size < W.heap.size := by omega
  have q4 : b < W.heap.size := by omega
  clear hW
  have d0 := fun (cc : Cls W.heap.size W) => (cc.cell w.heap.size 0 q3).trans c0
  have d1 := fun (cc : Cls W.heap.size W) => (cc.cell b (off + i * 2 + 1) q4).trans f1
  refine wp_region_cls (by kernel_rfl) (by kernel_rfl) ?_
  repeat (go_big_quiet_step (first | (go_at_call 126; with_reducible exact cls_same (hlf _))))
  refine wpQuiet_nil ?_
  intro wc hbc
  go_wp2
  go_ret
  refine ⟨ret_bool ?_, hb0.trans (hbc.mono (by omega))⟩
  rw [hca.out]
end Go.Proofs.YtnnblmibonnpcaaGreat

/- The specification's steps. -/
namespace Go.Proofs.YtnnblmibonnpcaaGreat
open Go.RowKit

theorem l7Moves_any (a : Option Addr) (n c : Nat) (x : Whl) (v : ByteArray) (i : Nat) (w : World) (h : WhlAt w w.heap.size a n x) (hf : FitB x v) (hi : i < v.size) :
    Calls Tryz.prog 87 #[.agg #[.slice a n c, .string x.refl], .string v, .int .i64 (i : Int)] w fun e w' => e = .returned (.bool (mvB x v i)) ∧ Below w.heap.size w w' := by
  have h3 : v.size ≤ 3 := by rw [hf.size]; exact hf.three
  have o0 := Own.new w [.slice a n c, .string x.refl] 25
  have hb0 := (Below.refl w.heap.size w).alloc (Nat.le_refl _) (.cells [.slice a n c, .string x.refl].toArray 25)
  have h' := h.alloc_ (.cells [.slice a n c, .string x.refl].toArray 25)
  by_cases hl : i + 1 = v.size
  · have HM := Lib.hid (mvB_last (x := x) hl)
    have t1 : ((i : Int) == (v.size : Int) - 1) = true := by rw [beq_iff_eq]; omega
    clear hl
    go_enter Tryz.func87, Tryz.ntmps87
    go_wp2
    go_ret
    exact ⟨ret_bool HM.out.symm, hb0⟩
  · have HM := Lib.hid (mvB_of (x := x) (show i + 1 < v.size by omega))
    have t1 : ((i : Int) == (v.size : Int) - 1) = false := by rw [beq_eq_false_iff_ne]; omega
    have hr1 : i + 1 < x.rotors.length := by have := hf.size; omega
    have hv1 : i + 1 < v.size := by omega
    clear hl
    have hc1 := l7At_any a n c x v (i + 1) _ h' hv1 hr1 (by omega)
    rw [show (((i + 1 : Nat)) : Int) = (i : Int) + 1 by omega] at hc1
    go_enter Tryz.func87, Tryz.ntmps87
    go_wp2_with fail
    refine hc1.mono ?_
    rintro e w1 ⟨rfl, hb1⟩
    have o1 := o0.below hb1 o0.lt
    have c0 := o1.at_ (i := 0) rfl
    have c1 := o1.at_ (i := 1) rfl
    have hb : Below w.heap.size w w1 := bt hb0 hb1
    have h1 := (h'.below hb1 (Nat.le_refl _)).more hb1.size
    clear o0 hb0 hb1 o1 h' hc1
    cases e1 : atB x v (i + 1)
    · by_cases h0 : 0 < i
      · have HM2 := Lib.hid (show mvB x v i = atB x v i by rw [HM.out, e1]; simp [h0])
        clear e1
        go_wp2_with fail
        refine (l7At_any a n c x v i _ h1 hi (by omega) (by omega)).mono ?_
        rintro e w2 ⟨rfl, hb2⟩
        go_wp2
        go_ret
        exact ⟨ret_bool HM2.out.symm, bt hb hb2⟩
      · have HM2 := Lib.hid (show mvB x v i = false by rw [HM.out, e1]; simp [h0])
        clear e1
        go_wp2
        go_ret
        exact ⟨ret_bool HM2.out.symm, hb⟩
    · have HM2 := Lib.hid (show mvB x v i = true by rw [HM.out, e1]; simp)
      clear e1
      go_wp2
      go_ret
      exact ⟨ret_bool HM2.out.symm, hb⟩

theorem letr_one (n : Int) : (S [letr n])[0]'(by rw [size_S]; simp) = letr n := by rw [getElem_L]; simp [L_S]
set_option maxRecDepth 100000 in
theorem l7Step_any (a : Option Addr) (n c : Nat) (x : Whl) (v : ByteArray) (w : World) (h : WhlAt w w.heap.size a n x) (hf : FitB x v) :
    Calls Tryz.prog 67 #[.agg #[.slice a n c, .string x.refl], .string v] w fun e w' => e = .returned (.string (stepW x v)) ∧ Below w.heap.size w w' := by
  have hs3 : v.size ≤ 3 := by rw [hf.size]; exact hf.three
  have o0 := Own.new w [.slice a n c, .string x.refl] 25
  have hb0 := (Below.refl w.heap.size w).alloc (Nat.le_refl _) (.cells [.slice a n c, .string x.refl].toArray 25)
  have h' := h.alloc_ (.cells [.slice a n c, .string x.refl].toArray 25)
  obtain ⟨cap, w3, hcv, o3, hb3, s3, hcap⟩ := conv_bytes (w.alloc (.cells [.slice a n c, .string x.refl].toArray 25)) v
  have o0' := o0.below hb3 o0.lt
  have hbw := bt hb0 hb3
  rw [World.size_alloc] at o3 s3
  clear o0 hb0
  go_enter Tryz.func67, Tryz.ntmps67
  go_wp2_with fail
  go_loopw [6] (fun i wr => ∃ k : Nat, k ≤ v.size ∧ i = .int .i64 k ∧ Below w.heap.size w wr ∧ Own wr w.heap.size [.slice a n c, .string x.refl] ∧ Own wr (w.heap.size + 1) (bv ((L (stepW x v)).take k ++ (L v).drop k))) (fun i _ => v.size - (intOf i).toNat)
  case atStart => exact ⟨0, Nat.zero_le _, rfl, hbw, o0', by simpa using o3⟩
  case round =>
    clear hbw o0' o3 hcv s3 h' hb3
    obtain ⟨k, hk, rfl, hbel, o2, o3⟩ := hrel
    have Hls := Lib.hid (show (L (stepW x v)).length = v.size by rw [size_L, size_stepW])
    have Hlv := Lib.hid (show (L v).length = v.size from size_L v)
    by_cases hlt : k < v.size
    · have c0 := o2.at_ (i := 0) rfl
      have c1 := o2.at_ (i := 1) rfl
      have hw : WhlAt wr wr.heap.size a n x := (h.below hbel (Nat.le_refl _)).more hbel.size
      have hlen := Lib.hid (show (bv ((L (stepW x v)).take k ++ (L v).drop k)).length = v.size by rw [length_bv, fill_len (by rw [Hls.out, Hlv.out]) (by rw [Hls.out]; omega), Hls.out])
      have hd := wordB_at hf.word k hlt
      have hst := Lib.hid (stepL_at (x := x) hlt)
      have hfs := Lib.hid (fill_set (A := L (stepW x v)) (R := L v) (k := k) (by rw [Hls.out]; exact hlt) (by rw [Hls.out, Hlv.out]))
      have hmv := fun W hW => l7Moves_any a n c x v k W hW hf hlt
      cases hm : mvB x v k
      · rw [hm] at hmv
        have he : (L (stepW x v)).take k ++ (L v).drop k = (L (stepW x v)).take (k + 1) ++ (L v).drop (k + 1) := by
          rw [← hfs.out, hst.out, hm]
          simp only [Bool.false_eq_true, if_false]
          have hl : ((L (stepW x v)).take k).length = k := by rw [List.length_take, Hls.out]; omega
          rw [List.set_append_right _ _ (by omega), hl, Nat.sub_self, List.drop_eq_getElem_cons (by rw [Hlv.out]; exact hlt)]
          rfl
        have HE := Lib.hid he
        clear hm he
        go_wp2_with fail
        refine (hmv _ hw).mono ?_
        rintro e w4 ⟨rfl, hb4⟩
        go_wp2
        go_roundw
        case rel => exact ⟨k + 1, by omega, by go_num, bt hbel hb4, o2.below hb4 o2.lt, by rw [← HE.out]; exact o3.below hb4 o3.lt⟩
        case measure => simp [intOf]; omega
      · rw [hm] at hmv
        have HS := Lib.hid (show (L (stepW x v))[k]'(by rw [Hls.out]; exact hlt) = letr (dig v[k] + 1) by rw [hst.out, hm]; rfl)
        clear hm
        go_wp2_with fail
        refine (hmv _ hw).mono ?_
        rintro e w4 ⟨rfl, hb4⟩
        have o2' := o2.below hb4 o2.lt
        have o3' := o3.below hb4 o3.lt
        have hbel' := bt hbel hb4
        clear c0 c1 hw hb4 o2 o3 hmv hbel
        have hsk : v[(k : Int).toNat]'(by omega) = v[k] := by simp
        have hdg := fun W => l1Digit_any v k W (by omega) (by omega) (by omega)
        rw [hsk] at hdg
        have hlo := letr_one (dig v[k] + 1)
        have hl1 : (S [letr (dig v[k] + 1)]).size = 1 := by rw [size_S]; rfl
        go_wp2_with (first | (go_at_call 66; ((with_reducible refine (hdg _).mono ?_); rintro e w' ⟨rfl, rfl⟩)) | (go_at_call 69; ((with_reducible refine (l1Letter_any _ _).mono ?_); rintro e w5 ⟨rfl, hb5⟩; have o4 := o3'.below hb5 o3'.lt; have f4 := o4.free k (by rw [hlen.out]; omega); obtain ⟨y4, g4⟩ := o4.some_ (i := k) (by rw [hlen.out]; omega))))
        go_roundw
        case rel =>
          refine ⟨k + 1, by omega, by go_num, (bt hbel' hb5).setCell (by simp) _, (o2'.below hb5 o2'.lt).far (by simp) _, ?_⟩
          rw [← hfs.out, HS.out, ← bv_set]
          exact o4.set_ (by rw [hlen.out]; exact hlt) _
        case measure => simp [intOf]; omega
    · have hk' : k = v.size := by omega
      subst hk'
      rw [List.take_of_length_le (by rw [Hls.out]; omega), List.drop_eq_nil_of_le (by rw [Hlv.out]; omega), List.append_nil] at o3
      have hcv := o3.conv (P := Tryz.prog) 22 9 5 Tryz.underlying22 Tryz.underlying5 Tryz.underlying9 (n := v.size) Hls.out.symm cap
      rw [S_L] at hcv
      go_wp2
      go_ret
      exact ⟨rfl, hbel⟩
end Go.Proofs.YtnnblmibonnpcaaGreat
