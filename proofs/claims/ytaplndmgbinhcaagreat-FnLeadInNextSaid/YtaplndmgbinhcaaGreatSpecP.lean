/- The specification's permutations and plugboards: LetterCounts, PermValid, l2Image, l2Back, PlugsValid. -/
import Derived.Test.YtaplndmgbinhcaaGreatPawls
namespace Go.Proofs.YtaplndmgbinhcaaGreat
open Go.RowKit

theorem specLetterCounts_word (s : ByteArray) (w : World) (hw : wordB s = true) :
    Calls Tryz.prog 94 #[.string s] w (CountsPost s w) := by
  have hb := wordB_size hw
  have hmk : ∀ W : World, (Instr.makeSlice 107 (.int .i64 10) (.int .i64 10)).run Tryz.prog W = .ok (.slice (some ⟨W.heap.size, 0, none⟩) 10 10) (W.alloc (.cells (List.replicate 10 (Value.int .i64 0)).toArray 3)) :=
    run_make1 (P := Tryz.prog) Tryz.underlying107 info_int rfl 10 10 (Nat.le_refl _) (by omega) (by omega)
  go_enter Tryz.func94, Tryz.ntmps94
  go_wp2_with (go_at_call 33; ((with_reducible refine (specWordValid_any _ _ (by omega)).mono ?_); rintro e w' ⟨rfl, rfl⟩))
  go_loopw [4] (fun i wr => ∃ k : Nat, k ≤ s.size ∧ i = .int .i64 k ∧ Below w.heap.size w wr ∧ Own wr w.heap.size ((cnts ((L s).take k)).map (.int .i64))) (fun i _ => s.size - (intOf i).toNat)
  case atStart =>
    refine ⟨0, Nat.zero_le _, rfl, (Below.refl _ _).alloc (Nat.le_refl _) _, ?_⟩
    have := Own.new w (List.replicate 10 (Value.int .i64 0)) 3
    exact this
  case round =>
    obtain ⟨k, hk, rfl, hbel, hown⟩ := hrel
    by_cases hlt : k < s.size
    · obtain ⟨hd0, hd1⟩ := wordB_at hw k hlt
      obtain ⟨d, hd⟩ := Int.eq_ofNat_of_zero_le hd0
      have hd10 : d < 10 := by omega
      have hlen : ((cnts ((L s).take k)).map (Value.int .i64)).length = 10 := by rw [List.length_map, length_cnts]
      have hcd : ((cnts ((L s).take k)).map (Value.int .i64))[d]? = some (.int .i64 ((((L s).take k).countP fun c => dig c == (d : Int)) : Int)) := by
        rw [List.getElem?_map, List.getElem?_eq_getElem (by rw [length_cnts]; exact hd10), cnts_at _ _ hd10]; rfl
      have hc := hown.at_ hcd
      have hf := hown.free d (by omega)
      have hcn : (((L s).take k).countP fun c => dig c == (d : Int)) ≤ 200 := by
        have h1 := List.countP_le_length (p := fun c => dig c == (d : Int)) (l := (L s).take k)
        have h2 := List.length_take_le k (L s)
        omega
      have hsn := Lib.hid (cnts_snoc ((L s).take k) s[k] d hd10 (by omega))
      generalize hN : (((L s).take k).countP fun c => dig c == (d : Int)) = N at hc hcn hsn
      clear hcd hlen hN
      have Hd := Lib.hid hd
      have hn := fun W => l1Digit_any s k W (by omega) (by omega) (by omega)
      have hsk : s[(k : Int).toNat]'(by omega) = s[k] := by simp
      rw [hsk] at hn
      rw [hd] at hn
      clear hd hd0 hd1 hsk
      go_wp2_with (go_at_call 37; ((with_reducible refine (hn _).mono ?_); rintro e w' ⟨rfl, rfl⟩))
      go_roundw
      case rel =>
        refine ⟨k + 1, by omega, by go_num, hbel.setCell (Nat.le_refl _) _, ?_⟩
        have h0 := hown.set_ (i := d) (by rw [List.length_map, length_cnts]; exact hd10) (.int .i64 ((N : Int) + 1))
        have ht : (L s).take (k + 1) = (L s).take k ++ [s[k]] := by rw [List.take_succ_eq_append_getElem (by rw [size_L]; exact hlt)]; rfl
        rw [ht, hsn.out, List.map_set]
        exact h0
      case measure => simp [intOf]; omega
    · have hk' : k = s.size := by omega
      subst hk'
      go_wp2
      go_ret
      refine ⟨w.heap.size, rfl, ?_, hbel⟩
      rw [List.take_of_length_le (by rw [size_L]; exact Nat.le_refl _)] at hown
      exact hown

/-- In a word of ten letters each letter occurs once exactly if no two are equal. -/
theorem count_dg (s : ByteArray) (hw : wordB s = true) (d : Nat) : (L s).countP (fun c => dig c == (d : Int)) = (dg s).count d := by
  rw [dg, List.count, List.countP_map]
  refine List.countP_congr fun c hc => ?_
  have h1 : isL c = true := by simp only [wordB, Bool.and_eq_true] at hw; exact List.all_eq_true.1 hw.2 c hc
  have := (isL_iff c).1 h1
  simp only [Function.comp, beq_iff_eq]
  omega
theorem permB_of_counts {s : ByteArray} (h10 : s.size = 10) (hw : wordB s = true) (h : ∀ d : Nat, d < 10 → (L s).countP (fun c => dig c == (d : Int)) = 1) : permB s = true := by
  have hn : (dg s).Nodup := by
    rw [List.nodup_iff_count]
    intro d
    by_cases hd : d < 10
    · rw [← count_dg s hw, h d hd]; omega
    · rw [List.count_eq_zero_of_not_mem (fun hm => hd (word_dg_lt hw d hm))]; omega
  simp [permB, h10, hw, hn]
theorem permB_count {s : ByteArray} (h : permB s = true) (d : Nat) (hd : d < 10) : (L s).countP (fun c => dig c == (d : Int)) = 1 := by
  have hp := permB_isP h
  rw [count_dg s (permB_word h)]
  have h1 := List.count_pos_iff.2 (hp.mem hd)
  have h2 := List.nodup_iff_count.1 hp.nd d
  omega

theorem specPermValid_any (s : ByteArray) (w : World) (hs : s.size ≤ 4294967296) :
    Calls Tryz.prog 73 #[.string s] w fun e w' => e = .returned (.bool (permB s)) ∧ Below w.heap.size w w' := by
  by_cases h10 : s.size = 10
  · have e10 : (s.size : Int) = 10 := by omega
    by_cases hw : wordB s = true
    · go_enter Tryz.func73, Tryz.ntmps73
      go_wp2_with (first | (go_at_call 33; ((with_reducible refine (specWordValid_any _ _ (by omega)).mono ?_); rintro e w' ⟨rfl, rfl⟩)) | (go_at_call 94; ((with_reducible refine (specLetterCounts_word s _ hw).mono ?_); rintro e w1 ⟨g, rfl, ho, hb⟩)))
      go_loopw [4] (fun i wr => ∃ k : Nat, k ≤ 10 ∧ i = .int .i64 k ∧ wr = w1 ∧ ∀ d : Nat, d < k → (L s).countP (fun c => dig c == (d : Int)) = 1) (fun i _ => 10 - (intOf i).toNat)
      case atStart => exact ⟨0, by omega, rfl, rfl, fun d hd => absurd hd (by omega)⟩
      case round =>
        obtain ⟨k, hk, rfl, rfl, hc⟩ := hrel
        by_cases hlt : k < 10
        · have f0 := ho.at_ (i := k) (u := .int .i64 (((L s).countP fun c => dig c == (k : Int)) : Int)) (by
            rw [List.getElem?_map, List.getElem?_eq_getElem (by rw [length_cnts]; exact hlt), cnts_at _ _ hlt]; rfl)
          by_cases h1 : (L s).countP (fun c => dig c == (k : Int)) = 1
          · rw [h1] at f0
            have Hc := Lib.hid hc
            have H1 := Lib.hid h1
            clear hc h1
            go_wp2
            go_roundw
            case rel =>
              refine ⟨k + 1, by omega, by go_num, trivial, fun d hd => ?_⟩
              by_cases e : d = k
              · subst e; exact H1.out
              · exact Hc.out d (by omega)
            case measure => simp [intOf]; omega
          · have hno : Hid (permB s = false) := by
              show _ = _
              cases e : permB s with
              | false => rfl
              | true => exact absurd (permB_count e k hlt) h1
            generalize (L s).countP (fun c => dig c == (k : Int)) = N at f0 h1
            have h1' : (((N : Int) == 1) = false) := by rw [beq_eq_false_iff_ne]; omega
            clear hc h1
            go_wp2
            go_ret
            exact ⟨ret_bool hno.out.symm, hb⟩
        · have hk' : k = 10 := by omega
          subst hk'
          have hyes := Lib.hid (permB_of_counts h10 hw hc)
          clear hc
          go_wp2
          go_ret
          exact ⟨ret_bool hyes.out.symm, hb⟩
    · have hno : Hid (permB s = false) := by show _ = _; simp [permB, hw]
      have hw' : wordB s = false := by simpa using hw
      clear hw
      go_enter Tryz.func73, Tryz.ntmps73
      go_wp2_with (go_at_call 33; ((with_reducible refine (specWordValid_any _ _ (by omega)).mono ?_); rintro e w' ⟨rfl, rfl⟩))
      go_ret
      exact ⟨ret_bool hno.out.symm, Below.refl _ _⟩
  · have hno := Lib.hid (permB_size_no h10)
    have e10 : ((s.size : Int) == 10) = false := by rw [beq_eq_false_iff_ne]; omega
    go_enter Tryz.func73, Tryz.ntmps73
    go_wp2
    go_ret
    exact ⟨ret_bool hno.out.symm, Below.refl _ _⟩

theorem l2Image_any (s : ByteArray) (i : Nat) (w : World) (h : permB s = true) (hi : i < 10) :
    Calls Tryz.prog 106 #[.string s, .int .i64 i] w fun e w' => e = .returned (.int .i64 (pAt (dg s) i)) ∧ w = w' := by
  have h10 := permB_size h
  have hd := wordB_at (permB_word h) i (by omega)
  have he : dig s[i] = (pAt (dg s) i : Int) := by rw [dg_at (by omega)]; omega
  have hn := fun W => l1Digit_any s i W (by omega) (by omega) (by omega)
  have hsk : s[(i : Int).toNat]'(by omega) = s[i] := by simp
  rw [hsk, he] at hn
  clear hd he hsk
  go_enter Tryz.func106, Tryz.ntmps106
  go_wp2_with (go_at_call 37; ((with_reducible refine (hn _).mono ?_); rintro e w' ⟨rfl, rfl⟩))
  go_ret
  exact ⟨rfl, rfl⟩

theorem info_u8s : (Tryz.prog.info? 5).map (fun i => (i.zero, i.size, i.bytes)) = some (some (.int .u8 0), 1, 1) := by kernel_rfl
theorem l2Back_any (s : ByteArray) (w : World) (h : permB s = true) :
    Calls Tryz.prog 103 #[.string s] w fun e w' => e = .returned (.string (wd (backP (dg s)))) ∧ Below w.heap.size w w' := by
  have hp := permB_isP h
  have hmk : ∀ W : World, (Instr.makeSlice 22 (.int .i64 10) (.int .i64 10)).run Tryz.prog W = .ok (.slice (some ⟨W.heap.size, 0, none⟩) 10 10) (W.alloc (.cells (List.replicate 10 (Value.int .u8 0)).toArray 5)) :=
    run_make1 (P := Tryz.prog) Tryz.underlying22 info_u8s rfl 10 10 (Nat.le_refl _) (by omega) (by omega)
  go_enter Tryz.func103, Tryz.ntmps103
  go_wp2
  go_loopw [4] (fun i wr => ∃ (k : Nat) (cs : List Value), k ≤ 10 ∧ i = .int .i64 k ∧ cs.length = 10 ∧ (∀ j, j < k → cs[pAt (dg s) j]? = some (.int .u8 ((97 + j : Nat) : Int))) ∧ Below w.heap.size w wr ∧ Own wr w.heap.size cs) (fun i _ => 10 - (intOf i).toNat)
  case atStart =>
    exact ⟨0, _, by omega, rfl, by simp, fun j hj => absurd hj (by omega), (Below.refl _ _).alloc (Nat.le_refl _) _, Own.new w (List.replicate 10 (Value.int .u8 0)) 5⟩
  case round =>
    obtain ⟨k, cs, hk, rfl, hcl, hcs, hbel, hown⟩ := hrel
    by_cases hlt : k < 10
    · have hx := hp.at_lt hlt
      obtain ⟨x3, f3⟩ := hown.some_ (i := pAt (dg s) k) (by omega)
      have g3 := hown.free (pAt (dg s) k) (by omega)
      have Hcs := Lib.hid hcs
      clear hcs
      go_wp2_with (go_at_call 106; ((with_reducible refine (l2Image_any s k _ h hlt).mono ?_); rintro e w' ⟨rfl, rfl⟩))
      go_roundw
      case rel =>
        refine ⟨k + 1, cs.set (pAt (dg s) k) (.int .u8 ((97 + k : Nat) : Int)), by omega, by go_num, by simp [hcl], fun j hj => ?_, hbel.setCell (Nat.le_refl _) _, ?_⟩
        · by_cases e : j = k
          · subst e; rw [List.getElem?_set_self (by omega)]
          · rw [List.getElem?_set_ne (fun he => e (hp.inj hlt (by omega) he).symm)]
            exact Hcs.out j (by omega)
        · have := hown.set_ (i := pAt (dg s) k) (by omega) (.int .u8 ((97 + k : Nat) : Int))
          rw [show ((97 + k : Nat) : Int) = 97 + (k : Int) by omega] at this ⊢
          exact this
      case measure => simp [intOf]; omega
    · have hk' : k = 10 := by omega
      subst hk'
      have hce : cs = bv (L (wd (backP (dg s)))) := by
        have hl2 : (L (wd (backP (dg s)))).length = 10 := by rw [size_L, size_wd, len_back]
        refine List.ext_getElem? fun x => ?_
        by_cases hx : x < 10
        · rw [bv_at (by omega)]
          have h3 := hcs ((dg s).idxOf x) (hp.idx_lt hx)
          have h4 := hp.at_idx hx
          rw [at_back (dg s) hx] at h4
          rw [h4] at h3
          rw [h3]
          have h5 : (L (wd (backP (dg s))))[x]'(by omega) = letr (((dg s).idxOf x : Nat) : Int) := by
            simp [wd, L_S, backP]
          rw [h5, letr_toNat]
          have := hp.idx_lt hx
          congr 2; omega
        · rw [List.getElem?_eq_none (by omega), List.getElem?_eq_none (by rw [length_bv]; omega)]
      subst hce
      have hcv := hown.conv (P := Tryz.prog) 22 9 5 Tryz.underlying22 Tryz.underlying5 Tryz.underlying9 (n := 10) (by rw [size_L, size_wd, len_back]) 10
      rw [S_L] at hcv
      clear hcs
      go_wp2
      go_ret
      exact ⟨rfl, hbel⟩

theorem back_eq_iff {s : ByteArray} (h : permB s = true) : (wd (backP (dg s)) = s) ↔ plugB s = true := by
  have hp := permB_isP h
  constructor
  · intro e
    have e' : backP (dg s) = dg s := by
      have := congrArg dg e
      rwa [dg_wd hp.back.lt] at this
    simp only [plugB, h, Bool.true_and, decide_eq_true_eq]
    have := then_back hp
    rwa [e'] at this
  · intro e
    have := back_unique hp hp (plugB_inv e)
    rw [← this]
    exact wd_dg (permB_word h)
theorem specPlugsValid_any (s : ByteArray) (w : World) (hs : s.size ≤ 4294967296) :
    Calls Tryz.prog 95 #[.string s] w fun e w' => e = .returned (.bool (plugB s)) ∧ Below w.heap.size w w' := by
  cases h : permB s with
  | false =>
    have hno : Hid (plugB s = false) := by show _ = _; simp [plugB, h]
    have hc := fun W => specPermValid_any s W hs
    simp only [h] at hc
    go_enter Tryz.func95, Tryz.ntmps95
    go_wp2_with (go_at_call 73; ((with_reducible refine (hc _).mono ?_); rintro e w1 ⟨rfl, hb⟩))
    go_ret
    exact ⟨ret_bool hno.out.symm, hb⟩
  | true =>
    have hc := fun W => specPermValid_any s W hs
    simp only [h] at hc
    by_cases e : wd (backP (dg s)) = s
    · have hy := Lib.hid ((back_eq_iff h).1 e)
      have hq := fun W => l2Back_any s W h
      rw [e] at hq
      clear e
      go_enter Tryz.func95, Tryz.ntmps95
      go_wp2_with (first | (go_at_call 73; ((with_reducible refine (hc _).mono ?_); rintro e w1 ⟨rfl, hb⟩)) | (go_at_call 103; ((with_reducible refine (hq _).mono ?_); rintro e w2 ⟨rfl, hb2⟩)))
      go_ret
      exact ⟨ret_bool (by rw [hy.out]), bt hb hb2⟩
    · have hy : Hid (plugB s = false) := by
        show _ = _
        cases e' : plugB s with
        | false => rfl
        | true => exact absurd ((back_eq_iff h).2 e') e
      have hq := fun W => l2Back_any s W h
      generalize wd (backP (dg s)) = t at e hq
      go_enter Tryz.func95, Tryz.ntmps95
      go_wp2_with (first | (go_at_call 73; ((with_reducible refine (hc _).mono ?_); rintro e w1 ⟨rfl, hb⟩)) | (go_at_call 103; ((with_reducible refine (hq _).mono ?_); rintro e w2 ⟨rfl, hb2⟩)))
      go_ret
      refine ⟨ret_bool ?_, bt hb hb2⟩
      rw [hy.out]
      simp only [toList_L, ne_eq, beq_eq_false_iff_ne]
      exact fun h' => e (L_inj h')
end Go.Proofs.YtaplndmgbinhcaaGreat
