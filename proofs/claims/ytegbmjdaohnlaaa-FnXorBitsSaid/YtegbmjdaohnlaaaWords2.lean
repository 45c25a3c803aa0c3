/- Contracts of the program's WordValid and LetterCounts. -/
import Derived.Test.YtegbmjdaohnlaaaLetters
namespace Go.Proofs.Ytegbmjdaohnlaaa
open Go.RowKit

theorem implWordValid_any (s : ByteArray) (w : World) (hs : s.size ≤ 4294967296) :
    Calls Try.prog 27 #[.string s] w fun e w' => e = .returned (.bool (wordB s)) ∧ w = w' := by
  by_cases h : 200 < s.size
  · go_enter Try.func27, Try.ntmps27
    go_wp2
    go_ret
    exact ⟨ret_bool (wordB_long h).symm, rfl⟩
  · go_enter Try.func27, Try.ntmps27
    go_wp2
    go_loop [9] (fun i => ∃ k : Nat, k ≤ s.size ∧ i = .int .i64 k ∧ allTo isL s k) (fun i => s.size - (intOf i).toNat)
    case atStart => exact ⟨0, Nat.zero_le _, rfl, allTo_zero _ _⟩
    case round =>
      obtain ⟨k, hk, rfl, ha⟩ := hrel
      by_cases hlt : k < s.size
      · cases hd : isL s[k]
        · go_wp2_with (go_at_call 54; ((with_reducible refine (implIsLetter_any _ _).mono ?_); rintro e w' ⟨rfl, rfl⟩))
          go_ret
          exact ⟨ret_bool (wordB_no hlt hd).symm, rfl⟩
        · go_wp2_with (go_at_call 54; ((with_reducible refine (implIsLetter_any _ _).mono ?_); rintro e w' ⟨rfl, rfl⟩))
          go_round
          case rel => exact ⟨k + 1, by omega, by go_num, allTo_succ ha hlt hd⟩
          case measure => simp [intOf]; omega
      · go_wp2
        go_ret
        exact ⟨ret_bool (wordB_yes (by omega) ha (by omega)).symm, rfl⟩

/-- How often each of the ten letters occurs. -/
def cnts (l : List UInt8) : List Int := (List.range 10).map fun d : Nat => ((l.countP fun c => dig c == (d : Int)) : Int)
theorem length_cnts (l : List UInt8) : (cnts l).length = 10 := by simp [cnts]
theorem cnts_at (l : List UInt8) (d : Nat) (h : d < 10) : (cnts l)[d]'(by rw [length_cnts]; exact h) = ((l.countP fun c => dig c == (d : Int)) : Int) := by simp [cnts]
theorem cnts_snoc (l : List UInt8) (c : UInt8) (d : Nat) (_hd : d < 10) (he : dig c = d) : cnts (l ++ [c]) = (cnts l).set d (((l.countP fun c => dig c == (d : Int)) : Int) + 1) := by
  apply List.ext_getElem
  · simp [cnts]
  · intro i h1 h2
    rw [length_cnts] at h1
    rw [cnts_at _ _ h1, List.getElem_set]
    by_cases e : d = i
    · subst e; simp [he]
    · rw [if_neg e, cnts_at _ _ h1]
      have : ¬ (d : Int) = i := by omega
      simp [he, this]

theorem info_int : (Try.prog.info? 3).map (fun i => (i.zero, i.size, i.bytes)) = some (some (.int .i64 0), 1, 8) := by kernel_rfl

/-- What LetterCounts answers of a word. -/
def CountsPost (s : ByteArray) (w : World) (e : Ending) (w' : World) : Prop :=
  ∃ g, e = .returned (.slice (some ⟨g, 0, none⟩) 10 10) ∧ Own w' g ((cnts (L s)).map (.int .i64)) ∧ Below w.heap.size w w'
theorem LetterCounts_word (s : ByteArray) (w : World) (hw : wordB s = true) :
    Calls Try.prog 28 #[.string s] w (CountsPost s w) := by
  have hb := wordB_size hw
  have hmk : ∀ W : World, (Instr.makeSlice 40 (.int .i64 10) (.int .i64 10)).run Try.prog W = .ok (.slice (some ⟨W.heap.size, 0, none⟩) 10 10) (W.alloc (.cells (List.replicate 10 (Value.int .i64 0)).toArray 3)) :=
    run_make1 (P := Try.prog) Try.underlying40 info_int rfl 10 10 (Nat.le_refl _) (by omega) (by omega)
  go_enter Try.func28, Try.ntmps28
  go_wp2_with (go_at_call 27; ((with_reducible refine (implWordValid_any _ _ (by omega)).mono ?_); rintro e w' ⟨rfl, rfl⟩))
  go_loopw [4, 11] (fun _ i wr => ∃ k : Nat, k ≤ s.size ∧ i = .int .i64 k ∧ Below w.heap.size w wr ∧ Own wr w.heap.size ((cnts ((L s).take k)).map (.int .i64))) (fun _ i _ => s.size - (intOf i).toNat)
  case atStart =>
    refine ⟨0, Nat.zero_le _, rfl, (Below.refl _ _).alloc (Nat.le_refl _) _, ?_⟩
    have := Own.new w (List.replicate 10 (Value.int .i64 0)) 3
    exact this
  case round =>
    obtain ⟨k, hk, rfl, hbel, hown⟩ := hrel
    by_cases hlt : k < s.size
    · obtain ⟨hd0, hd1⟩ := wordB_at hw k hlt
      have hd' : 97 ≤ s[k].toNat := by unfold dig at hd0; omega
      obtain ⟨d, hd⟩ := Int.eq_ofNat_of_zero_le hd0
      have hd10 : d < 10 := by omega
      have hlen : ((cnts ((L s).take k)).map (Value.int .i64)).length = 10 := by rw [List.length_map, length_cnts]
      have hcd : ((cnts ((L s).take k)).map (Value.int .i64))[d]? = some (.int .i64 ((((L s).take k).countP fun c => dig c == (d : Int)) : Int)) := by
        rw [List.getElem?_map, List.getElem?_eq_getElem (by rw [length_cnts]; exact hd10), cnts_at _ _ hd10]; rfl
      have hc := hown.at_ hcd
      have hf := hown.free d (by omega)
      have hcn : (((L s).take k).countP fun c => dig c == (d : Int)) ≤ 200 := by
        have h1 := List.countP_le_length (p := fun c => dig c == (d : Int)) (l := (L s).take k)
        have h2 := List.length_take_le k (L s)
        omega
      have hsn := Lib.hid (cnts_snoc ((L s).take k) s[k] d hd10 (by omega))
      generalize hN : (((L s).take k).countP fun c => dig c == (d : Int)) = N at hc hcn hsn
      clear hcd hlen hN
      have Hd := Lib.hid hd
      have hn := fun W => implNumber_any s[k] W hd'
      rw [hd] at hn
      clear hd hd0 hd1
      go_wp2_with (go_at_call 55; ((with_reducible refine (hn _).mono ?_); rintro e w' ⟨rfl, rfl⟩))
      go_roundw
      case rel =>
        refine ⟨k + 1, by omega, by go_num, hbel.setCell (Nat.le_refl _) _, ?_⟩
        have h0 := hown.set_ (i := d) (by rw [List.length_map, length_cnts]; exact hd10) (.int .i64 ((N : Int) + 1))
        have ht : (L s).take (k + 1) = (L s).take k ++ [s[k]] := by rw [List.take_succ_eq_append_getElem (by rw [size_L]; exact hlt)]; rfl
        rw [ht, hsn.out, List.map_set]
        exact h0
      case measure => simp [intOf]; omega
    · have hk' : k = s.size := by omega
      subst hk'
      go_wp2
      go_ret
      refine ⟨w.heap.size, rfl, ?_, hbel⟩
      rw [List.take_of_length_le (by rw [size_L]; exact Nat.le_refl _)] at hown
      exact hown
end Go.Proofs.Ytegbmjdaohnlaaa
