/- The contract of the program's changes of a tape, and the walks of the two laws on sums and changes. -/
import Derived.Test.YtegbmjdaohnlaaaTapes
import Derived.Deep.RegionWith
namespace Go.Proofs.Ytegbmjdaohnlaaa
open Go.RowKit

theorem tape_front {v : ByteArray} (h : tapeB v = true) (a b : Nat) : tapeB (v.extract a b) = true := by
  have hs := tapeB_size h
  simp only [tapeB, Bool.and_eq_true, decide_eq_true_eq] at h ⊢
  refine ⟨by rw [ByteArray.size_extract]; omega, ?_⟩
  rw [List.all_eq_true] at h ⊢
  refine fun x hx => h.2 x ?_
  rw [L_extract] at hx
  exact List.mem_of_mem_take (List.mem_of_mem_drop hx)
theorem delta_cut (v : ByteArray) : xorL (L (v.extract 0 (v.size - 1))) (L (v.extract 1 v.size)) = xorL (L v) (L v).tail := by
  rw [L_extract, L_extract, List.drop_zero, ← size_L, List.take_length, List.drop_one]
  simp only [xorL]
  rw [List.zipWith_eq_zipWith_take_min (l₁ := L v)]
  rw [List.length_tail, Nat.min_eq_right (by omega), List.take_of_length_le (l := (L v).tail) (by rw [List.length_tail]; omega)]
theorem cut_sizes (v : ByteArray) : (v.extract 0 (v.size - 1)).size = (v.extract 1 v.size).size := by
  simp only [ByteArray.size_extract]; omega

theorem implDeltaTape_any (v : ByteArray) (w : World) (hv : v.size ≤ 4294967296) :
    Calls Try.prog 17 #[.string v] w fun e w' => e = .returned (.string (deltaT v)) ∧ Below w.heap.size w w' := by
  by_cases h1 : tapeB v = true
  · have he : deltaT v = S (xorL (L v) (L v).tail) := by simp [deltaT, h1]
    have He := Lib.hid he
    clear he
    by_cases h0 : v.size = 0
    · obtain ⟨hne, hne2⟩ := is_empty h0
      have H0 := Lib.hid h0
      clear h0
      go_enter Try.func17, Try.ntmps17
      go_wp2_with (first | (go_at_call 15; ((with_reducible refine (implTapeValid_any _ _ (by omega)).mono ?_); rintro e w' ⟨rfl, rfl⟩)))
      go_ret
      refine ⟨ret_str ?_, Below.refl _ _⟩
      have : L v = [] := List.eq_nil_of_length_eq_zero (by rw [size_L]; exact H0.out)
      rw [He.out, this]
      rfl
    · obtain ⟨hne, hne2⟩ := ne_empty h0
      have hp : (1 : Int) ≤ v.size := by omega
      have hw1 : IntKind.i64.wrap ((v.size : Int) - 1) = (v.size : Int) - 1 := IntWalk.i64_in _ (by omega)
      have hp0 : (0 : Int) ≤ (v.size : Int) - 1 := by omega
      have hp1 : ((v.size : Int) - 1) ≤ v.size := by omega
      go_enter Try.func17, Try.ntmps17
      go_wp2_with (first | (go_at_call 15; ((with_reducible refine (implTapeValid_any _ _ (by omega)).mono ?_); rintro e w' ⟨rfl, rfl⟩)))
      refine wp_region_cls (by kernel_rfl) (by kernel_rfl) ?_
      repeat (go_big_quiet_step (first | exact cls_of (Nat.le_refl _) (xorBytes_any _ _ _ (tape_front h1 _ _) (tape_front h1 _ _) (cut_sizes v))))
      refine wpQuiet_nil ?_
      intro wc hbc
      go_wp2
      go_ret
      exact ⟨ret_str (by rw [He.out, delta_cut]), hbc⟩
  · have h1' : tapeB v = false := by simpa using h1
    have he : deltaT v = S [] := by simp [deltaT, h1']
    have He := Lib.hid he
    clear he h1
    go_enter Try.func17, Try.ntmps17
    go_wp2_with (first | (go_at_call 15; ((with_reducible refine (implTapeValid_any _ _ (by omega)).mono ?_); rintro e w' ⟨rfl, rfl⟩)))
    go_ret
    exact ⟨by rw [He.out]; rfl, Below.refl _ _⟩

theorem exactDeltaTape_walk (s : ByteArray) (w : World) (_hs : s.size ≤ maxLen) :
    Calls Try.prog 4 #[.string s] w fun e w' => e = .returned (.bool true) ∧ Below w.heap.size w w' := by
  by_cases h : 1048576 < s.size
  · go_enter Try.func4, Try.ntmps4
    go_wp2
    go_ret
    exact ⟨rfl, Below.refl _ _⟩
  · go_enter Try.func4, Try.ntmps4
    go_wp2_with (first | (go_at_call 16; ((with_reducible refine (specDeltaTape_any _ _ (by omega)).mono ?_); rintro e w1 ⟨rfl, hb1⟩)) | (go_at_call 17; ((with_reducible refine (implDeltaTape_any _ _ (by omega)).mono ?_); rintro e w2 ⟨rfl, hb2⟩)))
    go_ret
    exact ⟨rfl, hb1.trans (hb2.mono hb1.size)⟩
theorem exactXorTapes_walk (v u : ByteArray) (w : World) (_hv : v.size ≤ maxLen) (_hu : u.size ≤ maxLen) :
    Calls Try.prog 5 #[.string v, .string u] w fun e w' => e = .returned (.bool true) ∧ Below w.heap.size w w' := by
  by_cases h : 1048576 < v.size
  · go_enter Try.func5, Try.ntmps5
    go_wp2
    go_ret
    exact ⟨rfl, Below.refl _ _⟩
  · by_cases h' : 1048576 < u.size
    · go_enter Try.func5, Try.ntmps5
      go_wp2
      go_ret
      exact ⟨rfl, Below.refl _ _⟩
    · go_enter Try.func5, Try.ntmps5
      go_wp2_with (first | (go_at_call 18; ((with_reducible refine (specXorTapes_any _ _ _ (by omega) (by omega)).mono ?_); rintro e w1 ⟨rfl, hb1⟩)) | (go_at_call 19; ((with_reducible refine (implXorTapes_any _ _ _ (by omega) (by omega)).mono ?_); rintro e w2 ⟨rfl, hb2⟩)))
      go_ret
      exact ⟨rfl, hb1.trans (hb2.mono hb1.size)⟩
end Go.Proofs.Ytegbmjdaohnlaaa
