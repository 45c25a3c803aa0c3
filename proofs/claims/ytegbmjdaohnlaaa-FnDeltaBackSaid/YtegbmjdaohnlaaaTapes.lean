/- Contracts of the program's sums of tapes. -/
import Derived.Test.YtegbmjdaohnlaaaLetters
namespace Go.Proofs.Ytegbmjdaohnlaaa
open Go.RowKit

theorem info_u8 : (Try.prog.info? 5).map (fun i => (i.zero, i.size, i.bytes)) = some (some (.int .u8 0), 1, 1) := by kernel_rfl

theorem xorBytes_any (v u : ByteArray) (w : World) (h1 : tapeB v = true) (h2 : tapeB u = true) (h3 : v.size = u.size) :
    Calls Try.prog 42 #[.string v, .string u] w fun e w' => e = .returned (.string (S (xorL (L v) (L u)))) ∧ Below w.heap.size w w' := by
  have hlx : (xorL (L v) (L u)).length = v.size := by rw [length_xorL, size_L, size_L]; omega
  have Hlx := Lib.hid hlx
  have hle : v.size ≤ u.size := by omega
  have hb : v.size ≤ 200 := tapeB_size h1
  clear h3 hlx
  have hmk := run_make1 (P := Try.prog) Try.underlying27 info_u8 rfl v.size v.size (Nat.le_refl _) (by omega) (by omega)
  go_enter Try.func42, Try.ntmps42
  go_wp2
  go_loopw [6, 12] (fun _ i wr => ∃ k : Nat, k ≤ v.size ∧ i = .int .i64 k ∧ Below w.heap.size w wr ∧ Own wr w.heap.size (bv ((xorL (L v) (L u)).take k ++ (List.replicate v.size (0 : UInt8)).drop k))) (fun _ i _ => v.size - (intOf i).toNat)
  case atStart =>
    refine ⟨0, Nat.zero_le _, rfl, (Below.refl _ _).alloc (Nat.le_refl _) _, ?_⟩
    have := Own.new w (bv (List.replicate v.size (0 : UInt8))) 5
    simpa [bv] using this
  case round =>
    obtain ⟨k, hk, rfl, hbel, hown⟩ := hrel
    by_cases hlt : k < v.size
    · have hd1 := tapeB_at h1 k hlt
      have hd2 := tapeB_at h2 k (by omega)
      have hx := xor_dig hd1.1 hd2.1
      have hxl := xn_lt hd1.2 hd2.2
      have hlen := Lib.hid (show (bv ((xorL (L v) (L u)).take k ++ (List.replicate v.size (0 : UInt8)).drop k)).length = v.size by rw [length_bv, fill_len (by simp [Hlx.out]) (by rw [Hlx.out]; omega), Hlx.out])
      obtain ⟨x, hc⟩ := hown.some_ (i := k) (by rw [hlen.out]; omega)
      have hf := hown.free k (by rw [hlen.out]; omega)
      have hd1' : 97 ≤ v[k].toNat := by have := hd1.1; unfold dig at this; omega
      have hd2' : 97 ≤ u[k].toNat := by have := hd2.1; unfold dig at this; omega
      have hlt2 : k < u.size := by omega
      go_wp2_with fail
      refine wp_region_tail 13 (by kernel_rfl) (by kernel_rfl) ?_
      simp only [List.take_succ_cons, List.take_zero, List.drop_succ_cons, List.drop_zero]
      repeat (first | go_big_quiet_skip | (go_big_quiet_want; go_big_quiet_op; first | go_big_quiet_on | (apply Exists.intro; refine ⟨?_, ?_⟩; (· (first | exact still_of (implNumber_any _ _ (by assumption)) | exact still_of (implLetter_any _ _ (by omega) (by omega)))); go_big_quiet_on)))
      refine wpQuiet_nil ?_
      go_wp2
      go_roundw
      case rel =>
        refine ⟨k + 1, by omega, by go_num, (hbel.setCell (Nat.le_refl _) _).drew, ?_⟩
        have h0 := (hown.set_ (i := k) (by rw [hlen.out]; omega) (.int .u8 ((letr (xn v[k] u[k] : Nat)).toNat : Int))).drew
        have hkl : k < (xorL (L v) (L u)).length := by rw [Hlx.out]; omega
        have hg : letr (xn v[k] u[k] : Nat) = (xorL (L v) (L u))[k] := by simp [xorL, getElem_L]
        have hs : ((xorL (L v) (L u)).take k ++ (List.replicate v.size (0 : UInt8)).drop k).set k (letr (xn v[k] u[k] : Nat)) = (xorL (L v) (L u)).take (k + 1) ++ (List.replicate v.size (0 : UInt8)).drop (k + 1) := by
          rw [hg]; exact fill_set hkl (by rw [Hlx.out]; simp)
        rw [bv_set, hs] at h0
        exact h0
      case measure => simp [intOf]; omega
    · have hk' : k = v.size := by omega
      subst hk'
      have hcv := hown.conv (P := Try.prog) 27 9 5 Try.underlying27 Try.underlying5 Try.underlying9 (n := v.size) (by rw [fill_len (by rw [Hlx.out]; simp) (by rw [Hlx.out]; omega), Hlx.out]) v.size
      go_wp2
      go_ret
      exact ⟨ret_str (by rw [List.take_of_length_le (by rw [Hlx.out]; omega)]), hbel⟩

theorem implXorTapes_any (v u : ByteArray) (w : World) (hv : v.size ≤ 4294967296) (hu : u.size ≤ 4294967296) :
    Calls Try.prog 19 #[.string v, .string u] w fun e w' => e = .returned (.tuple #[.string (xorT v u).1, .bool (xorT v u).2]) ∧ Below w.heap.size w w' := by
  by_cases ht : tapeB v = true ∧ tapeB u = true ∧ v.size = u.size
  · obtain ⟨h1, h2, h3⟩ := ht
    have he : xorT v u = (S (xorL (L v) (L u)), true) := by simp [xorT, h1, h2, h3]
    have He := Lib.hid he
    clear he
    have H3 := Lib.hid h3
    have hne : ((v.size : Int) != (u.size : Int)) = false := by simp [h3]
    clear h3
    go_enter Try.func19, Try.ntmps19
    go_wp2_with (first | (go_at_call 15; ((with_reducible refine (implTapeValid_any _ _ (by omega)).mono ?_); rintro e w' ⟨rfl, rfl⟩)) | (go_at_call 42; ((with_reducible refine (xorBytes_any _ _ _ h1 h2 H3.out).mono ?_); rintro e w' ⟨rfl, hb1⟩)))
    go_ret2
    exact ⟨by rw [He.out]; rfl, hb1⟩
  · have he : xorT v u = (S [], false) := by simp only [xorT, if_neg ht]
    have He := Lib.hid he
    clear he
    by_cases h1 : tapeB v = true
    · by_cases h2 : tapeB u = true
      · have hne : ((v.size : Int) != (u.size : Int)) = true := by
          simp only [h1, h2, true_and] at ht
          rw [bne_iff_ne]; omega
        clear ht
        go_enter Try.func19, Try.ntmps19
        go_wp2_with (go_at_call 15; ((with_reducible refine (implTapeValid_any _ _ (by omega)).mono ?_); rintro e w' ⟨rfl, rfl⟩))
        go_ret2
        exact ⟨by rw [He.out]; rfl, Below.refl _ _⟩
      · have h2' : tapeB u = false := by simpa using h2
        clear h2 ht
        go_enter Try.func19, Try.ntmps19
        go_wp2_with (go_at_call 15; ((with_reducible refine (implTapeValid_any _ _ (by omega)).mono ?_); rintro e w' ⟨rfl, rfl⟩))
        go_ret2
        exact ⟨by rw [He.out]; rfl, Below.refl _ _⟩
    · have h1' : tapeB v = false := by simpa using h1
      clear h1 ht
      go_enter Try.func19, Try.ntmps19
      go_wp2_with (go_at_call 15; ((with_reducible refine (implTapeValid_any _ _ (by omega)).mono ?_); rintro e w' ⟨rfl, rfl⟩))
      go_ret2
      exact ⟨by rw [He.out]; rfl, Below.refl _ _⟩
end Go.Proofs.Ytegbmjdaohnlaaa
