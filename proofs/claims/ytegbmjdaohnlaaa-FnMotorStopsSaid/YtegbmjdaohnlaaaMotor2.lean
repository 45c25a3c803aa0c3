/- The contract of the reference's stops, and the walk of the law on stops. -/
import Derived.Test.YtegbmjdaohnlaaaMotor
import Derived.Test.YtegbmjdaohnlaaaDrawTele2
namespace Go.Proofs.Ytegbmjdaohnlaaa
open Go.RowKit

set_option maxHeartbeats 1000000 in
theorem specMotorStops_any (a1 a2 : Option Addr) (c1 c2 : Nat) (chi psi : List ByteArray) (m : ByteArray) (n : Int) (w : World) (h : TeleR w a1 a2 chi psi m) (hn : Is64 n) :
    Calls Try.prog 35 #[teleV a1 a2 c1 c2 chi psi m, .int .i64 n] w (IntsPost (stops chi psi m n) w) := by
  obtain ⟨i0, hi0, hz0, hz1, hz2⟩ := info_parts info_int'
  obtain ⟨hn1, hn2⟩ := hn
  cases hb : telenB chi psi m n
  · have hst : stops chi psi m n = [] := by simp [stops, hb]
    rw [hst]
    have o0 := Own.new w (teleC a1 a2 c1 c2 chi psi m) 30
    have hA : Hid (TeleR ((w.alloc (.cells (teleC a1 a2 c1 c2 chi psi m).toArray 30)).alloc (.cells #[] 3)) a1 a2 chi psi m) := (h.alloc _).alloc _
    by_cases h1 : 1 < n
    · go_enter Try.func35, Try.ntmps35
      go_wp2_with fail
      refine wp_loop_rounds 1 ?_
      rw [rounds_succ]
      go_wp2_with fail
      refine (l16Fits_any a1 a2 c1 c2 chi psi m n _ hA.out).mono ?_
      rintro e w1 ⟨rfl, hb1⟩
      rw [hb]
      go_wp2
      go_ret
      exact ⟨_, _, rfl, Reads.nil_, bt (bt ((Below.refl _ _).alloc (Nat.le_refl _) _) ((Below.refl _ _).alloc (Nat.le_refl _) _)) hb1⟩
    · go_enter Try.func35, Try.ntmps35
      go_wp2_with fail
      refine wp_loop_rounds 1 ?_
      rw [rounds_succ]
      go_wp2
      go_ret
      exact ⟨_, _, rfl, Reads.nil_, bt ((Below.refl _ _).alloc (Nat.le_refl _) _) ((Below.refl _ _).alloc (Nat.le_refl _) _)⟩
  · obtain ⟨ht, hn0, hn3⟩ := telenB_parts hb
    have hbm := teleB_motor ht
    obtain ⟨N, rfl⟩ := Int.eq_ofNat_of_zero_le hn0
    have hst : Hid (stops chi psi m N = stopsTo m (N - 1)) := by
      show _ = _
      simp [stops, hb]
    go_enter Try.func35, Try.ntmps35
    go_wp2_with fail
    have o1 := (Own.new w (teleC a1 a2 c1 c2 chi psi m) 30).alloc (.cells #[] 3)
    have v1 : OwnI ((w.alloc (.cells (teleC a1 a2 c1 c2 chi psi m).toArray 30)).alloc (.cells #[] 3)) (w.heap.size + 1) (.slice (some ⟨w.heap.size + 1, 0, none⟩) 0 0) [] := by
      have := World.ownsRow_lit (base := w.heap.size + 1) (e := 3) (size := 1) (w.alloc (.cells (teleC a1 a2 c1 c2 chi psi m).toArray 30)) #[] 0 (by simp) (by unfold maxLen; omega) (by simp)
      simpa [OwnI, iv] using this
    have hbw : Below w.heap.size w ((w.alloc (.cells (teleC a1 a2 c1 c2 chi psi m).toArray 30)).alloc (.cells #[] 3)) := bt ((Below.refl _ _).alloc (Nat.le_refl _) _) ((Below.refl _ _).alloc (Nat.le_refl _) _)
    have hs1 : w.heap.size < ((w.alloc (.cells (teleC a1 a2 c1 c2 chi psi m).toArray 30)).alloc (.cells #[] 3)).heap.size := by simp; omega
    generalize ((w.alloc (.cells (teleC a1 a2 c1 c2 chi psi m).toArray 30)).alloc (.cells #[] 3)) = W at *
    have HT := Lib.hid h
    generalize hB0 : w.heap.size = B0 at *
    have HB0 := Lib.hid hB0
    clear hB0 h
    go_loopw [5, 6] (fun v i wr => ∃ k : Nat, (k ≤ N - 1) ∧ i = .int .i64 k ∧ Own wr B0 (teleC a1 a2 c1 c2 chi psi m) ∧ OwnI wr (B0 + 1) v (stopsTo m k) ∧ Below B0 w wr ∧ B0 < wr.heap.size) (fun _ i _ => N - (intOf i).toNat)
    case atStart => exact ⟨0, by omega, rfl, o1, v1, hbw, hs1⟩
    case round =>
      obtain ⟨k, hk, rfl, o2, hv, hbr, hlr⟩ := hrel
      have f0 := o2.at_ (i := 0) rfl
      have f1 := o2.at_ (i := 1) rfl
      have f2 := o2.at_ (i := 2) rfl
      by_cases hlt : k + 1 < N
      · have hT2 := HT.out.below (HB0.out.symm ▸ hbr)
        go_wp2_with fail
        refine (l16Fits_any a1 a2 c1 c2 chi psi m N _ hT2).mono ?_
        rintro e w3 ⟨rfl, hb3⟩
        rw [hb]
        have v3 := hv.below hb3
        have o3 := o2.below hb3 o2.lt
        have l3 : B0 < w3.heap.size := Nat.lt_of_lt_of_le hlr hb3.size
        have g2 := o3.at_ (i := 2) rfl
        clear f0 f1 f2 hT2
        by_cases hz : (wAt m k).toNat = 48
        · have hnot : (((wAt m k).toNat : Int) - 48 == 0) = true := by simp [hz]
          have hy := Lib.hid (stopsTo_yes hz)
          clear hz
          have hle := stopsTo_len m k
          have hby := byte_lt (wAt m k)
          go_wp2_with (first | (go_at_call 59; ((with_reducible refine (l16Bit_any _ k _ hbm (by omega)).mono ?_); rintro e w' ⟨rfl, rfl⟩)) | (at_builtin; refine wpList_append_lies _ (by rfl) _ _ _ (by rfl) (B0 + 1) 3 i0 _ 1 8 Try.underlying40 hi0 hz0 hz1 hz2 rfl (by omega) _ (stopsTo m k).length (iv (stopsTo m k)) (by rfl) (World.ownsRow.alloc v3 _) ⟨w3.heap.size, 0, none⟩ 1 1 [.int .i64 (k : Int)] (by rfl) (by rfl) (World.news_of_block (cs := #[.int .i64 (k : Int)]) (t := 3) (fr := (0, 0)) (heap_alloc_new w3 _)) (by simp [Value.oneCell']) (by omega) (by unfold maxLen; omega) (by omega) (by simp; omega) (w3.heap.size + 1) (by simp) ?_; intro gg cap w4 hown4 hg4 hat4 hlt4))
          go_roundw
          case rel =>
            refine ⟨k + 1, by omega, by go_num, (o3.alloc _).grown hg4 (farI v3 (by omega)), ?_, ?_, ?_⟩
            · rw [hy.out]; exact OwnI.snoc hown4
            · exact ((hbr.trans (hb3.mono (by omega))).alloc (by omega) _).grown hg4 (by simp; omega) (fun g hg => by have := (World.ownsRow.lt v3 g hg).1; omega)
            · exact Nat.lt_of_lt_of_le (by simp; omega) hg4.size
          case measure => simp [intOf]; omega
        · have hnot : (((wAt m k).toNat : Int) - 48 == 0) = false := by have := wAt_bit hbm k; rw [beq_eq_false_iff_ne]; omega
          have hy := Lib.hid (stopsTo_no hz)
          clear hz
          have hby := byte_lt (wAt m k)
          go_wp2_with (go_at_call 59; ((with_reducible refine (l16Bit_any _ k _ hbm (by omega)).mono ?_); rintro e w' ⟨rfl, rfl⟩))
          go_roundw
          case rel => exact ⟨k + 1, by omega, by go_num, o3, by rw [hy.out]; exact v3, hbr.trans (hb3.mono (by omega)), l3⟩
          case measure => simp [intOf]; omega
      · have hk1 : k = N - 1 := by omega
        subst hk1
        obtain ⟨a, c, rfl, hrd⟩ := hv.val
        go_wp2
        go_ret
        refine ⟨a, c, ?_, ?_, HB0.out.symm ▸ hbr⟩
        · rw [hst.out]; rfl
        · rw [hst.out]; exact hrd
end Go.Proofs.Ytegbmjdaohnlaaa
