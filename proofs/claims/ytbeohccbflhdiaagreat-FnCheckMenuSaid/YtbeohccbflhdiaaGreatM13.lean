/- Several of my texts in one: Apply. -/
import Derived.Test.YtbeohccbflhdiaaGreatM2
import Derived.Test.YtbeohccbflhdiaaGreatM3
import Derived.Test.YtbeohccbflhdiaaGreatM6
/- ApplyPerm: a word that is mapped by a permutation. -/
namespace Go.Proofs.YtbeohccbflhdiaaGreat
open Go.RowKit

/-- What ApplyPerm answers. -/
def appV (p u : ByteArray) : ByteArray := if permB p = true ∧ wordB u = true then wd ((dg u).map (pAt (dg p))) else S []
theorem appV_yes {p u : ByteArray} (h : permB p = true) (h2 : wordB u = true) : appV p u = wd ((dg u).map (pAt (dg p))) := by simp only [appV, h, h2, and_self, if_true]
theorem appV_no {p u : ByteArray} (h : ¬ (permB p = true ∧ wordB u = true)) : appV p u = S [] := by simp only [appV, if_neg h]
theorem appL_at {p u : ByteArray} {k : Nat} (h : k < u.size) : (L (wd ((dg u).map (pAt (dg p)))))[k]'(by rw [size_L, size_wd, List.length_map, len_dg]; exact h) = letr (pAt (dg p) (pAt (dg u) k) : Int) := by
  have hk : k < (dg u).length := by rw [len_dg]; exact h
  simp only [wd, L_S, List.getElem_map, pAt_get hk]

set_option maxRecDepth 100000 in
theorem implApplyPerm_any (p u : ByteArray) (w : World) (hp : p.size ≤ 4294967296) (hu : u.size ≤ 4294967296) :
    Calls Tryz.prog 40 #[.string p, .string u] w fun e w' => e = .returned (.string (appV p u)) ∧ Below w.heap.size w w' := by
  by_cases hyes : permB p = true ∧ wordB u = true
  · obtain ⟨hpb, hwu⟩ := hyes
    rw [appV_yes hpb hwu]
    have hP := permB_isP hpb
    have hu2 := wordB_size hwu
    go_enter Tryz.func40, Tryz.ntmps40
    go_wp2_with fail
    refine (permOf_any p _ hp).mono ?_
    rintro e w1 ⟨rfl, hb1⟩
    rw [hpb, permC_yes]
    have o1 : Own (w1.alloc (.cells #[.int .u8 0, .int .u8 0, .int .u8 0, .int .u8 0, .int .u8 0, .int .u8 0, .int .u8 0, .int .u8 0, .int .u8 0, .int .u8 0] 95)) w1.heap.size z10 := Own.new w1 z10 95
    have hz1 := hb1.size
    have hbw := hb1.alloc (by omega) (.cells #[.int .u8 0, .int .u8 0, .int .u8 0, .int .u8 0, .int .u8 0, .int .u8 0, .int .u8 0, .int .u8 0, .int .u8 0, .int .u8 0] 95)
    have hpl := size_pv10 hP
    go_wp2_with ((with_reducible refine wl_store 95 0 o1 (size_pv hP.len) (pv_one _) (by rw [hpl, len_z10]; omega) ?_ ?_ ?_ ?_); (· rfl); (· rfl); (· rfl); intro w2 o2 b2 s2)
    rw [put_z10 hpl] at o2
    simp only [World.size_alloc] at s2
    have hbw2 := bel_store hbw b2 (by simp; omega) (by omega)
    refine (implWordValid_any _ _ (by omega)).mono ?_
    rintro e w' ⟨rfl, rfl⟩
    rw [hwu]
    obtain ⟨cap, w3, hcv, o3, hb3, s3, hcap⟩ := conv_bytes w2 u
    have o23 := o2.below hb3 o2.lt
    have hbw3 := bt hbw2 hb3
    have l2 := o2.lt
    rw [s2] at o3 hcv
    clear o1 hbw b2 o2 hbw2 hb1 s2
    go_wp2_with fail
    go_loopw [8, 25] (fun _ i wr => ∃ k : Nat, k ≤ u.size ∧ i = .int .i64 k ∧ Below w.heap.size w wr ∧ Own wr w1.heap.size (pv (dg p)) ∧ Own wr (w1.heap.size + 1) (bv ((L (wd ((dg u).map (pAt (dg p))))).take k ++ (L u).drop k))) (fun _ i _ => u.size - (intOf i).toNat)
    case atStart => exact ⟨0, Nat.zero_le _, rfl, hbw3, o23, by simpa using o3⟩
    case round =>
      clear hbw3 o23 o3 hcv s3 hb3
      obtain ⟨k, hk, rfl, hbel, o2, o3⟩ := hrel
      have Hls := Lib.hid (show (L (wd ((dg u).map (pAt (dg p))))).length = u.size by rw [size_L, size_wd, List.length_map, len_dg])
      have Hlv := Lib.hid (show (L u).length = u.size from size_L u)
      by_cases hlt : k < u.size
      · have q1 : (k : Int) < (u.size : Int) := by omega
        have hlen := Lib.hid (show (bv ((L (wd ((dg u).map (pAt (dg p))))).take k ++ (L u).drop k)).length = u.size by rw [length_bv, fill_len (by rw [Hls.out, Hlv.out]) (by rw [Hls.out]; omega), Hls.out])
        have hfr := o3.free k (by rw [hlen.out]; omega)
        have hd := wordB_at hwu k hlt
        have hb97 : 97 ≤ u[k].toNat := by have := hd.1; unfold dig at this; omega
        obtain ⟨d, hdd⟩ := Int.eq_ofNat_of_zero_le hd.1
        have hd10 : d < 10 := by omega
        have hde : pAt (dg u) k = d := by rw [dg_at hlt]; omega
        have he10 := hP.at_lt hd10
        have g0 : wr.cell? ⟨w1.heap.size + 1, k, none⟩ = some (.int .u8 (u[k].toNat : Int)) := by
          refine o3.at_ ?_
          have hl : ((L (wd ((dg u).map (pAt (dg p))))).take k).length = k := by rw [List.length_take, Hls.out]; omega
          rw [bv_at (by have := hlen.out; rw [length_bv] at this; omega), List.getElem_append_right (by omega)]
          simp [hl, getElem_L]
        have g1 := o2.at_ (pv_at (p := dg p) (i := d) (by rw [hP.len]; exact hd10))
        have hst := Lib.hid (appL_at (p := p) hlt)
        have hfs := Lib.hid (fill_set (A := L (wd ((dg u).map (pAt (dg p))))) (R := L u) (k := k) (by rw [Hls.out]; exact hlt) (by rw [Hls.out, Hlv.out]))
        have hn := fun W => implNumber_any u[k] W hb97
        rw [hdd] at hn
        have HDE := Lib.hid hde
        have q3 : (d : Int) < 10 := by omega
        clear hd hdd hde
        have l3 := o2.lt
        have hz := hbel.size
        generalize hx : pAt (dg p) d = x at *
        go_wp2_with (first | (go_at_call 76; ((with_reducible refine (hn _).mono ?_); rintro e w' ⟨rfl, rfl⟩)) | (go_at_call 75; ((with_reducible refine (implLetter_any _ _ (by omega) (by omega)).mono ?_); rintro e w' ⟨rfl, rfl⟩)))
        go_roundw
        case rel =>
          refine ⟨k + 1, by omega, by go_num, hbel.setCell (by simp; omega) _, o2.far (by simp) _, ?_⟩
          rw [← hfs.out, hst.out, HDE.out, hx, ← bv_set]
          exact o3.set_ (by rw [hlen.out]; exact hlt) _
        case measure => simp [intOf]; omega
      · have hk' : k = u.size := by omega
        subst hk'
        rw [List.take_of_length_le (by rw [Hls.out]; omega), List.drop_eq_nil_of_le (by rw [Hlv.out]; omega), List.append_nil] at o3
        have hcv := o3.conv (P := Tryz.prog) 22 9 5 Tryz.underlying22 Tryz.underlying5 Tryz.underlying9 (n := u.size) Hls.out.symm cap
        rw [S_L] at hcv
        go_wp2
        go_ret
        exact ⟨rfl, hbel⟩
  · rw [appV_no hyes]
    go_enter Tryz.func40, Tryz.ntmps40
    go_wp2_with fail
    refine (permOf_any p _ hp).mono ?_
    rintro e w1 ⟨rfl, hb1⟩
    have o1 : Own (w1.alloc (.cells #[.int .u8 0, .int .u8 0, .int .u8 0, .int .u8 0, .int .u8 0, .int .u8 0, .int .u8 0, .int .u8 0, .int .u8 0, .int .u8 0] 95)) w1.heap.size z10 := Own.new w1 z10 95
    have hz1 := hb1.size
    have hbw := hb1.alloc (by omega) (.cells #[.int .u8 0, .int .u8 0, .int .u8 0, .int .u8 0, .int .u8 0, .int .u8 0, .int .u8 0, .int .u8 0, .int .u8 0, .int .u8 0] 95)
    have hpl : (permC (permB p) p).length = 10 := len_permC id
    have hsz : (Tryz.prog.info? 95).map (·.size) = some (permC (permB p) p).length := size_permC id
    have h1 := one_permC (permB p) p
    generalize permC (permB p) p = cs at *
    cases hpb : permB p
    · go_wp2_with ((with_reducible refine wl_store 95 0 o1 hsz h1 (by rw [hpl, len_z10]; omega) ?_ ?_ ?_ ?_); (· rfl); (· rfl); (· rfl); intro w2 o2 b2 s2)
      go_ret
      exact ⟨rfl, bel_store hbw b2 (by simp; omega) (by omega)⟩
    · have hwu : wordB u = false := by
        simp only [hpb, true_and] at hyes
        simpa using hyes
      clear hyes
      go_wp2_with ((with_reducible refine wl_store 95 0 o1 hsz h1 (by rw [hpl, len_z10]; omega) ?_ ?_ ?_ ?_); (· rfl); (· rfl); (· rfl); intro w2 o2 b2 s2)
      refine (implWordValid_any _ _ (by omega)).mono ?_
      rintro e w' ⟨rfl, rfl⟩
      rw [hwu]
      go_wp2
      go_ret
      exact ⟨rfl, bel_store hbw b2 (by simp; omega) (by omega)⟩
end Go.Proofs.YtbeohccbflhdiaaGreat
