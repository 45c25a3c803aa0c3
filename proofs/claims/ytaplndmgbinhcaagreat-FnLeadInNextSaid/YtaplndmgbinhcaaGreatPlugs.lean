/- Contracts of the functions that read plugboards and reflectors. -/
import Derived.Test.YtaplndmgbinhcaaGreatPermOf
import Derived.DeepKeys
namespace Go.Proofs.YtaplndmgbinhcaaGreat
open Go.RowKit

theorem run_items (a b : List Nat) (ha : a.length = 10) (hb : b.length = 10) (d : Nat) (w : World) : ∀ is : List Nat, (∀ i ∈ is, i < 10) →
    (Op.eqItems (d + 1) 5 1 (pv a).toArray (pv b).toArray is).run Tryz.prog w = .ok (is.all fun i => pAt a i == pAt b i) w
  | [], _ => by simp [Op.eqItems]
  | i :: is, h => by
    have hi : i < 10 := h i (by simp)
    have ih := run_items a b ha hb d w is (fun j hj => h j (by simp [hj]))
    have p1 : (part 5 (pv a).toArray (i * 1)).run Tryz.prog w = .ok (.int .u8 (pAt a i : Int)) w := by
      simp [part, pv_at (show i < a.length by omega)]
    have p2 : (part 5 (pv b).toArray (i * 1)).run Tryz.prog w = .ok (.int .u8 (pAt b i : Int)) w := by
      simp [part, pv_at (show i < b.length by omega)]
    have p3 := run_equalIn_int (P := Tryz.prog) w d 5 .u8 .u8 (pAt a i : Int) (pAt b i : Int) Tryz.underlying5
    simp only [Op.eqItems, Sem.run_bind, p1, p2, p3, Result.andThen_ok, List.all_cons]
    by_cases e : pAt a i = pAt b i
    · have e' : ((pAt a i : Int) == (pAt b i : Int)) = true := by simp [e]
      rw [e']
      simp [ih, e]
    · have e' : ((pAt a i : Int) == (pAt b i : Int)) = false := by simp; omega
      rw [e']
      simp [e]
theorem run_equal_pv (a b : List Nat) (ha : a.length = 10) (hb : b.length = 10) (w : World) :
    (Op.equal 91 (.agg (pv a).toArray) (.agg (pv b).toArray)).run Tryz.prog w = .ok (decide (a = b)) w := by
  have hsz := size_u8
  cases hq : Tryz.prog.info? 5 with
  | none => simp [hq] at hsz
  | some i =>
    have hs : i.size = 1 := by simpa [hq] using hsz
    have h1 := run_equalIn_array (P := Tryz.prog) w (9998 + 1) (pv a).toArray (pv b).toArray Tryz.underlying91 hq
    have h2 := run_items a b ha hb 9998 w (List.range 10) (fun i hi => by simpa using hi)
    have h3 : (List.range 10).all (fun i => pAt a i == pAt b i) = decide (a = b) := by
      rw [Bool.eq_iff_iff, List.all_eq_true, decide_eq_true_iff]
      refine ⟨fun h => ext10 ha hb fun i hi => by simpa using h i (by simpa using hi), fun e => by subst e; simp⟩
    rw [h3] at h2
    show (Op.equalIn (9998 + 1 + 1) _ _ _).run Tryz.prog w = _
    rw [h1, show Tryz.prog.cellsOf 5 = 1 by kernel_rfl]
    exact h2

theorem grd_perm : Tryz.prog.eqGuardType Tryz.prog.depth 91 = false := by kernel_rfl
theorem plugC_yes {s : ByteArray} (h : permB s = true) (he : thenP (dg s) (dg s) = idP) : plugB s = true := by simp [plugB, h, he]
theorem plugC_no {s : ByteArray} (he : ¬ thenP (dg s) (dg s) = idP) : plugB s = false := by simp [plugB, he]
theorem plugC_no' {s : ByteArray} (h : permB s = false) : plugB s = false := by simp [plugB, h]
theorem plugsOf_any (s : ByteArray) (w : World) (hs : s.size ≤ 4294967296) :
    Calls Tryz.prog 91 #[.string s] w fun e w' => e = .returned (.tuple #[.agg (permC (plugB s) s).toArray, .bool (plugB s)]) ∧ Below w.heap.size w w' := by
  have o0 : Own (w.alloc (.cells #[.int .u8 0, .int .u8 0, .int .u8 0, .int .u8 0, .int .u8 0, .int .u8 0, .int .u8 0, .int .u8 0, .int .u8 0, .int .u8 0] 91)) w.heap.size z10 := Own.new w z10 91
  cases hp : permB s
  · have hf := Lib.hid (plugC_no' hp)
    go_enter Tryz.func91, Tryz.ntmps91
    go_wp2_with fail
    refine (permOf_any s _ hs).mono ?_
    rintro e w1 ⟨rfl, hb1⟩
    rw [hp, permC_no]
    have o1 : Own (w1.alloc (.cells #[.int .u8 0, .int .u8 0, .int .u8 0, .int .u8 0, .int .u8 0, .int .u8 0, .int .u8 0, .int .u8 0, .int .u8 0, .int .u8 0] 91)) w1.heap.size z10 := Own.new w1 z10 91
    have hz1 := hb1.size
    simp only [World.size_alloc] at hz1
    have o01 := (o0.below hb1 o0.lt).alloc (.cells #[.int .u8 0, .int .u8 0, .int .u8 0, .int .u8 0, .int .u8 0, .int .u8 0, .int .u8 0, .int .u8 0, .int .u8 0, .int .u8 0] 91)
    go_wp2_with (first | ((with_reducible refine wl_store 91 0 o1 size_z10 one_z10 (by rw [len_z10]; omega) ?_ ?_ ?_ ?_); (· rfl); (· rfl); (· rfl); intro w2 o2 b2 s2) | ((with_reducible refine wl_store 91 0 (o01.grown b2 (by simp; omega)) size_z10 one_z10 (by rw [len_z10]; omega) ?_ ?_ ?_ ?_); (· rfl); (· rfl); (· rfl); intro w3 o3 b3 s3))
    rw [put_z10 len_z10] at o3
    simp only [World.size_alloc] at s2
    refine bodyPost_ret (results_cell_tmp_own Tryz.results91 _ _ _ _ _ _ (by rfl) (by rfl) o3.cells Tryz.underlying91 rfl size_z10) rfl ?_
    refine ⟨ret_ab (by rw [hf.out]; rfl) (by rw [hf.out]), ?_⟩
    exact bel_store (bel_store ((bt ((Below.refl _ _).alloc (Nat.le_refl _) _) hb1).alloc (by omega) _) b2 (by simp; omega) (by omega)) b3 (by omega) (by omega)
  · have hP := permB_isP hp
    have hlen := hP.len
    have hlen' : (pv (dg s)).length = 10 := by rw [length_pv]; exact hlen
    go_enter Tryz.func91, Tryz.ntmps91
    go_wp2_with fail
    refine (permOf_any s _ hs).mono ?_
    rintro e w1 ⟨rfl, hb1⟩
    rw [hp, permC_yes]
    have o1 : Own (w1.alloc (.cells #[.int .u8 0, .int .u8 0, .int .u8 0, .int .u8 0, .int .u8 0, .int .u8 0, .int .u8 0, .int .u8 0, .int .u8 0, .int .u8 0] 91)) w1.heap.size z10 := Own.new w1 z10 91
    have hz1 := hb1.size
    simp only [World.size_alloc] at hz1
    have o01 := (o0.below hb1 o0.lt).alloc (.cells #[.int .u8 0, .int .u8 0, .int .u8 0, .int .u8 0, .int .u8 0, .int .u8 0, .int .u8 0, .int .u8 0, .int .u8 0, .int .u8 0] 91)
    have hbw := (bt ((Below.refl _ _).alloc (Nat.le_refl _) _) hb1).alloc (by omega) (.cells #[.int .u8 0, .int .u8 0, .int .u8 0, .int .u8 0, .int .u8 0, .int .u8 0, .int .u8 0, .int .u8 0, .int .u8 0, .int .u8 0] 91)
    have hth := fun W => then_any (dg s) (dg s) W hP hP
    have heq := fun W => run_equal_pv (thenP (dg s) (dg s)) idP (by rw [len_then]; exact hlen) len_id W
    by_cases he : thenP (dg s) (dg s) = idP
    · have hy := Lib.hid (plugC_yes hp he)
      rw [decide_eq_true he] at heq
      clear he
      generalize thenP (dg s) (dg s) = q2 at *
      go_wp2_with (first | ((with_reducible refine wl_store 91 0 o1 (size_pv hlen) (pv_one _) (by rw [hlen', len_z10]; omega) ?_ ?_ ?_ ?_); (· rfl); (· rfl); (· rfl); intro w2 o2 b2 s2) | ((with_reducible refine wl_load 91 (by rw [put_z10 hlen'] at o2; exact o2.cells) (size_pv hlen) Tryz.underlying91 ?_ ?_ ?_ ?_); (· rfl); (· rfl); (· rfl)))
      rw [put_z10 hlen'] at o2
      simp only [World.size_alloc] at s2
      refine (hth w2).mono ?_
      rintro e w3 ⟨rfl, hb3⟩
      have hz3 := hb3.size
      go_wp2_with fail
      refine (identity_any w3).mono ?_
      rintro e w4 ⟨rfl, hb4⟩
      have hz4 := hb4.size
      have o24 := (o2.below hb3 o2.lt).below hb4 (by omega)
      have o04 := ((o01.grown b2 (by simp; omega)).below hb3 (by omega)).below hb4 (by omega)
      have hbw4 := bt (bt (bel_store hbw b2 (by simp; omega) (by omega)) hb3) hb4
      go_wp2_with (first | ((with_reducible refine wl_neq 91 (heq _) grd_perm ?_ ?_ ?_ ?_); (· rfl); (· rfl); (· rfl)) | ((with_reducible refine wl_load 91 o24.cells (size_pv hlen) Tryz.underlying91 ?_ ?_ ?_ ?_); (· rfl); (· rfl); (· rfl)) | ((with_reducible refine wl_store 91 0 o04 (size_pv hlen) (pv_one _) (by rw [hlen', len_z10]; omega) ?_ ?_ ?_ ?_); (· rfl); (· rfl); (· rfl); intro w5 o5 b5 s5))
      rw [put_z10 hlen'] at o5
      refine bodyPost_ret (results_cell_tmp_own Tryz.results91 _ _ _ _ _ _ (by rfl) (by rfl) o5.cells Tryz.underlying91 rfl (size_pv hlen)) rfl ?_
      exact ⟨ret_ab (by rw [hy.out]; rfl) (by rw [hy.out]), bel_store hbw4 b5 (by omega) (by omega)⟩
    · have hy := Lib.hid (plugC_no he)
      rw [decide_eq_false he] at heq
      clear he
      generalize thenP (dg s) (dg s) = q2 at *
      go_wp2_with (first | ((with_reducible refine wl_store 91 0 o1 (size_pv hlen) (pv_one _) (by rw [hlen', len_z10]; omega) ?_ ?_ ?_ ?_); (· rfl); (· rfl); (· rfl); intro w2 o2 b2 s2) | ((with_reducible refine wl_load 91 (by rw [put_z10 hlen'] at o2; exact o2.cells) (size_pv hlen) Tryz.underlying91 ?_ ?_ ?_ ?_); (· rfl); (· rfl); (· rfl)))
      rw [put_z10 hlen'] at o2
      simp only [World.size_alloc] at s2
      refine (hth w2).mono ?_
      rintro e w3 ⟨rfl, hb3⟩
      have hz3 := hb3.size
      go_wp2_with fail
      refine (identity_any w3).mono ?_
      rintro e w4 ⟨rfl, hb4⟩
      have hz4 := hb4.size
      have o24 := (o2.below hb3 o2.lt).below hb4 (by omega)
      have o04 := ((o01.grown b2 (by simp; omega)).below hb3 (by omega)).below hb4 (by omega)
      have hbw4 := bt (bt (bel_store hbw b2 (by simp; omega) (by omega)) hb3) hb4
      go_wp2_with (first | ((with_reducible refine wl_neq 91 (heq _) grd_perm ?_ ?_ ?_ ?_); (· rfl); (· rfl); (· rfl)) | ((with_reducible refine wl_store 91 0 o04 size_z10 one_z10 (by rw [len_z10]; omega) ?_ ?_ ?_ ?_); (· rfl); (· rfl); (· rfl); intro w5 o5 b5 s5))
      rw [put_z10 len_z10] at o5
      refine bodyPost_ret (results_cell_tmp_own Tryz.results91 _ _ _ _ _ _ (by rfl) (by rfl) o5.cells Tryz.underlying91 rfl size_z10) rfl ?_
      exact ⟨ret_ab (by rw [hy.out]; rfl) (by rw [hy.out]), bel_store hbw4 b5 (by omega) (by omega)⟩
end Go.Proofs.YtaplndmgbinhcaaGreat
