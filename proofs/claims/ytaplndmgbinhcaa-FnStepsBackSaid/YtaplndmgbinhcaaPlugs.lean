/- Contracts of the functions that read plugboards and reflectors. -/
import Derived.Test.YtaplndmgbinhcaaPermOf
import Derived.DeepKeys
namespace Go.Proofs.Ytaplndmgbinhcaa
open Go.RowKit

theorem run_items (a b : List Nat) (ha : a.length = 10) (hb : b.length = 10) (d : Nat) (w : World) : ∀ is : List Nat, (∀ i ∈ is, i < 10) →
    (Op.eqItems (d + 1) 5 1 (pv a).toArray (pv b).toArray is).run Try.prog w = .ok (is.all fun i => pAt a i == pAt b i) w
  | [], _ => by simp [Op.eqItems]
  | i :: is, h => by
    have hi : i < 10 := h i (by simp)
    have ih := run_items a b ha hb d w is (fun j hj => h j (by simp [hj]))
    have p1 : (part 5 (pv a).toArray (i * 1)).run Try.prog w = .ok (.int .u8 (pAt a i : Int)) w := by
      simp [part, pv_at (show i < a.length by omega)]
    have p2 : (part 5 (pv b).toArray (i * 1)).run Try.prog w = .ok (.int .u8 (pAt b i : Int)) w := by
      simp [part, pv_at (show i < b.length by omega)]
    have p3 := run_equalIn_int (P := Try.prog) w d 5 .u8 .u8 (pAt a i : Int) (pAt b i : Int) Try.underlying5
    simp only [Op.eqItems, Sem.run_bind, p1, p2, p3, Result.andThen_ok, List.all_cons]
    by_cases e : pAt a i = pAt b i
    · have e' : ((pAt a i : Int) == (pAt b i : Int)) = true := by simp [e]
      rw [e']
      simp [ih, e]
    · have e' : ((pAt a i : Int) == (pAt b i : Int)) = false := by simp; omega
      rw [e']
      simp [e]
theorem run_equal_pv (a b : List Nat) (ha : a.length = 10) (hb : b.length = 10) (w : World) :
    (Op.equal 105 (.agg (pv a).toArray) (.agg (pv b).toArray)).run Try.prog w = .ok (decide (a = b)) w := by
  have hsz := size_u8
  cases hq : Try.prog.info? 5 with
  | none => simp [hq] at hsz
  | some i =>
    have hs : i.size = 1 := by simpa [hq] using hsz
    have h1 := run_equalIn_array (P := Try.prog) w (9998 + 1) (pv a).toArray (pv b).toArray Try.underlying105 hq
    have h2 := run_items a b ha hb 9998 w (List.range 10) (fun i hi => by simpa using hi)
    have h3 : (List.range 10).all (fun i => pAt a i == pAt b i) = decide (a = b) := by
      rw [Bool.eq_iff_iff, List.all_eq_true, decide_eq_true_iff]
      refine ⟨fun h => ext10 ha hb fun i hi => by simpa using h i (by simpa using hi), fun e => by subst e; simp⟩
    rw [h3] at h2
    show (Op.equalIn (9998 + 1 + 1) _ _ _).run Try.prog w = _
    rw [h1, show Try.prog.cellsOf 5 = 1 by kernel_rfl]
    exact h2

theorem grd_perm : Try.prog.eqGuardType Try.prog.depth 105 = false := by kernel_rfl
theorem plugC_yes {s : ByteArray} (h : permB s = true) (he : thenP (dg s) (dg s) = idP) : plugB s = true := by simp [plugB, h, he]
theorem plugC_no {s : ByteArray} (he : ¬ thenP (dg s) (dg s) = idP) : plugB s = false := by simp [plugB, he]
theorem plugC_no' {s : ByteArray} (h : permB s = false) : plugB s = false := by simp [plugB, h]
theorem plugsOf_any (s : ByteArray) (w : World) (hs : s.size ≤ 4294967296) :
    Calls Try.prog 104 #[.string s] w fun e w' => e = .returned (.tuple #[.agg (permC (plugB s) s).toArray, .bool (plugB s)]) ∧ Below w.heap.size w w' := by
  have o0 : Own (w.alloc (.cells #[.int .u8 0, .int .u8 0, .int .u8 0, .int .u8 0, .int .u8 0, .int .u8 0, .int .u8 0, .int .u8 0, .int .u8 0, .int .u8 0] 105)) w.heap.size z10 := Own.new w z10 105
  cases hp : permB s
  · have hf := Lib.hid (plugC_no' hp)
    go_enter Try.func104, Try.ntmps104
    go_wp2_with fail
    refine (permOf_any s _ hs).mono ?_
    rintro e w1 ⟨rfl, hb1⟩
    rw [hp, permC_no]
    have o1 : Own (w1.alloc (.cells #[.int .u8 0, .int .u8 0, .int .u8 0, .int .u8 0, .int .u8 0, .int .u8 0, .int .u8 0, .int .u8 0, .int .u8 0, .int .u8 0] 105)) w1.heap.size z10 := Own.new w1 z10 105
    have hz1 := hb1.size
    simp only [World.size_alloc] at hz1
    have o01 := (o0.below hb1 o0.lt).alloc (.cells #[.int .u8 0, .int .u8 0, .int .u8 0, .int .u8 0, .int .u8 0, .int .u8 0, .int .u8 0, .int .u8 0, .int .u8 0, .int .u8 0] 105)
    go_wp2_with (first | ((with_reducible refine wl_store 105 0 o1 size_z10 one_z10 (by rw [len_z10]; omega) ?_ ?_ ?_ ?_); (· rfl); (· rfl); (· rfl); intro w2 o2 b2 s2) | ((with_reducible refine wl_store 105 0 (o01.grown b2 (by simp; omega)) size_z10 one_z10 (by rw [len_z10]; omega) ?_ ?_ ?_ ?_); (· rfl); (· rfl); (· rfl); intro w3 o3 b3 s3))
    rw [put_z10 len_z10] at o3
    simp only [World.size_alloc] at s2
    refine bodyPost_ret (results_cell_tmp_own Try.results104 _ _ _ _ _ _ (by rfl) (by rfl) o3.cells Try.underlying105 rfl size_z10) rfl ?_
    refine ⟨ret_ab (by rw [hf.out]; rfl) (by rw [hf.out]), ?_⟩
    exact bel_store (bel_store ((bt ((Below.refl _ _).alloc (Nat.le_refl _) _) hb1).alloc (by omega) _) b2 (by simp; omega) (by omega)) b3 (by omega) (by omega)
  · have hP := permB_isP hp
    have hlen := hP.len
    have hlen' : (pv (dg s)).length = 10 := by rw [length_pv]; exact hlen
    go_enter Try.func104, Try.ntmps104
    go_wp2_with fail
    refine (permOf_any s _ hs).mono ?_
    rintro e w1 ⟨rfl, hb1⟩
    rw [hp, permC_yes]
    have o1 : Own (w1.alloc (.cells #[.int .u8 0, .int .u8 0, .int .u8 0, .int .u8 0, .int .u8 0, .int .u8 0, .int .u8 0, .int .u8 0, .int .u8 0, .int .u8 0] 105)) w1.heap.size z10 := Own.new w1 z10 105
    have hz1 := hb1.size
    simp only [World.size_alloc] at hz1
    have o01 := (o0.below hb1 o0.lt).alloc (.cells #[.int .u8 0, .int .u8 0, .int .u8 0, .int .u8 0, .int .u8 0, .int .u8 0, .int .u8 0, .int .u8 0, .int .u8 0, .int .u8 0] 105)
    have hbw := (bt ((Below.refl _ _).alloc (Nat.le_refl _) _) hb1).alloc (by omega) (.cells #[.int .u8 0, .int .u8 0, .int .u8 0, .int .u8 0, .int .u8 0, .int .u8 0, .int .u8 0, .int .u8 0, .int .u8 0, .int .u8 0] 105)
    have hth := fun W => then_any (dg s) (dg s) W hP hP
    have heq := fun W => run_equal_pv (thenP (dg s) (dg s)) idP (by rw [len_then]; exact hlen) len_id W
    by_cases he : thenP (dg s) (dg s) = idP
    · have hy := Lib.hid (plugC_yes hp he)
      rw [decide_eq_true he] at heq
      clear he
      generalize thenP (dg s) (dg s) = q2 at *
      go_wp2_with (first | ((with_reducible refine wl_store 105 0 o1 (size_pv hlen) (pv_one _) (by rw [hlen', len_z10]; omega) ?_ ?_ ?_ ?_); (· rfl); (· rfl); (· rfl); intro w2 o2 b2 s2) | ((with_reducible refine wl_load 105 (by rw [put_z10 hlen'] at o2; exact o2.cells) (size_pv hlen) Try.underlying105 ?_ ?_ ?_ ?_); (· rfl); (· rfl); (· rfl)))
      rw [put_z10 hlen'] at o2
      simp only [World.size_alloc] at s2
      refine (hth w2).mono ?_
      rintro e w3 ⟨rfl, hb3⟩
      have hz3 := hb3.size
      go_wp2_with fail
      refine (identity_any w3).mono ?_
      rintro e w4 ⟨rfl, hb4⟩
      have hz4 := hb4.size
      have o24 := (o2.below hb3 o2.lt).below hb4 (by omega)
      have o04 := ((o01.grown b2 (by simp; omega)).below hb3 (by omega)).below hb4 (by omega)
      have hbw4 := bt (bt (bel_store hbw b2 (by simp; omega) (by omega)) hb3) hb4
      go_wp2_with (first | ((with_reducible refine wl_neq 105 (heq _) grd_perm ?_ ?_ ?_ ?_); (· rfl); (· rfl); (· rfl)) | ((with_reducible refine wl_load 105 o24.cells (size_pv hlen) Try.underlying105 ?_ ?_ ?_ ?_); (· rfl); (· rfl); (· rfl)) | ((with_reducible refine wl_store 105 0 o04 (size_pv hlen) (pv_one _) (by rw [hlen', len_z10]; omega) ?_ ?_ ?_ ?_); (· rfl); (· rfl); (· rfl); intro w5 o5 b5 s5))
      rw [put_z10 hlen'] at o5
      refine bodyPost_ret (results_cell_tmp_own Try.results104 _ _ _ _ _ _ (by rfl) (by rfl) o5.cells Try.underlying105 rfl (size_pv hlen)) rfl ?_
      exact ⟨ret_ab (by rw [hy.out]; rfl) (by rw [hy.out]), bel_store hbw4 b5 (by omega) (by omega)⟩
    · have hy := Lib.hid (plugC_no he)
      rw [decide_eq_false he] at heq
      clear he
      generalize thenP (dg s) (dg s) = q2 at *
      go_wp2_with (first | ((with_reducible refine wl_store 105 0 o1 (size_pv hlen) (pv_one _) (by rw [hlen', len_z10]; omega) ?_ ?_ ?_ ?_); (· rfl); (· rfl); (· rfl); intro w2 o2 b2 s2) | ((with_reducible refine wl_load 105 (by rw [put_z10 hlen'] at o2; exact o2.cells) (size_pv hlen) Try.underlying105 ?_ ?_ ?_ ?_); (· rfl); (· rfl); (· rfl)))
      rw [put_z10 hlen'] at o2
      simp only [World.size_alloc] at s2
      refine (hth w2).mono ?_
      rintro e w3 ⟨rfl, hb3⟩
      have hz3 := hb3.size
      go_wp2_with fail
      refine (identity_any w3).mono ?_
      rintro e w4 ⟨rfl, hb4⟩
      have hz4 := hb4.size
      have o24 := (o2.below hb3 o2.lt).below hb4 (by omega)
      have o04 := ((o01.grown b2 (by simp; omega)).below hb3 (by omega)).below hb4 (by omega)
      have hbw4 := bt (bt (bel_store hbw b2 (by simp; omega) (by omega)) hb3) hb4
      go_wp2_with (first | ((with_reducible refine wl_neq 105 (heq _) grd_perm ?_ ?_ ?_ ?_); (· rfl); (· rfl); (· rfl)) | ((with_reducible refine wl_store 105 0 o04 size_z10 one_z10 (by rw [len_z10]; omega) ?_ ?_ ?_ ?_); (· rfl); (· rfl); (· rfl); intro w5 o5 b5 s5))
      rw [put_z10 len_z10] at o5
      refine bodyPost_ret (results_cell_tmp_own Try.results104 _ _ _ _ _ _ (by rfl) (by rfl) o5.cells Try.underlying105 rfl size_z10) rfl ?_
      exact ⟨ret_ab (by rw [hy.out]; rfl) (by rw [hy.out]), bel_store hbw4 b5 (by omega) (by omega)⟩
end Go.Proofs.Ytaplndmgbinhcaa
