/- Contracts of reflectorOf and of what asks whether words are plugboards or reflectors. -/
import Derived.Test.YtaplndmgbinhcaaGreatPlugs
import Derived.Test.YtaplndmgbinhcaaGreatHeld
namespace Go.Proofs.YtaplndmgbinhcaaGreat
open Go.RowKit

theorem ten {α : Type} {l : List α} (h : l.length = 10) : ∃ x0 x1 x2 x3 x4 x5 x6 x7 x8 x9, l = [x0, x1, x2, x3, x4, x5, x6, x7, x8, x9] := by
  match l, h with
  | [x0, x1, x2, x3, x4, x5, x6, x7, x8, x9], _ => exact ⟨x0, x1, x2, x3, x4, x5, x6, x7, x8, x9, rfl⟩

set_option maxRecDepth 100000 in
theorem reflectorOf_any (s : ByteArray) (w : World) (hs : s.size ≤ 4294967296) :
    Calls Tryz.prog 71 #[.string s] w fun e w' => e = .returned (.tuple #[.agg (permC (plugB s) s).toArray, .bool (reflB s)]) ∧ Below w.heap.size w w' := by
  have o0 : Own (w.alloc (.cells #[.int .u8 0, .int .u8 0, .int .u8 0, .int .u8 0, .int .u8 0, .int .u8 0, .int .u8 0, .int .u8 0, .int .u8 0, .int .u8 0] 91)) w.heap.size z10 := Own.new w z10 91
  go_enter Tryz.func71, Tryz.ntmps71
  go_wp2_with fail
  refine (plugsOf_any s _ hs).mono ?_
  rintro e w1 ⟨rfl, hb1⟩
  have o1 : Own (w1.alloc (.cells #[.int .u8 0, .int .u8 0, .int .u8 0, .int .u8 0, .int .u8 0, .int .u8 0, .int .u8 0, .int .u8 0, .int .u8 0, .int .u8 0] 91)) w1.heap.size z10 := Own.new w1 z10 91
  have hz1 := hb1.size
  simp only [World.size_alloc] at hz1
  have o01 := (o0.below hb1 o0.lt).alloc (.cells #[.int .u8 0, .int .u8 0, .int .u8 0, .int .u8 0, .int .u8 0, .int .u8 0, .int .u8 0, .int .u8 0, .int .u8 0, .int .u8 0] 91)
  have hbw := (bt ((Below.refl _ _).alloc (Nat.le_refl _) _) hb1).alloc (by omega) (.cells #[.int .u8 0, .int .u8 0, .int .u8 0, .int .u8 0, .int .u8 0, .int .u8 0, .int .u8 0, .int .u8 0, .int .u8 0, .int .u8 0] 91)
  have hpl : plugB s = true → permB s = true := plugB_perm
  have hsz := size_permC hpl
  have h1 := one_permC (plugB s) s
  have hcl := len_permC hpl
  generalize hcs : permC (plugB s) s = cs at *
  go_wp2_with ((with_reducible refine wl_store 91 0 o1 hsz h1 (by rw [hcl, len_z10]; omega) ?_ ?_ ?_ ?_); (· rfl); (· rfl); (· rfl); intro w2 o2 b2 s2)
  rw [put_z10 hcl] at o2
  simp only [World.size_alloc] at s2
  have o02 := o01.grown b2 (by simp; omega)
  have hbw2 := bel_store hbw b2 (by simp; omega) (by omega)
  have o2r := o2.cells.range
  have o0t : w2.there w.heap.size 0 cs.length := o02.there_ (by rw [hcl, len_z10]; omega)
  have l1 := o2.lt
  have l0 := o02.lt
  refine wp_region_held (S := fun w' => w'.rangeAt w1.heap.size 0 cs ∧ w'.there w.heap.size 0 cs.length ∧ w2.heap.size ≤ w'.heap.size ∧ Below w.heap.size w w') (by kernel_rfl) ?_
  generalize hw3 : ({ w2 with drawn := w2.drawn + 1 } : World) = w3
  have hS : w3.rangeAt w1.heap.size 0 cs ∧ w3.there w.heap.size 0 cs.length ∧ w2.heap.size ≤ w3.heap.size ∧ Below w.heap.size w w3 := by subst hw3; exact ⟨o2r, o0t, Nat.le_refl _, hbw2.drew⟩
  clear hw3
  refine hr_take 0 11 rfl (by kernel_rfl) (by kernel_rfl) (by kernel_rfl) (fun _ _ _ h => h) rfl hS (yieldsIf_load_mid (by rfl) _ _ rfl _ _ rfl _ _ (fun _ h => h.1) Tryz.underlying91 rfl hsz) ?_; simp only [Act.put, List.setIfInBounds_toArray, List.set_cons_succ, List.set_cons_zero]
  refine hr_take 1 12 (v := .bool (plugB s)) rfl (by kernel_rfl) (by kernel_rfl) (by kernel_rfl) (fun _ _ _ h => h) rfl hS (Or.inl ⟨by rfl, fun _ _ => rfl⟩) ?_; simp only [Act.put, List.setIfInBounds_toArray, List.set_cons_succ, List.set_cons_zero]
  refine hr_take 2 13 (v := .bool (plugB s)) rfl (by kernel_rfl) (by kernel_rfl) (by kernel_rfl) (fun _ _ _ h => h) rfl hS (Or.inl ⟨by rfl, fun _ _ => rfl⟩) ?_; simp only [Act.put, List.setIfInBounds_toArray, List.set_cons_succ, List.set_cons_zero]
  cases hp : plugB s
  · refine hr_take 3 14 (v := undef) rfl (by kernel_rfl) (by kernel_rfl) (by kernel_rfl) (fun _ _ _ h => h) rfl hS (Or.inr ⟨by rfl, rfl⟩) ?_; simp only [Act.put, List.setIfInBounds_toArray, List.set_cons_succ, List.set_cons_zero]
    refine hr_take 4 15 (v := undef) rfl (by kernel_rfl) (by kernel_rfl) (by kernel_rfl) (fun _ _ _ h => h) rfl hS (Or.inr ⟨by rfl, rfl⟩) ?_; simp only [Act.put, List.setIfInBounds_toArray, List.set_cons_succ, List.set_cons_zero]
    refine hr_take 5 16 (v := undef) rfl (by kernel_rfl) (by kernel_rfl) (by kernel_rfl) (fun _ _ _ h => h) rfl hS (Or.inr ⟨by rfl, rfl⟩) ?_; simp only [Act.put, List.setIfInBounds_toArray, List.set_cons_succ, List.set_cons_zero]
    refine hr_take 6 17 (v := .bool false) rfl (by kernel_rfl) (by kernel_rfl) (by kernel_rfl) (fun _ _ _ h => h) rfl hS (Or.inl ⟨by rfl, fun _ _ => rfl⟩) ?_; simp only [Act.put, List.setIfInBounds_toArray, List.set_cons_succ, List.set_cons_zero]
    refine hr_store 7 (by kernel_rfl) rfl (by rfl) rfl rfl rfl rfl hS.2.1 hsz h1 ?_
    have hS' : (w3.setCells w.heap.size 0 cs).rangeAt w1.heap.size 0 cs ∧ (w3.setCells w.heap.size 0 cs).there w.heap.size 0 cs.length ∧ w2.heap.size ≤ (w3.setCells w.heap.size 0 cs).heap.size ∧ Below w.heap.size w (w3.setCells w.heap.size 0 cs) :=
      ⟨World.rangeAt_setCells_apart hS.1 _ _ _ (.inl (by omega)), World.there_setCells hS.2.1 _ _ _, by rw [size_setCells]; exact hS.2.2.1, bel_setCells _ (Nat.le_refl _) _ _ hS.2.2.2⟩
    have ho := range_cells (World.rangeAt_setCells_same w3 w.heap.size 0 cs hS.2.1)
    refine ⟨hS', ?_⟩
    clear hS
    have hS := hS'
    refine hr_take 8 3 (v := .bool false) rfl (by kernel_rfl) (by kernel_rfl) (by kernel_rfl) (fun _ _ _ h => h) rfl hS (Or.inl ⟨by rfl, fun _ _ => rfl⟩) ?_; simp only [Act.put, List.setIfInBounds_toArray, List.set_cons_succ, List.set_cons_zero]
    refine wpAnyH_done (by kernel_rfl) ?_ _
    go_wp2
    refine bodyPost_ret (results_cell_tmp_own Tryz.results71 _ _ _ _ _ _ (by rfl) (by rfl) ho Tryz.underlying91 rfl hsz) rfl ?_
    exact ⟨ret_ab hcs.symm (by simp [reflB, hp]), hS.2.2.2⟩
  · have hP := permB_isP (plugB_perm hp)
    rw [hp, permC_yes] at hcs
    subst hcs
    refine hr_take 3 14 rfl (by kernel_rfl) (by kernel_rfl) (by kernel_rfl) (fun _ _ _ h => h) rfl hS (yieldsIf_load_mid (by rfl) _ _ rfl _ _ rfl _ _ (fun _ h => h.1) Tryz.underlying91 rfl hsz) ?_; simp only [Act.put, List.setIfInBounds_toArray, List.set_cons_succ, List.set_cons_zero]
    refine hr_call 4 15 (by kernel_rfl) rfl (by rfl) rfl (fun _ => by simp [go_sem]) (pairs_any (dg s) w3 hP) ?_
    intro w4 hb4
    have hS' : w4.rangeAt w1.heap.size 0 (pv (dg s)) ∧ w4.there w.heap.size 0 (pv (dg s)).length ∧ w2.heap.size ≤ w4.heap.size ∧ Below w.heap.size w w4 :=
      ⟨range_below hS.1 hb4 (by omega), there_below hS.2.1 hb4 (by omega), by have := hb4.size; omega, bt hS.2.2.2 hb4⟩
    refine ⟨hS', ?_⟩
    clear hS hb4
    have hS := hS'
    simp only [Act.put, List.setIfInBounds_toArray, List.set_cons_succ, List.set_cons_zero]
    refine hr_take 5 16 (v := .bool (((movedN (dg s) / 2 : Nat) : Int) == 5)) rfl (by kernel_rfl) (by kernel_rfl) (by kernel_rfl) (fun _ _ _ h => h) rfl hS (Or.inl ⟨by rfl, fun _ _ => rfl⟩) ?_; simp only [Act.put, List.setIfInBounds_toArray, List.set_cons_succ, List.set_cons_zero]
    refine hr_take 6 17 (v := .bool (((movedN (dg s) / 2 : Nat) : Int) == 5)) rfl (by kernel_rfl) (by kernel_rfl) (by kernel_rfl) (fun _ _ _ h => h) rfl hS (Or.inl ⟨by rfl, fun _ _ => rfl⟩) ?_; simp only [Act.put, List.setIfInBounds_toArray, List.set_cons_succ, List.set_cons_zero]
    refine hr_store 7 (by kernel_rfl) rfl (by rfl) rfl rfl rfl rfl hS.2.1 hsz h1 ?_
    have hT : (w4.setCells w.heap.size 0 (pv (dg s))).rangeAt w1.heap.size 0 (pv (dg s)) ∧ (w4.setCells w.heap.size 0 (pv (dg s))).there w.heap.size 0 (pv (dg s)).length ∧ w2.heap.size ≤ (w4.setCells w.heap.size 0 (pv (dg s))).heap.size ∧ Below w.heap.size w (w4.setCells w.heap.size 0 (pv (dg s))) :=
      ⟨World.rangeAt_setCells_apart hS.1 _ _ _ (.inl (by omega)), World.there_setCells hS.2.1 _ _ _, by rw [size_setCells]; exact hS.2.2.1, bel_setCells _ (Nat.le_refl _) _ _ hS.2.2.2⟩
    have ho := range_cells (World.rangeAt_setCells_same w4 w.heap.size 0 (pv (dg s)) hS.2.1)
    refine ⟨hT, ?_⟩
    clear hS
    have hS := hT
    refine hr_take 8 3 (v := .bool (((movedN (dg s) / 2 : Nat) : Int) == 5)) rfl (by kernel_rfl) (by kernel_rfl) (by kernel_rfl) (fun _ _ _ h => h) rfl hS (Or.inl ⟨by rfl, fun _ _ => rfl⟩) ?_; simp only [Act.put, List.setIfInBounds_toArray, List.set_cons_succ, List.set_cons_zero]
    refine wpAnyH_done (by kernel_rfl) ?_ _
    go_wp2
    refine bodyPost_ret (results_cell_tmp_own Tryz.results71 _ _ _ _ _ _ (by rfl) (by rfl) ho Tryz.underlying91 rfl hsz) rfl ?_
    refine ⟨ret_ab (by rw [hp]; rfl) ?_, hS.2.2.2⟩
    simp only [reflB, hp, Bool.true_and]
    rw [Bool.eq_iff_iff, beq_iff_eq, decide_eq_true_iff]; omega

theorem implReflectorValid_any (s : ByteArray) (w : World) (hs : s.size ≤ 4294967296) :
    Calls Tryz.prog 48 #[.string s] w fun e w' => e = .returned (.bool (reflB s)) ∧ Below w.heap.size w w' := by
  go_enter Tryz.func48, Tryz.ntmps48
  go_wp2_with fail
  refine (reflectorOf_any s w hs).mono ?_
  rintro e w1 ⟨rfl, hb1⟩
  generalize hc : permC (plugB s) s = cs
  have hl : cs.length = 10 := by rw [← hc]; exact len_permC plugB_perm
  have o1 : Own (w1.alloc (.cells #[.int .u8 0, .int .u8 0, .int .u8 0, .int .u8 0, .int .u8 0, .int .u8 0, .int .u8 0, .int .u8 0, .int .u8 0, .int .u8 0] 91)) w1.heap.size z10 := Own.new w1 z10 91
  go_wp2_with (first | ((with_reducible refine wl_store 91 0 o1 (by rw [hl]; exact size_perm) (by rw [← hc]; exact one_permC _ _) (by rw [hl, len_z10]; omega) ?_ ?_ ?_ ?_); (· rfl); (· rfl); (· rfl); intro w5 o5 b5 s5))
  go_ret
  exact ⟨rfl, bel_store (hb1.alloc hb1.size _) b5 (by have := hb1.size; simp; omega) hb1.size⟩
end Go.Proofs.YtaplndmgbinhcaaGreat
