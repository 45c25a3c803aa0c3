/- Plain laws for what is drawn: permutations and plugboards. -/
import Derived.Test.YtaplndmgbinhcaaGreatCyc
import Derived.Test.YtaplndmgbinhcaaGreatBack
namespace Go.Proofs.YtaplndmgbinhcaaGreat

theorem dg_append (a b : ByteArray) : dg (a ++ b) = dg a ++ dg b := by simp [dg, L_append]
theorem dg_extract (s : ByteArray) (a b : Nat) : dg (s.extract a b) = ((dg s).take b).drop a := by simp [dg, L_extract, List.map_take, List.map_drop]
theorem dg_one {s : ByteArray} {k : Nat} (h : k < s.size) : dg (s.extract k (k + 1)) = [pAt (dg s) k] := by
  have hk : k < (dg s).length := by rw [len_dg]; exact h
  rw [dg_extract, List.take_succ_eq_append_getElem hk, List.drop_append_of_le_length (by simp; omega), List.drop_eq_nil_of_le (by simp; omega), pAt_get hk]; rfl
theorem dg_but {s : ByteArray} {k : Nat} : dg (s.extract 0 k ++ s.extract (k + 1) s.size) = (dg s).eraseIdx k := by
  have h : (dg s).take s.size = dg s := List.take_of_length_le (by rw [len_dg]; exact Nat.le_refl _)
  rw [dg_append, dg_extract, dg_extract, List.drop_zero, h, List.eraseIdx_eq_take_drop_succ]
theorem perm_out : ∀ (l : List Nat) (k : Nat) (h : k < l.length), (l[k] :: l.eraseIdx k).Perm l
  | _ :: _, 0, _ => by simp
  | a :: l, k + 1, h => by
    simp only [List.getElem_cons_succ, List.eraseIdx_cons_succ]
    exact (List.Perm.swap a _ _).trans ((perm_out l k (by simpa using h)).cons a)
theorem perm_take {l : List Nat} {k : Nat} (h : k < l.length) : (pAt l k :: l.eraseIdx k).Perm l := by
  rw [pAt_get h]; exact perm_out l k h
theorem permB_of {s : ByteArray} (h : wordB s = true) (hp : (dg s).Perm idP) : permB s = true := by
  have hl := hp.length_eq
  rw [len_dg, len_id] at hl
  simp only [permB, Bool.and_eq_true, decide_eq_true_eq]
  exact ⟨⟨hl, h⟩, hp.nodup_iff.2 isP_id.nd⟩

/-- A permutation with the images of two letters exchanged. -/
def swapP (p : List Nat) (x y : Nat) : List Nat := (p.set x (pAt p y)).set y (pAt p x)
theorem len_swapP (p : List Nat) (x y : Nat) : (swapP p x y).length = p.length := by simp [swapP]
theorem at_swapP {p : List Nat} (h : p.length = 10) {x y i : Nat} (_hx : x < 10) (_hy : y < 10) (hi : i < 10) : pAt (swapP p x y) i = if i = y then pAt p x else if i = x then pAt p y else pAt p i := by
  have e1 : (i = y) = (y = i) := propext ⟨Eq.symm, Eq.symm⟩
  have e2 : (i = x) = (x = i) := propext ⟨Eq.symm, Eq.symm⟩
  have h1 : i < (swapP p x y).length := by rw [len_swapP, h]; exact hi
  have h2 : i < p.length := by rw [h]; exact hi
  rw [pAt_get h1, pAt_get h2]
  simp only [swapP, List.getElem_set, e1, e2]
/-- How far a board has been made: l has the letters that are still free. -/
structure Board (p l : List Nat) : Prop where
  isP : IsP p
  inv : Inv p
  nd : l.Nodup
  lt : ∀ a ∈ l, a < 10
  fix : ∀ a ∈ l, pAt p a = a
  mov : ∀ a, a < 10 → ¬ a ∈ l → pAt p a ≠ a
theorem board0 : Board idP (List.range 10) := by
  refine ⟨isP_id, then_id isP_id, List.nodup_range, fun a h => by simpa using h, fun a h => at_id (by simpa using h), fun a h hn => absurd (by simpa using h) hn⟩
theorem Board.perm {p l l' : List Nat} (h : Board p l) (hp : l'.Perm l) : Board p l' :=
  ⟨h.isP, h.inv, hp.nodup_iff.2 h.nd, fun a ha => h.lt a (hp.mem_iff.1 ha), fun a ha => h.fix a (hp.mem_iff.1 ha), fun a ha hn => h.mov a ha (fun hm => hn (hp.mem_iff.2 hm))⟩
theorem Board.swap {p l : List Nat} {x y : Nat} (h : Board p (x :: y :: l)) : Board (swapP p x y) l := by
  have hx := h.lt x (by simp)
  have hy := h.lt y (by simp)
  have fx := h.fix x (by simp)
  have fy := h.fix y (by simp)
  have hnd := h.nd
  rw [List.nodup_cons, List.nodup_cons] at hnd
  obtain ⟨h1, h2, h3⟩ := hnd
  have hxy : x ≠ y := fun e => h1 (by simp [e])
  have hat : ∀ i, i < 10 → pAt (swapP p x y) i = if i = y then x else if i = x then y else pAt p i := fun i hi => by
    rw [at_swapP h.isP.len hx hy hi, fx, fy]
  have hne : ∀ i, i < 10 → i ≠ x → i ≠ y → pAt p i ≠ x ∧ pAt p i ≠ y := fun i hi e1 e2 =>
    ⟨fun e => e1 (h.isP.inj hi hx (by rw [e, fx])), fun e => e2 (h.isP.inj hi hy (by rw [e, fy]))⟩
  have hP : IsP (swapP p x y) := by
    refine isP_mk (by rw [len_swapP]; exact h.isP.len) (fun i hi => ?_) (fun i j hi hj e => ?_)
    · rw [hat i hi]
      split
      · exact hx
      · split
        · exact hy
        · exact h.isP.at_lt hi
    · have hcase : ∀ i, i < 10 → (i = y ∧ pAt (swapP p x y) i = x) ∨ (i = x ∧ i ≠ y ∧ pAt (swapP p x y) i = y) ∨ (i ≠ x ∧ i ≠ y ∧ pAt (swapP p x y) i = pAt p i ∧ pAt p i ≠ x ∧ pAt p i ≠ y) := fun i hi => by
        have := hne i hi
        rw [hat i hi]
        by_cases i1 : i = y
        · exact .inl ⟨i1, if_pos i1⟩
        · by_cases i2 : i = x
          · exact .inr (.inl ⟨i2, i1, by rw [if_neg i1, if_pos i2]⟩)
          · exact .inr (.inr ⟨i2, i1, by rw [if_neg i1, if_neg i2], this i2 i1⟩)
      rcases hcase i hi with ⟨a1, a2⟩ | ⟨a1, a3, a2⟩ | ⟨a1, a3, a2, a4, a5⟩ <;> rcases hcase j hj with ⟨b1, b2⟩ | ⟨b1, b3, b2⟩ | ⟨b1, b3, b2, b4, b5⟩
      all_goals first | omega | exact h.isP.inj hi hj (by omega)
  refine ⟨hP, Inv.of_at hP fun i hi => ?_, h3, fun a ha => h.lt a (by simp [ha]), fun a ha => ?_, fun a ha hn => ?_⟩
  · by_cases i1 : i = y
    · subst i1
      rw [hat _ hi, if_pos rfl, hat _ hx, if_neg hxy, if_pos rfl]
    · by_cases i2 : i = x
      · subst i2
        rw [hat _ hi, if_neg i1, if_pos rfl, hat _ hy, if_pos rfl]
      · have := hne i hi i2 i1
        rw [hat i hi, if_neg i1, if_neg i2, hat _ (h.isP.at_lt hi), if_neg this.2, if_neg this.1, h.inv.at h.isP hi]
  · have e1 : a ≠ y := fun e => h2 (e ▸ ha)
    have e2 : a ≠ x := fun e => h1 (by simp [e ▸ ha])
    rw [hat a (h.lt a (by simp [ha])), if_neg e1, if_neg e2, h.fix a (by simp [ha])]
  · rw [hat a ha]
    by_cases i1 : a = y
    · rw [if_pos i1, i1]; exact hxy
    · by_cases i2 : a = x
      · rw [if_neg i1, if_pos i2, i2]; exact fun e => hxy e.symm
      · rw [if_neg i1, if_neg i2]
        exact h.mov a ha (fun hm => by simp at hm; rcases hm with e | e | e <;> contradiction)
theorem Board.plug {p l : List Nat} (h : Board p l) : plugB (wd p) = true := by
  simp only [plugB, Bool.and_eq_true, decide_eq_true_eq]
  exact ⟨permB_wd h.isP, by rw [dg_wd h.isP.lt]; exact h.inv⟩
theorem Board.refl {p : List Nat} (h : Board p []) : reflB (wd p) = true := by
  simp only [reflB, Bool.and_eq_true, decide_eq_true_eq]
  refine ⟨h.plug, ?_⟩
  rw [dg_wd h.isP.lt]
  have hm : movedN p = 10 := by
    have h1 := len_fixL p
    have : fixL p = [] := (fixL_nil_iff p).2 fun i hi => h.mov i hi (by simp)
    rw [this] at h1; simpa using h1
  rw [hm]
theorem wd_set (l : List Nat) (i n : Nat) : (L (wd l)).set i (letr (n : Int)) = L (wd (l.set i n)) := by rw [L_wd, L_wd, List.map_set]
/-- A word turned by n. -/
theorem permB_rot {n : Nat} (_h : n < 10) : permB (wd (rotP n)) = true := permB_wd (isP_rot n)
theorem permB_rev : permB (S (L (wd idP)).reverse) = true := by decide +kernel
end Go.Proofs.YtaplndmgbinhcaaGreat
