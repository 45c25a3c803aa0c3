/- Contracts of the program's functions on permutations. -/
import Derived.Test.YtaplndmgbinhcaaGreatWords2
import Derived.Test.YtaplndmgbinhcaaGreatMach
import Derived.Test.YtaplndmgbinhcaaGreatArr
namespace Go.Proofs.YtaplndmgbinhcaaGreat
open Go.RowKit

/-- The cells of a permutation. -/
def pv (p : List Nat) : List Value := p.map fun n : Nat => .int .u8 (n : Int)
theorem length_pv (p : List Nat) : (pv p).length = p.length := by simp [pv]
theorem pv_at {p : List Nat} {i : Nat} (h : i < p.length) : (pv p)[i]? = some (.int .u8 (pAt p i : Int)) := by
  simp [pv, List.getElem?_eq_getElem h, pAt_get h]
theorem pv_get {p : List Nat} {i : Nat} (h : i < (pv p).length) : (pv p)[i] = .int .u8 (pAt p i : Int) := by
  have h' : i < p.length := by rw [length_pv] at h; exact h
  have := pv_at h'
  rw [List.getElem?_eq_getElem h] at this
  exact Option.some.inj this
theorem pv_one (p : List Nat) : ∀ v ∈ pv p, v.oneCell' = true := by
  intro v hv
  obtain ⟨n, _, rfl⟩ := List.mem_map.1 hv
  rfl
/-- Ten zeros. -/
def z10 : List Value := List.replicate 10 (.int .u8 0)
theorem len_z10 : z10.length = 10 := by simp [z10]
theorem size_perm : (Tryz.prog.info? 91).map (·.size) = some 10 := by kernel_rfl
theorem size_pv {p : List Nat} (h : p.length = 10) : (Tryz.prog.info? 91).map (·.size) = some (pv p).length := by rw [length_pv, h]; exact size_perm

theorem agg_u8 : ∀ w, (isAgg 5).run Tryz.prog w = .ok false w := fun w => by simp [go_sem]
theorem size_u8 : (Tryz.prog.info? 5).map (·.size) = some 1 := by kernel_rfl
theorem bel_store {B : Nat} {a w w' : World} {g : Nat} (h : Below B a w) (hg : w.grownBy w' (some g)) (hs : B ≤ w.heap.size) (hB : B ≤ g) : Below B a w' := h.grown hg hs (fun k e => by cases e; exact hB)

theorem zfill0 (A : List Value) : A.take 0 ++ z10.drop 0 = z10 := by simp
theorem zfill10 {A : List Value} (h : A.length = 10) : A.take 10 ++ z10.drop 10 = A := by
  rw [List.take_of_length_le (by omega), List.drop_eq_nil_of_le (by rw [len_z10]; omega), List.append_nil]
theorem zfill_len {A : List Value} {k : Nat} (h : A.length = 10) (hk : k ≤ 10) : (A.take k ++ z10.drop k).length = 10 := by
  rw [fill_len (by rw [len_z10, h]) (by omega), h]
theorem zfill_set {p : List Nat} {k : Nat} (h : p.length = 10) (hk : k < 10) : ((pv p).take k ++ z10.drop k).set k (.int .u8 (pAt p k : Int)) = (pv p).take (k + 1) ++ z10.drop (k + 1) := by
  have hl : k < (pv p).length := by rw [length_pv, h]; exact hk
  have := fill_set (A := pv p) (R := z10) hl (by rw [len_z10, length_pv, h])
  rw [pv_get hl] at this
  exact this

theorem then_any (p q : List Nat) (w : World) (hp : IsP p) (hq : IsP q) :
    Calls Tryz.prog 101 #[.agg (pv p).toArray, .agg (pv q).toArray] w fun e w' => e = .returned (.agg (pv (thenP p q)).toArray) ∧ Below w.heap.size w w' := by
  have hlen : (thenP p q).length = 10 := by rw [len_then]; exact hp.len
  have hlen' : (pv (thenP p q)).length = 10 := by rw [length_pv]; exact hlen
  have o0 := fun A B C => (((Own.new w (pv p) 91).alloc A).alloc B).alloc C
  go_enter Tryz.func101, Tryz.ntmps101
  go_wp2_with ((with_reducible refine wl_load 91 (o0 _ _ _).cells (size_pv hp.len) Tryz.underlying91 ?_ ?_ ?_ ?_); (· rfl); (· rfl); (· rfl))
  have o1 := ((Own.new (w.alloc (.cells (pv p).toArray 91)) (pv q) 91).alloc (.cells z10.toArray 91)).alloc (.cells z10.toArray 91)
  have o2 := (Own.new ((w.alloc (.cells (pv p).toArray 91)).alloc (.cells (pv q).toArray 91)) z10 91).alloc (.cells z10.toArray 91)
  have o3 := Own.new (((w.alloc (.cells (pv p).toArray 91)).alloc (.cells (pv q).toArray 91)).alloc (.cells z10.toArray 91)) z10 91
  simp only [World.size_alloc] at o1 o2 o3
  have hb := ((((Below.refl w.heap.size w).alloc (Nat.le_refl _) (.cells (pv p).toArray 91)).alloc (by simp) (.cells (pv q).toArray 91)).alloc (by simp; omega) (.cells z10.toArray 91)).alloc (by simp; omega) (.cells z10.toArray 91)
  go_loopw [6, 7, 9] (fun _ _ i wr => ∃ k : Nat, k ≤ 10 ∧ i = .int .i64 k ∧ Own wr (w.heap.size + 1) (pv q) ∧ Own wr (w.heap.size + 1 + 1) z10 ∧ Own wr (w.heap.size + 1 + 1 + 1) ((pv (thenP p q)).take k ++ z10.drop k) ∧ Below w.heap.size w wr) (fun _ _ i _ => 10 - (intOf i).toNat)
  case atStart => exact ⟨0, by omega, rfl, o1, o2, by rw [zfill0]; exact o3, hb⟩
  case round =>
    clear o0 o1 o2 o3 hb
    obtain ⟨k, hk, rfl, o1, o2, o3, hb⟩ := hrel
    by_cases hlt : k < 10
    · have hx := hp.at_lt hlt
      have e1 := pv_at (p := p) (i := k) (by rw [hp.len]; exact hlt)
      have f1 := o1.at_ (pv_at (p := q) (i := pAt p k) (by rw [hq.len]; exact hx))
      have hl3 := zfill_len hlen' hk
      obtain ⟨x3, f3⟩ := o3.some_ (i := k) (by omega)
      have g3 := o3.free k (by omega)
      go_wp2_with ((with_reducible refine wl_index 91 e1 hlt Tryz.underlying91 agg_u8 size_u8 ?_ ?_ ?_ ?_); (· rfl); (· rfl); (· rfl))
      go_roundw
      case rel =>
        refine ⟨k + 1, by omega, by go_num, o1.far (by simp) _, o2.far (by simp) _, ?_, hb.setCell (by simp; omega) _⟩
        rw [← zfill_set hlen hlt, at_then q (by rw [hp.len]; exact hlt)]
        exact o3.set_ (by omega) _
      case measure => simp [intOf]; omega
    · have hk' : k = 10 := by omega
      subst hk'
      rw [zfill10 hlen'] at o3
      have hsz := o3.lt
      go_wp2_with (first | ((with_reducible refine wl_load 91 o3.cells (size_pv hlen) Tryz.underlying91 ?_ ?_ ?_ ?_); (· rfl); (· rfl); (· rfl)) | ((with_reducible refine wl_store 91 0 o2 (size_pv hlen) (pv_one _) (by rw [hlen', len_z10]; omega) ?_ ?_ ?_ ?_); (· rfl); (· rfl); (· rfl); intro w5 o5 b5 s5))
      rw [put_all (by rw [hlen', len_z10])] at o5
      refine bodyPost_ret (results_cell_own Tryz.results101 _ _ _ _ _ (by rfl) o5.cells Tryz.underlying91 rfl (size_pv hlen)) rfl ?_
      exact ⟨rfl, bel_store hb b5 (by omega) (by omega)⟩

theorem rotation_any (n : Nat) (w : World) (hn : n ≤ 1000) :
    Calls Tryz.prog 105 #[.int .i64 (n : Int)] w fun e w' => e = .returned (.agg (pv (rotP n)).toArray) ∧ Below w.heap.size w w' := by
  have hlen : (rotP n).length = 10 := len_rot n
  have hlen' : (pv (rotP n)).length = 10 := by rw [length_pv]; exact hlen
  go_enter Tryz.func105, Tryz.ntmps105
  go_wp2_with fail
  have o2 := (Own.new w z10 91).alloc (.cells z10.toArray 91)
  have o3 := Own.new (w.alloc (.cells z10.toArray 91)) z10 91
  simp only [World.size_alloc] at o2 o3
  have hb := ((Below.refl w.heap.size w).alloc (Nat.le_refl _) (.cells z10.toArray 91)).alloc (by simp) (.cells z10.toArray 91)
  go_loopw [4, 5] (fun _ i wr => ∃ k : Nat, k ≤ 10 ∧ i = .int .i64 k ∧ Own wr w.heap.size z10 ∧ Own wr (w.heap.size + 1) ((pv (rotP n)).take k ++ z10.drop k) ∧ Below w.heap.size w wr) (fun _ i _ => 10 - (intOf i).toNat)
  case atStart => exact ⟨0, by omega, rfl, o2, by rw [zfill0]; exact o3, hb⟩
  case round =>
    clear o2 o3 hb
    obtain ⟨k, hk, rfl, o2, o3, hb⟩ := hrel
    by_cases hlt : k < 10
    · have hl3 := zfill_len hlen' hk
      obtain ⟨x3, f3⟩ := o3.some_ (i := k) (by omega)
      have g3 := o3.free k (by omega)
      go_wp2
      go_roundw
      case rel =>
        refine ⟨k + 1, by omega, by go_num, o2.far (by simp) _, ?_, hb.setCell (by simp) _⟩
        rw [← zfill_set hlen hlt, at_rot n hlt]
        have he : (((k + n) % 10 : Nat) : Int) = ((k : Int) + n) % 10 := by omega
        rw [he]
        exact o3.set_ (by omega) _
      case measure => simp [intOf]; omega
    · have hk' : k = 10 := by omega
      subst hk'
      rw [zfill10 hlen'] at o3
      have hsz := o3.lt
      go_wp2_with (first | ((with_reducible refine wl_load 91 o3.cells (size_pv hlen) Tryz.underlying91 ?_ ?_ ?_ ?_); (· rfl); (· rfl); (· rfl)) | ((with_reducible refine wl_store 91 0 o2 (size_pv hlen) (pv_one _) (by rw [hlen', len_z10]; omega) ?_ ?_ ?_ ?_); (· rfl); (· rfl); (· rfl); intro w5 o5 b5 s5))
      rw [put_all (by rw [hlen', len_z10])] at o5
      refine bodyPost_ret (results_cell_own Tryz.results105 _ _ _ _ _ (by rfl) o5.cells Tryz.underlying91 rfl (size_pv hlen)) rfl ?_
      exact ⟨rfl, bel_store hb b5 (by omega) (by omega)⟩
end Go.Proofs.YtaplndmgbinhcaaGreat
