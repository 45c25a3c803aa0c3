/- Laws of the walk for whole arrays and structs in memory: loading, storing, indexing; their cells told by a list. -/
import Derived.Test.YtaplndmgbinhcaaGreatMem
import Derived.Deep.WholeRow
namespace Go.Proofs.YtaplndmgbinhcaaGreat
open Go.RowKit
variable {P : Program}

/-- Block g has the cells cs from offset off on. -/
def Cells (w : World) (g off : Nat) (cs : List Value) : Prop := ∀ i, i < cs.length → w.cell? ⟨g, off + i, none⟩ = cs[i]?
theorem Own.cells {w : World} {g : Nat} {cs : List Value} (h : Own w g cs) : Cells w g 0 cs := fun i hi => by rw [Nat.zero_add]; exact h.cell i hi
theorem Cells.at_ {w : World} {g off : Nat} {cs : List Value} (h : Cells w g off cs) {i : Nat} {u : Value} (hu : cs[i]? = some u) : w.cell? ⟨g, off + i, none⟩ = some u := by
  have hi : i < cs.length := by
    rcases Nat.lt_or_ge i cs.length with h1 | h1
    · exact h1
    · rw [List.getElem?_eq_none h1] at hu; cases hu
  rw [h i hi, hu]
theorem Cells.sub {w : World} {g off : Nat} {cs : List Value} (h : Cells w g off cs) (k n : Nat) (hk : k + n ≤ cs.length) : Cells w g (off + k) ((cs.drop k).take n) := fun i hi => by
  have hi' : i < n := by simp at hi; omega
  rw [Nat.add_assoc, h (k + i) (by omega), List.getElem?_take_of_lt hi', List.getElem?_drop]
theorem Cells.lt {w : World} {g off : Nat} {cs : List Value} (h : Cells w g off cs) (h0 : 0 < cs.length) : g < w.heap.size := by
  have := h 0 h0
  rw [List.getElem?_eq_getElem h0] at this
  exact block_lt_of_cell this
theorem Cells.keep {w w' : World} {g off : Nat} {cs : List Value} (h : Cells w g off cs) (hb : w'.heap[g]? = w.heap[g]?) : Cells w' g off cs := fun i hi => by rw [← h i hi]; exact World.cell?_of_block (w := w) hb
theorem Cells.below {w w' : World} {g off B : Nat} {cs : List Value} (h : Cells w g off cs) (hb : Below B w w') (hg : g < B) : Cells w' g off cs := h.keep (hb.block g hg)
theorem Cells.grown {w w' : World} {g off : Nat} {cs : List Value} {row : Option Nat} (h : Cells w g off cs) (h0 : g < w.heap.size) (hb : w.grownBy w' row) (hg : some g ≠ row) : Cells w' g off cs := h.keep (hb.block g h0 hg)
theorem Cells.drew {w : World} {g off : Nat} {cs : List Value} (h : Cells w g off cs) : Cells w.drew g off cs := h
theorem Reads.cells {w : World} {B : Nat} {a : Option Addr} {xs : List Value} (h : Reads w B a xs) (h0 : 0 < xs.length) : ∃ g off, a = some ⟨g, off, none⟩ ∧ g < B ∧ Cells w g off xs := by
  obtain ⟨b, off, ha, hb, hc⟩ := h.open_ h0
  exact ⟨b, off, ha, hb, hc⟩

theorem add_none (g off j : Nat) : (⟨g, off, none⟩ : Addr).add j = ⟨g, off + j, none⟩ := by unfold Addr.add; split <;> simp_all

/-- A type of several cells. -/
def aggD (d : TypeDesc) : Bool := match d with | .struct _ | .array _ _ => true | _ => false
theorem run_loadVar_cells (w : World) (g off : Nat) (ty : TypeId) (cs : List Value) (d : TypeDesc) (hc : Cells w g off cs)
    (hu : P.underlying ty = some d) (hd : aggD d = true) (hi : (P.info? ty).map (·.size) = some cs.length) :
    (loadVar ty ⟨g, off, none⟩).run P w = .ok (.agg cs.toArray) w := by
  have hl : (loadCells ⟨g, off, none⟩ cs.length).run P w = .ok cs.toArray w :=
    run_loadCells_list (P := P) w ⟨g, off, none⟩ cs (fun j v hv => by rw [add_none]; exact hc.at_ hv)
  cases hq : P.info? ty with
  | none => simp [hq] at hi
  | some i =>
    have hs : i.size = cs.length := by simpa [hq] using hi
    have hagg : (isAgg ty).run P w = .ok true w := by
      unfold isAgg
      rw [Sem.run_bind, run_underlying hu w]
      cases d <;> simp_all [aggD]
    simp [loadVar, Sem.run_bind, hagg, sizeOf, typeInfo, hq, hs, hl]

section
variable {ops : Array Oper} {rest : List Oper} {dst : Option Tmp} {t : TypeId} {pos : String} {after : Array Edge} {guard : Option (Nat × Bool)} {a : Act} {w : World} {Q : Exit → Act → World → Prop}
theorem wl_load (ty : TypeId) {x : Operand} {g off : Nat} {cs : List Value} {d : TypeDesc} (hc : Cells w g off cs) (hi : (P.info? ty).map (·.size) = some cs.length) (hu : P.underlying ty = some d) (hd : aggD d = true)
    (hw : Region.wanted ⟨dst, .load ty x, t, pos, after, guard⟩ (yielded ops a.tmps) = true) (hx : a.eval x = .pointer (some ⟨g, off, none⟩))
    (h : wpList P ops Q rest (a.put dst (.agg cs.toArray)) w) : wpList P ops Q (⟨dst, .load ty x, t, pos, after, guard⟩ :: rest) a w :=
  BigFrame.wpList_want hw fun _ hK => by
    unfold Oper.wp execOp
    simp only [hx, Instr.loadAt, Instr.sureAddr, Sem.run_bind, Sem.run_pure, Result.andThen_ok, run_loadVar_cells w g off ty cs d hc hu hd hi]
    exact hK _ _ h
end

/-- Some cells replaced. -/
def put (cs : List Value) (off : Nat) (vs : List Value) : List Value := cs.take off ++ vs ++ cs.drop (off + vs.length)
theorem len_put {cs vs : List Value} {off : Nat} (h : off + vs.length ≤ cs.length) : (put cs off vs).length = cs.length := by simp [put]; omega
theorem put_all {cs vs : List Value} (h : vs.length = cs.length) : put cs 0 vs = vs := by simp [put, h]

theorem grown_setCell (w : World) (g i : Nat) (u : Value) : w.grownBy (w.setCell ⟨g, i, none⟩ u) (some g) :=
  ⟨rfl, rfl, rfl, by simp [World.setCell], fun k _ hk => Below.heap_setCell w ⟨g, i, none⟩ u k (by simpa using hk)⟩
theorem grown_trans {g : Nat} {a b c : World} (h : a.grownBy b (some g)) (k : b.grownBy c (some g)) : a.grownBy c (some g) :=
  ⟨k.os.trans h.os, k.tape.trans h.tape, k.output.trans h.output, Nat.le_trans h.size k.size, fun i hi hn => (k.block i (Nat.lt_of_lt_of_le hi h.size) hn).trans (h.block i hi hn)⟩
theorem run_storeCells_own (g off : Nat) : ∀ (vs : List Value) (i : Nat) (w : World) (cs : List Value), Own w g cs → off + i + vs.length ≤ cs.length → (∀ v ∈ vs, v.oneCell' = true) →
    ∃ w', (storeCells ⟨g, off, none⟩ vs i).run P w = .ok () w' ∧ Own w' g (put cs (off + i) vs) ∧ w.grownBy w' (some g) ∧ w'.heap.size = w.heap.size
  | [], i, w, cs, h, hl, _ => ⟨w, rfl, by simpa [put] using h, World.grownBy.refl w _, rfl⟩
  | v :: vs, i, w, cs, h, hl, h1 => by
    have hi : off + i < cs.length := by simp at hl; omega
    have hst : (store ((⟨g, off, none⟩ : Addr).add i) v).run P w = .ok () (w.setCell ⟨g, off + i, none⟩ v) := by
      rw [add_none, run_store P w _ v _ (h1 v (by simp)), h.cell _ hi, List.getElem?_eq_getElem hi]
      simp [h.free _ hi]
    obtain ⟨w', hr, ho, hg, hs⟩ := run_storeCells_own g off vs (i + 1) (w.setCell ⟨g, off + i, none⟩ v) (cs.set (off + i) v) (h.set_ hi v) (by simp at hl ⊢; omega) (fun u hu => h1 u (by simp [hu]))
    refine ⟨w', by simp only [storeCells, Sem.run_bind, hst, Result.andThen_ok, hr], ?_, grown_trans (grown_setCell w g _ v) hg, by rw [hs]; simp [World.setCell]⟩
    have he : put (cs.set (off + i) v) (off + (i + 1)) vs = put cs (off + i) (v :: vs) := by
      simp only [put, List.length_cons]
      rw [show off + (i + 1) = off + i + 1 by omega, List.drop_set_of_lt (by omega), show off + i + 1 + vs.length = off + i + (vs.length + 1) by omega]
      rw [List.take_succ_eq_append_getElem (by simpa using hi), List.getElem_set_self, List.take_set_of_le (Nat.le_refl _)]
      simp
    rw [← he]; exact ho
section
variable {ops : Array Oper} {rest : List Oper} {dst : Option Tmp} {t : TypeId} {pos : String} {after : Array Edge} {guard : Option (Nat × Bool)} {a : Act} {w : World} {Q : Exit → Act → World → Prop}
theorem wl_store (ty : TypeId) {x y : Operand} {g : Nat} (off : Nat) {cs vs : List Value} (hown : Own w g cs) (hi : (P.info? ty).map (·.size) = some vs.length) (h1 : ∀ v ∈ vs, v.oneCell' = true) (hl : off + vs.length ≤ cs.length)
    (hw : Region.wanted ⟨dst, .store ty x y, t, pos, after, guard⟩ (yielded ops a.tmps) = true) (hx : a.eval x = .pointer (some ⟨g, off, none⟩)) (hy : a.eval y = .agg vs.toArray)
    (h : ∀ w', Own w' g (put cs off vs) → w.grownBy w' (some g) → w'.heap.size = w.heap.size → wpList P ops Q rest (a.put dst undef) w') : wpList P ops Q (⟨dst, .store ty x y, t, pos, after, guard⟩ :: rest) a w := by
  obtain ⟨w', hr, hown', hg, hs⟩ := run_storeCells_own (P := P) g off vs 0 w cs hown (by omega) h1
  refine BigFrame.wpList_want hw fun _ hK => ?_
  have hsv : (storeVar ty ⟨g, off, none⟩ (.agg vs.toArray)).run P w = .ok () w' := by
    cases hq : P.info? ty with
    | none => simp [hq] at hi
    | some i =>
      have hs : vs.length = i.size := by simp [hq] at hi; omega
      simp [storeVar, sizeOf, typeInfo, hq, Value.cells, hs, hr]
  unfold Oper.wp execOp
  simp only [hx, hy, Instr.storeAt, Instr.sureAddr, Sem.run_bind, Sem.run_pure, Result.andThen_ok, hsv]
  exact hK _ _ (h w' hown' hg hs)
/-- 'x := v' of a variable in memory. -/
theorem wl_box (ty : TypeId) {x : Operand} {cs : List Value} (hw : Region.wanted ⟨dst, .box ty x, t, pos, after, guard⟩ (yielded ops a.tmps) = true) (hx : a.eval x = .agg cs.toArray)
    (h : ∀ w', Own w' w.heap.size cs → Below w.heap.size w w' → w'.heap.size = w.heap.size + 1 → wpList P ops Q rest (a.put dst (.pointer (some ⟨w.heap.size, 0, none⟩))) w') : wpList P ops Q (⟨dst, .box ty x, t, pos, after, guard⟩ :: rest) a w := by
  refine BigFrame.wpList_want hw fun _ hK => ?_
  have hr := h (w.alloc (.cells cs.toArray ty)) (Own.new w cs ty) ((Below.refl _ _).alloc (Nat.le_refl _) _) (by simp)
  unfold Oper.wp execOp
  simp only [hx]
  simp [go_sem, Value.cells]
  exact hK _ _ hr
theorem wl_alloc (ty : TypeId) {cs : List Value} (hz : ∀ w, (zeroValue ty).run P w = .ok (.agg cs.toArray) w) (hw : Region.wanted ⟨dst, .alloc ty, t, pos, after, guard⟩ (yielded ops a.tmps) = true)
    (h : ∀ w', Own w' w.heap.size cs → Below w.heap.size w w' → w'.heap.size = w.heap.size + 1 → wpList P ops Q rest (a.put dst (.pointer (some ⟨w.heap.size, 0, none⟩))) w') : wpList P ops Q (⟨dst, .alloc ty, t, pos, after, guard⟩ :: rest) a w := by
  refine BigFrame.wpList_want hw fun _ hK => ?_
  have hr := h (w.alloc (.cells cs.toArray ty)) (Own.new w cs ty) ((Below.refl _ _).alloc (Nat.le_refl _) _) (by simp)
  unfold Oper.wp execOp
  simp [go_sem, Value.cells, hz]
  exact hK _ _ hr
/-- 'x[i]' of an array of one-cell elements. -/
theorem wl_index (ty : TypeId) {x y : Operand} {cs : List Value} {k n : Nat} {e : TypeId} {v : Value} (hv : cs[k]? = some v) (hn : k < n) (hu : P.underlying ty = some (.array n e)) (he : ∀ w, (isAgg e).run P w = .ok false w) (hz : (P.info? e).map (·.size) = some 1)
    (hw : Region.wanted ⟨dst, .index ty x y, t, pos, after, guard⟩ (yielded ops a.tmps) = true) (hx : a.eval x = .agg cs.toArray) (hy : a.eval y = .int .i64 (k : Int))
    (h : wpList P ops Q rest (a.put dst v) w) : wpList P ops Q (⟨dst, .index ty x y, t, pos, after, guard⟩ :: rest) a w := by
  refine BigFrame.wpList_want hw fun _ hK => ?_
  cases hq : P.info? e with
  | none => simp [hq] at hz
  | some i =>
    have hs : i.size = 1 := by simpa [hq] using hz
    unfold Oper.wp execOp
    simp only [hx, hy, Instr.index]
    simp [go_sem, run_underlying hu, hn, sizeOf, typeInfo, hq, hs, he, hv, Oper.upon]
    exact hK _ _ h
theorem wl_neq (ty : TypeId) {x y : Operand} {t2 : TypeId} {xs ys : Array Value} {r : Bool} (hq : (Op.equal ty (.agg xs) (.agg ys)).run P w = .ok r w) (hg : P.eqGuardType P.depth ty = false)
    (hw : Region.wanted ⟨dst, .binOp .neq ty x y t2, t, pos, after, guard⟩ (yielded ops a.tmps) = true) (hx : a.eval x = .agg xs) (hy : a.eval y = .agg ys)
    (h : wpList P ops Q rest (a.put dst (.bool (!r))) w) : wpList P ops Q (⟨dst, .binOp .neq ty x y t2, t, pos, after, guard⟩ :: rest) a w := by
  refine BigFrame.wpList_want hw fun _ hK => ?_
  have hgd : (eqGuard .neq ty x y (.agg xs) (.agg ys)).run P w = .ok () w := by
    have hpr : ∀ w : World, (Sem.program Sem.pure).run P w = .ok P w := fun _ => rfl
    simp [eqGuard, program, hpr, hg]
  have hb : (binOp .neq ty (.agg xs) (.agg ys)).run P w = .ok (.bool (!r)) w := by
    have he : binOp .neq ty (.agg xs) (.agg ys) = (do pure (.bool (!(← Op.equal ty (.agg xs) (.agg ys))))) := rfl
    rw [he, Sem.run_bind, hq]
    rfl
  unfold Oper.wp execOp
  simp only [hx, hy, Sem.run_bind, hgd, Result.andThen_ok, hb]
  exact hK _ _ h
theorem wl_eql (ty : TypeId) {x y : Operand} {t2 : TypeId} {xs ys : Array Value} {r : Bool} (hq : (Op.equal ty (.agg xs) (.agg ys)).run P w = .ok r w) (hg : P.eqGuardType P.depth ty = false)
    (hw : Region.wanted ⟨dst, .binOp .eql ty x y t2, t, pos, after, guard⟩ (yielded ops a.tmps) = true) (hx : a.eval x = .agg xs) (hy : a.eval y = .agg ys)
    (h : wpList P ops Q rest (a.put dst (.bool r)) w) : wpList P ops Q (⟨dst, .binOp .eql ty x y t2, t, pos, after, guard⟩ :: rest) a w := by
  refine BigFrame.wpList_want hw fun _ hK => ?_
  have hgd : (eqGuard .eql ty x y (.agg xs) (.agg ys)).run P w = .ok () w := by
    have hpr : ∀ w : World, (Sem.program Sem.pure).run P w = .ok P w := fun _ => rfl
    simp [eqGuard, program, hpr, hg]
  have hb : (binOp .eql ty (.agg xs) (.agg ys)).run P w = .ok (.bool r) w := by
    have he : binOp .eql ty (.agg xs) (.agg ys) = (do pure (.bool (← Op.equal ty (.agg xs) (.agg ys)))) := rfl
    rw [he, Sem.run_bind, hq]
    rfl
  unfold Oper.wp execOp
  simp only [hx, hy, Sem.run_bind, hgd, Result.andThen_ok, hb]
  exact hK _ _ h
end
/-- A result in a cell. -/
theorem results_cell_own {fn : Func} {p : Tmp} {ty : TypeId} (h : fn.results = #[.cell p ty]) (tmps : Array Value) (w : World) (g : Nat) (cs : List Value) (d : TypeDesc)
    (hp : tmps.getD p undef = .pointer (some ⟨g, 0, none⟩)) (hc : Cells w g 0 cs)
    (hu : P.underlying ty = some d) (hd : aggD d = true) (hi : (P.info? ty).map (·.size) = some cs.length) :
    (results fn tmps).run P w = .ok (.agg cs.toArray) w := by
  have hp' : tmps[p]?.getD undef = .pointer (some ⟨g, 0, none⟩) := by simpa using hp
  simp [results, h, hp', asAddr, run_loadVar_cells w g 0 ty cs d hc hu hd hi]
/-- Two results, the first one in a cell. -/
theorem results_cell_tmp_own {fn : Func} {p u : Tmp} {ty : TypeId} (h : fn.results = #[.cell p ty, .tmp u]) (tmps : Array Value) (w : World) (g : Nat) (cs : List Value) (d : TypeDesc) (v : Value)
    (hp : tmps.getD p undef = .pointer (some ⟨g, 0, none⟩)) (hv : tmps.getD u undef = v) (hc : Cells w g 0 cs)
    (hu : P.underlying ty = some d) (hd : aggD d = true) (hi : (P.info? ty).map (·.size) = some cs.length) :
    (results fn tmps).run P w = .ok (.tuple #[.agg cs.toArray, v]) w := by
  have hp' : tmps[p]?.getD undef = .pointer (some ⟨g, 0, none⟩) := by simpa using hp
  have hv' : tmps[u]?.getD undef = v := by simpa using hv
  simp [results, h, hp', hv', asAddr, run_loadVar_cells w g 0 ty cs d hc hu hd hi]
end Go.Proofs.YtaplndmgbinhcaaGreat
