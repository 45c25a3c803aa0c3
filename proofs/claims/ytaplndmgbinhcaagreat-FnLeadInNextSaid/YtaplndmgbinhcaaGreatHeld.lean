/- Ranges of cells, for regions that draw their order and hold whole arrays. -/
import Derived.Test.YtaplndmgbinhcaaGreatTail
import Derived.Deep.RegionHeld3
import Derived.Deep.MidRow
import Derived.Deep.DrawnRows
namespace Go.Proofs.YtaplndmgbinhcaaGreat
open Go.RowKit

theorem Cells.range {w : World} {g off : Nat} {cs : List Value} (h : Cells w g off cs) : w.rangeAt g off cs := fun _ _ hv => h.at_ hv
theorem range_cells {w : World} {g off : Nat} {cs : List Value} (h : w.rangeAt g off cs) : Cells w g off cs := fun i hi => by
  rw [h i cs[i] (List.getElem?_eq_getElem hi), List.getElem?_eq_getElem hi]
theorem Own.there_ {w : World} {g : Nat} {cs : List Value} (h : Own w g cs) {n : Nat} (hn : n ≤ cs.length) : w.there g 0 n := fun j hj => by
  have hj' : j < cs.length := by omega
  rw [Nat.zero_add]
  exact ⟨by rw [h.cell j hj', List.getElem?_eq_getElem hj']; rfl, h.free j hj'⟩
theorem range_below {w w' : World} {B g off : Nat} {cs : List Value} (h : w.rangeAt g off cs) (hb : Below B w w') (hg : g < B) : w'.rangeAt g off cs := fun j v hv => by
  rw [hb.cell (p := ⟨g, off + j, none⟩) hg]; exact h j v hv
theorem there_below {w w' : World} {B g off n : Nat} (h : w.there g off n) (hb : Below B w w') (hg : g < B) : w'.there g off n := fun j hj => by
  rw [hb.cell (p := ⟨g, off + j, none⟩) hg, hb.frozen (p := ⟨g, off + j, none⟩) hg]; exact h j hj
theorem range_lt {w : World} {g off : Nat} {cs : List Value} (h : w.rangeAt g off cs) (h0 : 0 < cs.length) : g < w.heap.size := (range_cells h).lt h0
theorem there_lt {w : World} {g off n : Nat} (h : w.there g off n) (h0 : 0 < n) : g < w.heap.size := by
  have := (h 0 h0).1
  cases e : w.cell? ⟨g, off + 0, none⟩ with
  | none => rw [e] at this; cases this
  | some v => exact block_lt_of_cell e
theorem bel_setCells {B : Nat} {a : World} (b : Nat) (hB : B ≤ b) : ∀ (vs : List Value) (o : Nat) {w : World}, Below B a w → Below B a (w.setCells b o vs)
  | [], _, _, h => h
  | v :: vs, o, _, h => bel_setCells b hB vs (o + 1) (h.setCell (p := ⟨b, o, none⟩) hB v)
theorem size_setCells (b : Nat) : ∀ (vs : List Value) (o : Nat) (w : World), (w.setCells b o vs).heap.size = w.heap.size
  | [], _, _ => rfl
  | v :: vs, o, w => (size_setCells b vs (o + 1) (w.setCell ⟨b, o, none⟩ v)).trans (by simp [World.setCell])

section
variable {P : Program} {ops : Array Oper} {Q : Exit → Act → World → Prop} {md : Region.Mode} {S : World → Prop} {fuel : Nat} {listed : Array Bool} {a : Act} {w : World}
/-- An operation that leaves a value and does nothing else is taken first. -/
theorem hr_take (i d : Nat) {oi : Oper} {v : Value} (hi : ops[i]? = some oi) (hs : Region.noSelect ops = true) (hf : Region.free md ops listed i = true) (hr : (Region.ready md ops listed).contains i = true)
    (hQ : ∀ c a w, Q (.panic c) (a.put oi.dst v) w → Q (.panic c) a w) (hd : oi.dst = some d) (hS : S w) (hy : YieldsIf P ops S oi v a)
    (h : wpAnyH P md ops Q S fuel (listed.setIfInBounds i true) (a.put (some d) v) w) : wpAnyH P md ops Q S (fuel + 1) listed a w :=
  wpAnyH_take hi hs hf hr hQ hy hS (by rw [hd]; exact h)
/-- The one operation that may come up is a call. -/
theorem hr_call (i d : Nat) {o : Oper} {f : FuncId} {args : Array Value} {v : Value} {T : World → Prop} (hr : Region.ready md ops listed = [i]) (hi : ops[i]? = some o) (hw : Region.wanted o (yielded ops a.tmps) = true)
    (hd : o.dst = some d) (he : ∀ w, (execOp a.eval o).run P w = .ok (.enter f args) w) (hc : Calls P f args w fun e w' => e = .returned v ∧ T w')
    (h : ∀ w', T w' → S w' ∧ wpAnyH P md ops Q S fuel (listed.setIfInBounds i true) (a.put (some d) v) w') : wpAnyH P md ops Q S (fuel + 1) listed a w := by
  refine wpAnyH_all hr (by simp) fun j hj => ?_
  have : j = i := by simpa using hj
  subst this
  unfold wpOp
  simp only [hi, hw, if_true, Oper.wp, he, Oper.upon]
  refine .inl (hc.mono ?_)
  rintro e w' ⟨rfl, hT⟩
  rw [hd]
  exact h w' hT
/-- The one operation that may come up stores a whole array or struct. -/
theorem hr_store (i : Nat) {o : Oper} {ty : TypeId} {x y : Operand} {b off : Nat} {cs : List Value} (hr : Region.ready md ops listed = [i]) (hi : ops[i]? = some o) (hw : Region.wanted o (yielded ops a.tmps) = true)
    (hd : o.dst = none) (ho : o.op = .store ty x y) (hx : a.eval x = .pointer (some ⟨b, off, none⟩)) (hy : a.eval y = .agg cs.toArray) (ht : w.there b off cs.length) (hz : (P.info? ty).map (·.size) = some cs.length) (h1 : ∀ v ∈ cs, v.oneCell' = true)
    (h : S (w.setCells b off cs) ∧ wpAnyH P md ops Q S fuel (listed.setIfInBounds i true) a (w.setCells b off cs)) : wpAnyH P md ops Q S (fuel + 1) listed a w := by
  refine wpAnyH_all hr (by simp) fun j hj => ?_
  have : j = i := by simpa using hj
  subst this
  unfold wpOp
  simp only [hi, hw, if_true]
  exact .inl (wp_store_mid ty x y ho b off cs.toArray hx hy (by simpa using ht) (by simpa using hz) (all_oneCell_toArray h1) (by rw [hd]; exact h))
end
end Go.Proofs.YtaplndmgbinhcaaGreat
