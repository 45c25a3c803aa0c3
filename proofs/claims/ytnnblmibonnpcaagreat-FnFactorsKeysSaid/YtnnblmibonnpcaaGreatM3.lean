/- Several of my texts in one: Tail, Held, Refl, MachV, Valid, Step, Pawls. -/
import Derived.Test.YtnnblmibonnpcaaGreatM2
import Derived.StillTail
import Derived.Deep.Quiet
import Derived.Deep.RegionHeld3
import Derived.Deep.MidRow
import Derived.Deep.DrawnRows
import Derived.IntWalk
import Derived.Lib.Bytealg
import Derived.Lib.IndexAny
import Derived.Laws.IdiomStrings
/- A region that draws its order, whose first operations read or call within a class of worlds, and whose last ones come in one forced order: one walk in the text's order serves. -/
namespace Go.Proofs.YtnnblmibonnpcaaGreat
open Go.RowKit
section
variable {P : Program} {ops : Array Oper} {md : Region.Mode} {C : World → Prop}

/-- Whatever order is picked among the first n operations; behind them L. -/
def anyHead (P : Program) (md : Region.Mode) (ops : Array Oper) (C : World → Prop) (n : Nat) (L : Array Bool → Act → Prop) : Nat → Array Bool → Act → Prop
  | 0, listed, a => L listed a
  | f + 1, listed, a => Region.ready md ops listed ≠ [] ∧ ∀ i ∈ Region.ready md ops listed, i < n ∧ qOp P ops C i (anyHead P md ops C n L f (listed.setIfInBounds i true)) a

theorem any_of_head {n g : Nat} {L : Array Bool → Act → Prop} {Q' : Exit → Act → World → Prop} (hL : ∀ listed a w, C w → L listed a → wpAny P md ops Q' g listed a w) :
    ∀ (f : Nat) (listed : Array Bool) (a : Act) (w : World), C w → anyHead P md ops C n L f listed a → wpAny P md ops Q' (f + g) listed a w
  | 0, listed, a, w, hw, h => by rw [Nat.zero_add]; exact hL _ _ _ hw h
  | f + 1, listed, a, w, hw, h => by
    rw [show f + 1 + g = (f + g) + 1 by omega]
    exact ⟨fun h0 => absurd h0 h.1, fun i hi => wpOp_of_qOp hw (fun a' w' hw' h' => any_of_head hL f _ a' w' hw' h') (h.2 i hi).2⟩

theorem anyHead_first {n i : Nat} {oi : Oper} {v : Value} {L : Array Bool → Act → Prop} (hi : ops[i]? = some oi) (hsel : ∀ (j : Nat) (o : Oper) cs b, ops[j]? = some o → o.op ≠ .select cs b)
    (hs : Region.sinkB md ops n = true) (hc : Region.chainB md ops n = true) (hn : n < ops.size) (hin : i < n)
    (hdone : ∀ listed a, L listed a → ∀ j ∈ Region.ready md ops listed, n ≤ j) :
    ∀ (f : Nat) (listed : Array Bool) (a : Act), HeadInv md ops n listed →
      (∀ j oj, ops[j]? = some oj → j ≠ i → listed.getD j true = false → (∀ e ∈ oj.after, Region.binds md e = true → e.on ≠ i) → oi.apart ops oj = true) →
      i ∈ Region.ready md ops listed → YieldsIn P ops C oi v a →
      anyHead P md ops C n L f (listed.setIfInBounds i true) (a.put oi.dst v) → anyHead P md ops C n L (f + 1) listed a := by
  intro f
  induction f with
  | zero =>
    intro listed a inv _ hr hy H
    have hun := (mem_ready.1 hr).1
    refine ⟨fun h => (by rw [h] at hr; cases hr), fun j hj => ?_⟩
    have hjn : j < n := by
      rcases Nat.lt_or_ge j n with h | h
      · exact h
      · exact absurd hj (tail_waits hs hc hn inv _ i rfl hin hun j h)
    refine ⟨hjn, ?_⟩
    by_cases hji : j = i
    · subst hji; exact hy.qOp hi H
    · have := hdone _ _ H j (ready_mono hj hji)
      omega
  | succ f ih =>
    intro listed a inv hfree hr hy H
    have hun := (mem_ready.1 hr).1
    refine ⟨fun h => (by rw [h] at hr; cases hr), fun j hj => ?_⟩
    have hjn : j < n := by
      rcases Nat.lt_or_ge j n with h | h
      · exact h
      · exact absurd hj (tail_waits hs hc hn inv _ i rfl hin hun j h)
    refine ⟨hjn, ?_⟩
    by_cases hji : j = i
    · subst hji; exact hy.qOp hi H
    · have h1 := (H.2 j (ready_mono hj hji)).2
      obtain ⟨hjun, oj, hoj, hall⟩ := mem_ready.1 hj
      have hnot : ∀ e ∈ oj.after, Region.binds md e = true → e.on ≠ i := fun e he hb heq => by
        have h1 := hall e he hb
        rw [heq, getD_both hun] at h1
        cases h1
      have h2 := qOp_put hoj (hfree j oj hoj hji hjun hnot) (fun cs b => hsel i oi cs b hi) (fun cs b => hsel j oj cs b hoj) hy h1
      have hfree' : ∀ k ok, ops[k]? = some ok → k ≠ i → (listed.setIfInBounds j true).getD k true = false →
          (∀ e ∈ ok.after, Region.binds md e = true → e.on ≠ i) → oi.apart ops ok = true := fun k ok hk hki hun hno => by
        refine hfree k ok hk hki ?_ hno
        by_cases hjk : j = k
        · subst hjk; exact hjun
        · rw [getD_set_ne true hjk] at hun; exact hun
      refine qOp_mono (fun a' h3 => ih (listed.setIfInBounds j true) a' (inv.set hj hjn) hfree' (ready_mono hr (Ne.symm hji)) h3.1 ?_) h2
      rw [Array.setIfInBounds_comm _ _ hji]
      exact h3.2

theorem anyHead_lex {n g : Nat} {Lq : Act → Prop} (hsel : Region.noSelect ops = true) (hs : Region.sinkB md ops n = true) (hc : Region.chainB md ops n = true) (hn : n < ops.size) :
    ∀ (l : List Oper) (k : Nat) (listed : Array Bool) (a : Act), (∀ j, j < l.length → l[j]? = ops[k + j]?) → k + l.length = n → HeadInv md ops n listed →
    Region.lexHead md ops g l.length k listed = true → wpQuiet P ops C Lq l a →
    anyHead P md ops C n (fun listed' a' => Region.seqB md ops g n listed' = true ∧ Lq a') l.length listed a
  | [], k, listed, a, _, hk, _, hB, h => by
    have : k = n := by simpa using hk
    subst this
    exact ⟨by simpa [Region.lexHead] using hB, h⟩
  | o :: l, k, listed, a, hl, hk, inv, hB, h => by
    have h0 : ops[k]? = some o := by simpa using (hl 0 (by simp)).symm
    simp only [List.length_cons, Region.lexHead, Bool.and_eq_true] at hB
    obtain ⟨⟨hr, hf⟩, hB'⟩ := hB
    have hkn : k < n := by simp only [List.length_cons] at hk; omega
    have hr' : k ∈ Region.ready md ops listed := by simpa using hr
    have hst : qOp P ops C k (wpQuiet P ops C Lq l) a := by unfold qOp; simp only [h0]; exact h
    obtain ⟨v, hy, hK⟩ := yieldsIn_of_qOp h0 hst
    exact anyHead_first h0 (Region.noSelect_spec hsel) hs hc hn hkn (fun listed' a' hL => seqB_ready hL.1) l.length listed a inv (Region.free_spec h0 hf) hr' hy
      (anyHead_lex hsel hs hc hn l (k + 1) _ _ (fun j hj => by have := hl (j + 1) (by simp; omega); simpa [Nat.add_assoc, Nat.add_comm 1 j] using this) (by simp only [List.length_cons] at hk; omega) (inv.set hr' hkn) hB' hK)

/-- The law. -/
theorem wp_region_cls_tail {id : Nat} {Q : Exit → Act → World → Prop} {a : Act} {w : World} {l : List Oper} (n : Nat) (hm : P.follows .mixedOrders = true) (hB : Region.lexTailB .any l.toArray n = true)
    (h : wpQuiet P l.toArray (fun w' => ∃ c : Cls w.heap.size w, w' = c.w) (fun a' => ∀ w', Below w.heap.size w w' → wpList P l.toArray Q (l.drop n) a' w') (l.take n) a) : (Code.region id l.toArray true).wp P Q a w := by
  simp only [Region.lexTailB, Bool.and_eq_true, decide_eq_true_eq] at hB
  obtain ⟨⟨⟨⟨hsel, hn⟩, hs⟩, hc⟩, hlex⟩ := hB
  have hn' : n < l.length := by simpa using hn
  have htl : (l.take n).length = n := by simp; omega
  have hdl : (l.drop n).length = l.toArray.size - n := by simp
  have inv0 : HeadInv .any l.toArray n (Array.replicate l.toArray.size false) :=
    ⟨by simp, fun j oj _ hl => (by rw [getD_replicate_false] at hl; cases hl), fun t _ ht => getD_in (by simpa using ht) (getD_replicate_false _ _)⟩
  have H := anyHead_lex (md := .any) (g := l.toArray.size - n) hsel hs hc hn (l.take n) 0 _ a (fun j hj => by
    have hj' : j < n := by rw [htl] at hj; exact hj
    simp [hj']) (by simpa using htl) inv0 (by rw [htl]; exact hlex) h
  refine wp_region_any hm ?_
  have := any_of_head (Q' := Q) (g := l.toArray.size - n) (C := fun w' => ∃ c : Cls w.heap.size w, w' = c.w) (fun listed a' w' hw' hL => by
    obtain ⟨c, rfl⟩ := hw'
    have := wpAny_of_seq (md := .any) (Q' := Q) (l.drop n) n listed a' c.w (fun j => by simp [List.getElem?_drop]) (by rw [hdl]; exact hL.1) (hL.2 _ c.bel)
    rwa [hdl] at this) _ _ _ { w with drawn := w.drawn + 1 } ⟨⟨{ w with drawn := w.drawn + 1 }, (Below.refl _ _).drew⟩, rfl⟩ H
  rw [htl, show n + (l.toArray.size - n) = l.toArray.size by omega] at this
  exact this
section
variable {rest : List Oper} {dst : Option Tmp} {t : TypeId} {pos : String} {after : Array Edge} {guard : Option (Nat × Bool)} {a : Act} {w : World} {B : Nat} {Q : Act → Prop}
/-- A whole array or struct is loaded, in such a region. -/
theorem wq_load (ty : TypeId) {x : Operand} {g off : Nat} {cs : List Value} {d : TypeDesc} (hc : Cells w g off cs) (hB : g < B) (hi : (P.info? ty).map (·.size) = some cs.length) (hu : P.underlying ty = some d) (hd : aggD d = true)
    (hw : Region.wanted ⟨dst, .load ty x, t, pos, after, guard⟩ (yielded ops a.tmps) = true) (hx : a.eval x = .pointer (some ⟨g, off, none⟩))
    (h : wpQuiet P ops (fun w' => ∃ c : Cls B w, w' = c.w) Q rest (a.put dst (.agg cs.toArray))) : wpQuiet P ops (fun w' => ∃ c : Cls B w, w' = c.w) Q (⟨dst, .load ty x, t, pos, after, guard⟩ :: rest) a := by
  refine wpQuiet_step fun K hK => ?_
  rw [if_pos hw]
  refine ⟨.agg cs.toArray, fun w' hw' => ?_, hK _ h⟩
  obtain ⟨c, rfl⟩ := hw'
  have hc' : Cells c.w g off cs := hc.below c.bel hB
  unfold Oper.quietAt execOp
  simp only [hx, Instr.loadAt, Instr.sureAddr, Sem.run_bind, Sem.run_pure, Result.andThen_ok, run_loadVar_cells c.w g off ty cs d hc' hu hd hi]
  exact ⟨rfl, rfl⟩
end
end
end Go.Proofs.YtnnblmibonnpcaaGreat

/- Ranges of cells, for regions that draw their order and hold whole arrays. -/
namespace Go.Proofs.YtnnblmibonnpcaaGreat
open Go.RowKit

theorem Cells.range {w : World} {g off : Nat} {cs : List Value} (h : Cells w g off cs) : w.rangeAt g off cs := fun _ _ hv => h.at_ hv
theorem range_cells {w : World} {g off : Nat} {cs : List Value} (h : w.rangeAt g off cs) : Cells w g off cs := fun i hi => by
  rw [h i cs[i] (List.getElem?_eq_getElem hi), List.getElem?_eq_getElem hi]
theorem Own.there_ {w : World} {g : Nat} {cs : List Value} (h : Own w g cs) {n : Nat} (hn : n ≤ cs.length) : w.there g 0 n := fun j hj => by
  have hj' : j < cs.length := by omega
  rw [Nat.zero_add]
  exact ⟨by rw [h.cell j hj', List.getElem?_eq_getElem hj']; rfl, h.free j hj'⟩
theorem range_below {w w' : World} {B g off : Nat} {cs : List Value} (h : w.rangeAt g off cs) (hb : Below B w w') (hg : g < B) : w'.rangeAt g off cs := fun j v hv => by
  rw [hb.cell (p := ⟨g, off + j, none⟩) hg]; exact h j v hv
theorem there_below {w w' : World} {B g off n : Nat} (h : w.there g off n) (hb : Below B w w') (hg : g < B) : w'.there g off n := fun j hj => by
  rw [hb.cell (p := ⟨g, off + j, none⟩) hg, hb.frozen (p := ⟨g, off + j, none⟩) hg]; exact h j hj
theorem range_lt {w : World} {g off : Nat} {cs : List Value} (h : w.rangeAt g off cs) (h0 : 0 < cs.length) : g < w.heap.size := (range_cells h).lt h0
theorem there_lt {w : World} {g off n : Nat} (h : w.there g off n) (h0 : 0 < n) : g < w.heap.size := by
  have := (h 0 h0).1
  cases e : w.cell? ⟨g, off + 0, none⟩ with
  | none => rw [e] at this; cases this
  | some v => exact block_lt_of_cell e
theorem bel_setCells {B : Nat} {a : World} (b : Nat) (hB : B ≤ b) : ∀ (vs : List Value) (o : Nat) {w : World}, Below B a w → Below B a (w.setCells b o vs)
  | [], _, _, h => h
  | v :: vs, o, _, h => bel_setCells b hB vs (o + 1) (h.setCell (p := ⟨b, o, none⟩) hB v)
theorem size_setCells (b : Nat) : ∀ (vs : List Value) (o : Nat) (w : World), (w.setCells b o vs).heap.size = w.heap.size
  | [], _, _ => rfl
  | v :: vs, o, w => (size_setCells b vs (o + 1) (w.setCell ⟨b, o, none⟩ v)).trans (by simp [World.setCell])

section
variable {P : Program} {ops : Array Oper} {Q : Exit → Act → World → Prop} {md : Region.Mode} {S : World → Prop} {fuel : Nat} {listed : Array Bool} {a : Act} {w : World}
/-- An operation that leaves a value and does nothing else is taken first. -/
theorem hr_take (i d : Nat) {oi : Oper} {v : Value} (hi : ops[i]? = some oi) (hs : Region.noSelect ops = true) (hf : Region.free md ops listed i = true) (hr : (Region.ready md ops listed).contains i = true)
    (hQ : ∀ c a w, Q (.panic c) (a.put oi.dst v) w → Q (.panic c) a w) (hd : oi.dst = some d) (hS : S w) (hy : YieldsIf P ops S oi v a)
    (h : wpAnyH P md ops Q S fuel (listed.setIfInBounds i true) (a.put (some d) v) w) : wpAnyH P md ops Q S (fuel + 1) listed a w :=
  wpAnyH_take hi hs hf hr hQ hy hS (by rw [hd]; exact h)
/-- The one operation that may come up is a call. -/
theorem hr_call (i d : Nat) {o : Oper} {f : FuncId} {args : Array Value} {v : Value} {T : World → Prop} (hr : Region.ready md ops listed = [i]) (hi : ops[i]? = some o) (hw : Region.wanted o (yielded ops a.tmps) = true)
    (hd : o.dst = some d) (he : ∀ w, (execOp a.eval o).run P w = .ok (.enter f args) w) (hc : Calls P f args w fun e w' => e = .returned v ∧ T w')
    (h : ∀ w', T w' → S w' ∧ wpAnyH P md ops Q S fuel (listed.setIfInBounds i true) (a.put (some d) v) w') : wpAnyH P md ops Q S (fuel + 1) listed a w := by
  refine wpAnyH_all hr (by simp) fun j hj => ?_
  have : j = i := by simpa using hj
  subst this
  unfold wpOp
  simp only [hi, hw, if_true, Oper.wp, he, Oper.upon]
  refine .inl (hc.mono ?_)
  rintro e w' ⟨rfl, hT⟩
  rw [hd]
  exact h w' hT
/-- The one operation that may come up stores a whole array or struct. -/
theorem hr_store (i : Nat) {o : Oper} {ty : TypeId} {x y : Operand} {b off : Nat} {cs : List Value} (hr : Region.ready md ops listed = [i]) (hi : ops[i]? = some o) (hw : Region.wanted o (yielded ops a.tmps) = true)
    (hd : o.dst = none) (ho : o.op = .store ty x y) (hx : a.eval x = .pointer (some ⟨b, off, none⟩)) (hy : a.eval y = .agg cs.toArray) (ht : w.there b off cs.length) (hz : (P.info? ty).map (·.size) = some cs.length) (h1 : ∀ v ∈ cs, v.oneCell' = true)
    (h : S (w.setCells b off cs) ∧ wpAnyH P md ops Q S fuel (listed.setIfInBounds i true) a (w.setCells b off cs)) : wpAnyH P md ops Q S (fuel + 1) listed a w := by
  refine wpAnyH_all hr (by simp) fun j hj => ?_
  have : j = i := by simpa using hj
  subst this
  unfold wpOp
  simp only [hi, hw, if_true]
  exact .inl (wp_store_mid ty x y ho b off cs.toArray hx hy (by simpa using ht) (by simpa using hz) (all_oneCell_toArray h1) (by rw [hd]; exact h))
end
end Go.Proofs.YtnnblmibonnpcaaGreat

/- Contracts of reflectorOf and of what asks whether words are plugboards or reflectors. -/
namespace Go.Proofs.YtnnblmibonnpcaaGreat
open Go.RowKit

theorem ten {α : Type} {l : List α} (h : l.length = 10) : ∃ x0 x1 x2 x3 x4 x5 x6 x7 x8 x9, l = [x0, x1, x2, x3, x4, x5, x6, x7, x8, x9] := by
  match l, h with
  | [x0, x1, x2, x3, x4, x5, x6, x7, x8, x9], _ => exact ⟨x0, x1, x2, x3, x4, x5, x6, x7, x8, x9, rfl⟩

set_option maxRecDepth 100000 in
theorem reflectorOf_any (s : ByteArray) (w : World) (hs : s.size ≤ 4294967296) :
    Calls Tryz.prog 26 #[.string s] w fun e w' => e = .returned (.tuple #[.agg (permC (plugB s) s).toArray, .bool (reflB s)]) ∧ Below w.heap.size w w' := by
  have o0 : Own (w.alloc (.cells #[.int .u8 0, .int .u8 0, .int .u8 0, .int .u8 0, .int .u8 0, .int .u8 0, .int .u8 0, .int .u8 0, .int .u8 0, .int .u8 0] 42)) w.heap.size z10 := Own.new w z10 42
  go_enter Tryz.func26, Tryz.ntmps26
  go_wp2_with fail
  refine (plugsOf_any s _ hs).mono ?_
  rintro e w1 ⟨rfl, hb1⟩
  have o1 : Own (w1.alloc (.cells #[.int .u8 0, .int .u8 0, .int .u8 0, .int .u8 0, .int .u8 0, .int .u8 0, .int .u8 0, .int .u8 0, .int .u8 0, .int .u8 0] 42)) w1.heap.size z10 := Own.new w1 z10 42
  have hz1 := hb1.size
  simp only [World.size_alloc] at hz1
  have o01 := (o0.below hb1 o0.lt).alloc (.cells #[.int .u8 0, .int .u8 0, .int .u8 0, .int .u8 0, .int .u8 0, .int .u8 0, .int .u8 0, .int .u8 0, .int .u8 0, .int .u8 0] 42)
  have hbw := (bt ((Below.refl _ _).alloc (Nat.le_refl _) _) hb1).alloc (by omega) (.cells #[.int .u8 0, .int .u8 0, .int .u8 0, .int .u8 0, .int .u8 0, .int .u8 0, .int .u8 0, .int .u8 0, .int .u8 0, .int .u8 0] 42)
  have hpl : plugB s = true → permB s = true := plugB_perm
  have hsz := size_permC hpl
  have h1 := one_permC (plugB s) s
  have hcl := len_permC hpl
  generalize hcs : permC (plugB s) s = cs at *
  go_wp2_with ((with_reducible refine wl_store 42 0 o1 hsz h1 (by rw [hcl, len_z10]; omega) ?_ ?_ ?_ ?_); (· rfl); (· rfl); (· rfl); intro w2 o2 b2 s2)
  rw [put_z10 hcl] at o2
  simp only [World.size_alloc] at s2
  have o02 := o01.grown b2 (by simp; omega)
  have hbw2 := bel_store hbw b2 (by simp; omega) (by omega)
  have o2r := o2.cells.range
  have o0t : w2.there w.heap.size 0 cs.length := o02.there_ (by rw [hcl, len_z10]; omega)
  have l1 := o2.lt
  have l0 := o02.lt
  refine wp_region_held (S := fun w' => w'.rangeAt w1.heap.size 0 cs ∧ w'.there w.heap.size 0 cs.length ∧ w2.heap.size ≤ w'.heap.size ∧ Below w.heap.size w w') (by kernel_rfl) ?_
  generalize hw3 : ({ w2 with drawn := w2.drawn + 1 } : World) = w3
  have hS : w3.rangeAt w1.heap.size 0 cs ∧ w3.there w.heap.size 0 cs.length ∧ w2.heap.size ≤ w3.heap.size ∧ Below w.heap.size w w3 := by subst hw3; exact ⟨o2r, o0t, Nat.le_refl _, hbw2.drew⟩
  clear hw3
  refine hr_take 0 11 rfl (by kernel_rfl) (by kernel_rfl) (by kernel_rfl) (fun _ _ _ h => h) rfl hS (yieldsIf_load_mid (by rfl) _ _ rfl _ _ rfl _ _ (fun _ h => h.1) Tryz.underlying42 rfl hsz) ?_; simp only [Act.put, List.setIfInBounds_toArray, List.set_cons_succ, List.set_cons_zero]
  refine hr_take 1 12 (v := .bool (plugB s)) rfl (by kernel_rfl) (by kernel_rfl) (by kernel_rfl) (fun _ _ _ h => h) rfl hS (Or.inl ⟨by rfl, fun _ _ => rfl⟩) ?_; simp only [Act.put, List.setIfInBounds_toArray, List.set_cons_succ, List.set_cons_zero]
  refine hr_take 2 13 (v := .bool (plugB s)) rfl (by kernel_rfl) (by kernel_rfl) (by kernel_rfl) (fun _ _ _ h => h) rfl hS (Or.inl ⟨by rfl, fun _ _ => rfl⟩) ?_; simp only [Act.put, List.setIfInBounds_toArray, List.set_cons_succ, List.set_cons_zero]
  cases hp : plugB s
  · refine hr_take 3 14 (v := undef) rfl (by kernel_rfl) (by kernel_rfl) (by kernel_rfl) (fun _ _ _ h => h) rfl hS (Or.inr ⟨by rfl, rfl⟩) ?_; simp only [Act.put, List.setIfInBounds_toArray, List.set_cons_succ, List.set_cons_zero]
    refine hr_take 4 15 (v := undef) rfl (by kernel_rfl) (by kernel_rfl) (by kernel_rfl) (fun _ _ _ h => h) rfl hS (Or.inr ⟨by rfl, rfl⟩) ?_; simp only [Act.put, List.setIfInBounds_toArray, List.set_cons_succ, List.set_cons_zero]
    refine hr_take 5 16 (v := undef) rfl (by kernel_rfl) (by kernel_rfl) (by kernel_rfl) (fun _ _ _ h => h) rfl hS (Or.inr ⟨by rfl, rfl⟩) ?_; simp only [Act.put, List.setIfInBounds_toArray, List.set_cons_succ, List.set_cons_zero]
    refine hr_take 6 17 (v := .bool false) rfl (by kernel_rfl) (by kernel_rfl) (by kernel_rfl) (fun _ _ _ h => h) rfl hS (Or.inl ⟨by rfl, fun _ _ => rfl⟩) ?_; simp only [Act.put, List.setIfInBounds_toArray, List.set_cons_succ, List.set_cons_zero]
    refine hr_store 7 (by kernel_rfl) rfl (by rfl) rfl rfl rfl rfl hS.2.1 hsz h1 ?_
    have hS' : (w3.setCells w.heap.size 0 cs).rangeAt w1.heap.size 0 cs ∧ (w3.setCells w.heap.size 0 cs).there w.heap.size 0 cs.length ∧ w2.heap.size ≤ (w3.setCells w.heap.size 0 cs).heap.size ∧ Below w.heap.size w (w3.setCells w.heap.size 0 cs) :=
      ⟨World.rangeAt_setCells_apart hS.1 _ _ _ (.inl (by omega)), World.there_setCells hS.2.1 _ _ _, by rw [size_setCells]; exact hS.2.2.1, bel_setCells _ (Nat.le_refl _) _ _ hS.2.2.2⟩
    have ho := range_cells (World.rangeAt_setCells_same w3 w.heap.size 0 cs hS.2.1)
    refine ⟨hS', ?_⟩
    clear hS
    have hS := hS'
    refine hr_take 8 3 (v := .bool false) rfl (by kernel_rfl) (by kernel_rfl) (by kernel_rfl) (fun _ _ _ h => h) rfl hS (Or.inl ⟨by rfl, fun _ _ => rfl⟩) ?_; simp only [Act.put, List.setIfInBounds_toArray, List.set_cons_succ, List.set_cons_zero]
    refine wpAnyH_done (by kernel_rfl) ?_ _
    go_wp2
    refine bodyPost_ret (results_cell_tmp_own Tryz.results26 _ _ _ _ _ _ (by rfl) (by rfl) ho Tryz.underlying42 rfl hsz) rfl ?_
    exact ⟨ret_ab hcs.symm (by simp [reflB, hp]), hS.2.2.2⟩
  · have hP := permB_isP (plugB_perm hp)
    rw [hp, permC_yes] at hcs
    subst hcs
    refine hr_take 3 14 rfl (by kernel_rfl) (by kernel_rfl) (by kernel_rfl) (fun _ _ _ h => h) rfl hS (yieldsIf_load_mid (by rfl) _ _ rfl _ _ rfl _ _ (fun _ h => h.1) Tryz.underlying42 rfl hsz) ?_; simp only [Act.put, List.setIfInBounds_toArray, List.set_cons_succ, List.set_cons_zero]
    refine hr_call 4 15 (by kernel_rfl) rfl (by rfl) rfl (fun _ => by simp [go_sem]) (pairs_any (dg s) w3 hP) ?_
    intro w4 hb4
    have hS' : w4.rangeAt w1.heap.size 0 (pv (dg s)) ∧ w4.there w.heap.size 0 (pv (dg s)).length ∧ w2.heap.size ≤ w4.heap.size ∧ Below w.heap.size w w4 :=
      ⟨range_below hS.1 hb4 (by omega), there_below hS.2.1 hb4 (by omega), by have := hb4.size; omega, bt hS.2.2.2 hb4⟩
    refine ⟨hS', ?_⟩
    clear hS hb4
    have hS := hS'
    simp only [Act.put, List.setIfInBounds_toArray, List.set_cons_succ, List.set_cons_zero]
    refine hr_take 5 16 (v := .bool (((movedN (dg s) / 2 : Nat) : Int) == 5)) rfl (by kernel_rfl) (by kernel_rfl) (by kernel_rfl) (fun _ _ _ h => h) rfl hS (Or.inl ⟨by rfl, fun _ _ => rfl⟩) ?_; simp only [Act.put, List.setIfInBounds_toArray, List.set_cons_succ, List.set_cons_zero]
    refine hr_take 6 17 (v := .bool (((movedN (dg s) / 2 : Nat) : Int) == 5)) rfl (by kernel_rfl) (by kernel_rfl) (by kernel_rfl) (fun _ _ _ h => h) rfl hS (Or.inl ⟨by rfl, fun _ _ => rfl⟩) ?_; simp only [Act.put, List.setIfInBounds_toArray, List.set_cons_succ, List.set_cons_zero]
    refine hr_store 7 (by kernel_rfl) rfl (by rfl) rfl rfl rfl rfl hS.2.1 hsz h1 ?_
    have hT : (w4.setCells w.heap.size 0 (pv (dg s))).rangeAt w1.heap.size 0 (pv (dg s)) ∧ (w4.setCells w.heap.size 0 (pv (dg s))).there w.heap.size 0 (pv (dg s)).length ∧ w2.heap.size ≤ (w4.setCells w.heap.size 0 (pv (dg s))).heap.size ∧ Below w.heap.size w (w4.setCells w.heap.size 0 (pv (dg s))) :=
      ⟨World.rangeAt_setCells_apart hS.1 _ _ _ (.inl (by omega)), World.there_setCells hS.2.1 _ _ _, by rw [size_setCells]; exact hS.2.2.1, bel_setCells _ (Nat.le_refl _) _ _ hS.2.2.2⟩
    have ho := range_cells (World.rangeAt_setCells_same w4 w.heap.size 0 (pv (dg s)) hS.2.1)
    refine ⟨hT, ?_⟩
    clear hS
    have hS := hT
    refine hr_take 8 3 (v := .bool (((movedN (dg s) / 2 : Nat) : Int) == 5)) rfl (by kernel_rfl) (by kernel_rfl) (by kernel_rfl) (fun _ _ _ h => h) rfl hS (Or.inl ⟨by rfl, fun _ _ => rfl⟩) ?_; simp only [Act.put, List.setIfInBounds_toArray, List.set_cons_succ, List.set_cons_zero]
    refine wpAnyH_done (by kernel_rfl) ?_ _
    go_wp2
    refine bodyPost_ret (results_cell_tmp_own Tryz.results26 _ _ _ _ _ _ (by rfl) (by rfl) ho Tryz.underlying42 rfl hsz) rfl ?_
    refine ⟨ret_ab (by rw [hp]; rfl) ?_, hS.2.2.2⟩
    simp only [reflB, hp, Bool.true_and]
    rw [Bool.eq_iff_iff, beq_iff_eq, decide_eq_true_iff]; omega

theorem implPlugsValid_any (s : ByteArray) (w : World) (hs : s.size ≤ 4294967296) :
    Calls Tryz.prog 62 #[.string s] w fun e w' => e = .returned (.bool (plugB s)) ∧ Below w.heap.size w w' := by
  go_enter Tryz.func62, Tryz.ntmps62
  go_wp2_with fail
  refine (plugsOf_any s w hs).mono ?_
  rintro e w1 ⟨rfl, hb1⟩
  generalize hc : permC (plugB s) s = cs
  have hl : cs.length = 10 := by rw [← hc]; exact len_permC plugB_perm
  have o1 : Own (w1.alloc (.cells #[.int .u8 0, .int .u8 0, .int .u8 0, .int .u8 0, .int .u8 0, .int .u8 0, .int .u8 0, .int .u8 0, .int .u8 0, .int .u8 0] 42)) w1.heap.size z10 := Own.new w1 z10 42
  go_wp2_with (first | ((with_reducible refine wl_store 42 0 o1 (by rw [hl]; exact size_perm) (by rw [← hc]; exact one_permC _ _) (by rw [hl, len_z10]; omega) ?_ ?_ ?_ ?_); (· rfl); (· rfl); (· rfl); intro w5 o5 b5 s5))
  go_ret
  exact ⟨rfl, bel_store (hb1.alloc hb1.size _) b5 (by have := hb1.size; simp; omega) hb1.size⟩
theorem implReflectorValid_any (s : ByteArray) (w : World) (hs : s.size ≤ 4294967296) :
    Calls Tryz.prog 27 #[.string s] w fun e w' => e = .returned (.bool (reflB s)) ∧ Below w.heap.size w w' := by
  go_enter Tryz.func27, Tryz.ntmps27
  go_wp2_with fail
  refine (reflectorOf_any s w hs).mono ?_
  rintro e w1 ⟨rfl, hb1⟩
  generalize hc : permC (plugB s) s = cs
  have hl : cs.length = 10 := by rw [← hc]; exact len_permC plugB_perm
  have o1 : Own (w1.alloc (.cells #[.int .u8 0, .int .u8 0, .int .u8 0, .int .u8 0, .int .u8 0, .int .u8 0, .int .u8 0, .int .u8 0, .int .u8 0, .int .u8 0] 42)) w1.heap.size z10 := Own.new w1 z10 42
  go_wp2_with (first | ((with_reducible refine wl_store 42 0 o1 (by rw [hl]; exact size_perm) (by rw [← hc]; exact one_permC _ _) (by rw [hl, len_z10]; omega) ?_ ?_ ?_ ?_); (· rfl); (· rfl); (· rfl); intro w5 o5 b5 s5))
  go_ret
  exact ⟨rfl, bel_store (hb1.alloc hb1.size _) b5 (by have := hb1.size; simp; omega) hb1.size⟩
end Go.Proofs.YtnnblmibonnpcaaGreat

/- Rotors, wheels and machines as values and in memory. -/
namespace Go.Proofs.YtnnblmibonnpcaaGreat
open Go.RowKit

/-- The cells of a rotor. -/
def rv (r : Rot) : List Value := [.string r.wiring, .string r.notches]
/-- The cells of some rotors. -/
def rvs : List Rot → List Value
  | [] => []
  | r :: rs => .string r.wiring :: .string r.notches :: rvs rs
theorem len_rvs : ∀ rs : List Rot, (rvs rs).length = 2 * rs.length
  | [] => rfl
  | r :: rs => by simp only [rvs, List.length_cons, len_rvs rs]; omega
theorem rvs_sub : ∀ (rs : List Rot) (i : Nat) (h : i < rs.length), ((rvs rs).drop (2 * i)).take 2 = rv rs[i]
  | r :: rs, 0, _ => by simp [rvs, rv]
  | r :: rs, i + 1, h => by
    have h' : i < rs.length := by simpa using h
    rw [show 2 * (i + 1) = 2 * i + 1 + 1 by omega]
    simp only [rvs, List.drop_succ_cons, List.getElem_cons_succ]
    exact rvs_sub rs i h'
theorem rvs_at0 (rs : List Rot) (i : Nat) (h : i < rs.length) : (rvs rs)[2 * i]? = some (.string rs[i].wiring) := by
  have := congrArg (fun l => l[0]?) (rvs_sub rs i h)
  simpa [rv] using this
theorem rvs_at1 (rs : List Rot) (i : Nat) (h : i < rs.length) : (rvs rs)[2 * i + 1]? = some (.string rs[i].notches) := by
  have := congrArg (fun l => l[1]?) (rvs_sub rs i h)
  simpa [rv] using this
theorem rvs_append : ∀ a b : List Rot, rvs (a ++ b) = rvs a ++ rvs b
  | [], _ => rfl
  | r :: a, b => by simp [rvs, rvs_append a b]

/-- The strings of a rotor are not too long. -/
def SzR (r : Rot) : Prop := r.wiring.size ≤ 4294967296 ∧ r.notches.size ≤ 4294967296
/-- Wheels in memory: the slice at a, with n rotors, below block B. -/
structure WhlAt (w : World) (B : Nat) (a : Option Addr) (n : Nat) (x : Whl) : Prop where
  reads : Reads w B a (rvs x.rotors)
  len : n = x.rotors.length
  few : x.rotors.length ≤ 1048576
  rot : ∀ r ∈ x.rotors, SzR r
  refl : x.refl.size ≤ 4294967296
theorem WhlAt.below {w w' : World} {B C : Nat} {a : Option Addr} {n : Nat} {x : Whl} (h : WhlAt w B a n x) (hb : Below C w w') (hC : B ≤ C) : WhlAt w' B a n x :=
  ⟨h.reads.below hb hC, h.len, h.few, h.rot, h.refl⟩
theorem WhlAt.keep {w w' : World} {B : Nat} {a : Option Addr} {n : Nat} {x : Whl} (h : WhlAt w B a n x) (hk : ∀ p : Addr, p.block < B → w'.cell? p = w.cell? p) : WhlAt w' B a n x :=
  ⟨h.reads.keep hk, h.len, h.few, h.rot, h.refl⟩
theorem WhlAt.more {w : World} {B C : Nat} {a : Option Addr} {n : Nat} {x : Whl} (h : WhlAt w B a n x) (hC : B ≤ C) : WhlAt w C a n x :=
  ⟨h.reads.more hC, h.len, h.few, h.rot, h.refl⟩
theorem WhlAt.alloc {w : World} {B : Nat} {a : Option Addr} {n : Nat} {x : Whl} (h : WhlAt w B a n x) (hB : B ≤ w.heap.size) (o : Obj) : WhlAt (w.alloc o) B a n x :=
  h.keep fun p hp => World.cell?_alloc_lt w o p (by omega)
/-- A machine in memory. -/
structure MachAt (w : World) (B : Nat) (a : Option Addr) (n : Nat) (m : Mach) : Prop where
  whl : WhlAt w B a n m.wheels
  rings : m.rings.size ≤ 4294967296
  plugs : m.plugs.size ≤ 4294967296
theorem MachAt.below {w w' : World} {B C : Nat} {a : Option Addr} {n : Nat} {m : Mach} (h : MachAt w B a n m) (hb : Below C w w') (hC : B ≤ C) : MachAt w' B a n m :=
  ⟨h.whl.below hb hC, h.rings, h.plugs⟩
theorem MachAt.keep {w w' : World} {B : Nat} {a : Option Addr} {n : Nat} {m : Mach} (h : MachAt w B a n m) (hk : ∀ p : Addr, p.block < B → w'.cell? p = w.cell? p) : MachAt w' B a n m :=
  ⟨h.whl.keep hk, h.rings, h.plugs⟩
theorem MachAt.more {w : World} {B C : Nat} {a : Option Addr} {n : Nat} {m : Mach} (h : MachAt w B a n m) (hC : B ≤ C) : MachAt w C a n m :=
  ⟨h.whl.more hC, h.rings, h.plugs⟩
theorem MachAt.alloc {w : World} {B : Nat} {a : Option Addr} {n : Nat} {m : Mach} (h : MachAt w B a n m) (hB : B ≤ w.heap.size) (o : Obj) : MachAt (w.alloc o) B a n m :=
  ⟨h.whl.alloc hB o, h.rings, h.plugs⟩
/-- Wheels as a value. -/
def wval (a : Option Addr) (n c : Nat) (x : Whl) : Value := .agg #[.slice a n c, .string x.refl]
/-- A machine as a value. -/
def mval (a : Option Addr) (n c : Nat) (m : Mach) : Value := .agg #[.slice a n c, .string m.wheels.refl, .string m.rings, .string m.plugs]
end Go.Proofs.YtnnblmibonnpcaaGreat

/- Contracts of the program's functions that ask whether rotors, wheels and machines are valid. -/
namespace Go.Proofs.YtnnblmibonnpcaaGreat
open Go.RowKit

theorem bel_drewN {B : Nat} {a w : World} (h : Below B a w) (n : Nat) : Below B a (w.drewN n) := ⟨h.os, h.tape, h.output, h.size, h.block⟩
/-- The first k bytes ascend. -/
def ascTo (s : ByteArray) (k : Nat) : Prop := ∀ j, j + 1 < k → j + 1 < s.size → (L s).getD j 0 < (L s).getD (j + 1) 0
theorem ascTo_one (s : ByteArray) : ascTo s 1 := fun j h _ => absurd h (by omega)
theorem ascTo_succ {s : ByteArray} {k : Nat} (h : ascTo s k) (h1 : 1 ≤ k) (hk : k < s.size) (hlt : s[k - 1].toNat < s[k].toNat) : ascTo s (k + 1) := by
  intro j hj hs
  by_cases e : j + 1 = k
  · obtain rfl : k = j + 1 := e.symm
    have hlt' : (L s).getD j 0 < (L s).getD (j + 1) 0 := by
      rw [show (L s).getD j 0 = s[j] from byteAt_get (by omega), show (L s).getD (j + 1) 0 = s[j + 1] from byteAt_get hs]
      exact UInt8.lt_iff_toNat_lt.2 (by simpa using hlt)
    exact hlt'
  · exact h j (by omega) hs
theorem ascB_yes {s : ByteArray} {k : Nat} (h : ascTo s k) (hk : s.size ≤ k) : ascB s = true := by
  simp only [ascB, List.all_eq_true, List.mem_range, decide_eq_true_eq]
  exact fun j hj => h j (by omega) (by omega)
theorem ascB_no {s : ByteArray} {k : Nat} (h1 : 1 ≤ k) (hk : k < s.size) (hge : s[k].toNat ≤ s[k - 1].toNat) : ascB s = false := by
  cases e : ascB s
  · rfl
  · simp only [ascB, List.all_eq_true, List.mem_range, decide_eq_true_eq] at e
    have := e (k - 1) (by omega)
    rw [show (L s).getD (k - 1) 0 = s[k - 1] from byteAt_get (by omega), show k - 1 + 1 = k by omega, show (L s).getD k 0 = s[k] from byteAt_get hk] at this
    have := UInt8.lt_iff_toNat_lt.1 this
    omega
theorem rotorB_of {r : Rot} (h1 : permB r.wiring = true) (h2 : r.notches.size ≤ 3) (h3 : wordB r.notches = true) : rotorB r = ascB r.notches := by simp [rotorB, h1, h2, h3]

theorem implRotorValid_any (r : Rot) (w : World) (hr : SzR r) :
    Calls Tryz.prog 108 #[.agg #[.string r.wiring, .string r.notches]] w fun e w' => e = .returned (.bool (rotorB r)) ∧ Below w.heap.size w w' := by
  have h1 := hr.1
  have h2 := hr.2
  have o0 := Own.new w (rv r) 73
  have hb0 := (Below.refl w.heap.size w).alloc (Nat.le_refl _) (.cells (rv r).toArray 73)
  go_enter Tryz.func108, Tryz.ntmps108
  go_wp2_with fail
  refine (implPermValid_any _ _ h1).mono ?_
  rintro e w1 ⟨rfl, hb1⟩
  have o1 := o0.below hb1 o0.lt
  have c0 := o1.at_ (i := 0) rfl
  have c1 := o1.at_ (i := 1) rfl
  have hb : Below w.heap.size w w1 := bt hb0 hb1
  clear o0 hb0 hb1 o1
  cases hp : permB r.wiring
  · have HF := Lib.hid (show rotorB r = false by simp [rotorB, hp])
    go_wp2
    go_ret
    exact ⟨ret_bool HF.out.symm, hb⟩
  · by_cases h3 : r.notches.size ≤ 3
    · have hq : decide ((3 : Int) < (r.notches.size : Int)) = false := by simp; omega
      cases hw : wordB r.notches
      · have HF := Lib.hid (show rotorB r = false by simp [rotorB, hw])
        go_wp2_with (go_at_call 35; ((with_reducible refine (implWordValid_any _ _ h2).mono ?_); rintro e w' ⟨rfl, rfl⟩))
        go_ret
        exact ⟨ret_bool HF.out.symm, hb⟩
      · have HF := Lib.hid (rotorB_of hp h3 hw)
        go_wp2_with (go_at_call 35; ((with_reducible refine (implWordValid_any _ _ h2).mono ?_); rintro e w' ⟨rfl, rfl⟩))
        clear hp hw
        go_loopw [3] (fun i wr => ∃ k n : Nat, k ≤ 3 ∧ i = .int .i64 ((k : Int) + 1) ∧ ascTo r.notches (k + 1) ∧ wr = w1.drewN n) (fun i _ => 4 - (intOf i).toNat)
        case atStart => exact ⟨0, 0, by omega, rfl, ascTo_one _, rfl⟩
        case round =>
          obtain ⟨k, n, hk4, rfl, ha, rfl⟩ := hrel
          by_cases hlt : k + 1 < r.notches.size
          · have q1 : (k : Int) < (r.notches.size : Int) := by omega
            have q1' : k < r.notches.size := by omega
            have q2 : (k : Int) + 1 < (r.notches.size : Int) := by omega
            have HW := Lib.hid (show IntKind.i64.wrap (k : Int) = (k : Int) from IntWalk.i64_in _ (by omega))
            by_cases hc : r.notches[k + 1].toNat ≤ r.notches[k].toNat
            · have HN := Lib.hid (ascB_no (k := k + 1) (by omega) hlt hc)
              have hd : decide (r.notches[k + 1].toNat ≤ r.notches[k].toNat) = true := by simp; omega
              clear hc
              go_wp2_with fail
              have hw1 := HW.out
              have hw2 : (0 : Int) ≤ (k : Int) + 1 := by omega
              have hw3 : ((k : Int) + 1).toNat = k + 1 := by omega
              go_quiet (fail)
              clear hw1
              go_wp2
              go_ret
              exact ⟨ret_bool (by rw [HF.out, HN.out]), bel_drewN (bel_drewN hb _) _⟩
            · have HA := Lib.hid (ascTo_succ ha (by omega) hlt (by simpa using hc))
              have hd : decide (r.notches[k + 1].toNat ≤ r.notches[k].toNat) = false := by simp; omega
              clear hc
              go_wp2_with fail
              have hw1 := HW.out
              have hw2 : (0 : Int) ≤ (k : Int) + 1 := by omega
              have hw3 : ((k : Int) + 1).toNat = k + 1 := by omega
              go_quiet (fail)
              clear hw1
              go_wp2
              go_roundw
              case rel => exact ⟨k + 1, _, by omega, by go_num, HA.out, rfl⟩
              case measure => simp [intOf]; omega
          · go_wp2
            go_ret
            refine ⟨ret_bool ?_, bel_drewN hb n⟩
            rw [HF.out, ascB_yes ha (by omega)]
    · have HF := Lib.hid (show rotorB r = false by simp [rotorB, h3])
      have hq : 3 < r.notches.size := by omega
      go_wp2
      go_ret
      exact ⟨ret_bool HF.out.symm, hb⟩

/-- The first k rotors are valid. -/
def rotTo (rs : List Rot) (k : Nat) : Prop := ∀ j (h : j < rs.length), j < k → rotorB rs[j] = true
theorem rotTo_succ {rs : List Rot} {k : Nat} (h : rotTo rs k) (hk : k < rs.length) (hb : rotorB rs[k] = true) : rotTo rs (k + 1) := fun j hj hlt => by
  by_cases e : j = k
  · subst e; exact hb
  · exact h j hj (by omega)
theorem rotTo_all {rs : List Rot} {k : Nat} (h : rotTo rs k) (hk : rs.length ≤ k) : rs.all rotorB = true := by
  rw [List.all_eq_true]
  intro r hr
  obtain ⟨j, hj, rfl⟩ := List.getElem_of_mem hr
  exact h j hj (by omega)
theorem rotTo_no {rs : List Rot} {k : Nat} (hk : k < rs.length) (hb : rotorB rs[k] = false) : rs.all rotorB = false := by
  rw [List.all_eq_false]
  exact ⟨_, List.getElem_mem hk, by rw [hb]; simp⟩
/-- The cells of rotor k. -/
theorem WhlAt.cells {w : World} {B : Nat} {a : Option Addr} {n : Nat} {x : Whl} (h : WhlAt w B a n x) (h0 : 0 < x.rotors.length) : ∃ b off, a = some ⟨b, off, none⟩ ∧ b < B ∧ Cells w b off (rvs x.rotors) :=
  h.reads.cells (by rw [len_rvs]; omega)
theorem rot_cells {w : World} {b off : Nat} {rs : List Rot} (h : Cells w b off (rvs rs)) {k : Nat} (hk : k < rs.length) : w.cell? ⟨b, off + k * 2, none⟩ = some (.string rs[k].wiring) ∧ w.cell? ⟨b, off + k * 2 + 1, none⟩ = some (.string rs[k].notches) := by
  refine ⟨?_, ?_⟩
  · rw [Nat.mul_comm]; exact h.at_ (rvs_at0 rs k hk)
  · rw [Nat.add_assoc, Nat.mul_comm]; exact h.at_ (rvs_at1 rs k hk)

theorem implWheelsValid_any (a : Option Addr) (n c : Nat) (x : Whl) (w : World) (h : WhlAt w w.heap.size a n x) :
    Calls Tryz.prog 83 #[.agg #[.slice a n c, .string x.refl]] w fun e w' => e = .returned (.bool (wheelsB x)) ∧ Below w.heap.size w w' := by
  have hn := h.len
  subst hn
  have hrf := h.refl
  have o0 := Own.new w [.slice a x.rotors.length c, .string x.refl] 25
  have hb0 := (Below.refl w.heap.size w).alloc (Nat.le_refl _) (.cells [.slice a x.rotors.length c, .string x.refl].toArray 25)
  by_cases h1 : x.rotors.length < 1
  · have HF := Lib.hid (show wheelsB x = false by simp [wheelsB]; omega)
    have hq : decide ((x.rotors.length : Int) < 1) = true := by simp; omega
    go_enter Tryz.func83, Tryz.ntmps83
    go_wp2
    go_ret
    exact ⟨ret_bool HF.out.symm, hb0⟩
  · have hq1 : decide ((x.rotors.length : Int) < 1) = false := by simp; omega
    by_cases h3 : 3 < x.rotors.length
    · have HF := Lib.hid (show wheelsB x = false by simp [wheelsB]; omega)
      have hq : decide ((3 : Int) < (x.rotors.length : Int)) = true := by simp; omega
      go_enter Tryz.func83, Tryz.ntmps83
      go_wp2
      go_ret
      exact ⟨ret_bool HF.out.symm, hb0⟩
    · have hq3 : decide ((3 : Int) < (x.rotors.length : Int)) = false := by simp; omega
      go_enter Tryz.func83, Tryz.ntmps83
      go_wp2_with fail
      refine (implReflectorValid_any _ _ hrf).mono ?_
      rintro e w1 ⟨rfl, hb1⟩
      have o1 := o0.below hb1 o0.lt
      have c0 := o1.at_ (i := 0) rfl
      have hb : Below w.heap.size w w1 := bt hb0 hb1
      have hz := hb.size
      have h' := h.below hb (Nat.le_refl _)
      clear o0 hb0 hb1 o1
      cases hr : reflB x.refl
      · have HF := Lib.hid (show wheelsB x = false by simp [wheelsB, hr])
        go_wp2
        go_ret
        exact ⟨ret_bool HF.out.symm, hb⟩
      · have HF := Lib.hid (show wheelsB x = x.rotors.all rotorB by simp [wheelsB, hr]; omega)
        clear hr
        go_wp2
        go_loopw [4, 24] (fun _ i wr => ∃ k : Nat, k ≤ x.rotors.length ∧ i = .int .i64 k ∧ rotTo x.rotors k ∧ Below w.heap.size w wr) (fun _ i _ => x.rotors.length - (intOf i).toNat)
        case atStart => exact ⟨0, by omega, rfl, fun _ _ h => absurd h (by omega), hb⟩
        case round =>
          clear hb hz h'
          obtain ⟨k, hk, rfl, ha, hb⟩ := hrel
          by_cases hlt : k < x.rotors.length
          · obtain ⟨b, off, rfl, hbl, hc⟩ := h.cells (by omega)
            have hc' := hc.below hb hbl
            obtain ⟨f0, f1⟩ := rot_cells hc' hlt
            have hsz := h.rot _ (List.getElem_mem hlt)
            have q2 : (k : Int) < (x.rotors.length : Int) := by omega
            go_wp2_with fail
            refine (implRotorValid_any _ _ hsz).mono ?_
            rintro e w2 ⟨rfl, hb2⟩
            have hb' : Below w.heap.size w w2 := bt (hb.alloc hb.size _) hb2
            clear hb hb2
            cases hv : rotorB x.rotors[k]
            · have HN := Lib.hid (rotTo_no hlt hv)
              clear hv
              go_wp2
              go_ret
              exact ⟨ret_bool (by rw [HF.out, HN.out]), hb'⟩
            · have HA := Lib.hid (rotTo_succ ha hlt hv)
              clear hv
              go_wp2
              go_roundw
              case rel => exact ⟨k + 1, by omega, by go_num, HA.out, hb'⟩
              case measure => simp [intOf]; omega
          · go_wp2
            go_ret
            exact ⟨ret_bool (by rw [HF.out, rotTo_all ha (by omega)]), hb⟩

theorem WhlAt.alloc_ {w : World} {a : Option Addr} {n : Nat} {x : Whl} (h : WhlAt w w.heap.size a n x) (o : Obj) : WhlAt (w.alloc o) (w.alloc o).heap.size a n x := (h.alloc (Nat.le_refl _) o).more (by simp)
theorem MachAt.alloc_ {w : World} {a : Option Addr} {n : Nat} {m : Mach} (h : MachAt w w.heap.size a n m) (o : Obj) : MachAt (w.alloc o) (w.alloc o).heap.size a n m := (h.alloc (Nat.le_refl _) o).more (by simp)

theorem windowsValid_any (a : Option Addr) (n c : Nat) (x : Whl) (v : ByteArray) (w : World) (h : WhlAt w w.heap.size a n x) (hv : v.size ≤ 4294967296) :
    Calls Tryz.prog 61 #[.agg #[.slice a n c, .string x.refl], .string v] w fun e w' => e = .returned (.bool (fitB x v)) ∧ Below w.heap.size w w' := by
  have o0 := Own.new w [.slice a n c, .string x.refl] 25
  have hb0 := (Below.refl w.heap.size w).alloc (Nat.le_refl _) (.cells [.slice a n c, .string x.refl].toArray 25)
  have h' := h.alloc_ (.cells [.slice a n c, .string x.refl].toArray 25)
  have hn := h.len
  subst hn
  go_enter Tryz.func61, Tryz.ntmps61
  go_wp2_with fail
  refine (implWheelsValid_any _ _ _ _ _ h').mono ?_
  rintro e w1 ⟨rfl, hb1⟩
  have o1 := o0.below hb1 o0.lt
  have c0 := o1.at_ (i := 0) rfl
  have hb : Below w.heap.size w w1 := bt hb0 hb1
  clear o0 hb0 hb1 o1 h'
  cases hw : wheelsB x
  · have HF := Lib.hid (show fitB x v = false by simp [fitB, hw])
    go_wp2
    go_ret
    exact ⟨ret_bool HF.out.symm, hb⟩
  · by_cases he : v.size = x.rotors.length
    · have hq : ((v.size : Int) == (x.rotors.length : Int)) = true := by simp [he]
      have HF := Lib.hid (show fitB x v = wordB v by simp [fitB, hw, he])
      clear hw he
      go_wp2_with (go_at_call 35; ((with_reducible refine (implWordValid_any _ _ hv).mono ?_); rintro e w' ⟨rfl, rfl⟩))
      go_ret
      exact ⟨ret_bool HF.out.symm, hb⟩
    · have hq : ((v.size : Int) == (x.rotors.length : Int)) = false := by simp; omega
      have HF := Lib.hid (show fitB x v = false by simp [fitB, he])
      clear hw he
      go_wp2
      go_ret
      exact ⟨ret_bool HF.out.symm, hb⟩

theorem implMachineValid_any (a : Option Addr) (n c : Nat) (m : Mach) (w : World) (h : MachAt w w.heap.size a n m) :
    Calls Tryz.prog 34 #[.agg #[.slice a n c, .string m.wheels.refl, .string m.rings, .string m.plugs]] w fun e w' => e = .returned (.bool (machB m)) ∧ Below w.heap.size w w' := by
  have o0 := Own.new w [.slice a n c, .string m.wheels.refl, .string m.rings, .string m.plugs] 27
  have hb0 := (Below.refl w.heap.size w).alloc (Nat.le_refl _) (.cells [.slice a n c, .string m.wheels.refl, .string m.rings, .string m.plugs].toArray 27)
  have h' := h.alloc_ (.cells [.slice a n c, .string m.wheels.refl, .string m.rings, .string m.plugs].toArray 27)
  go_enter Tryz.func34, Tryz.ntmps34
  go_wp2_with fail
  refine (windowsValid_any _ _ _ _ _ _ h'.whl h.rings).mono ?_
  rintro e w1 ⟨rfl, hb1⟩
  have o1 := o0.below hb1 o0.lt
  have c3 := o1.at_ (i := 3) rfl
  have hb : Below w.heap.size w w1 := bt hb0 hb1
  clear o0 hb0 hb1 o1 h'
  cases hw : fitB m.wheels m.rings
  · have HF := Lib.hid (show machB m = false by simp [machB, hw])
    go_wp2
    go_ret
    exact ⟨ret_bool HF.out.symm, hb⟩
  · have HF := Lib.hid (show machB m = plugB m.plugs by simp [machB, hw])
    clear hw
    go_wp2_with fail
    refine (implPlugsValid_any _ _ h.plugs).mono ?_
    rintro e w2 ⟨rfl, hb2⟩
    go_wp2
    go_ret
    exact ⟨ret_bool HF.out.symm, bt hb hb2⟩

theorem settingValid_any (a : Option Addr) (n c : Nat) (m : Mach) (v : ByteArray) (w : World) (h : MachAt w w.heap.size a n m) (hv : v.size ≤ 4294967296) :
    Calls Tryz.prog 15 #[.agg #[.slice a n c, .string m.wheels.refl, .string m.rings, .string m.plugs], .string v] w fun e w' => e = .returned (.bool (setB m v)) ∧ Below w.heap.size w w' := by
  have o0 := Own.new w [.slice a n c, .string m.wheels.refl, .string m.rings, .string m.plugs] 27
  have hb0 := (Below.refl w.heap.size w).alloc (Nat.le_refl _) (.cells [.slice a n c, .string m.wheels.refl, .string m.rings, .string m.plugs].toArray 27)
  have h' := h.alloc_ (.cells [.slice a n c, .string m.wheels.refl, .string m.rings, .string m.plugs].toArray 27)
  go_enter Tryz.func15, Tryz.ntmps15
  go_wp2_with fail
  refine (implMachineValid_any _ _ _ _ _ h').mono ?_
  rintro e w1 ⟨rfl, hb1⟩
  have o1 := o0.below hb1 o0.lt
  have c2 := o1.at_ (i := 2) rfl
  have hb : Below w.heap.size w w1 := bt hb0 hb1
  clear o0 hb0 hb1 o1 h'
  cases hw : machB m
  · have HF := Lib.hid (show setB m v = false by simp [setB, hw])
    go_wp2
    go_ret
    exact ⟨ret_bool HF.out.symm, hb⟩
  · by_cases he : v.size = m.rings.size
    · have hq : ((v.size : Int) == (m.rings.size : Int)) = true := by simp [he]
      have HF := Lib.hid (show setB m v = wordB v by simp [setB, hw, he])
      clear hw he
      go_wp2_with (go_at_call 35; ((with_reducible refine (implWordValid_any _ _ hv).mono ?_); rintro e w' ⟨rfl, rfl⟩))
      go_ret
      exact ⟨ret_bool HF.out.symm, hb⟩
    · have hq : ((v.size : Int) == (m.rings.size : Int)) = false := by simp; omega
      have HF := Lib.hid (show setB m v = false by simp [setB, he])
      clear hw he
      go_wp2
      go_ret
      exact ⟨ret_bool HF.out.symm, hb⟩
end Go.Proofs.YtnnblmibonnpcaaGreat

/- Contracts of the program's functions that step wheels and tell offsets. -/
namespace Go.Proofs.YtnnblmibonnpcaaGreat
open Go.RowKit

theorem info_i64 : (Tryz.prog.info? 3).map (fun i => (i.zero, i.size, i.bytes)) = some (some (.int .i64 0), 1, 8) := by kernel_rfl
/-- The cells of some numbers. -/
def ov (l : List Nat) : List Value := l.map fun n : Nat => .int .i64 (n : Int)
theorem length_ov (l : List Nat) : (ov l).length = l.length := by simp [ov]
theorem ov_at {l : List Nat} {i : Nat} (h : i < l.length) : (ov l)[i]? = some (.int .i64 (l[i] : Int)) := by simp [ov, List.getElem?_eq_getElem h]
theorem ov_set (l : List Nat) (i n : Nat) : (ov l).set i (.int .i64 (n : Int)) = ov (l.set i n) := by simp [ov, List.map_set]
theorem offs_at {rings v : ByteArray} {k : Nat} (h : k < v.size) (h' : k < rings.size) : (offs rings v)[k]'(by rw [len_offs]; exact h) = ((dig v[k] - dig rings[k] + 10) % 10).toNat := by
  simp [offs, byteAt_get h, byteAt_get h']

theorem offsets_any (a : Option Addr) (n c : Nat) (m : Mach) (v : ByteArray) (w : World) (hv : wordB v = true) (hr : wordB m.rings = true) (hs : v.size = m.rings.size) :
    Calls Tryz.prog 74 #[.agg #[.slice a n c, .string m.wheels.refl, .string m.rings, .string m.plugs], .string v] w fun e w' =>
      e = .returned (.slice (some ⟨w.heap.size + 1, 0, none⟩) v.size v.size) ∧ Own w' (w.heap.size + 1) (ov (offs m.rings v)) ∧ Below w.heap.size w w' := by
  have hb : v.size ≤ 200 := wordB_size hv
  have hle : v.size ≤ m.rings.size := by omega
  have Hlo := Lib.hid (len_offs m.rings v)
  have o0 := Own.new w [.slice a n c, .string m.wheels.refl, .string m.rings, .string m.plugs] 27
  have hb0 := (Below.refl w.heap.size w).alloc (Nat.le_refl _) (.cells [.slice a n c, .string m.wheels.refl, .string m.rings, .string m.plugs].toArray 27)
  clear hs
  have hmk := run_make1 (P := Tryz.prog) Tryz.underlying56 info_i64 rfl v.size v.size (Nat.le_refl _) (by omega) (by omega)
  go_enter Tryz.func74, Tryz.ntmps74
  go_wp2
  have o0' := fun o => o0.alloc o
  go_loopw [6, 12] (fun _ i wr => ∃ k : Nat, k ≤ v.size ∧ i = .int .i64 k ∧ Below w.heap.size w wr ∧ wr.cell? ⟨w.heap.size, 2, none⟩ = some (.string m.rings) ∧ Own wr (w.heap.size + 1) (ov ((offs m.rings v).take k ++ (List.replicate v.size 0).drop k))) (fun _ i _ => v.size - (intOf i).toNat)
  case atStart =>
    refine ⟨0, Nat.zero_le _, rfl, hb0.alloc (by simp) _, (o0' _).at_ (i := 2) rfl, ?_⟩
    have := Own.new (w.alloc (.cells [.slice a n c, .string m.wheels.refl, .string m.rings, .string m.plugs].toArray 27)) (ov (List.replicate v.size 0)) 3
    simpa [ov] using this
  case round =>
    clear o0 hb0 o0' hmk
    obtain ⟨k, hk, rfl, hbel, hcr, hown⟩ := hrel
    by_cases hlt : k < v.size
    · have hlt2 : k < m.rings.size := by omega
      have hd1 := wordB_at hv k hlt
      have hd2 := wordB_at hr k hlt2
      have hlen := Lib.hid (show (ov ((offs m.rings v).take k ++ (List.replicate v.size 0).drop k)).length = v.size by rw [length_ov, fill_len (by rw [Hlo.out]; simp) (by rw [Hlo.out]; omega), Hlo.out])
      obtain ⟨x, hc⟩ := hown.some_ (i := k) (by rw [hlen.out]; omega)
      have hf := hown.free k (by rw [hlen.out]; omega)
      have hd1' : 97 ≤ v[k].toNat := by have := hd1.1; unfold dig at this; omega
      have hd2' : 97 ≤ m.rings[k].toNat := by have := hd2.1; unfold dig at this; omega
      have q1 : (k : Int) < (v.size : Int) := by omega
      have q2 : (k : Int) < (m.rings.size : Int) := by omega
      have hb1 := hd1.1
      have hb2 := hd1.2
      have hb3 := hd2.1
      have hb4 := hd2.2
      obtain ⟨z, hz⟩ : ∃ z : Nat, (z : Int) = (dig v[k] - dig m.rings[k] + 10) % 10 := ⟨((dig v[k] - dig m.rings[k] + 10) % 10).toNat, by omega⟩
      go_wp2_with fail
      have hm1 : IntKind.i64.wrap (dig v[k] - dig m.rings[k]) = dig v[k] - dig m.rings[k] := IntWalk.i64_in _ (by omega)
      have hm2 : IntKind.i64.wrap (dig v[k] - dig m.rings[k] + 10) = dig v[k] - dig m.rings[k] + 10 := IntWalk.i64_in _ (by omega)
      have hm3 : (dig v[k] - dig m.rings[k] + 10).tmod 10 = (z : Int) := by rw [Int.tmod_eq_emod_of_nonneg (by omega)]; omega
      refine wp_region_tail 15 (by kernel_rfl) (by kernel_rfl) ?_
      simp only [List.take_succ_cons, List.take_zero, List.drop_succ_cons, List.drop_zero]
      repeat (first | go_big_quiet_skip | (go_big_quiet_want; go_big_quiet_op; first | go_big_quiet_on | (apply Exists.intro; refine ⟨?_, ?_⟩; (· (first | exact still_of (implNumber_any _ _ (by assumption)))); go_big_quiet_on)))
      refine wpQuiet_nil ?_
      clear hm1 hm2 hm3
      go_wp2
      go_roundw
      case rel =>
        have he : (dig v[k] - dig m.rings[k]) % 10 = (z : Int) := by omega
        rw [he]
        refine ⟨k + 1, by omega, by go_num, (hbel.setCell (by simp) _).drew, ?_, ?_⟩
        · show (wr.setCell ⟨w.heap.size + 1, k, none⟩ (.int .i64 (z : Int))).cell? ⟨w.heap.size, 2, none⟩ = _
          rw [World.cell?_setCell_other _ _ _ _ (by simp)]; exact hcr
        · have h0 := (hown.set_ (i := k) (by rw [hlen.out]; omega) (.int .i64 (z : Int))).drew
          have hkl : k < (offs m.rings v).length := by rw [Hlo.out]; omega
          have hg : z = (offs m.rings v)[k] := by rw [offs_at hlt hlt2]; omega
          have hs : ((offs m.rings v).take k ++ (List.replicate v.size 0).drop k).set k z = (offs m.rings v).take (k + 1) ++ (List.replicate v.size 0).drop (k + 1) := by
            rw [hg]; exact fill_set hkl (by rw [Hlo.out]; simp)
          rw [ov_set, hs] at h0
          exact h0
      case measure => simp [intOf]; omega
    · have hk' : k = v.size := by omega
      subst hk'
      go_wp2
      go_ret
      rw [List.take_of_length_le (by rw [Hlo.out]; omega), List.drop_eq_nil_of_le (by simp), List.append_nil] at hown
      exact ⟨rfl, hown, hbel⟩

set_option maxRecDepth 100000 in
set_option maxHeartbeats 1000000 in
theorem liteIndexByte_any (s : ByteArray) (b : UInt8) (w : World) :
    Calls Tryz.prog 114 #[.string s, .int .u8 (b.toNat : Int)] w fun e w' => e = .returned (.int .i64 (Lib.indexByte (L s) b)) ∧ w = w' := by
  go_enter Tryz.func114, Tryz.ntmps114
  go_wp2
  rw [run_callFunc_extern Tryz.func128 (by kernel_rfl) (by kernel_rfl) (by kernel_rfl) (e := Extern.BytealgIndexByte.indexByte) (by kernel_rfl), Lib.run_indexByteString]
  simp only [Result.andThen]
  rw [Oper.upon_value]
  go_wp2
  go_ret
  exact ⟨by simp [L], rfl⟩
theorem indexByte_any (s : ByteArray) (b : UInt8) (w : World) :
    Calls Tryz.prog 91 #[.string s, .int .u8 (b.toNat : Int)] w fun e w' => e = .returned (.int .i64 (Lib.indexByte (L s) b)) ∧ w = w' := by
  go_enter Tryz.func91, Tryz.ntmps91
  go_wp2_with (go_at_call 114; ((with_reducible refine (liteIndexByte_any _ _ _).mono ?_); rintro e w' ⟨rfl, rfl⟩))
  go_ret
  exact ⟨rfl, rfl⟩
end Go.Proofs.YtnnblmibonnpcaaGreat

/- Contracts of pawls and step. -/
namespace Go.Proofs.YtnnblmibonnpcaaGreat
open Go.RowKit

/-- Three bools, of which those from k on are false. -/
def bl (f : Nat → Bool) (k : Nat) : List Value := [.bool (decide (0 < k) && f 0), .bool (decide (1 < k) && f 1), .bool (decide (2 < k) && f 2)]
theorem bl_len (f : Nat → Bool) (k : Nat) : (bl f k).length = 3 := rfl
theorem bl_one (f : Nat → Bool) (k : Nat) : ∀ u ∈ bl f k, u.oneCell' = true := by
  intro u hu
  simp [bl] at hu
  rcases hu with rfl | rfl | rfl <;> rfl
theorem bl_zero (f : Nat → Bool) : bl f 0 = [.bool false, .bool false, .bool false] := rfl
theorem bl_at (f : Nat → Bool) {k i : Nat} (hi : i < k) (h3 : i < 3) : (bl f k)[i]? = some (.bool (f i)) := by
  match i, h3 with
  | 0, _ => simp [bl, hi]
  | 1, _ => simp [bl, hi]
  | 2, _ => simp [bl, hi]
theorem bl_set (f : Nat → Bool) {k : Nat} (h3 : k < 3) : (bl f k).set k (.bool (f k)) = bl f (k + 1) := by
  match k, h3 with
  | 0, _ => simp [bl]
  | 1, _ => simp [bl]
  | 2, _ => simp [bl]
theorem mvB_of {x : Whl} {v : ByteArray} {k : Nat} (h : k + 1 < v.size) : mvB x v k = (atB x v (k + 1) || (decide (0 < k) && atB x v k)) := by
  have : decide (k + 1 = v.size) = false := by simp; omega
  simp [mvB, this]
theorem mvB_last {x : Whl} {v : ByteArray} {k : Nat} (h : k + 1 = v.size) : mvB x v k = true := by simp [mvB, h]
theorem atB_idx {x : Whl} {v : ByteArray} {k : Nat} (h : k < x.rotors.length) (hv : k < v.size) : atB x v k = decide (0 ≤ Lib.indexByte (L x.rotors[k].notches) v[k]) := by
  rw [← Lib.contains_iff_indexByte]; simp [atB, rotAt_get h, byteAt_get hv]

set_option maxRecDepth 100000 in
theorem pawls_any (a : Option Addr) (n c : Nat) (x : Whl) (v : ByteArray) (w : World) (h : WhlAt w w.heap.size a n x) (hf : FitB x v) :
    Calls Tryz.prog 72 #[.agg #[.slice a n c, .string x.refl], .string v] w fun e w' => e = .returned (.agg (bl (mvB x v) v.size).toArray) ∧ Below w.heap.size w w' := by
  have h1 := hf.one
  have h3 := hf.three
  have hsz := hf.size
  have hs1 : 1 ≤ v.size := by omega
  have hs3 : v.size ≤ 3 := by omega
  have hle : x.rotors.length ≤ v.size := by omega
  have hle' : v.size ≤ x.rotors.length := by omega
  clear hsz
  obtain ⟨b, off, rfl, hbl, hc⟩ := h.cells (by omega)
  have hn := h.len
  subst hn
  have o0 := fun o1 o2 o3 => (((Own.new w [.slice (some ⟨b, off, none⟩) x.rotors.length c, .string x.refl] 25).alloc o1).alloc o2).alloc o3
  have o1 := fun A o2 o3 => ((Own.new (w.alloc A) [.bool false, .bool false, .bool false] 98).alloc o2).alloc o3
  have o2 := fun A B o3 => (Own.new ((w.alloc A).alloc B) [.bool false, .bool false, .bool false] 98).alloc o3
  have o3 := fun A B C => Own.new (((w.alloc A).alloc B).alloc C) [.bool false, .bool false, .bool false] 98
  have hb0 := fun A B C D => ((((Below.refl w.heap.size w).alloc (Nat.le_refl _) A).alloc (by simp) B).alloc (by simp; omega) C).alloc (by simp; omega) D
  simp only [World.size_alloc] at o1 o2 o3
  go_enter Tryz.func72, Tryz.ntmps72
  go_wp2_with fail
  go_loopw [8, 15] (fun _ i wr => ∃ k : Nat, k ≤ v.size ∧ i = .int .i64 k ∧ Below w.heap.size w wr ∧ Own wr w.heap.size [.slice (some ⟨b, off, none⟩) x.rotors.length c, .string x.refl] ∧ Own wr (w.heap.size + 1) [.bool false, .bool false, .bool false] ∧ Own wr (w.heap.size + 1 + 1) (bl (atB x v) k) ∧ Own wr (w.heap.size + 1 + 1 + 1) [.bool false, .bool false, .bool false]) (fun _ i _ => v.size - (intOf i).toNat)
  case atStart => exact ⟨0, Nat.zero_le _, rfl, hb0 _ _ _ _, o0 _ _ _, o1 _ _ _, o2 _ _ _, o3 _ _ _⟩
  case round =>
    clear o0 o1 o2 o3 hb0
    obtain ⟨k, hk, rfl, hbel, o0, o1, o2, o3⟩ := hrel
    by_cases hlt : k < v.size
    · have hkr : k < x.rotors.length := by omega
      obtain ⟨-, f1⟩ := rot_cells (hc.below hbel hbl) hkr
      have c0 := o0.at_ (i := 0) rfl
      have hca := Lib.hid (atB_idx hkr hlt)
      obtain ⟨y, hy⟩ := o2.some_ (i := k) (by rw [bl_len]; omega)
      have hfr := o2.free k (by rw [bl_len]; omega)
      have q1 : (k : Int) < (v.size : Int) := by omega
      have q2 : (k : Int) < (x.rotors.length : Int) := by omega
      have q3 : (k : Int) < 3 := by omega
      go_wp2_with fail
      refine wp_region_tail 13 (by kernel_rfl) (by kernel_rfl) ?_
      simp only [List.take_succ_cons, List.take_zero, List.drop_succ_cons, List.drop_zero]
      repeat (first | go_big_quiet_skip | (go_big_quiet_want; go_big_quiet_op; first | go_big_quiet_on | (apply Exists.intro; refine ⟨?_, ?_⟩; (· (first | exact still_of (indexByte_any _ _ _))); go_big_quiet_on)))
      refine wpQuiet_nil ?_
      rw [← hca.out]
      go_wp2
      go_roundw
      case rel =>
        refine ⟨k + 1, by omega, by go_num, (hbel.setCell (by simp; omega) _).drew, (o0.far (by simp; omega) _).drew, (o1.far (by simp) _).drew, ?_, (o3.far (by simp) _).drew⟩
        rw [← bl_set (atB x v) (by omega)]
        exact (o2.set_ (by rw [bl_len]; omega) _).drew
      case measure => simp [intOf]; omega
    · have hk' : k = v.size := by omega
      subst hk'
      go_wp2_with fail
      have qq : (v.size : Int) - 1 = ((v.size - 1 : Nat) : Int) := by omega
      go_loopw [9, 33] (fun _ i wr => ∃ k : Nat, k ≤ v.size - 1 ∧ i = .int .i64 k ∧ Below w.heap.size w wr ∧ Own wr (w.heap.size + 1) [.bool false, .bool false, .bool false] ∧ Own wr (w.heap.size + 1 + 1) (bl (atB x v) v.size) ∧ Own wr (w.heap.size + 1 + 1 + 1) (bl (mvB x v) k)) (fun _ i _ => v.size - (intOf i).toNat)
      case atStart => exact ⟨0, Nat.zero_le _, rfl, hbel, o1, o2, o3⟩
      case round =>
        clear hbel o0 o1 o2 o3
        obtain ⟨k, hk, rfl, hbel, o1, o2, o3⟩ := hrel
        by_cases hlt : k + 1 < v.size
        · have q1 : (k : Int) < (v.size : Int) - 1 := by omega
          have q3 : (k : Int) + 1 < 3 := by omega
          have q4 : (k : Int) < 3 := by omega
          have f0 := o2.at_ (bl_at (atB x v) (show k < v.size by omega) (by omega))
          have f1 := o2.at_ (bl_at (atB x v) hlt (by omega))
          obtain ⟨y, hy⟩ := o3.some_ (i := k) (by rw [bl_len]; omega)
          have hfr := o3.free k (by rw [bl_len]; omega)
          have hmv := Lib.hid (mvB_of (x := x) hlt)
          have key : ∀ r : Bool, r = mvB x v k → Own (wr.setCell ⟨w.heap.size + 1 + 1 + 1, k, none⟩ (.bool r)) (w.heap.size + 1 + 1 + 1) (bl (mvB x v) (k + 1)) := fun r hr => by
            rw [← bl_set (mvB x v) (by omega), hr]
            exact o3.set_ (by rw [bl_len]; omega) _
          have KEY := Lib.hid key
          clear key
          clear qq
          cases e1 : atB x v (k + 1)
          · rw [e1] at f1
            cases e0 : atB x v k
            · rw [e0] at f0
              have HR := Lib.hid (show false = mvB x v k by rw [hmv.out, e1, e0]; simp)
              clear e0 e1
              go_wp2
              go_roundw
              case rel => exact ⟨k + 1, by omega, by go_num, hbel.setCell (by simp; omega) _, o1.far (by simp) _, o2.far (by simp) _, KEY.out _ HR.out⟩
              case measure => simp [intOf]; omega
            · rw [e0] at f0
              have HR := Lib.hid (show decide (0 < k) = mvB x v k by rw [hmv.out, e1, e0]; simp)
              clear e0 e1
              go_wp2
              go_roundw
              case rel => exact ⟨k + 1, by omega, by go_num, hbel.setCell (by simp; omega) _, o1.far (by simp) _, o2.far (by simp) _, KEY.out _ HR.out⟩
              case measure => simp [intOf]; omega
          · rw [e1] at f1
            have HR := Lib.hid (show true = mvB x v k by rw [hmv.out, e1]; simp)
            clear e1
            go_wp2
            go_roundw
            case rel => exact ⟨k + 1, by omega, by go_num, hbel.setCell (by simp; omega) _, o1.far (by simp) _, o2.far (by simp) _, KEY.out _ HR.out⟩
            case measure => simp [intOf]; omega
        · have hk' : k + 1 = v.size := by omega
          have HK := Lib.hid hk'
          have q4 : (k : Int) < 3 := by omega
          have qk : (v.size : Int) - 1 = (k : Int) := by omega
          clear hk' qq
          have o3' : Own (wr.setCell ⟨w.heap.size + 1 + 1 + 1, k, none⟩ (.bool true)) (w.heap.size + 1 + 1 + 1) (bl (mvB x v) (k + 1)) := by
            rw [← bl_set (mvB x v) (by omega), mvB_last HK.out]
            exact o3.set_ (by rw [bl_len]; omega) _
          have c0 := o3'.at_ (i := 0) rfl
          have c1 := o3'.at_ (i := 1) rfl
          have c2 := o3'.at_ (i := 2) rfl
          have o1' := o1.far (p := ⟨w.heap.size + 1 + 1 + 1, k, none⟩) (by simp) (.bool true)
          have d0 := o1'.at_ (i := 0) rfl
          have d1 := o1'.at_ (i := 1) rfl
          have d2 := o1'.at_ (i := 2) rfl
          have e0 := o1'.free 0 (by simp)
          have e1 := o1'.free 1 (by simp)
          have e2 := o1'.free 2 (by simp)
          obtain ⟨y, hy⟩ := o3.some_ (i := k) (by rw [bl_len]; omega)
          have hfr := o3.free k (by rw [bl_len]; omega)
          go_wp2_with fail
          have o5 := ((o1'.set_ (i := 0) (by simp) (.bool (mvB x v 0))).set_ (i := 1) (by simp) (.bool (decide (0 < k) && mvB x v 1))).set_ (i := 2) (by simp) (.bool (decide (2 < k + 1) && mvB x v 2))
          have hb5 := ((((hbel.setCell (p := ⟨w.heap.size + 1 + 1 + 1, k, none⟩) (by simp; omega) (.bool true)).setCell (p := ⟨w.heap.size + 1, 0, none⟩) (by simp) (.bool (mvB x v 0))).setCell (p := ⟨w.heap.size + 1, 1, none⟩) (by simp) (.bool (decide (0 < k) && mvB x v 1))).setCell (p := ⟨w.heap.size + 1, 2, none⟩) (by simp) (.bool (decide (2 < k + 1) && mvB x v 2)))
          refine bodyPost_ret (results_cell_own Tryz.results72 _ _ _ _ _ (by rfl) o5.cells Tryz.underlying98 rfl (by kernel_rfl)) rfl ?_
          refine ⟨?_, hb5⟩
          rw [← HK.out]
          simp [bl]

theorem letr_mod (n : Int) : letr (n % 10) = letr n := by
  apply UInt8.toNat.inj
  rw [letr_toNat, letr_toNat]; omega
theorem shifted_any (b : UInt8) (n : Int) (w : World) (h0 : 0 ≤ dig b) (h1 : dig b ≤ 9) (hn0 : 0 ≤ n) (hn : n ≤ 1000) :
    Calls Tryz.prog 73 #[.int .u8 (b.toNat : Int), .int .i64 n] w fun e w' => e = .returned (.int .u8 ((letr (dig b + n)).toNat : Int)) ∧ w = w' := by
  have hb : 97 ≤ b.toNat := by unfold dig at h0; omega
  have hl := Lib.hid (letr_mod (dig b + n))
  go_enter Tryz.func73, Tryz.ntmps73
  go_wp2_with (first | (go_at_call 42; ((with_reducible refine (implNumber_any _ _ hb).mono ?_); rintro e w' ⟨rfl, rfl⟩)) | (go_at_call 36; ((with_reducible refine (implLetter_any _ _ (by omega) (by omega)).mono ?_); rintro e w' ⟨rfl, rfl⟩)))
  go_ret
  exact ⟨ret_int (by rw [hl.out]), rfl⟩
/-- '[]byte(s)': a new row that holds the bytes. -/
theorem conv_bytes (w : World) (s : ByteArray) : ∃ cap w', (convert 9 22 (.string s)).run Tryz.prog w = .ok (.slice (some ⟨w.heap.size, 0, none⟩) s.size cap) w' ∧ Own w' w.heap.size (bv (L s)) ∧ Below w.heap.size w w' ∧ w'.heap.size = w.heap.size + 1 ∧ s.size ≤ cap := by
  refine ⟨_, _, run_bytes_of_string (P := Tryz.prog) w 9 22 5 s Tryz.underlying9 Tryz.underlying22 Tryz.underlying5, ?_, ((Below.refl _ _).drew).alloc (Nat.le_refl _) _, by simp, grownCap_ge _ _ _ _⟩
  generalize grownCap w s.size 0 5 = cap
  have hh : (w.drew.alloc (.cells (bytesRow s cap) 5 ((bytesRow s cap).size, (bytesRow s cap).size + 1))).heap[w.heap.size]? = some (.cells (bytesRow s cap) 5 ((bytesRow s cap).size, (bytesRow s cap).size + 1)) := by
    show (w.heap.push _)[w.heap.size]? = _
    simp
  have hsz : s.size ≤ (bytesRow s cap).size := by
    have h0 : s.data.size = s.size := rfl
    simp only [bytesRow, Array.size_append, Array.size_map]; omega
  refine ⟨by simp, fun i hi => ?_, fun i hi => ?_⟩
  · rw [length_bv, size_L] at hi
    rw [cell_of_row _ _ _ _ _ _ hh, bv_at (by rw [size_L]; exact hi)]
    have h1 : i < s.data.size := hi
    rw [bytesRow, Array.getElem?_append_left (by rw [Array.size_map]; exact h1), Array.getElem?_map, Array.getElem?_eq_getElem h1]
    simp [L]
  · rw [length_bv, size_L] at hi
    simp only [World.frozen?, hh]
    simp
    omega
theorem stepL_at {x : Whl} {v : ByteArray} {k : Nat} (h : k < v.size) : (L (stepW x v))[k]'(by rw [size_L, size_stepW]; exact h) = if mvB x v k then letr (dig v[k] + 1) else v[k] := by
  have := byteAt_stepW (w := x) h
  rw [byteAt_get (by rw [size_stepW]; exact h), byteAt_get h] at this
  exact this

set_option maxRecDepth 100000 in
theorem step_any (a : Option Addr) (n c : Nat) (x : Whl) (v : ByteArray) (w : World) (h : WhlAt w w.heap.size a n x) (hf : FitB x v) :
    Calls Tryz.prog 46 #[.agg #[.slice a n c, .string x.refl], .string v] w fun e w' => e = .returned (.string (stepW x v)) ∧ Below w.heap.size w w' := by
  have hs3 : v.size ≤ 3 := by rw [hf.size]; exact hf.three
  have o0 := Own.new w [.slice a n c, .string x.refl] 25
  have hb0 := (Below.refl w.heap.size w).alloc (Nat.le_refl _) (.cells [.slice a n c, .string x.refl].toArray 25)
  have h' := h.alloc_ (.cells [.slice a n c, .string x.refl].toArray 25)
  go_enter Tryz.func46, Tryz.ntmps46
  go_wp2_with fail
  refine (pawls_any _ _ _ _ _ _ h' hf).mono ?_
  rintro e w1 ⟨rfl, hb1⟩
  have hb : Below w.heap.size w w1 := bt hb0 hb1
  clear o0 hb0 hb1 h'
  obtain ⟨b0, b1, b2, hbl⟩ : ∃ b0 b1 b2, bl (mvB x v) v.size = [.bool b0, .bool b1, .bool b2] := ⟨_, _, _, rfl⟩
  have o2 := Own.new w1 (bl (mvB x v) v.size) 98
  have hb2 := hb.alloc hb.size (.cells (bl (mvB x v) v.size).toArray 98)
  have s2 : (w1.alloc (.cells (bl (mvB x v) v.size).toArray 98)).heap.size = w1.heap.size + 1 := by simp
  rw [hbl] at hb2 s2 ⊢
  rw [show (bl (mvB x v) v.size).toArray = [.bool b0, .bool b1, .bool b2].toArray by rw [hbl]] at o2
  have HBL := Lib.hid hbl
  clear hbl
  generalize hw2 : w1.alloc (.cells [.bool b0, .bool b1, .bool b2].toArray 98) = w2 at o2 hb2 s2
  obtain ⟨cap, w3, hcv, o3, hb3, s3, hcap⟩ := conv_bytes w2 v
  have o23 := o2.below hb3 (by omega)
  have hbw := bt hb2 hb3
  have hz := hb.size
  subst hw2
  rw [World.size_alloc] at o3 s3
  clear hb hb2 hb3 o2 s2
  go_wp2_with fail
  go_loopw [7, 15] (fun _ i wr => ∃ k : Nat, k ≤ v.size ∧ i = .int .i64 k ∧ Below w.heap.size w wr ∧ Own wr w1.heap.size (bl (mvB x v) v.size) ∧ Own wr (w1.heap.size + 1) (bv ((L (stepW x v)).take k ++ (L v).drop k))) (fun _ i _ => v.size - (intOf i).toNat)
  case atStart => exact ⟨0, Nat.zero_le _, rfl, hbw, o23, by simpa using o3⟩
  case round =>
    clear hbw o23 o3 hcv s3
    obtain ⟨k, hk, rfl, hbel, o2, o3⟩ := hrel
    have Hls := Lib.hid (show (L (stepW x v)).length = v.size by rw [size_L, size_stepW])
    have Hlv := Lib.hid (show (L v).length = v.size from size_L v)
    by_cases hlt : k < v.size
    · have f0 := o2.at_ (bl_at (mvB x v) hlt (by omega))
      have q1 : (k : Int) < (v.size : Int) := by omega
      have q3 : (k : Int) < 3 := by omega
      have hlen := Lib.hid (show (bv ((L (stepW x v)).take k ++ (L v).drop k)).length = v.size by rw [length_bv, fill_len (by rw [Hls.out, Hlv.out]) (by rw [Hls.out]; omega), Hls.out])
      have hfr := o3.free k (by rw [hlen.out]; omega)
      have hd := wordB_at hf.word k hlt
      have g0 : wr.cell? ⟨w1.heap.size + 1, k, none⟩ = some (.int .u8 (v[k].toNat : Int)) := by
        refine o3.at_ ?_
        have hl : ((L (stepW x v)).take k).length = k := by rw [List.length_take, Hls.out]; omega
        rw [bv_at (by have := hlen.out; rw [length_bv] at this; omega), List.getElem_append_right (by omega)]
        simp [hl, getElem_L]
      have hst := Lib.hid (stepL_at (x := x) hlt)
      have hfs := Lib.hid (fill_set (A := L (stepW x v)) (R := L v) (k := k) (by rw [Hls.out]; exact hlt) (by rw [Hls.out, Hlv.out]))
      cases hm : mvB x v k
      · rw [hm] at f0
        have he : (L (stepW x v)).take k ++ (L v).drop k = (L (stepW x v)).take (k + 1) ++ (L v).drop (k + 1) := by
          rw [← hfs.out, hst.out, hm]
          simp only [Bool.false_eq_true, if_false]
          have hl : ((L (stepW x v)).take k).length = k := by rw [List.length_take, Hls.out]; omega
          rw [List.set_append_right _ _ (by omega), hl, Nat.sub_self, List.drop_eq_getElem_cons (by rw [Hlv.out]; exact hlt)]
          rfl
        have HE := Lib.hid he
        clear hm he
        go_wp2
        go_roundw
        case rel => exact ⟨k + 1, by omega, by go_num, hbel, o2, by rw [← HE.out]; exact o3⟩
        case measure => simp [intOf]; omega
      · rw [hm] at f0
        have HS := Lib.hid (show (L (stepW x v))[k]'(by rw [Hls.out]; exact hlt) = letr (dig v[k] + 1) by rw [hst.out, hm]; rfl)
        clear hm
        go_wp2_with (go_at_call 73; ((with_reducible refine (shifted_any _ _ _ hd.1 hd.2 (by omega) (by omega)).mono ?_); rintro e w' ⟨rfl, rfl⟩))
        go_roundw
        case rel =>
          refine ⟨k + 1, by omega, by go_num, hbel.setCell (by simp; omega) _, o2.far (by simp) _, ?_⟩
          rw [← hfs.out, HS.out, ← bv_set]
          exact o3.set_ (by rw [hlen.out]; exact hlt) _
        case measure => simp [intOf]; omega
    · have hk' : k = v.size := by omega
      subst hk'
      rw [List.take_of_length_le (by rw [Hls.out]; omega), List.drop_eq_nil_of_le (by rw [Hlv.out]; omega), List.append_nil] at o3
      have hcv := o3.conv (P := Tryz.prog) 22 9 5 Tryz.underlying22 Tryz.underlying5 Tryz.underlying9 (n := v.size) Hls.out.symm cap
      rw [S_L] at hcv
      go_wp2
      go_ret
      exact ⟨rfl, hbel⟩
end Go.Proofs.YtnnblmibonnpcaaGreat
