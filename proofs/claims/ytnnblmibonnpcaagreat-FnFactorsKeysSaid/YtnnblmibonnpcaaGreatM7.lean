/- Several of my texts in one: Round, Turn, Asm, PermAt, KeyLaws, Keys, List2, Coll. -/
import Derived.Test.YtnnblmibonnpcaaGreatM3
import Derived.Test.YtnnblmibonnpcaaGreatM6
import Derived.Orders
import Derived.OrdersIn
import Derived.Test.YtnnblmibonnpcaaGreatM2
import Derived.Sort.LoopGhostIn
import Derived.Test.YtnnblmibonnpcaaGreatM4
import Derived.Laws.MakeOwn
import Derived.RangeFuncOwn
/- Regions that draw their order, inside the wide fence and in a round of a range over a function. -/
namespace Go.Proofs.YtnnblmibonnpcaaGreat
open Go.RowKit

/-- The wide fence, in a round or not. -/
abbrev FR (ro : Option Nat) : Fence := { Fence.wide with round := ro }
section
variable {ro : Option Nat} {n : Nat} {P : Program} {K : Act → World → Prop} {Q : Exit → Act → World → Prop} {a : Act} {w : World}
theorem calls_in {f : FuncId} {args : Array Value} {R : Ending → World → Prop} (h : Calls P f args w R) : CallsIn (FR ro) n P f args w R := (callsIn_wide (n := n)).2 h
theorem rows_in {row : String} {args : Array Value} {R : Value → World → Prop} (h : Rows P row args w R) : RowsIn (FR ro) n P row args w R :=
  fun c cs _ => let ⟨v, w', r, s⟩ := h c cs; ⟨v, w', r, stepsIn_wide.2 s⟩
/-- An operation that is no 'defer' is carried out in a round as everywhere. -/
theorem oper_in {o : Oper} (hnd : ∀ c, o.op ≠ .defer c) (h : o.wp P a w K (fun _ _ _ => False)) : o.wpIn (FR ro) n P a w K Q := by
  unfold Oper.wpIn
  refine ⟨fun f _ => trivial, ?_⟩
  rw [Oper.semAt_eq _ _ _ hnd]
  unfold Oper.wp at h
  generalize (execOp a.eval o).run P w = r at *
  cases r with
  | ok x w' =>
    cases x <;> simp only [Oper.upon, Oper.uponIn] at h ⊢
    case value => exact h
    case skip => exact h
    case defer => exact h
    case enter f args =>
      refine ⟨(fun h => by cases h), calls_in (h.mono fun e w'' he => ?_)⟩
      cases e with
      | returned v => exact he
      | panicked c => exact he.elim
      | outgrown => obtain ⟨_, _, h0⟩ := he; exact h0.elim
    case row r args => exact ⟨(fun h => by cases h), rows_in h⟩
  | halt x w' => cases x <;> simp only [Oper.upon] at h
def noDeferB (ops : Array Oper) : Bool := ops.all fun o => match o.op with | .defer _ => false | _ => true
theorem noDefer_spec {ops : Array Oper} (h : noDeferB ops = true) {i : Nat} {o : Oper} (hi : ops[i]? = some o) : ∀ c, o.op ≠ .defer c := by
  intro c e
  unfold noDeferB at h
  rw [Array.all_eq_true'] at h
  have := h o (Array.mem_of_getElem? hi)
  rw [e] at this; cases this
theorem op_in {ops : Array Oper} (hnd : noDeferB ops = true) {i : Nat} (h : wpOp P ops (fun _ _ _ => False) i K a w) : wpOpIn (FR ro) n P ops Q i K a w := by
  unfold wpOp at h
  unfold wpOpIn
  split
  · rename_i ho; simp only [ho] at h; exact h
  · rename_i o ho
    simp only [ho] at h
    split
    · rename_i hw
      simp only [hw, if_true] at h
      rcases h with h | h
      · exact oper_in (noDefer_spec hnd ho) h
      · obtain ⟨_, _, h0⟩ := h.2; exact h0.elim
    · rename_i hw
      simp only [hw] at h
      exact ⟨fun f _ => trivial, h⟩
variable {ops : Array Oper} {md : Region.Mode} {C : World → Prop}
theorem anyIn_of_head {m g : Nat} {L : Array Bool → Act → Prop} (hnd : noDeferB ops = true) (hL : ∀ listed a w, C w → L listed a → wpAnyIn (FR ro) n P md ops Q g listed a w) :
    ∀ (f : Nat) (listed : Array Bool) (a : Act) (w : World), C w → anyHead P md ops C m L f listed a → wpAnyIn (FR ro) n P md ops Q (f + g) listed a w
  | 0, listed, a, w, hw, h => by rw [Nat.zero_add]; exact hL _ _ _ hw h
  | f + 1, listed, a, w, hw, h => by
    rw [show f + 1 + g = (f + g) + 1 by omega]
    exact ⟨fun h0 => absurd h0 h.1, fun i hi => op_in hnd (wpOp_of_qOp hw (fun a' w' hw' h' => anyIn_of_head hnd hL f _ a' w' hw' h') (h.2 i hi).2)⟩
theorem anyIn_of_quiet {Qq : Act → Prop} (hnd : noDeferB ops = true) (hQ : ∀ a w, C w → Qq a → Q .normal a w) :
    ∀ (f : Nat) (listed : Array Bool) (a : Act) (w : World), C w → wpAnyQ P md ops C Qq f listed a → wpAnyIn (FR ro) n P md ops Q f listed a w
  | 0, _, _, _, hw, h => ⟨h.1, hQ _ _ hw h.2⟩
  | f + 1, _, _, _, hw, h => ⟨fun h0 => hQ _ _ hw (h.1 h0), fun i hi => op_in hnd (wpOp_of_qOp hw (fun a' w' hw' h' => anyIn_of_quiet hnd hQ f _ a' w' hw' h') (h.2 i hi))⟩
theorem wpOpIn_mono' {F : Fence} {i : Nat} {K' : Act → World → Prop} (h : ∀ a w, K a w → K' a w) (hh : wpOpIn F n P ops Q i K a w) : wpOpIn F n P ops Q i K' a w := wpOpIn_mono h hh
theorem wpAnyIn_of_seq {F : Fence} : ∀ (l : List Oper) (k : Nat) (listed : Array Bool) (a : Act) (w : World), (∀ j, l[j]? = ops[k + j]?) →
    Region.seqB md ops l.length k listed = true → wpListIn F n P ops Q l a w → wpAnyIn F n P md ops Q l.length listed a w
  | [], _, _, _, _, _, hB, h => ⟨by simpa [Region.seqB] using hB, h⟩
  | o :: l, k, listed, a, w, hl, hB, h => by
    have h0 : ops[k]? = some o := by simpa using (hl 0).symm
    simp only [List.length_cons, Region.seqB, Bool.and_eq_true, decide_eq_true_eq] at hB
    refine ⟨fun h1 => (by rw [hB.1] at h1; cases h1), fun i hi => ?_⟩
    rw [hB.1] at hi
    have hik : i = k := by simpa using hi
    subst hik
    have hw : wpOpIn F n P ops Q i (wpListIn F n P ops Q l) a w := by unfold wpOpIn; simp only [h0]; exact h
    exact wpOpIn_mono (fun a' w' h' => wpAnyIn_of_seq l (i + 1) _ a' w' (fun j => by have := hl (j + 1); simpa [Nat.add_assoc, Nat.add_comm 1 j] using this) hB.2 h') hw
/-- A region whose first operations read or call, and whose last ones come in one forced order. -/
theorem wpIn_region_cls_tail {id : Nat} {l : List Oper} (m : Nat) (hm : P.follows .mixedOrders = true) (hB : Region.lexTailB .any l.toArray m = true) (hnd : noDeferB l.toArray = true)
    (h : wpQuiet P l.toArray (fun w' => ∃ c : Cls w.heap.size w, w' = c.w) (fun a' => ∀ w', Below w.heap.size w w' → wpListIn (FR ro) n P l.toArray Q (l.drop m) a' w') (l.take m) a) : (Code.region id l.toArray true).wpIn (FR ro) n P Q a w := by
  simp only [Region.lexTailB, Bool.and_eq_true, decide_eq_true_eq] at hB
  obtain ⟨⟨⟨⟨hsel, hn⟩, hs⟩, hc⟩, hlex⟩ := hB
  have hn' : m < l.length := by simpa using hn
  have htl : (l.take m).length = m := by simp; omega
  have hdl : (l.drop m).length = l.toArray.size - m := by simp
  have inv0 : HeadInv .any l.toArray m (Array.replicate l.toArray.size false) :=
    ⟨by simp, fun j oj _ hl => (by rw [getD_replicate_false] at hl; cases hl), fun t _ ht => getD_in (by simpa using ht) (getD_replicate_false _ _)⟩
  have H := anyHead_lex (md := .any) (g := l.toArray.size - m) hsel hs hc hn (l.take m) 0 _ a (fun j hj => by
    have hj' : j < m := by rw [htl] at hj; exact hj
    simp [hj']) (by simpa using htl) inv0 (by rw [htl]; exact hlex) h
  refine wpIn_region_any hm ?_
  have := anyIn_of_head (ro := ro) (n := n) (Q := Q) (g := l.toArray.size - m) (C := fun w' => ∃ c : Cls w.heap.size w, w' = c.w) hnd (fun listed a' w' hw' hL => by
    obtain ⟨c, rfl⟩ := hw'
    have := wpAnyIn_of_seq (F := FR ro) (n := n) (md := .any) (Q := Q) (l.drop m) m listed a' c.w (fun j => by simp [List.getElem?_drop]) (by rw [hdl]; exact hL.1) (hL.2 _ c.bel)
    rwa [hdl] at this) _ _ _ { w with drawn := w.drawn + 1 } ⟨⟨{ w with drawn := w.drawn + 1 }, (Below.refl _ _).drew⟩, rfl⟩ H
  rw [htl, show m + (l.toArray.size - m) = l.toArray.size by omega] at this
  exact this
/-- A region whose operations read or call. -/
theorem wpIn_region_cls {id : Nat} {l : List Oper} (hm : P.follows .mixedOrders = true) (hB : Region.lexB .any l.toArray = true) (hnd : noDeferB l.toArray = true)
    (h : wpQuiet P l.toArray (fun w' => ∃ c : Cls w.heap.size w, w' = c.w) (fun a' => ∀ w', Below w.heap.size w w' → Q .normal a' w') l a) : (Code.region id l.toArray true).wpIn (FR ro) n P Q a w := by
  simp only [Region.lexB, Bool.and_eq_true] at hB
  refine wpIn_region_any hm (anyIn_of_quiet (C := fun w' => ∃ c : Cls w.heap.size w, w' = c.w) (Qq := fun a' => ∀ w', Below w.heap.size w w' → Q .normal a' w') hnd (fun a' w' hw' hq => by obtain ⟨c, rfl⟩ := hw'; exact hq _ c.bel) _ _ _ _ ⟨⟨{ w with drawn := w.drawn + 1 }, (Below.refl _ _).drew⟩, rfl⟩ ?_)
  have := wpAnyQ_lex (C := fun w' => ∃ c : Cls w.heap.size w, w' = c.w) (md := .any) hB.1 l 0 (Array.replicate l.toArray.size false) a (by simp) (by simpa using hB.2) h
  simpa using this

/-- The post of a piece that comes to its end. -/
def onlyN (Q : Exit → Act → World → Prop) : Exit → Act → World → Prop := fun e a w => e = .normal ∧ Q .normal a w
theorem onlyN_mk (h : Q .normal a w) : onlyN Q .normal a w := ⟨rfl, h⟩
theorem oper_plain {o : Oper} (hnd : ∀ c, o.op ≠ .defer c) (h : o.wp P a w K (onlyN Q)) : o.wpIn (FR ro) n P a w K Q := by
  unfold Oper.wpIn
  refine ⟨fun f _ => trivial, ?_⟩
  rw [Oper.semAt_eq _ _ _ hnd]
  unfold Oper.wp at h
  generalize (execOp a.eval o).run P w = r at *
  cases r with
  | ok x w' =>
    cases x <;> simp only [Oper.upon, Oper.uponIn] at h ⊢
    case value => exact h
    case skip => exact h
    case defer => exact h
    case enter f args =>
      refine ⟨(fun h => by cases h), calls_in (h.mono fun e w'' he => ?_)⟩
      cases e with
      | returned v => exact he
      | panicked c => cases he.1
      | outgrown => obtain ⟨_, _, h0⟩ := he; cases h0.1
    case row r args => exact ⟨(fun h => by cases h), rows_in h⟩
  | halt x w' => cases x <;> simp only [Oper.upon] at h <;> cases h.1
theorem op_plain {ops : Array Oper} (hnd : noDeferB ops = true) {i : Nat} (h : wpOp P ops (onlyN Q) i K a w) : wpOpIn (FR ro) n P ops Q i K a w := by
  unfold wpOp at h
  unfold wpOpIn
  split
  · rename_i ho; simp only [ho] at h; exact h
  · rename_i o ho
    simp only [ho] at h
    split
    · rename_i hw
      simp only [hw, if_true] at h
      rcases h with h | h
      · exact oper_plain (noDefer_spec hnd ho) h
      · obtain ⟨_, _, h0⟩ := h.2; cases h0.1
    · rename_i hw
      simp only [hw] at h
      exact ⟨fun f _ => trivial, h⟩
theorem any_plain {ops : Array Oper} {md : Region.Mode} (hnd : noDeferB ops = true) : ∀ (fuel : Nat) (listed : Array Bool) (a : Act) (w : World),
    wpAny P md ops (onlyN Q) fuel listed a w → wpAnyIn (FR ro) n P md ops Q fuel listed a w
  | 0, _, _, _, h => ⟨h.1, h.2.2⟩
  | _ + 1, _, _, _, h => ⟨fun h0 => (h.1 h0).2, fun i hi => op_plain hnd (wpOp_mono (fun a w => any_plain hnd _ _ a w) (h.2 i hi))⟩
theorem list_plain {ops : Array Oper} : ∀ (l : List Oper) (a : Act) (w : World), noDeferB l.toArray = true → wpList P ops (onlyN Q) l a w → wpListIn (FR ro) n P ops Q l a w
  | [], _, _, _, h => h.2
  | o :: l, a, w, hnd, h => by
    have h1 : (∀ c, o.op ≠ .defer c) := noDefer_spec (i := 0) hnd (by simp)
    have h2 : noDeferB l.toArray = true := by
      simp only [noDeferB, List.all_toArray, List.all_cons, Bool.and_eq_true] at hnd ⊢
      exact hnd.2
    unfold wpList at h
    unfold wpListIn
    split
    · rename_i hw
      rw [if_pos hw] at h
      rcases h with h | h
      · exact oper_plain h1 (Oper.wp_mono (fun a w => list_plain l a w h2) h)
      · obtain ⟨_, _, h0⟩ := h.2; cases h0.1
    · rename_i hw
      rw [if_neg hw] at h
      exact ⟨fun f _ => trivial, list_plain l _ _ h2 h⟩
/-- A region in the text's order, walked as everywhere. -/
theorem wpIn_lit_plain {id : Nat} {l : List Oper} (hnd : noDeferB l.toArray = true) (h : wpList P l.toArray (onlyN Q) l a w) : (Code.region id l.toArray false).wpIn (FR ro) n P Q a w := wpIn_region_lit (list_plain l a w hnd h)
/-- A region that draws its order, walked as everywhere. -/
theorem wpIn_draw_plain {id : Nat} {l : List Oper} (hm : P.follows .mixedOrders = true) (hnd : noDeferB l.toArray = true)
    (h : wpAny P .any l.toArray (onlyN Q) l.toArray.size (Array.replicate l.toArray.size false) a { w with drawn := w.drawn + 1 }) : (Code.region id l.toArray true).wpIn (FR ro) n P Q a w :=
  wpIn_region_any hm (any_plain hnd _ _ _ _ h)
/-- A region whose first operations read or call, and whose last ones come in one forced order and are walked as everywhere. -/
theorem wpIn_cls_tail {id : Nat} {l : List Oper} (m : Nat) (hm : P.follows .mixedOrders = true) (hB : Region.lexTailB .any l.toArray m = true) (hnd : noDeferB l.toArray = true)
    (h : wpQuiet P l.toArray (fun w' => ∃ c : Cls w.heap.size w, w' = c.w) (fun a' => ∀ w', Below w.heap.size w w' → wpList P l.toArray (onlyN Q) (l.drop m) a' w') (l.take m) a) : (Code.region id l.toArray true).wpIn (FR ro) n P Q a w := by
  refine wpIn_region_cls_tail m hm hB hnd ?_
  have hd : noDeferB (l.drop m).toArray = true := by
    simp only [noDeferB, List.all_toArray, List.all_eq_true] at hnd ⊢
    exact fun o ho => hnd o (List.mem_of_mem_drop ho)
  have hq : ∀ (l' : List Oper) (a : Act), wpQuiet P l.toArray (fun w' => ∃ c : Cls w.heap.size w, w' = c.w) (fun a' => ∀ w', Below w.heap.size w w' → wpList P l.toArray (onlyN Q) (l.drop m) a' w') l' a →
      wpQuiet P l.toArray (fun w' => ∃ c : Cls w.heap.size w, w' = c.w) (fun a' => ∀ w', Below w.heap.size w w' → wpListIn (FR ro) n P l.toArray Q (l.drop m) a' w') l' a := by
    intro l'
    induction l' with
    | nil => intro a h w' hw'; exact list_plain _ _ _ hd (h w' hw')
    | cons o rest ih =>
      intro a h
      unfold wpQuiet at h ⊢
      split
      · rename_i hw
        rw [if_pos hw] at h
        obtain ⟨v, hv, hn⟩ := h
        exact ⟨v, hv, ih _ hn⟩
      · rename_i hw
        rw [if_neg hw] at h
        exact ih _ h
  exact hq _ _ h
end
end Go.Proofs.YtnnblmibonnpcaaGreat

/- Contracts of the program's functions that turn rotors. -/
namespace Go.Proofs.YtnnblmibonnpcaaGreat
open Go.RowKit

theorem turned_any (r : Rot) (o : Nat) (w : World) (hr : SzR r) (hp : permB r.wiring = true) (ho : o < 10) :
    Calls Tryz.prog 44 #[.agg #[.string r.wiring, .string r.notches], .int .i64 (o : Int)] w fun e w' => e = .returned (.agg (pv (turnP (dg r.wiring) o)).toArray) ∧ Below w.heap.size w w' := by
  have hP := permB_isP hp
  have hlen := hP.len
  have hlen' : (pv (dg r.wiring)).length = 10 := by rw [length_pv]; exact hlen
  have h1 := hr.1
  have ob : Own ((w.alloc (.cells (rv r).toArray 73)).alloc (.cells #[.int .u8 0, .int .u8 0, .int .u8 0, .int .u8 0, .int .u8 0, .int .u8 0, .int .u8 0, .int .u8 0, .int .u8 0, .int .u8 0] 42)) (w.heap.size + 1) z10 := by
    have := Own.new (w.alloc (.cells (rv r).toArray 73)) z10 42
    rw [World.size_alloc] at this; exact this
  have hb0 := ((Below.refl w.heap.size w).alloc (Nat.le_refl _) (.cells (rv r).toArray 73)).alloc (by simp) (.cells #[.int .u8 0, .int .u8 0, .int .u8 0, .int .u8 0, .int .u8 0, .int .u8 0, .int .u8 0, .int .u8 0, .int .u8 0, .int .u8 0] 42)
  go_enter Tryz.func44, Tryz.ntmps44
  go_wp2_with fail
  refine (permOf_any _ _ h1).mono ?_
  rintro e w1 ⟨rfl, hb1⟩
  rw [hp, permC_yes]
  have hz1 := hb1.size
  simp only [World.size_alloc] at hz1
  have o1 : Own (w1.alloc (.cells #[.int .u8 0, .int .u8 0, .int .u8 0, .int .u8 0, .int .u8 0, .int .u8 0, .int .u8 0, .int .u8 0, .int .u8 0, .int .u8 0] 42)) w1.heap.size z10 := Own.new w1 z10 42
  have ob1 := (ob.below hb1 ob.lt).alloc (.cells #[.int .u8 0, .int .u8 0, .int .u8 0, .int .u8 0, .int .u8 0, .int .u8 0, .int .u8 0, .int .u8 0, .int .u8 0, .int .u8 0] 42)
  have hbw := (bt hb0 hb1).alloc (by omega) (.cells #[.int .u8 0, .int .u8 0, .int .u8 0, .int .u8 0, .int .u8 0, .int .u8 0, .int .u8 0, .int .u8 0, .int .u8 0, .int .u8 0] 42)
  clear ob hb0 hb1
  go_wp2_with ((with_reducible refine wl_store 42 0 o1 (size_pv hlen) (pv_one _) (by rw [hlen', len_z10]; omega) ?_ ?_ ?_ ?_); (· rfl); (· rfl); (· rfl); intro w2 o2 b2 s2)
  rw [put_z10 hlen'] at o2
  simp only [World.size_alloc] at s2
  have ob2 := ob1.grown b2 (by simp; omega)
  have hbw2 := bel_store hbw b2 (by simp; omega) (by omega)
  clear hbw ob1 o1 b2
  have hT := hP.turn o
  obtain ⟨q, hq⟩ : ∃ q, q = (10 - o) % 10 := ⟨_, rfl⟩
  have hq' : q ≤ 9 := by omega
  have hm1 : IntKind.i64.wrap (10 - (o : Int)) = 10 - (o : Int) := IntWalk.i64_in _ (by omega)
  have hm : (10 - (o : Int)).tmod 10 = (q : Int) := by rw [Int.tmod_eq_emod_of_nonneg (by omega)]; omega
  obtain ⟨p1, hp1⟩ : ∃ p1, p1 = thenP (rotP o) (dg r.wiring) := ⟨_, rfl⟩
  obtain ⟨p2, hp2⟩ : ∃ p2, p2 = turnP (dg r.wiring) o := ⟨_, rfl⟩
  have r1 := fun W => rotation_any o W (by omega)
  have r2 := fun W => rotation_any q W (by omega)
  have t1 := fun W => then_any (rotP o) (dg r.wiring) W (isP_rot o) hP
  have t2 := fun W => then_any (thenP (rotP o) (dg r.wiring)) (rotP ((10 - o) % 10)) W ((isP_rot o).then hP) (isP_rot _)
  have HP2 := Lib.hid hp2
  unfold turnP at hp2 hT
  rw [← hp2] at t2 hT
  rw [← hp1] at t1 t2
  rw [← hq] at t2
  clear hp1 hp2 hq
  generalize hR1 : rotP o = p3 at *
  generalize hR2 : rotP q = p4 at *
  generalize hR3 : dg r.wiring = p5 at *
  clear hR1 hR2
  refine wp_region_cls_tail 9 (by kernel_rfl) (by kernel_rfl) ?_
  simp only [List.take_succ_cons, List.take_zero, List.drop_succ_cons, List.drop_zero]
  repeat (first | ((with_reducible refine wq_load 42 o2.cells o2.lt (size_pv hlen) Tryz.underlying42 ?_ ?_ ?_ ?_); (· rfl); (· rfl); (· rfl); (simp only [Act.put, List.setIfInBounds_toArray, List.set_cons_succ, List.set_cons_zero])) | go_big_quiet_step (first | (go_at_call 71; with_reducible exact cls_of (Nat.le_refl _) (r1 _)) | (go_at_call 71; with_reducible exact cls_of (Nat.le_refl _) (r2 _)) | (go_at_call 28; with_reducible exact cls_of (Nat.le_refl _) (t1 _)) | (go_at_call 28; with_reducible exact cls_of (Nat.le_refl _) (t2 _))))
  refine wpQuiet_nil ?_
  intro wc hbc
  have oc := ob2.below hbc ob2.lt
  have hzc := hbc.size
  have hbwc := bt hbw2 hbc
  have hT' : (pv p2).length = 10 := by rw [length_pv]; exact hT.len
  clear hm1 hm
  go_wp2_with ((with_reducible refine wl_store 42 0 oc (size_pv hT.len) (pv_one _) (by rw [hT', len_z10]; omega) ?_ ?_ ?_ ?_); (· rfl); (· rfl); (· rfl); intro w5 o5 b5 s5)
  rw [put_z10 hT'] at o5
  refine bodyPost_ret (results_cell_own Tryz.results44 _ _ _ _ _ (by rfl) o5.cells Tryz.underlying42 rfl (size_pv hT.len)) rfl ?_
  rw [hR3, ← HP2.out]
  exact ⟨rfl, bel_store hbwc b5 (by omega) (by omega)⟩
end Go.Proofs.YtnnblmibonnpcaaGreat

/- The contract of newAssembly: a machine with its rotors, turned by all offsets, in memory. -/
namespace Go.Proofs.YtnnblmibonnpcaaGreat
open Go.RowKit

/-- An assembly as it is made. -/
def asm0 (a : Option Addr) (n c : Nat) (s1 s2 s3 : ByteArray) : List Value := [.slice a n c, .string s1, .string s2, .string s3] ++ List.replicate 320 (.int .u8 0)
theorem len_asm0 (a : Option Addr) (n c : Nat) (s1 s2 s3 : ByteArray) : (asm0 a n c s1 s2 s3).length = 324 := by
  rw [asm0, List.length_append, List.length_replicate]; rfl
theorem build_asm (a : Option Addr) (n c : Nat) (s1 s2 s3 : ByteArray) (w : World) :
    (Instr.build 71 #[(0, .agg #[.slice a n c, .string s1, .string s2, .string s3])]).run Tryz.prog w = .ok (.agg (asm0 a n c s1 s2 s3).toArray) w := run_build w 71 _ _ (by kernel_rfl)

/-- The cells vs lie in the list cs from off on. -/
def SubL (cs : List Value) (off : Nat) (vs : List Value) : Prop := off + vs.length ≤ cs.length ∧ ∀ i, i < vs.length → cs[off + i]? = vs[i]?
theorem SubL.put_same {cs vs : List Value} {off : Nat} (h : off + vs.length ≤ cs.length) : SubL (put cs off vs) off vs := by
  refine ⟨by rw [len_put h]; exact h, fun i hi => ?_⟩
  have h1 : (cs.take off).length = off := by simp; omega
  rw [put, List.append_assoc, List.getElem?_append_right (by omega), h1, show off + i - off = i by omega, List.getElem?_append_left hi]
theorem SubL.put_apart {cs vs us : List Value} {off off' : Nat} (h : off + vs.length ≤ cs.length) (k : SubL cs off' us) (ha : off' + us.length ≤ off ∨ off + vs.length ≤ off') : SubL (put cs off vs) off' us := by
  refine ⟨by rw [len_put h]; exact k.1, fun i hi => ?_⟩
  rw [← k.2 i hi]
  have hk := k.1
  have h1 : (cs.take off).length = off := by simp; omega
  rcases ha with ha | ha
  · rw [put, List.append_assoc, List.getElem?_append_left (by omega), List.getElem?_take_of_lt (by omega)]
  · have h2 : (cs.take off ++ vs).length = off + vs.length := by simp; omega
    rw [put, List.getElem?_append_right (by omega), h2, List.getElem?_drop]
    congr 1; omega
theorem SubL.cells {w : World} {g off : Nat} {cs vs : List Value} (ho : Own w g cs) (h : SubL cs off vs) : Cells w g off vs := fun i hi => by
  have := h.1
  rw [ho.cell (off + i) (by omega)]; exact h.2 i hi

/-- An assembly in memory. -/
structure Asm (w : World) (g : Nat) (a : Option Addr) (n c : Nat) (m : Mach) : Prop where
  lt : g < w.heap.size
  mach : Cells w g 0 [.slice a n c, .string m.wheels.refl, .string m.rings, .string m.plugs]
  plugs : Cells w g 4 (pv (dg m.plugs))
  refl : Cells w g 14 (pv (dg m.wheels.refl))
  turned : ∀ (i o : Nat) (h : i < m.wheels.rotors.length), o < 10 → Cells w g (24 + i * 100 + o * 10) (pv (turnP (dg m.wheels.rotors[i].wiring) o))
theorem Asm.keep {w w' : World} {g : Nat} {a : Option Addr} {n c : Nat} {m : Mach} (h : Asm w g a n c m) (hs : g < w'.heap.size) (hb : w'.heap[g]? = w.heap[g]?) : Asm w' g a n c m :=
  ⟨hs, h.mach.keep hb, h.plugs.keep hb, h.refl.keep hb, fun i o hi ho => (h.turned i o hi ho).keep hb⟩
theorem Asm.below {w w' : World} {g B : Nat} {a : Option Addr} {n c : Nat} {m : Mach} (h : Asm w g a n c m) (hb : Below B w w') (hg : g < B) : Asm w' g a n c m :=
  h.keep (Nat.lt_of_lt_of_le h.lt hb.size) (hb.block g hg)

/-- How far the assembly has been made: rotors before k, and of rotor k the offsets before j. -/
structure AsmTo (cs : List Value) (a : Option Addr) (n c : Nat) (m : Mach) (k j : Nat) : Prop where
  len : cs.length = 324
  mach : SubL cs 0 [.slice a n c, .string m.wheels.refl, .string m.rings, .string m.plugs]
  plugs : SubL cs 4 (pv (dg m.plugs))
  refl : SubL cs 14 (pv (dg m.wheels.refl))
  turned : ∀ (i o : Nat) (h : i < m.wheels.rotors.length), o < 10 → (i < k ∨ (i = k ∧ o < j)) → SubL cs (24 + i * 100 + o * 10) (pv (turnP (dg m.wheels.rotors[i].wiring) o))
theorem AsmTo.asm {w : World} {g : Nat} {cs : List Value} {a : Option Addr} {n c : Nat} {m : Mach} {k : Nat} (h : AsmTo cs a n c m k 0) (ho : Own w g cs) (hk : m.wheels.rotors.length ≤ k) : Asm w g a n c m :=
  ⟨ho.lt, h.mach.cells ho, h.plugs.cells ho, h.refl.cells ho, fun i o hi h10 => (h.turned i o hi h10 (.inl (by omega))).cells ho⟩
theorem AsmTo.next {cs : List Value} {a : Option Addr} {n c : Nat} {m : Mach} {k : Nat} (h : AsmTo cs a n c m k 10) : AsmTo cs a n c m (k + 1) 0 :=
  ⟨h.len, h.mach, h.plugs, h.refl, fun i o hi h10 hd => h.turned i o hi h10 (by omega)⟩
theorem AsmTo.put {cs : List Value} {a : Option Addr} {n c : Nat} {m : Mach} {k j : Nat} (h : AsmTo cs a n c m k j) (hk : k < m.wheels.rotors.length) (hk3 : k < 3) (hj : j < 10) (hp : IsP (turnP (dg m.wheels.rotors[k].wiring) j)) (hP : (pv (dg m.plugs)).length = 10) (hR : (pv (dg m.wheels.refl)).length = 10)
    (hT : ∀ (i o : Nat) (hi : i < m.wheels.rotors.length), (pv (turnP (dg m.wheels.rotors[i].wiring) o)).length = 10) :
    AsmTo (put cs (24 + k * 100 + j * 10) (pv (turnP (dg m.wheels.rotors[k].wiring) j))) a n c m k (j + 1) := by
  have hl := h.len
  have hlp := hT k j hk
  have hb : 24 + k * 100 + j * 10 + (pv (turnP (dg m.wheels.rotors[k].wiring) j)).length ≤ cs.length := by omega
  refine ⟨by rw [len_put hb]; exact hl, h.mach.put_apart hb (.inl (by simp; omega)), h.plugs.put_apart hb (.inl (by omega)), h.refl.put_apart hb (.inl (by omega)), fun i o hi h10 hd => ?_⟩
  by_cases e : i = k ∧ o = j
  · obtain ⟨rfl, rfl⟩ := e
    exact SubL.put_same hb
  · have hlo := hT i o hi
    exact (h.turned i o hi h10 (by omega)).put_apart hb (by omega)
theorem asmTo_zero {a : Option Addr} {n c : Nat} {m : Mach} (hP : (pv (dg m.plugs)).length = 10) (hR : (pv (dg m.wheels.refl)).length = 10) :
    AsmTo (put (put (asm0 a n c m.wheels.refl m.rings m.plugs) 4 (pv (dg m.plugs))) 14 (pv (dg m.wheels.refl))) a n c m 0 0 := by
  have hl := len_asm0 a n c m.wheels.refl m.rings m.plugs
  have h1 : 4 + (pv (dg m.plugs)).length ≤ (asm0 a n c m.wheels.refl m.rings m.plugs).length := by omega
  have hl1 := len_put h1
  have h2 : 14 + (pv (dg m.wheels.refl)).length ≤ (put (asm0 a n c m.wheels.refl m.rings m.plugs) 4 (pv (dg m.plugs))).length := by omega
  have hm : SubL (asm0 a n c m.wheels.refl m.rings m.plugs) 0 [.slice a n c, .string m.wheels.refl, .string m.rings, .string m.plugs] := by
    refine ⟨by rw [hl]; simp, fun i hi => ?_⟩
    rw [Nat.zero_add, asm0, List.getElem?_append_left hi]
  exact ⟨by rw [len_put h2, hl1, hl], (hm.put_apart h1 (.inl (by simp))).put_apart h2 (.inl (by simp)), (SubL.put_same h1).put_apart h2 (.inl (by omega)), SubL.put_same h2, fun i o hi h10 hd => absurd hd (by omega)⟩

theorem size_pv10 {p : List Nat} (h : IsP p) : (pv p).length = 10 := by rw [length_pv]; exact h.len
theorem info_rotor : (Tryz.prog.info? 73).map (·.size) = some 2 := by kernel_rfl

set_option maxRecDepth 100000 in
set_option maxHeartbeats 1000000 in
theorem newAssembly_any (a : Option Addr) (n c : Nat) (m : Mach) (w : World) (h : MachAt w w.heap.size a n m) (hm : machB m = true) :
    Calls Tryz.prog 22 #[.agg #[.slice a n c, .string m.wheels.refl, .string m.rings, .string m.plugs]] w fun e w' =>
      e = .returned (.pointer (some ⟨w.heap.size + 1, 0, none⟩)) ∧ Asm w' (w.heap.size + 1) a n c m ∧ Below w.heap.size w w' := by
  have hf := machB_fit hm
  obtain ⟨b, off, rfl, hbl, hcr⟩ := h.whl.cells hf.one
  have hn := h.whl.len
  subst hn
  have h3 := hf.three
  have hP := size_pv10 (machB_plugP hm)
  have hR := size_pv10 (machB_reflP hm)
  have hr1 := h.rings
  have hp1 := h.plugs
  have hf1 := h.whl.refl
  have o0 := (Own.new w [.slice (some ⟨b, off, none⟩) m.wheels.rotors.length c, .string m.wheels.refl, .string m.rings, .string m.plugs] 27).alloc (.cells (asm0 (some ⟨b, off, none⟩) m.wheels.rotors.length c m.wheels.refl m.rings m.plugs).toArray 71)
  have o1 := Own.new (w.alloc (.cells [.slice (some ⟨b, off, none⟩) m.wheels.rotors.length c, .string m.wheels.refl, .string m.rings, .string m.plugs].toArray 27)) (asm0 (some ⟨b, off, none⟩) m.wheels.rotors.length c m.wheels.refl m.rings m.plugs) 71
  have hb0 := ((Below.refl w.heap.size w).alloc (Nat.le_refl _) (.cells [.slice (some ⟨b, off, none⟩) m.wheels.rotors.length c, .string m.wheels.refl, .string m.rings, .string m.plugs].toArray 27)).alloc (by simp) (.cells (asm0 (some ⟨b, off, none⟩) m.wheels.rotors.length c m.wheels.refl m.rings m.plugs).toArray 71)
  have hba := fun W => build_asm (some ⟨b, off, none⟩) m.wheels.rotors.length c m.wheels.refl m.rings m.plugs W
  rw [World.size_alloc] at o1
  go_enter Tryz.func22, Tryz.ntmps22
  go_wp2_with fail
  refine (plugsOf_any _ _ hp1).mono ?_
  rintro e w1 ⟨rfl, hb1⟩
  rw [machB_plug hm, permC_yes]
  have p0 := o0.below hb1 o0.lt
  have p1 := o1.below hb1 o1.lt
  have hbw := bt hb0 hb1
  clear o0 o1 hb0 hb1 hba
  have hl0 : 4 + (pv (dg m.plugs)).length ≤ (asm0 (some ⟨b, off, none⟩) m.wheels.rotors.length c m.wheels.refl m.rings m.plugs).length := by rw [len_asm0, hP]; omega
  go_wp2_with ((with_reducible refine wl_store 42 4 p1 (size_pv (machB_plugP hm).len) (pv_one _) hl0 ?_ ?_ ?_ ?_); (· rfl); (· rfl); (· rfl); intro w2 q1 b2 s2; have q0 := p0.grown b2 (by simp); have c1 := q0.at_ (i := 1) rfl)
  have hz1 := hbw.size
  have lt0 := p0.lt
  have hbw2 := bel_store hbw b2 (by omega) (by omega)
  clear p0 p1 b2 hbw hl0
  refine (reflectorOf_any _ _ hf1).mono ?_
  rintro e w3 ⟨rfl, hb3⟩
  rw [reflB_plug hf.refl, permC_yes]
  have r0 := q0.below hb3 q0.lt
  have r1 := q1.below hb3 q1.lt
  have hbw3 := bt hbw2 hb3
  clear q0 q1 hbw2 hb3 c1
  have hl1 : 14 + (pv (dg m.wheels.refl)).length ≤ (put (asm0 (some ⟨b, off, none⟩) m.wheels.rotors.length c m.wheels.refl m.rings m.plugs) 4 (pv (dg m.plugs))).length := by rw [len_put (by rw [len_asm0, hP]; omega), len_asm0, hR]; omega
  go_wp2_with ((with_reducible refine wl_store 42 14 r1 (size_pv (machB_reflP hm).len) (pv_one _) hl1 ?_ ?_ ?_ ?_); (· rfl); (· rfl); (· rfl); intro w4 t1 b4 s4; have t0 := r0.grown b4 (by simp); have c0 := t0.at_ (i := 0) rfl)
  have hz3 := hbw3.size
  have lt1 := r0.lt
  have hbw4 := bel_store hbw3 b4 (by omega) (by omega)
  clear r0 r1 b4 hbw3 hl1 c0
  have hPr : ∀ (i : Nat) (hi : i < m.wheels.rotors.length), permB m.wheels.rotors[i].wiring = true := fun i hi => rotorB_perm (hf.rot _ (List.getElem_mem hi))
  have hT := Lib.hid (fun (i o : Nat) (hi : i < m.wheels.rotors.length) => size_pv10 ((permB_isP (hPr i hi)).turn o))
  have HPr := Lib.hid hPr
  have HP := Lib.hid hP
  have HR := Lib.hid hR
  have A0 := asmTo_zero (a := some ⟨b, off, none⟩) (n := m.wheels.rotors.length) (c := c) hP hR
  clear hPr hP hR
  go_loopw [33] (fun i wr => ∃ (k : Nat) (cs : List Value), k ≤ m.wheels.rotors.length ∧ i = .int .i64 k ∧ AsmTo cs (some ⟨b, off, none⟩) m.wheels.rotors.length c m k 0 ∧ Own wr (w.heap.size + 1) cs ∧ Below w.heap.size w wr) (fun i _ => m.wheels.rotors.length - (intOf i).toNat)
  case atStart => exact ⟨0, _, Nat.zero_le _, rfl, A0, t1, hbw4⟩
  case round =>
    clear A0 t0 t1 hbw4 s4 s2 hz3 hz1 lt0 lt1
    obtain ⟨k, cs, hk, rfl, hA, hown, hb⟩ := hrel
    by_cases hlt : k < m.wheels.rotors.length
    · obtain ⟨f0, f1⟩ := rot_cells (hcr.below hb hbl) hlt
      have q1 : (k : Int) < (m.wheels.rotors.length : Int) := by omega
      have rb := Own.new wr (rv m.wheels.rotors[k]) 73
      have hownb := hown.alloc (.cells (rv m.wheels.rotors[k]).toArray 73)
      have hbb := hb.alloc (by have := hb.size; omega) (.cells (rv m.wheels.rotors[k]).toArray 73)
      have hne : w.heap.size + 1 ≠ wr.heap.size := by have := hown.lt; omega
      have k3 : k < 3 := by omega
      have hpk := HPr.out k hlt
      have hsz := h.whl.rot _ (List.getElem_mem hlt)
      go_wp2_with fail
      generalize hRB : wr.heap.size = RB at *
      go_loopw [38] (fun i wr => ∃ (j : Nat) (cs : List Value), j ≤ 10 ∧ i = .int .i64 j ∧ AsmTo cs (some ⟨b, off, none⟩) m.wheels.rotors.length c m k j ∧ Own wr (w.heap.size + 1) cs ∧ Own wr RB (rv m.wheels.rotors[k]) ∧ Below w.heap.size w wr) (fun i _ => 10 - (intOf i).toNat)
      case atStart => exact ⟨0, cs, by omega, rfl, hA, hownb, rb, hbb⟩
      case round =>
        clear hA hown hb hownb rb hbb f0 f1 hRB
        obtain ⟨j, cs2, hj, rfl, hA, hown, hrb, hb⟩ := hrel
        by_cases hjl : j < 10
        · have q2 : (0 : Int) ≤ (k : Int) := by omega
          have q3 : (k : Int) < 3 := by omega
          have q4 : (0 : Int) ≤ (j : Int) := by omega
          have q5 : (j : Int) < 10 := by omega
          have hca := fun W => turned_any m.wheels.rotors[k] j W hsz hpk hjl
          have hrb' : Own wr RB [.string m.wheels.rotors[k].wiring, .string m.wheels.rotors[k].notches] := hrb
          have hinf : (Tryz.prog.info? 73).map (·.size) = some [Value.string m.wheels.rotors[k].wiring, .string m.wheels.rotors[k].notches].length := info_rotor
          have hIP := (permB_isP hpk).turn j
          have hA2 := hA.put hlt k3 hjl hIP HP.out HR.out hT.out
          have hli : (pv (turnP (dg m.wheels.rotors[k].wiring) j)).length = 10 := size_pv10 hIP
          have hlen : 24 + k * 100 + j * 10 + (pv (turnP (dg m.wheels.rotors[k].wiring) j)).length ≤ cs2.length := by rw [hA.len, hli]; omega
          have HLEN := Lib.hid hlen
          have HA2 := Lib.hid hA2
          have HSZ := Lib.hid (size_pv hIP.len)
          clear hli hlen hA2 hA
          go_wp2_with fail
          generalize hTP : turnP (dg m.wheels.rotors[k].wiring) j = tp at *
          refine wp_region_cls_tail 10 (by kernel_rfl) (by kernel_rfl) ?_
          simp only [List.take_succ_cons, List.take_zero, List.drop_succ_cons, List.drop_zero]
          repeat (first | ((with_reducible refine wq_load 73 hrb'.cells hrb'.lt hinf Tryz.underlying73 ?_ ?_ ?_ ?_); (· rfl); (· rfl); (· rfl); (simp only [Act.put, List.setIfInBounds_toArray, List.set_cons_succ, List.set_cons_zero])) | go_big_quiet_step (first | (go_at_call 44; with_reducible exact cls_of (Nat.le_refl _) (hca _))))
          refine wpQuiet_nil ?_
          intro wc hbc
          have hown2 := hown.below hbc hown.lt
          have hrb2 := hrb.below hbc hrb.lt
          have hb2 := bt hb hbc
          have hzz := hbc.size
          have lt2 := hown.lt
          clear hown hrb hb hrb' hca
          go_wp2_with ((with_reducible refine wl_store 42 (24 + k * 100 + j * 10) hown2 HSZ.out (pv_one _) HLEN.out ?_ ?_ ?_ ?_); (· rfl); (· rfl); (· rfl); intro w6 q6 b6 s6)
          go_roundw
          case rel => exact ⟨j + 1, _, by omega, by go_num, HA2.out, q6, hrb2.grown b6 (by simp; omega), bel_store hb2 b6 (by omega) (by omega)⟩
          case measure => simp [intOf]; omega
        · have hj' : j = 10 := by omega
          subst hj'
          have hA' := hA.next
          go_wp2
          go_roundw
          case rel => exact ⟨k + 1, cs2, by omega, by go_num, hA', hown, hb⟩
          case measure => simp [intOf]; omega
    · have hk' : k = m.wheels.rotors.length := by omega
      subst hk'
      go_wp2
      go_ret
      exact ⟨rfl, hA.asm hown (Nat.le_refl _), hb⟩
end Go.Proofs.YtnnblmibonnpcaaGreat

/- The contract of permAt: the permutation of an assembly at some windows. -/
namespace Go.Proofs.YtnnblmibonnpcaaGreat
open Go.RowKit

/-- Some cells in a block that there is. -/
structure CellsAt (w : World) (g off : Nat) (cs : List Value) : Prop where
  cells : Cells w g off cs
  lt : g < w.heap.size
theorem Asm.alloc {w : World} {g : Nat} {a : Option Addr} {n c : Nat} {m : Mach} (h : Asm w g a n c m) (o : Obj) : Asm (w.alloc o) g a n c m := h.keep (Nat.lt_of_lt_of_le h.lt (by simp)) (Below.heap_alloc w o g h.lt)
theorem Asm.grown {w w' : World} {g : Nat} {a : Option Addr} {n c : Nat} {m : Mach} {row : Option Nat} (h : Asm w g a n c m) (hb : w.grownBy w' row) (hg : some g ≠ row) : Asm w' g a n c m := h.keep (Nat.lt_of_lt_of_le h.lt hb.size) (hb.block g h.lt hg)
theorem Asm.far {w : World} {g : Nat} {a : Option Addr} {n c : Nat} {m : Mach} (h : Asm w g a n c m) {p : Addr} (hp : g ≠ p.block) (u : Value) : Asm (w.setCell p u) g a n c m := h.keep (by simpa [World.setCell] using h.lt) (Below.heap_setCell w p u g hp)
theorem way_drop {p : List Nat} {rs : List Rot} {os : List Nat} {k : Nat} (h1 : k < rs.length) (h2 : k < os.length) :
    wayP p (rs.drop k) (os.drop k) = thenP (wayP p (rs.drop (k + 1)) (os.drop (k + 1))) (turnP (dg rs[k].wiring) os[k]) := by
  rw [List.drop_eq_getElem_cons h1, List.drop_eq_getElem_cons h2]; rfl
theorem way_end {p : List Nat} {rs : List Rot} {os : List Nat} {k : Nat} (h1 : rs.length ≤ k) : wayP p (rs.drop k) (os.drop k) = p := by
  rw [List.drop_eq_nil_of_le h1]; simp only [wayP]

set_option maxRecDepth 100000 in
set_option maxHeartbeats 1000000 in
theorem permAt_any (g : Nat) (a : Option Addr) (n c : Nat) (m : Mach) (v : ByteArray) (w : World) (h : Asm w g a n c m) (hs : setB m v = true) :
    Calls Tryz.prog 47 #[.pointer (some ⟨g, 0, none⟩), .string v] w fun e w' => e = .returned (.agg (pv (keyP m v)).toArray) ∧ Below w.heap.size w w' := by
  have hm := setB_mach hs
  have hf := setB_fit hs
  have hpl := machB_plugP hm
  have hrf := machB_reflP hm
  have hv3 : v.size ≤ 3 := by rw [setB_len hs]; exact hf.three
  have hv1 : 1 ≤ v.size := by rw [setB_len hs]; exact hf.one
  have hlr : m.wheels.rotors.length = v.size := (setB_len hs).symm
  have hoff := fun W => offsets_any a n c m v W (setB_word hs) ((machB_fit hm).word) (setB_size hs)
  have hP := size_pv10 hpl
  have lg := h.lt
  have z1 : Own ((w.alloc (.cells #[.int .u8 0, .int .u8 0, .int .u8 0, .int .u8 0, .int .u8 0, .int .u8 0, .int .u8 0, .int .u8 0, .int .u8 0, .int .u8 0] 42)).alloc (.cells #[.int .u8 0, .int .u8 0, .int .u8 0, .int .u8 0, .int .u8 0, .int .u8 0, .int .u8 0, .int .u8 0, .int .u8 0, .int .u8 0] 42)) (w.heap.size + 1) z10 := by
    have := Own.new (w.alloc (.cells #[.int .u8 0, .int .u8 0, .int .u8 0, .int .u8 0, .int .u8 0, .int .u8 0, .int .u8 0, .int .u8 0, .int .u8 0, .int .u8 0] 42)) z10 42
    rwa [World.size_alloc] at this
  have z0 : Own ((w.alloc (.cells #[.int .u8 0, .int .u8 0, .int .u8 0, .int .u8 0, .int .u8 0, .int .u8 0, .int .u8 0, .int .u8 0, .int .u8 0, .int .u8 0] 42)).alloc (.cells #[.int .u8 0, .int .u8 0, .int .u8 0, .int .u8 0, .int .u8 0, .int .u8 0, .int .u8 0, .int .u8 0, .int .u8 0, .int .u8 0] 42)) w.heap.size z10 := (Own.new w z10 42).alloc _
  have hA1 := h.alloc (.cells #[.int .u8 0, .int .u8 0, .int .u8 0, .int .u8 0, .int .u8 0, .int .u8 0, .int .u8 0, .int .u8 0, .int .u8 0, .int .u8 0] 42)
  have hA2 := hA1.alloc (.cells #[.int .u8 0, .int .u8 0, .int .u8 0, .int .u8 0, .int .u8 0, .int .u8 0, .int .u8 0, .int .u8 0, .int .u8 0, .int .u8 0] 42)
  have hb2 := ((Below.refl w.heap.size w).alloc (Nat.le_refl _) (.cells #[.int .u8 0, .int .u8 0, .int .u8 0, .int .u8 0, .int .u8 0, .int .u8 0, .int .u8 0, .int .u8 0, .int .u8 0, .int .u8 0] 42)).alloc (by simp) (.cells #[.int .u8 0, .int .u8 0, .int .u8 0, .int .u8 0, .int .u8 0, .int .u8 0, .int .u8 0, .int .u8 0, .int .u8 0, .int .u8 0] 42)
  have hinf : (Tryz.prog.info? 27).map (·.size) = some [Value.slice a n c, .string m.wheels.refl, .string m.rings, .string m.plugs].length := by kernel_rfl
  go_enter Tryz.func47, Tryz.ntmps47
  go_wp2_with (first | ((with_reducible refine wl_load 42 hA1.plugs (size_pv hpl.len) Tryz.underlying42 ?_ ?_ ?_ ?_); (· rfl); (· rfl); (· rfl)) | ((with_reducible refine wl_store 42 0 z1 (size_pv hpl.len) (pv_one _) (by rw [hP, len_z10]; omega) ?_ ?_ ?_ ?_); (· rfl); (· rfl); (· rfl); intro w2 q2 b2 s2; have z2 := z0.grown b2 (by simp); have hA3 := hA2.grown b2 (by simp; omega); have hA3m := hA3.mach; clear z0 z1 hA1 hA2) | ((with_reducible refine wl_load 27 hA3m hinf Tryz.underlying27 ?_ ?_ ?_ ?_); (· rfl); (· rfl); (· rfl)))
  rw [put_z10 hP] at q2
  have hbw2 := bel_store hb2 b2 (by simp; omega) (by omega)
  have s2' : w2.heap.size = w.heap.size + 1 + 1 := by rw [s2]; simp
  clear hb2 b2 s2 hA3m
  refine (hoff _).mono ?_
  rintro e w3 ⟨rfl, o3, hb3⟩
  have z3 := z2.below hb3 z2.lt
  have q3 := q2.below hb3 q2.lt
  have hA4 := hA3.below hb3 hA3.lt
  have hbw3 := bt hbw2 hb3
  have hz3 := hb3.size
  clear z2 q2 hA3 hbw2 hb3 hoff h
  have hne : w.heap.size + 1 ≠ w2.heap.size + 1 := by omega
  have hne2 : g ≠ w.heap.size + 1 := by omega
  generalize w2.heap.size + 1 = B3 at *
  clear hz3 s2'
  have Hlo := Lib.hid (len_offs m.rings v)
  have HO := Lib.hid (offs_lt m.rings v)
  have HW := Lib.hid (fun k => isP_way hpl (m.wheels.rotors.drop k) ((offs m.rings v).drop k) (fun r hr => hf.perms r (List.mem_of_mem_drop hr)))
  have HWE := Lib.hid (way_end (p := dg m.plugs) (rs := m.wheels.rotors) (os := offs m.rings v) (k := v.size) (by omega))
  go_wp2_with fail
  go_loopw [7] (fun i wr => ∃ (k : Nat), k ≤ v.size ∧ i = .int .i64 ((k : Int) - 1) ∧ Own wr (w.heap.size + 1) (pv (wayP (dg m.plugs) (m.wheels.rotors.drop k) ((offs m.rings v).drop k))) ∧ Own wr B3 (ov (offs m.rings v)) ∧ Own wr w.heap.size z10 ∧ Asm wr g a n c m ∧ Below w.heap.size w wr) (fun i _ => (intOf i + 1).toNat)
  case atStart => exact ⟨v.size, Nat.le_refl _, rfl, by rw [HWE.out]; exact q3, o3, z3, hA4, hbw3⟩
  case round =>
    clear q3 o3 z3 hA4 hbw3
    obtain ⟨k, hk, rfl, q3, o3, z3, hA, hb⟩ := hrel
    rcases Nat.eq_zero_or_pos k with h0 | h0
    · subst h0
      have HF : Hid (keyP m v = thenP (thenP (wayP (dg m.plugs) (m.wheels.rotors.drop 0) ((offs m.rings v).drop 0)) (dg m.wheels.refl)) (backP (wayP (dg m.plugs) (m.wheels.rotors.drop 0) ((offs m.rings v).drop 0)))) := rfl
      have hw := HW.out 0
      generalize wayP (dg m.plugs) (m.wheels.rotors.drop 0) ((offs m.rings v).drop 0) = wp at *
      have hK : (pv (thenP (thenP wp (dg m.wheels.refl)) (backP wp))).length = 10 := size_pv10 ((hw.then hrf).then hw.back)
      have HSZ := Lib.hid (size_pv (p := thenP (thenP wp (dg m.wheels.refl)) (backP wp)) ((hw.then hrf).then hw.back).len)
      have hq : CellsAt wr g 14 (pv (dg m.wheels.refl)) := ⟨hA.refl, hA.lt⟩
      have t1 := fun W => then_any wp (dg m.wheels.refl) W hw hrf
      have t2 := fun W => then_any (thenP wp (dg m.wheels.refl)) (backP wp) W (hw.then hrf) hw.back
      have t3 := fun W => inverse_any wp W hw
      generalize thenP (thenP wp (dg m.wheels.refl)) (backP wp) = x4 at *
      generalize thenP wp (dg m.wheels.refl) = x2 at *
      generalize backP wp = x3 at *
      have hrl := hrf.len
      have hwl := hw.len
      go_wp2_with fail
      refine wp_region_cls_tail 9 (by kernel_rfl) (by kernel_rfl) ?_
      simp only [List.take_succ_cons, List.take_zero, List.drop_succ_cons, List.drop_zero]
      repeat (first | ((with_reducible refine wq_load 42 q3.cells q3.lt (size_pv hwl) Tryz.underlying42 ?_ ?_ ?_ ?_); (· rfl); (· rfl); (· rfl); (simp only [Act.put, List.setIfInBounds_toArray, List.set_cons_succ, List.set_cons_zero]))|((with_reducible refine wq_load 42 hq.cells hq.lt (size_pv hrl) Tryz.underlying42 ?_ ?_ ?_ ?_); (· rfl); (· rfl); (· rfl); (simp only [Act.put, List.setIfInBounds_toArray, List.set_cons_succ, List.set_cons_zero])) | go_big_quiet_step (first | (go_at_call 75; with_reducible exact cls_of (Nat.le_refl _) (t3 _)) | (go_at_call 28; with_reducible exact cls_of (Nat.le_refl _) (t1 _)) | (go_at_call 28; with_reducible exact cls_of (Nat.le_refl _) (t2 _))))
      refine wpQuiet_nil ?_
      intro wc hbc
      have z4 := z3.below hbc z3.lt
      have hb4 := bt hb hbc
      have hzz := hbc.size
      have lt3 := z3.lt
      clear q3 o3 z3 hA hb hq t1 t2 t3
      go_wp2_with ((with_reducible refine wl_store 42 0 z4 HSZ.out (pv_one _) (by rw [hK, len_z10]; omega) ?_ ?_ ?_ ?_); (· rfl); (· rfl); (· rfl); intro w5 o5 b5 s5)
      rw [put_z10 hK] at o5
      refine bodyPost_ret (results_cell_own Tryz.results47 _ _ _ _ _ (by rfl) o5.cells Tryz.underlying42 rfl HSZ.out) rfl ?_
      rw [HF.out]
      exact ⟨rfl, bel_store hb4 b5 (by omega) (by omega)⟩
    · obtain ⟨j, rfl⟩ : ∃ j, k = j + 1 := ⟨k - 1, by omega⟩
      have hjr : j < m.wheels.rotors.length := by omega
      have hjo : j < (offs m.rings v).length := by rw [Hlo.out]; omega
      have HS := Lib.hid (way_drop (p := dg m.plugs) hjr hjo)
      have hw := HW.out (j + 1)
      have hw' := HW.out j
      obtain ⟨o, ho⟩ : ∃ o, o = (offs m.rings v)[j] := ⟨_, rfl⟩
      have ho10 : o < 10 := by rw [ho]; exact HO.out _ (List.getElem_mem _)
      have f3 := o3.at_ (ov_at hjo)
      rw [← ho] at f3 HS
      have hTP := (permB_isP (hf.perms _ (List.getElem_mem hjr))).turn o
      have hq : CellsAt wr g (24 + j * 100 + o * 10) (pv (turnP (dg m.wheels.rotors[j].wiring) o)) := ⟨hA.turned j o hjr ho10, hA.lt⟩
      rw [HS.out] at hw'
      have t1 := fun W => then_any (wayP (dg m.plugs) (m.wheels.rotors.drop (j + 1)) ((offs m.rings v).drop (j + 1))) (turnP (dg m.wheels.rotors[j].wiring) o) W hw hTP
      have KEY : Hid (∀ W, Own W (w.heap.size + 1) (pv (thenP (wayP (dg m.plugs) (m.wheels.rotors.drop (j + 1)) ((offs m.rings v).drop (j + 1))) (turnP (dg m.wheels.rotors[j].wiring) o))) → Own W (w.heap.size + 1) (pv (wayP (dg m.plugs) (m.wheels.rotors.drop j) ((offs m.rings v).drop j)))) := fun W hW => by rw [HS.out]; exact hW
      clear ho HS
      generalize wayP (dg m.plugs) (m.wheels.rotors.drop (j + 1)) ((offs m.rings v).drop (j + 1)) = wp at *
      generalize turnP (dg m.wheels.rotors[j].wiring) o = tp at *
      have hK : (pv (thenP wp tp)).length = 10 := size_pv10 hw'
      have HSZ := Lib.hid (size_pv (p := thenP wp tp) hw'.len)
      generalize thenP wp tp = x4 at *
      have hrl := hTP.len
      have hwl := hw.len
      have hpl2 := size_pv10 hw
      have l3 := o3.lt
      have d3 := fun (cc : Cls wr.heap.size wr) => (cc.cell B3 j l3).trans f3
      have q1 : (0 : Int) ≤ (j : Int) := by omega
      have q2 : (j : Int) < 3 := by omega
      have q2' : (j : Int) < (v.size : Int) := by omega
      have q4 : (0 : Int) ≤ (o : Int) := by omega
      have q5 : (o : Int) < 10 := by omega
      rw [show (((j + 1 : Nat)) : Int) - 1 = (j : Int) by omega]
      clear f3
      go_wp2_with fail
      refine wp_region_cls_tail 13 (by kernel_rfl) (by kernel_rfl) ?_
      simp only [List.take_succ_cons, List.take_zero, List.drop_succ_cons, List.drop_zero]
      repeat (first | ((with_reducible refine wq_load 42 q3.cells q3.lt (size_pv hwl) Tryz.underlying42 ?_ ?_ ?_ ?_); (· rfl); (· rfl); (· rfl); (simp only [Act.put, List.setIfInBounds_toArray, List.set_cons_succ, List.set_cons_zero]))|((with_reducible refine wq_load 42 hq.cells hq.lt (size_pv hrl) Tryz.underlying42 ?_ ?_ ?_ ?_); (· rfl); (· rfl); (· rfl); (simp only [Act.put, List.setIfInBounds_toArray, List.set_cons_succ, List.set_cons_zero])) | go_big_quiet_step (first | (go_at_call 28; with_reducible exact cls_of (Nat.le_refl _) (t1 _))))
      refine wpQuiet_nil ?_
      intro wc hbc
      have z4 := z3.below hbc z3.lt
      have o4 := o3.below hbc o3.lt
      have q6 := q3.below hbc q3.lt
      have hA4 := hA.below hbc hA.lt
      have hb4 := bt hb hbc
      have hzz := hbc.size
      have lt3 := q3.lt
      clear q3 o3 z3 hA hb hq t1 d3
      go_wp2_with ((with_reducible refine wl_store 42 0 q6 HSZ.out (pv_one _) (by rw [hK, hpl2]; omega) ?_ ?_ ?_ ?_); (· rfl); (· rfl); (· rfl); intro w5 o5 b5 s5)
      rw [put_all (by rw [hK, hpl2])] at o5
      go_roundw
      case rel => exact ⟨j, by omega, by go_num, KEY.out _ o5, o4.grown b5 (by simp; omega), z4.grown b5 (by simp), hA4.grown b5 (by simp; omega), bel_store hb4 b5 (by omega) (by omega)⟩
      case measure => simp [intOf]
end Go.Proofs.YtnnblmibonnpcaaGreat

/- Plain laws on the keys of a machine, its products, and what they fix. -/
namespace Go.Proofs.YtnnblmibonnpcaaGreat

theorem free_keyN {m : Mach} (h : machB m = true) (v : ByteArray) (k : Nat) {d : Nat} (hd : d < 10) : pAt (keyN m v k) d ≠ d := free_key h _ d hd
theorem inv_keyN {m : Mach} (h : machB m = true) (v : ByteArray) (k : Nat) {d : Nat} (hd : d < 10) : pAt (keyN m v k) (pAt (keyN m v k) d) = d := (inv_key h _).at (isP_keyN h v k) hd
theorem keyN_add (m : Mach) (v : ByteArray) (a b : Nat) : keyN m (stepN m.wheels a v) b = keyN m v (a + b) := by
  unfold keyN
  rw [show a + b + 1 = a + (b + 1) by omega, stepN_add m.wheels a (b + 1)]
theorem keyN_of_bare {m : Mach} (h : machB m = true) (v : ByteArray) (k : Nat) : keyN m v k = conjP (keyN (bareM m) v k) (dg m.plugs) := key_of_bare h _

theorem conj_then {a b q : List Nat} (ha : IsP a) (hb : IsP b) (hq : IsP q) : thenP (conjP a q) (conjP b q) = conjP (thenP a b) q := by
  refine ext10 (by rw [len_then]; exact (ha.conj hq).len) ((ha.then hb).conj hq).len fun i hi => ?_
  have h1 := hq.back.at_lt hi
  have h2 := ha.at_lt h1
  rw [at_then _ (by rw [(ha.conj hq).len]; exact hi), at_conj ha hq hi, at_conj hb hq (hq.at_lt h2), hq.back_at h2, at_conj (ha.then hb) hq hi, at_then _ (by rw [ha.len]; exact h1)]

/-- A permutation has a fixed letter. -/
def fixB (p : List Nat) : Bool := (List.range 10).any fun i => pAt p i == i
theorem fixB_iff {p : List Nat} : fixB p = true ↔ ∃ i, i < 10 ∧ pAt p i = i := by simp [fixB]
theorem fixB_conj {p q : List Nat} (hp : IsP p) (hq : IsP q) : fixB (conjP p q) = fixB p := by
  rw [Bool.eq_iff_iff, fixB_iff, fixB_iff]
  constructor
  · rintro ⟨i, hi, h⟩
    have h1 := hq.back.at_lt hi
    refine ⟨pAt (backP q) i, h1, ?_⟩
    rw [at_conj hp hq hi] at h
    have := congrArg (pAt (backP q)) h
    rwa [hq.back_at (hp.at_lt h1)] at this
  · rintro ⟨i, hi, h⟩
    refine ⟨pAt q i, hq.at_lt hi, ?_⟩
    rw [at_conj hp hq (hq.at_lt hi), hq.back_at hi, h]

/-- The product of a place: two keys as far apart as there are rotors. -/
def prodP (m : Mach) (v : ByteArray) (i : Nat) : List Nat := thenP (keyN m v i) (keyN m v (i + v.size))
theorem isP_prod {m : Mach} (h : machB m = true) (v : ByteArray) (i : Nat) : IsP (prodP m v i) := (isP_keyN h v i).then (isP_keyN h v _)
theorem prod_bare {m : Mach} (h : machB m = true) (v : ByteArray) (i : Nat) : prodP m v i = conjP (prodP (bareM m) v i) (dg m.plugs) := by
  unfold prodP
  rw [keyN_of_bare h, keyN_of_bare h v (i + v.size)]
  exact conj_then (isP_keyN (machB_bare h) v i) (isP_keyN (machB_bare h) v _) (machB_plugP h)
theorem fix_prod_bare {m : Mach} (h : machB m = true) (v : ByteArray) (i : Nat) : fixB (prodP (bareM m) v i) = fixB (prodP m v i) := by
  rw [prod_bare h, fixB_conj (isP_prod (machB_bare h) v i) (machB_plugP h)]
/-- All products of a setting. -/
def prods (m : Mach) (v : ByteArray) : List (List Nat) := (List.range v.size).map (prodP m v)
theorem len_prods (m : Mach) (v : ByteArray) : (prods m v).length = v.size := by simp [prods]
theorem at_prods (m : Mach) (v : ByteArray) {i : Nat} (h : i < (prods m v).length) : (prods m v)[i] = prodP m v i := by simp [prods]
/-- Where a key enciphered twice repeats a letter the product fixes one. -/
theorem fix_of_repeat {m : Mach} (h : machB m = true) (v : ByteArray) (i : Nat) {d : Nat} (hd : d < 10) (he : pAt (keyN m v i) d = pAt (keyN m v (i + v.size)) d) : fixB (prodP m v i) = true := by
  rw [fixB_iff]
  have h1 := (isP_keyN h v i).at_lt hd
  refine ⟨pAt (keyN m v i) d, h1, ?_⟩
  unfold prodP
  rw [at_then _ (by rw [(isP_keyN h v i).len]; exact h1), inv_keyN h v i hd, ← he]

/-- What Encipher's word has at a place. -/
theorem at_enc (m : Mach) (v : ByteArray) {w : ByteArray} {i : Nat} (h : i < w.size) : pAt (encD m v (dg w)) i = pAt (keyN m v i) (pAt (dg w) i) := at_encD m v (by rw [len_dg]; exact h)
theorem enc_lt {m : Mach} (h : machB m = true) (v : ByteArray) {w : ByteArray} (hw : wordB w = true) : ∀ x ∈ encD m v (dg w), x < 10 := encD_lt h v (word_dg_lt hw)
theorem enc_append {m : Mach} (v : ByteArray) (a b : List Nat) : encD m v (a ++ b) = encD m v a ++ encD m (stepN m.wheels a.length v) b := by
  refine List.ext_getElem (by simp [len_encD]) fun i h1 h2 => ?_
  simp only [encD, List.length_append] at h1 ⊢
  rw [List.getElem_append]
  split
  · rename_i hl
    simp only [List.length_map, List.length_range] at hl
    simp [pAt, List.getD, List.getElem?_append_left hl]
  · rename_i hl
    simp only [List.length_map, List.length_range, Nat.not_lt] at hl
    simp only [List.getElem_map, List.getElem_range, List.length_map, List.length_range]
    rw [keyN_add, show a.length + (i - a.length) = i by omega]
    simp [pAt, List.getD, List.getElem?_append_right hl]
end Go.Proofs.YtnnblmibonnpcaaGreat

/- The iterator over the keys of a machine. -/
namespace Go.Proofs.YtnnblmibonnpcaaGreat
open Go.RowKit
attribute [local go_sem] Oper.semAt_some

/-- The blocks that the iterator reads. -/
def KA (g : Nat) (a : Option Addr) (B0 : Nat) (b : Nat) : Prop := b = g ∨ b = B0 ∨ ∃ ad, a = some ad ∧ ad.block = b
/-- What the iterator hands over. -/
def encsK (m : Mach) (v : ByteArray) (k : Nat) : Array Value := #[.string (stepN m.wheels (k + 1) v), .agg (pv (keyN m v k)).toArray]
theorem Reads.held {w w' : World} {B B' : Nat} {a : Option Addr} {xs : List Value} (h : Reads w B a xs) (hB : B ≤ B') (hk : ∀ ad, a = some ad → w'.heap[ad.block]? = w.heap[ad.block]?) : Reads w' B' a xs := by
  rcases h with h | ⟨b, off, ha, hb, hc⟩
  · exact .inl h
  · refine .inr ⟨b, off, ha, by omega, fun i hi => ?_⟩
    rw [← hc i hi]
    exact World.cell?_of_block (w := w) (hk ⟨b, off, none⟩ ha)
theorem MachAt.held {w w' : World} {B B' : Nat} {a : Option Addr} {n : Nat} {m : Mach} (h : MachAt w B a n m) (hB : B ≤ B') (hk : ∀ ad, a = some ad → w'.heap[ad.block]? = w.heap[ad.block]?) : MachAt w' B' a n m :=
  ⟨⟨h.whl.reads.held hB hk, h.whl.len, h.whl.few, h.whl.rot, h.whl.refl⟩, h.rings, h.plugs⟩
theorem Own.held {w w' : World} {g : Nat} {cs : List Value} (h : Own w g cs) (hs : w.heap.size ≤ w'.heap.size) (hb : w'.heap[g]? = w.heap[g]?) : Own w' g cs := h.keep (Nat.lt_of_lt_of_le h.lt hs) hb
theorem bel_grown {g : Nat} {w w' : World} (h : Below w.heap.size w w') : w.grownBy w' (some g) := ⟨h.os, h.tape, h.output, h.size, fun k hk _ => h.block k hk⟩

theorem keys_any (g : Nat) (v : ByteArray) (w : World) :
    Calls Tryz.prog 23 #[.pointer (some ⟨g, 0, none⟩), .string v] w fun e w' =>
      e = .returned (.func (.func 45) #[] #[.pointer (some ⟨w.heap.size, 0, none⟩), .pointer (some ⟨w.heap.size + 1, 0, none⟩)]) ∧
      Own w' w.heap.size [.pointer (some ⟨g, 0, none⟩)] ∧ Own w' (w.heap.size + 1) [.string v] ∧ Below w.heap.size w w' := by
  have o0 := fun A B => (Own.new w [.pointer (some ⟨g, 0, none⟩)] A).alloc B
  have o1 := fun A B => Own.new (w.alloc A) [.string v] B
  have hb := fun A B => ((Below.refl w.heap.size w).alloc (Nat.le_refl _) A).alloc (by simp) B
  simp only [World.size_alloc] at o1
  go_enter Tryz.func23, Tryz.ntmps23
  go_wp2
  go_ret
  exact ⟨rfl, o0 _ _, o1 _ _, hb _ _⟩

set_option maxRecDepth 100000 in
set_option maxHeartbeats 1000000 in
theorem keys_seq (N0 g B0 Bw : Nat) (a : Option Addr) (n c : Nat) (m : Mach) (v : ByteArray) (w : World) (hs : setB m v = true) (hA : Asm w g a n c m) (hM : MachAt w w.heap.size a n m)
    (h0 : Own w B0 [.pointer (some ⟨g, 0, none⟩)]) (hw : Own w Bw [.string v]) (n1 : Bw ≠ g) (n2 : Bw ≠ B0) (n3 : ∀ ad, a = some ad → ad.block ≠ Bw) :
    KSeq Fence.wide N0 Tryz.prog 45 #[.pointer (some ⟨B0, 0, none⟩), .pointer (some ⟨Bw, 0, none⟩)] (encsK m v) (KA g a B0) Bw w := by
  intro l J Jx N W hh hJ hY hN hj
  refine callsIn_of_wp Tryz.func45 rfl trivial ?_ rfl
  simp only [Tryz.ntmps45, List.size_toArray, List.length_cons, List.length_nil, Nat.reduceAdd, Nat.reduceSub, Array.replicate_succ, Array.replicate_zero, List.push_toArray, List.append_toArray, List.nil_append, List.cons_append]
  gi_wp2
  have HK : Hid (∀ b, KA g a B0 b → b < w.heap.size ∧ b ≠ Bw) := by
    intro b hb
    rcases hb with rfl | rfl | ⟨ad, ha, rfl⟩
    · exact ⟨hA.lt, fun e => n1 e.symm⟩
    · exact ⟨h0.lt, fun e => n2 e.symm⟩
    · obtain ⟨b, off, ha', hbl, -⟩ := hM.whl.cells (setB_fit hs).one
      rw [ha] at ha'
      cases ha'
      exact ⟨hbl, n3 _ ha⟩
  have hwW := hw.held hh.size (hh.block Bw (.inr rfl))
  have hhK : Holds (KA g a B0) w W := ⟨hh.size, fun b hb => hh.block b (.inl hb)⟩
  gi_loopg [] N (fun r wr => ∃ k, k + r = N ∧ k < N ∧ J k wr ∧ Own wr Bw [.string (stepN m.wheels k v)] ∧ Holds (KA g a B0) w wr)
  case atStart => exact ⟨0, by omega, hN, hj, hwW, hhK⟩
  case round =>
    clear hwW hhK hh hj W hN
    obtain ⟨k, hkr, hkN, hj, hcw, hh⟩ := hrel
    have hx := setB_stepN k hs
    have hfit := setB_fit hx
    have hs2 := setB_stepN (k + 1) hs
    have lA := hA.lt
    have hA2 := hA.keep (Nat.lt_of_lt_of_le hA.lt hh.size) (hh.block g (.inl rfl))
    have hM2 := hM.held (B' := wr.heap.size) hh.size (fun ad e => hh.block _ (.inr (.inr ⟨ad, e, rfl⟩)))
    have h02 := h0.held hh.size (hh.block B0 (.inr (.inl rfl)))
    have f0 := h02.at_ (i := 0) rfl
    have f1 := hcw.at_ (i := 0) rfl
    have g0 := hA2.mach.at_ (i := 0) rfl
    have g1 := hA2.mach.at_ (i := 1) rfl
    simp only [Nat.zero_add] at g0 g1
    have e0 := hA2.lt
    have e1 := h02.lt
    have e2 := hcw.lt
    have d0 := fun (cc : Cls wr.heap.size wr) => (cc.cell B0 0 e1).trans f0
    have d1 := fun (cc : Cls wr.heap.size wr) => (cc.cell Bw 0 e2).trans f1
    have d2 := fun (cc : Cls wr.heap.size wr) => (cc.cell g 0 e0).trans g0
    have d3 := fun (cc : Cls wr.heap.size wr) => (cc.cell g 1 e0).trans g1
    have st := fun (cc : Cls wr.heap.size wr) => step_any a n c m.wheels (stepN m.wheels k v) cc.w ((hM2.whl.below cc.bel (Nat.le_refl _)).more cc.bel.size) hfit
    have HSN := Lib.hid (stepN_succ m.wheels k v)
    clear f0 f1 g0 g1
    gi_wp2
    refine wpIn_wide.2 ?_
    refine wp_region_cls_tail 7 (by kernel_rfl) (by kernel_rfl) ?_
    simp only [List.take_succ_cons, List.take_zero, List.drop_succ_cons, List.drop_zero]
    repeat (go_big_quiet_step (first | (go_at_call 46; with_reducible exact cls_of (Nat.le_refl _) (st _))))
    refine wpQuiet_nil ?_
    intro wc hbc
    have hcw2 := hcw.below hbc e2
    have f1 := hcw2.at_ (i := 0) rfl
    have f2 := hcw2.free 0 (by simp)
    rw [← HSN.out] at *
    have hA3 := (hA2.below hbc e0).far (p := ⟨Bw, 0, none⟩) (fun e => n1 e.symm) (.string (stepN m.wheels (k + 1) v))
    have h03 := (h02.below hbc e1).far (p := ⟨Bw, 0, none⟩) (fun e => n2 e.symm) (.string (stepN m.wheels (k + 1) v))
    have hcw3 := hcw2.set_ (i := 0) (by simp) (.string (stepN m.wheels (k + 1) v))
    have hj3 := hJ _ _ _ (hJ _ _ _ hj (bel_grown hbc)) (grown_setCell wc Bw 0 (.string (stepN m.wheels (k + 1) v)))
    have hg3 := grown_trans (bel_grown (g := Bw) hbc) (grown_setCell wc Bw 0 (.string (stepN m.wheels (k + 1) v)))
    clear d0 d1 d2 d3 st hcw hA2 h02
    have hz3 : wr.heap.size ≤ (wc.setCell ⟨Bw, 0, none⟩ (.string (stepN m.wheels (k + 1) v))).heap.size := by
      have := hbc.size
      simpa [World.setCell] using this
    go_wp2
    generalize hW3 : wc.setCell ⟨Bw, 0, none⟩ (.string (stepN m.wheels (k + 1) v)) = w3 at *
    simp only [List.set_cons_zero] at hcw3
    clear hcw2 f1 f2 hbc hW3
    have f0 := h03.at_ (i := 0) rfl
    have f1 := hcw3.at_ (i := 0) rfl
    have e0 := hA3.lt
    have e1 := h03.lt
    have e2 := hcw3.lt
    have d0 := fun (cc : Cls w3.heap.size w3) => (cc.cell B0 0 e1).trans f0
    have d1 := fun (cc : Cls w3.heap.size w3) => (cc.cell Bw 0 e2).trans f1
    have st := fun (cc : Cls w3.heap.size w3) => permAt_any g a n c m (stepN m.wheels (k + 1) v) cc.w (hA3.below cc.bel e0) hs2
    clear f0 f1
    gi_wp2
    refine wpIn_region_cls_tail (ro := none) 5 (by kernel_rfl) (by kernel_rfl) (by kernel_rfl) ?_
    simp only [List.take_succ_cons, List.take_zero, List.drop_succ_cons, List.drop_zero]
    repeat (go_big_quiet_step (first | (go_at_call 47; with_reducible exact cls_of (Nat.le_refl _) (st _))))
    refine wpQuiet_nil ?_
    intro wd hbd
    have hj4 := hJ _ _ _ hj3 (bel_grown hbd)
    have hg4 := grown_trans hg3 (bel_grown (g := Bw) hbd)
    have hcw4 := hcw3.below hbd e2
    have HH : Holds (KA g a B0) w wd := hh.trans (Holds.grown hg4 (fun b hb => by have := (HK.out b hb).1; have := hh.size; omega) (fun b hb => by have := (HK.out b hb).2; simp; omega))
    obtain ⟨fn, tmps, assign, body, hy, hR⟩ := hY k wd hj4 hkN
    simp only [encsK] at hy
    rw [show keyN m v k = keyP m (stepN m.wheels (k + 1) v) from rfl] at hy
    gi_wp2
    refine ⟨(fun h => by cases h), hR.mono ?_⟩
    rintro e W3 (⟨rfl, hk1, hj5, hh5⟩ | ⟨rfl, hjx⟩)
    · have hcw5 := hcw4.held hh5.size (hh5.block Bw (.inr rfl))
      have hh6 : Holds (KA g a B0) w W3 := HH.trans ⟨hh5.size, fun b hb => hh5.block b (.inl hb)⟩
      gi_wp2
      gi_roundg (N - (k + 1))
      case measure => omega
      case rel => exact ⟨k + 1, by omega, hk1, hj5, hcw5, hh6⟩
    · gi_wp2
      refine bodyPost_ret (results_none rfl _ _ _) rfl ?_
      exact ⟨⟨_, rfl⟩, hjx⟩
end Go.Proofs.YtnnblmibonnpcaaGreat

/- 'x = append(x, u)' of an owned slice, and where the new row lies; a row made with a capacity. -/
namespace Go.Proofs.YtnnblmibonnpcaaGreat
open Go.RowKit

section
variable {P : Program} {ops : Array Oper} {rest : List Oper} {dst : Option Tmp} {ty : TypeId} {pos : String} {after : Array Edge} {a : Act} {w0 : World} {Q : Exit → Act → World → Prop}
theorem wl_pushG (t e : TypeId) {s x : Operand} {z : Value} {sz bytes : Nat} (hinfo : (P.info? e).map (fun i => (i.zero, i.size, i.bytes)) = some (some z, sz, bytes)) (ht : P.underlying t = some (.slice e)) (hzs : z.cells.size = sz) (hsz : 0 < sz)
    {base n : Nat} {v : Value} {xs us : List Value} (hown : OwR w0 base e sz v n xs) (hb : base ≤ w0.heap.size) (hus : us.length = sz) (h1 : ∀ u ∈ us, u.oneCell' = true) (hn : n ≤ 1048576) (hby : bytes ≤ 1000)
    (hs : a.eval s = v) (hx : a.eval x = .slice (some ⟨w0.heap.size, 0, none⟩) 1 1)
    (h : ∀ g cap w', OwR w' base e sz (.slice (some ⟨g, 0, none⟩) (n + 1) cap) (n + 1) (xs ++ us) → w0.grownBy w' v.ownBlock → (v.ownBlock = some g ∨ w0.heap.size < g) → w0.heap.size < w'.heap.size → KeepsOthers w0 w' → wpList P ops Q rest (a.put dst (.slice (some ⟨g, 0, none⟩) (n + 1) cap)) w') :
    wpList P ops Q (⟨dst, .call { callee := .builtin .append, args := #[s, x], argTypes := #[t, t] }, ty, pos, after, none⟩ :: rest) a (w0.alloc (.cells us.toArray e)) := by
  obtain ⟨i0, hi0, hz0, hz1, hz2⟩ := info_parts hinfo
  refine wpList_append_lies _ rfl s x t rfl base e i0 z sz bytes ht hi0 hz0 hz1 hz2 hzs hsz v n xs hs (World.ownsRow.alloc hown _) ⟨w0.heap.size, 0, none⟩ 1 1 us hx (by omega) ?_ h1 (by omega) (by unfold maxLen; omega) ?_ (by simp; omega) (w0.heap.size + 1) (by simp) ?_
  · intro j u hu
    rw [show ((⟨w0.heap.size, 0, none⟩ : Addr).add j) = ⟨w0.heap.size, j, none⟩ by unfold Addr.add; split <;> simp_all]
    rw [World.cell?_alloc_mark]; simpa using hu
  · have : (n + 1) * bytes ≤ (1048576 + 1) * 1000 := Nat.mul_le_mul (by omega) hby
    omega
  · intro g cap w' ho hg hat hlt
    have hs' := hg.size
    simp only [World.size_alloc] at hs'
    refine h g cap w' ho ?_ ?_ (by omega) ?_
    · exact ⟨hg.os, hg.tape, hg.output, by omega, fun k hk hne => (hg.block k (by simp; omega) hne).trans (Below.heap_alloc w0 _ k hk)⟩
    · rcases hat with h1 | h1
      · exact .inl h1
      · exact .inr (by omega)
    · refine (KeepsOthers.alloc w0 _).trans (KeepsOthers.of_grownBy hg fun j o ej hj => ?_)
      rcases hown.2 with ⟨rfl, _⟩ | ⟨g', cap', cur, rfl, _, hh, _⟩
      · simp [Value.ownBlock] at ej
      · simp only [Value.ownBlock, Option.some.injEq] at ej
        subst ej
        have hlt' : g' < w0.heap.size := (Array.getElem?_eq_some_iff.1 hh).1
        rw [Below.heap_alloc w0 _ g' hlt', hh] at hj
        cases hj
        rfl
end
theorem OwR.lt_ {w : World} {base n cap g sz : Nat} {e : TypeId} {xs : List Value} (h : OwR w base e sz (.slice (some ⟨g, 0, none⟩) n cap) n xs) : g < w.heap.size := (World.ownsRow.lt h g rfl).2
/-- The row of a slice is kept where its block is. -/
theorem OwR.same {w w' : World} {base n cap g sz : Nat} {e : TypeId} {xs : List Value} (h : OwR w base e sz (.slice (some ⟨g, 0, none⟩) n cap) n xs) (hb : w'.heap[g]? = w.heap[g]?) : OwR w' base e sz (.slice (some ⟨g, 0, none⟩) n cap) n xs := by
  refine ⟨h.1, ?_⟩
  rcases h.2 with ⟨h0, _⟩ | ⟨g', cap', cur, hv, hg, hh, h1⟩
  · cases h0
  · cases hv
    exact .inr ⟨g, cap, cur, rfl, hg, hb.trans hh, h1⟩
/-- What lay below stays, and what is no cells. -/
theorem keeps_below {w w' : World} (h : Below w.heap.size w w') : KeepsOthers w w' := ⟨h.size, fun k _ hk _ => (h.block k (Array.getElem?_eq_some_iff.1 hk).1).trans hk⟩
end Go.Proofs.YtnnblmibonnpcaaGreat

/- A loop over the keys of a machine that collects in a slice of its own. -/
namespace Go.Proofs.YtnnblmibonnpcaaGreat
open Go.RowKit

/-- Box BL holds a slice of the call's own that holds xs; its row lies in block R0 or beyond L + 1. -/
def Coll (e : TypeId) (sz base R0 BL L k : Nat) (xs : List Value) (W : World) : Prop :=
  ∃ val, Own W BL [val] ∧ OwR W base e sz val k xs ∧ (∀ b, val.ownBlock = some b → b = R0 ∨ L + 1 < b)
section
variable {e : TypeId} {sz base R0 BL L k : Nat} {xs : List Value} {A B : World}
theorem Coll.grown {r : Nat} (h : Coll e sz base R0 BL L k xs A) (hg : A.grownBy B (some r)) (h1 : r ≠ BL) (h2 : r ≠ R0) (h3 : r ≤ L + 1) : Coll e sz base R0 BL L k xs B := by
  obtain ⟨val, ho, hr, hb⟩ := h
  refine ⟨val, ho.grown hg (by simp; omega), World.ownsRow.kept hr hg (.inr fun e => ?_), hb⟩
  have := hb r e
  omega
theorem Coll.below (h : Coll e sz base R0 BL L k xs A) (hg : Below A.heap.size A B) : Coll e sz base R0 BL L k xs B := by
  obtain ⟨val, ho, hr, hb⟩ := h
  exact ⟨val, ho.below hg ho.lt, OwR.below hr hg (Nat.le_refl _), hb⟩
theorem Coll.start {A : World} {val : Value} (ho : Own A BL [val]) (hr : OwR A base e sz val k xs) (hb : ∀ b, val.ownBlock = some b → b = R0) : Coll e sz base R0 BL L k xs A := ⟨val, ho, hr, fun b h => .inl (hb b h)⟩
/-- One more has been collected. -/
theorem Coll.push {val : Value} {us : List Value} {g cap : Nat} {wc w' : World} (hBL : BL ≤ L) (hR0 : BL ≠ R0) (hL : L + 1 < wc.heap.size) (ho : Own wc BL [val]) (hb : ∀ b, val.ownBlock = some b → b = R0 ∨ L + 1 < b)
    (hr : OwR w' base e sz (.slice (some ⟨g, 0, none⟩) (k + 1) cap) (k + 1) (xs ++ us)) (hg : wc.grownBy w' val.ownBlock) (hat : val.ownBlock = some g ∨ wc.heap.size < g) :
    Coll e sz base R0 BL L (k + 1) (xs ++ us) (w'.setCell ⟨BL, 0, none⟩ (.slice (some ⟨g, 0, none⟩) (k + 1) cap)) := by
  have hne : val.ownBlock ≠ some BL := fun e => by have := hb _ e; omega
  have hgb : g = R0 ∨ L + 1 < g := by
    rcases hat with h | h
    · exact hb _ h
    · exact .inr (by omega)
  refine ⟨_, (ho.grown hg (fun e => hne e.symm)).set_ (by simp) _, OwR.off hr (fun e => ?_) _, fun b e => ?_⟩
  · simp only [Value.ownBlock, Option.some.injEq] at e
    omega
  · simp only [Value.ownBlock, Option.some.injEq] at e
    omega
end

theorem zip2 (T : Array Value) (s1 s2 : Tmp) (x y : Value) : (#[s1, s2].zip #[x, y]).foldl (fun t (p, v) => t.setIfInBounds p v) T = (T.setIfInBounds s1 x).setIfInBounds s2 y := by simp
/-- The law, the frame of a round said by the frame before. -/
theorem wpIn_rangeFunc_keysT {F : Fence} {n : Nat} {P : Program} {g : Operand} {s1 s2 : Tmp} {assign body : Code} {Q : Exit → Act → World → Prop} {a : Act} {w : World}
    (hro : F.round = none) (h1 : 1 ≤ n) {gf : Nat} {lb : Array Value} (hg : a.eval g = .func (.func gf) #[] lb) (hFg : F.fn gf) (eg : ∀ args w, (callFunc gf args).run P w = .ok (.enter gf args) w)
    {m : Mach} {v : ByteArray} {K : Nat → Prop} {Bw : Nat} (hseq : KSeq F (n - 1) P gf lb (encsK m v) K Bw w)
    (hK : ∀ b, K b → b < w.heap.size) (hBw : Bw < w.heap.size)
    (N : Nat) (hN : 0 < N) (I : Nat → World → Prop) (Ix : Code → World → Prop)
    (hI : ∀ k A B r, I k A → A.grownBy B (some r) → (r = Bw ∨ r = w.heap.size ∨ r = w.heap.size + 1) → I k B)
    (hIx : ∀ c A B r, Ix c A → A.grownBy B (some r) → (r = w.heap.size ∨ r = w.heap.size + 1) → Ix c B)
    (h0 : I 0 w) (Ax : Array Value → Nat → Act → World → Prop)
    (hAx : ∀ k a' A B, Ax a.tmps k a' A → A.grownBy B (some (w.heap.size + 1)) → Ax a.tmps k a' B)
    (hassign : ∀ (l k : Nat) (W : World) (Kn : Act → World → Prop), I k W → k < N → w.heap.size + 1 < W.heap.size → (∀ a' W', W'.heap[w.heap.size + 1]? = W.heap[w.heap.size + 1]? → W'.heap[w.heap.size]? = W.heap[w.heap.size]? → Holds (fun b => K b ∨ b = Bw) W W' → I k W' → Ax a.tmps k a' W' → Kn a' W') →
      assign.wpIn (F.inRound l) (n - 1 - 1) P (Exit.then Kn (fun _ _ _ => False)) { tmps := (a.tmps.setIfInBounds s1 (.string (stepN m.wheels (k + 1) v))).setIfInBounds s2 (.agg (pv (keyN m v k)).toArray), defers := [] } W)
    (hbody : ∀ (l k : Nat) (a' : Act) (W : World), I k W → Ax a.tmps k a' W → k < N → w.heap.size + 1 < W.heap.size → body.wpIn (F.inRound l) (n - 1 - 1) P (keysPost K Bw N I Ix k W) a' W)
    (hstop : ∀ (c : Code) (W : World), Ix c W → W.heap[w.heap.size]? = some (.deferred (some [])) → c.wpIn F n P Q { a with defers := { target := .collected w.heap.size, args := #[] } :: a.defers } W) :
    (Code.rangeFunc g #[s1, s2] assign body).wpIn F n P Q a w := wpIn_rangeFunc_keys hro h1 hg hFg eg hseq hK hBw (fun _ => rfl) N hN I Ix hI hIx h0 (Ax a.tmps) hAx (fun l k W Kn a b c d => by rw [encsK, zip2]; exact hassign l k W Kn a b c d) hbody hstop
/-- What a round is told of its frame where the permutation is boxed in slot s3. -/
def AxBox (m : Mach) (v : ByteArray) (L : Nat) (s1 s2 s3 : Tmp) (T : Array Value) (k : Nat) (a' : Act) (W : World) : Prop :=
  ∃ Bx, L + 1 < Bx ∧ Own W Bx (pv (keyN m v k)) ∧ a' = { tmps := ((T.setIfInBounds s1 (.string (stepN m.wheels (k + 1) v))).setIfInBounds s2 (.agg (pv (keyN m v k)).toArray)).setIfInBounds s3 (.pointer (some ⟨Bx, 0, none⟩)), defers := [] }
theorem AxBox.grown {m : Mach} {v : ByteArray} {L : Nat} {s1 s2 s3 : Tmp} {T : Array Value} {k : Nat} {a' : Act} {A B : World} (h : AxBox m v L s1 s2 s3 T k a' A) (hg : A.grownBy B (some (L + 1))) : AxBox m v L s1 s2 s3 T k a' B := by
  obtain ⟨Bx, h1, h2, h3⟩ := h
  exact ⟨Bx, h1, h2.grown hg (by simp; omega), h3⟩
/-- The same, the windows kept in slot s4. -/
def AxBox2 (m : Mach) (v : ByteArray) (L : Nat) (s1 s2 s3 s4 : Tmp) (T : Array Value) (k : Nat) (a' : Act) (W : World) : Prop :=
  ∃ Bx, L + 1 < Bx ∧ Own W Bx (pv (keyN m v k)) ∧ a' = { tmps := (((T.setIfInBounds s1 (.string (stepN m.wheels (k + 1) v))).setIfInBounds s2 (.agg (pv (keyN m v k)).toArray)).setIfInBounds s4 (.string (stepN m.wheels (k + 1) v))).setIfInBounds s3 (.pointer (some ⟨Bx, 0, none⟩)), defers := [] }
theorem AxBox2.grown {m : Mach} {v : ByteArray} {L : Nat} {s1 s2 s3 s4 : Tmp} {T : Array Value} {k : Nat} {a' : Act} {A B : World} (h : AxBox2 m v L s1 s2 s3 s4 T k a' A) (hg : A.grownBy B (some (L + 1))) : AxBox2 m v L s1 s2 s3 s4 T k a' B := by
  obtain ⟨Bx, h1, h2, h3⟩ := h
  exact ⟨Bx, h1, h2.grown hg (by simp; omega), h3⟩
end Go.Proofs.YtnnblmibonnpcaaGreat
