/- Several of my texts in one: Round, KeyLaws, Keys, List2, Coll, Round2, Strs. -/
import Derived.Test.YtdmnkcmkpjmfaaaGreatM3
import Derived.Test.YtdmnkcmkpjmfaaaGreatM7
import Derived.Orders
import Derived.OrdersIn
import Derived.Test.YtdmnkcmkpjmfaaaGreatM2
import Derived.Test.YtdmnkcmkpjmfaaaGreatM6
import Derived.Sort.LoopGhostIn
import Derived.Test.YtdmnkcmkpjmfaaaGreatM4
import Derived.Laws.MakeOwn
import Derived.RangeFuncOwn
import Derived.OrdersHeld
import Derived.Test.YtdmnkcmkpjmfaaaGreatM1
/- Regions that draw their order, inside the wide fence and in a round of a range over a function. -/
namespace Go.Proofs.YtdmnkcmkpjmfaaaGreat
open Go.RowKit

/-- The wide fence, in a round or not. -/
abbrev FR (ro : Option Nat) : Fence := { Fence.wide with round := ro }
section
variable {ro : Option Nat} {n : Nat} {P : Program} {K : Act → World → Prop} {Q : Exit → Act → World → Prop} {a : Act} {w : World}
theorem calls_in {f : FuncId} {args : Array Value} {R : Ending → World → Prop} (h : Calls P f args w R) : CallsIn (FR ro) n P f args w R := (callsIn_wide (n := n)).2 h
theorem rows_in {row : String} {args : Array Value} {R : Value → World → Prop} (h : Rows P row args w R) : RowsIn (FR ro) n P row args w R :=
  fun c cs _ => let ⟨v, w', r, s⟩ := h c cs; ⟨v, w', r, stepsIn_wide.2 s⟩
/-- An operation that is no 'defer' is carried out in a round as everywhere. -/
theorem oper_in {o : Oper} (hnd : ∀ c, o.op ≠ .defer c) (h : o.wp P a w K (fun _ _ _ => False)) : o.wpIn (FR ro) n P a w K Q := by
  unfold Oper.wpIn
  refine ⟨fun f _ => trivial, ?_⟩
  rw [Oper.semAt_eq _ _ _ hnd]
  unfold Oper.wp at h
  generalize (execOp a.eval o).run P w = r at *
  cases r with
  | ok x w' =>
    cases x <;> simp only [Oper.upon, Oper.uponIn] at h ⊢
    case value => exact h
    case skip => exact h
    case defer => exact h
    case enter f args =>
      refine ⟨(fun h => by cases h), calls_in (h.mono fun e w'' he => ?_)⟩
      cases e with
      | returned v => exact he
      | panicked c => exact he.elim
      | outgrown => obtain ⟨_, _, h0⟩ := he; exact h0.elim
    case row r args => exact ⟨(fun h => by cases h), rows_in h⟩
  | halt x w' => cases x <;> simp only [Oper.upon] at h
def noDeferB (ops : Array Oper) : Bool := ops.all fun o => match o.op with | .defer _ => false | _ => true
theorem noDefer_spec {ops : Array Oper} (h : noDeferB ops = true) {i : Nat} {o : Oper} (hi : ops[i]? = some o) : ∀ c, o.op ≠ .defer c := by
  intro c e
  unfold noDeferB at h
  rw [Array.all_eq_true'] at h
  have := h o (Array.mem_of_getElem? hi)
  rw [e] at this; cases this
theorem op_in {ops : Array Oper} (hnd : noDeferB ops = true) {i : Nat} (h : wpOp P ops (fun _ _ _ => False) i K a w) : wpOpIn (FR ro) n P ops Q i K a w := by
  unfold wpOp at h
  unfold wpOpIn
  split
  · rename_i ho; simp only [ho] at h; exact h
  · rename_i o ho
    simp only [ho] at h
    split
    · rename_i hw
      simp only [hw, if_true] at h
      rcases h with h | h
      · exact oper_in (noDefer_spec hnd ho) h
      · obtain ⟨_, _, h0⟩ := h.2; exact h0.elim
    · rename_i hw
      simp only [hw] at h
      exact ⟨fun f _ => trivial, h⟩
variable {ops : Array Oper} {md : Region.Mode} {C : World → Prop}
theorem anyIn_of_head {m g : Nat} {L : Array Bool → Act → Prop} (hnd : noDeferB ops = true) (hL : ∀ listed a w, C w → L listed a → wpAnyIn (FR ro) n P md ops Q g listed a w) :
    ∀ (f : Nat) (listed : Array Bool) (a : Act) (w : World), C w → anyHead P md ops C m L f listed a → wpAnyIn (FR ro) n P md ops Q (f + g) listed a w
  | 0, listed, a, w, hw, h => by rw [Nat.zero_add]; exact hL _ _ _ hw h
  | f + 1, listed, a, w, hw, h => by
    rw [show f + 1 + g = (f + g) + 1 by omega]
    exact ⟨fun h0 => absurd h0 h.1, fun i hi => op_in hnd (wpOp_of_qOp hw (fun a' w' hw' h' => anyIn_of_head hnd hL f _ a' w' hw' h') (h.2 i hi).2)⟩
theorem anyIn_of_quiet {Qq : Act → Prop} (hnd : noDeferB ops = true) (hQ : ∀ a w, C w → Qq a → Q .normal a w) :
    ∀ (f : Nat) (listed : Array Bool) (a : Act) (w : World), C w → wpAnyQ P md ops C Qq f listed a → wpAnyIn (FR ro) n P md ops Q f listed a w
  | 0, _, _, _, hw, h => ⟨h.1, hQ _ _ hw h.2⟩
  | f + 1, _, _, _, hw, h => ⟨fun h0 => hQ _ _ hw (h.1 h0), fun i hi => op_in hnd (wpOp_of_qOp hw (fun a' w' hw' h' => anyIn_of_quiet hnd hQ f _ a' w' hw' h') (h.2 i hi))⟩
theorem wpOpIn_mono' {F : Fence} {i : Nat} {K' : Act → World → Prop} (h : ∀ a w, K a w → K' a w) (hh : wpOpIn F n P ops Q i K a w) : wpOpIn F n P ops Q i K' a w := wpOpIn_mono h hh
theorem wpAnyIn_of_seq {F : Fence} : ∀ (l : List Oper) (k : Nat) (listed : Array Bool) (a : Act) (w : World), (∀ j, l[j]? = ops[k + j]?) →
    Region.seqB md ops l.length k listed = true → wpListIn F n P ops Q l a w → wpAnyIn F n P md ops Q l.length listed a w
  | [], _, _, _, _, _, hB, h => ⟨by simpa [Region.seqB] using hB, h⟩
  | o :: l, k, listed, a, w, hl, hB, h => by
    have h0 : ops[k]? = some o := by simpa using (hl 0).symm
    simp only [List.length_cons, Region.seqB, Bool.and_eq_true, decide_eq_true_eq] at hB
    refine ⟨fun h1 => (by rw [hB.1] at h1; cases h1), fun i hi => ?_⟩
    rw [hB.1] at hi
    have hik : i = k := by simpa using hi
    subst hik
    have hw : wpOpIn F n P ops Q i (wpListIn F n P ops Q l) a w := by unfold wpOpIn; simp only [h0]; exact h
    exact wpOpIn_mono (fun a' w' h' => wpAnyIn_of_seq l (i + 1) _ a' w' (fun j => by have := hl (j + 1); simpa [Nat.add_assoc, Nat.add_comm 1 j] using this) hB.2 h') hw
/-- A region whose first operations read or call, and whose last ones come in one forced order. -/
theorem wpIn_region_cls_tail {id : Nat} {l : List Oper} (m : Nat) (hm : P.follows .mixedOrders = true) (hB : Region.lexTailB .any l.toArray m = true) (hnd : noDeferB l.toArray = true)
    (h : wpQuiet P l.toArray (fun w' => ∃ c : Cls w.heap.size w, w' = c.w) (fun a' => ∀ w', Below w.heap.size w w' → wpListIn (FR ro) n P l.toArray Q (l.drop m) a' w') (l.take m) a) : (Code.region id l.toArray true).wpIn (FR ro) n P Q a w := by
  simp only [Region.lexTailB, Bool.and_eq_true, decide_eq_true_eq] at hB
  obtain ⟨⟨⟨⟨hsel, hn⟩, hs⟩, hc⟩, hlex⟩ := hB
  have hn' : m < l.length := by simpa using hn
  have htl : (l.take m).length = m := by simp; omega
  have hdl : (l.drop m).length = l.toArray.size - m := by simp
  have inv0 : HeadInv .any l.toArray m (Array.replicate l.toArray.size false) :=
    ⟨by simp, fun j oj _ hl => (by rw [getD_replicate_false] at hl; cases hl), fun t _ ht => getD_in (by simpa using ht) (getD_replicate_false _ _)⟩
  have H := anyHead_lex (md := .any) (g := l.toArray.size - m) hsel hs hc hn (l.take m) 0 _ a (fun j hj => by
    have hj' : j < m := by rw [htl] at hj; exact hj
    simp [hj']) (by simpa using htl) inv0 (by rw [htl]; exact hlex) h
  refine wpIn_region_any hm ?_
  have := anyIn_of_head (ro := ro) (n := n) (Q := Q) (g := l.toArray.size - m) (C := fun w' => ∃ c : Cls w.heap.size w, w' = c.w) hnd (fun listed a' w' hw' hL => by
    obtain ⟨c, rfl⟩ := hw'
    have := wpAnyIn_of_seq (F := FR ro) (n := n) (md := .any) (Q := Q) (l.drop m) m listed a' c.w (fun j => by simp [List.getElem?_drop]) (by rw [hdl]; exact hL.1) (hL.2 _ c.bel)
    rwa [hdl] at this) _ _ _ { w with drawn := w.drawn + 1 } ⟨⟨{ w with drawn := w.drawn + 1 }, (Below.refl _ _).drew⟩, rfl⟩ H
  rw [htl, show m + (l.toArray.size - m) = l.toArray.size by omega] at this
  exact this
/-- A region whose operations read or call. -/
theorem wpIn_region_cls {id : Nat} {l : List Oper} (hm : P.follows .mixedOrders = true) (hB : Region.lexB .any l.toArray = true) (hnd : noDeferB l.toArray = true)
    (h : wpQuiet P l.toArray (fun w' => ∃ c : Cls w.heap.size w, w' = c.w) (fun a' => ∀ w', Below w.heap.size w w' → Q .normal a' w') l a) : (Code.region id l.toArray true).wpIn (FR ro) n P Q a w := by
  simp only [Region.lexB, Bool.and_eq_true] at hB
  refine wpIn_region_any hm (anyIn_of_quiet (C := fun w' => ∃ c : Cls w.heap.size w, w' = c.w) (Qq := fun a' => ∀ w', Below w.heap.size w w' → Q .normal a' w') hnd (fun a' w' hw' hq => by obtain ⟨c, rfl⟩ := hw'; exact hq _ c.bel) _ _ _ _ ⟨⟨{ w with drawn := w.drawn + 1 }, (Below.refl _ _).drew⟩, rfl⟩ ?_)
  have := wpAnyQ_lex (C := fun w' => ∃ c : Cls w.heap.size w, w' = c.w) (md := .any) hB.1 l 0 (Array.replicate l.toArray.size false) a (by simp) (by simpa using hB.2) h
  simpa using this

/-- The post of a piece that comes to its end. -/
def onlyN (Q : Exit → Act → World → Prop) : Exit → Act → World → Prop := fun e a w => e = .normal ∧ Q .normal a w
theorem onlyN_mk (h : Q .normal a w) : onlyN Q .normal a w := ⟨rfl, h⟩
theorem oper_plain {o : Oper} (hnd : ∀ c, o.op ≠ .defer c) (h : o.wp P a w K (onlyN Q)) : o.wpIn (FR ro) n P a w K Q := by
  unfold Oper.wpIn
  refine ⟨fun f _ => trivial, ?_⟩
  rw [Oper.semAt_eq _ _ _ hnd]
  unfold Oper.wp at h
  generalize (execOp a.eval o).run P w = r at *
  cases r with
  | ok x w' =>
    cases x <;> simp only [Oper.upon, Oper.uponIn] at h ⊢
    case value => exact h
    case skip => exact h
    case defer => exact h
    case enter f args =>
      refine ⟨(fun h => by cases h), calls_in (h.mono fun e w'' he => ?_)⟩
      cases e with
      | returned v => exact he
      | panicked c => cases he.1
      | outgrown => obtain ⟨_, _, h0⟩ := he; cases h0.1
    case row r args => exact ⟨(fun h => by cases h), rows_in h⟩
  | halt x w' => cases x <;> simp only [Oper.upon] at h <;> cases h.1
theorem op_plain {ops : Array Oper} (hnd : noDeferB ops = true) {i : Nat} (h : wpOp P ops (onlyN Q) i K a w) : wpOpIn (FR ro) n P ops Q i K a w := by
  unfold wpOp at h
  unfold wpOpIn
  split
  · rename_i ho; simp only [ho] at h; exact h
  · rename_i o ho
    simp only [ho] at h
    split
    · rename_i hw
      simp only [hw, if_true] at h
      rcases h with h | h
      · exact oper_plain (noDefer_spec hnd ho) h
      · obtain ⟨_, _, h0⟩ := h.2; cases h0.1
    · rename_i hw
      simp only [hw] at h
      exact ⟨fun f _ => trivial, h⟩
theorem any_plain {ops : Array Oper} {md : Region.Mode} (hnd : noDeferB ops = true) : ∀ (fuel : Nat) (listed : Array Bool) (a : Act) (w : World),
    wpAny P md ops (onlyN Q) fuel listed a w → wpAnyIn (FR ro) n P md ops Q fuel listed a w
  | 0, _, _, _, h => ⟨h.1, h.2.2⟩
  | _ + 1, _, _, _, h => ⟨fun h0 => (h.1 h0).2, fun i hi => op_plain hnd (wpOp_mono (fun a w => any_plain hnd _ _ a w) (h.2 i hi))⟩
theorem list_plain {ops : Array Oper} : ∀ (l : List Oper) (a : Act) (w : World), noDeferB l.toArray = true → wpList P ops (onlyN Q) l a w → wpListIn (FR ro) n P ops Q l a w
  | [], _, _, _, h => h.2
  | o :: l, a, w, hnd, h => by
    have h1 : (∀ c, o.op ≠ .defer c) := noDefer_spec (i := 0) hnd (by simp)
    have h2 : noDeferB l.toArray = true := by
      simp only [noDeferB, List.all_toArray, List.all_cons, Bool.and_eq_true] at hnd ⊢
      exact hnd.2
    unfold wpList at h
    unfold wpListIn
    split
    · rename_i hw
      rw [if_pos hw] at h
      rcases h with h | h
      · exact oper_plain h1 (Oper.wp_mono (fun a w => list_plain l a w h2) h)
      · obtain ⟨_, _, h0⟩ := h.2; cases h0.1
    · rename_i hw
      rw [if_neg hw] at h
      exact ⟨fun f _ => trivial, list_plain l _ _ h2 h⟩
/-- A region in the text's order, walked as everywhere. -/
theorem wpIn_lit_plain {id : Nat} {l : List Oper} (hnd : noDeferB l.toArray = true) (h : wpList P l.toArray (onlyN Q) l a w) : (Code.region id l.toArray false).wpIn (FR ro) n P Q a w := wpIn_region_lit (list_plain l a w hnd h)
/-- A region that draws its order, walked as everywhere. -/
theorem wpIn_draw_plain {id : Nat} {l : List Oper} (hm : P.follows .mixedOrders = true) (hnd : noDeferB l.toArray = true)
    (h : wpAny P .any l.toArray (onlyN Q) l.toArray.size (Array.replicate l.toArray.size false) a { w with drawn := w.drawn + 1 }) : (Code.region id l.toArray true).wpIn (FR ro) n P Q a w :=
  wpIn_region_any hm (any_plain hnd _ _ _ _ h)
/-- A region whose first operations read or call, and whose last ones come in one forced order and are walked as everywhere. -/
theorem wpIn_cls_tail {id : Nat} {l : List Oper} (m : Nat) (hm : P.follows .mixedOrders = true) (hB : Region.lexTailB .any l.toArray m = true) (hnd : noDeferB l.toArray = true)
    (h : wpQuiet P l.toArray (fun w' => ∃ c : Cls w.heap.size w, w' = c.w) (fun a' => ∀ w', Below w.heap.size w w' → wpList P l.toArray (onlyN Q) (l.drop m) a' w') (l.take m) a) : (Code.region id l.toArray true).wpIn (FR ro) n P Q a w := by
  refine wpIn_region_cls_tail m hm hB hnd ?_
  have hd : noDeferB (l.drop m).toArray = true := by
    simp only [noDeferB, List.all_toArray, List.all_eq_true] at hnd ⊢
    exact fun o ho => hnd o (List.mem_of_mem_drop ho)
  have hq : ∀ (l' : List Oper) (a : Act), wpQuiet P l.toArray (fun w' => ∃ c : Cls w.heap.size w, w' = c.w) (fun a' => ∀ w', Below w.heap.size w w' → wpList P l.toArray (onlyN Q) (l.drop m) a' w') l' a →
      wpQuiet P l.toArray (fun w' => ∃ c : Cls w.heap.size w, w' = c.w) (fun a' => ∀ w', Below w.heap.size w w' → wpListIn (FR ro) n P l.toArray Q (l.drop m) a' w') l' a := by
    intro l'
    induction l' with
    | nil => intro a h w' hw'; exact list_plain _ _ _ hd (h w' hw')
    | cons o rest ih =>
      intro a h
      unfold wpQuiet at h ⊢
      split
      · rename_i hw
        rw [if_pos hw] at h
        obtain ⟨v, hv, hn⟩ := h
        exact ⟨v, hv, ih _ hn⟩
      · rename_i hw
        rw [if_neg hw] at h
        exact ih _ h
  exact hq _ _ h
end
end Go.Proofs.YtdmnkcmkpjmfaaaGreat

/- Plain laws on the keys of a machine, its products, and what they fix. -/
namespace Go.Proofs.YtdmnkcmkpjmfaaaGreat

theorem free_keyN {m : Mach} (h : machB m = true) (v : ByteArray) (k : Nat) {d : Nat} (hd : d < 10) : pAt (keyN m v k) d ≠ d := free_key h _ d hd
theorem inv_keyN {m : Mach} (h : machB m = true) (v : ByteArray) (k : Nat) {d : Nat} (hd : d < 10) : pAt (keyN m v k) (pAt (keyN m v k) d) = d := (inv_key h _).at (isP_keyN h v k) hd
theorem keyN_add (m : Mach) (v : ByteArray) (a b : Nat) : keyN m (stepN m.wheels a v) b = keyN m v (a + b) := by
  unfold keyN
  rw [show a + b + 1 = a + (b + 1) by omega, stepN_add m.wheels a (b + 1)]
theorem keyN_of_bare {m : Mach} (h : machB m = true) (v : ByteArray) (k : Nat) : keyN m v k = conjP (keyN (bareM m) v k) (dg m.plugs) := key_of_bare h _

theorem conj_then {a b q : List Nat} (ha : IsP a) (hb : IsP b) (hq : IsP q) : thenP (conjP a q) (conjP b q) = conjP (thenP a b) q := by
  refine ext10 (by rw [len_then]; exact (ha.conj hq).len) ((ha.then hb).conj hq).len fun i hi => ?_
  have h1 := hq.back.at_lt hi
  have h2 := ha.at_lt h1
  rw [at_then _ (by rw [(ha.conj hq).len]; exact hi), at_conj ha hq hi, at_conj hb hq (hq.at_lt h2), hq.back_at h2, at_conj (ha.then hb) hq hi, at_then _ (by rw [ha.len]; exact h1)]

/-- A permutation has a fixed letter. -/
def fixB (p : List Nat) : Bool := (List.range 10).any fun i => pAt p i == i
theorem fixB_iff {p : List Nat} : fixB p = true ↔ ∃ i, i < 10 ∧ pAt p i = i := by simp [fixB]
theorem fixB_conj {p q : List Nat} (hp : IsP p) (hq : IsP q) : fixB (conjP p q) = fixB p := by
  rw [Bool.eq_iff_iff, fixB_iff, fixB_iff]
  constructor
  · rintro ⟨i, hi, h⟩
    have h1 := hq.back.at_lt hi
    refine ⟨pAt (backP q) i, h1, ?_⟩
    rw [at_conj hp hq hi] at h
    have := congrArg (pAt (backP q)) h
    rwa [hq.back_at (hp.at_lt h1)] at this
  · rintro ⟨i, hi, h⟩
    refine ⟨pAt q i, hq.at_lt hi, ?_⟩
    rw [at_conj hp hq (hq.at_lt hi), hq.back_at hi, h]

/-- The product of a place: two keys as far apart as there are rotors. -/
def prodP (m : Mach) (v : ByteArray) (i : Nat) : List Nat := thenP (keyN m v i) (keyN m v (i + v.size))
theorem isP_prod {m : Mach} (h : machB m = true) (v : ByteArray) (i : Nat) : IsP (prodP m v i) := (isP_keyN h v i).then (isP_keyN h v _)
theorem prod_bare {m : Mach} (h : machB m = true) (v : ByteArray) (i : Nat) : prodP m v i = conjP (prodP (bareM m) v i) (dg m.plugs) := by
  unfold prodP
  rw [keyN_of_bare h, keyN_of_bare h v (i + v.size)]
  exact conj_then (isP_keyN (machB_bare h) v i) (isP_keyN (machB_bare h) v _) (machB_plugP h)
theorem fix_prod_bare {m : Mach} (h : machB m = true) (v : ByteArray) (i : Nat) : fixB (prodP (bareM m) v i) = fixB (prodP m v i) := by
  rw [prod_bare h, fixB_conj (isP_prod (machB_bare h) v i) (machB_plugP h)]
/-- All products of a setting. -/
def prods (m : Mach) (v : ByteArray) : List (List Nat) := (List.range v.size).map (prodP m v)
theorem len_prods (m : Mach) (v : ByteArray) : (prods m v).length = v.size := by simp [prods]
theorem at_prods (m : Mach) (v : ByteArray) {i : Nat} (h : i < (prods m v).length) : (prods m v)[i] = prodP m v i := by simp [prods]
/-- Where a key enciphered twice repeats a letter the product fixes one. -/
theorem fix_of_repeat {m : Mach} (h : machB m = true) (v : ByteArray) (i : Nat) {d : Nat} (hd : d < 10) (he : pAt (keyN m v i) d = pAt (keyN m v (i + v.size)) d) : fixB (prodP m v i) = true := by
  rw [fixB_iff]
  have h1 := (isP_keyN h v i).at_lt hd
  refine ⟨pAt (keyN m v i) d, h1, ?_⟩
  unfold prodP
  rw [at_then _ (by rw [(isP_keyN h v i).len]; exact h1), inv_keyN h v i hd, ← he]

/-- What Encipher's word has at a place. -/
theorem at_enc (m : Mach) (v : ByteArray) {w : ByteArray} {i : Nat} (h : i < w.size) : pAt (encD m v (dg w)) i = pAt (keyN m v i) (pAt (dg w) i) := at_encD m v (by rw [len_dg]; exact h)
theorem enc_lt {m : Mach} (h : machB m = true) (v : ByteArray) {w : ByteArray} (hw : wordB w = true) : ∀ x ∈ encD m v (dg w), x < 10 := encD_lt h v (word_dg_lt hw)
theorem enc_append {m : Mach} (v : ByteArray) (a b : List Nat) : encD m v (a ++ b) = encD m v a ++ encD m (stepN m.wheels a.length v) b := by
  refine List.ext_getElem (by simp [len_encD]) fun i h1 h2 => ?_
  simp only [encD, List.length_append] at h1 ⊢
  rw [List.getElem_append]
  split
  · rename_i hl
    simp only [List.length_map, List.length_range] at hl
    simp [pAt, List.getD, List.getElem?_append_left hl]
  · rename_i hl
    simp only [List.length_map, List.length_range, Nat.not_lt] at hl
    simp only [List.getElem_map, List.getElem_range, List.length_map, List.length_range]
    rw [keyN_add, show a.length + (i - a.length) = i by omega]
    simp [pAt, List.getD, List.getElem?_append_right hl]
end Go.Proofs.YtdmnkcmkpjmfaaaGreat

/- The iterator over the keys of a machine. -/
namespace Go.Proofs.YtdmnkcmkpjmfaaaGreat
open Go.RowKit
attribute [local go_sem] Oper.semAt_some

/-- The blocks that the iterator reads. -/
def KA (g : Nat) (a : Option Addr) (B0 : Nat) (b : Nat) : Prop := b = g ∨ b = B0 ∨ ∃ ad, a = some ad ∧ ad.block = b
/-- What the iterator hands over. -/
def encsK (m : Mach) (v : ByteArray) (k : Nat) : Array Value := #[.string (stepN m.wheels (k + 1) v), .agg (pv (keyN m v k)).toArray]
theorem Reads.held {w w' : World} {B B' : Nat} {a : Option Addr} {xs : List Value} (h : Reads w B a xs) (hB : B ≤ B') (hk : ∀ ad, a = some ad → w'.heap[ad.block]? = w.heap[ad.block]?) : Reads w' B' a xs := by
  rcases h with h | ⟨b, off, ha, hb, hc⟩
  · exact .inl h
  · refine .inr ⟨b, off, ha, by omega, fun i hi => ?_⟩
    rw [← hc i hi]
    exact World.cell?_of_block (w := w) (hk ⟨b, off, none⟩ ha)
theorem MachAt.held {w w' : World} {B B' : Nat} {a : Option Addr} {n : Nat} {m : Mach} (h : MachAt w B a n m) (hB : B ≤ B') (hk : ∀ ad, a = some ad → w'.heap[ad.block]? = w.heap[ad.block]?) : MachAt w' B' a n m :=
  ⟨⟨h.whl.reads.held hB hk, h.whl.len, h.whl.few, h.whl.rot, h.whl.refl⟩, h.rings, h.plugs⟩
theorem Own.held {w w' : World} {g : Nat} {cs : List Value} (h : Own w g cs) (hs : w.heap.size ≤ w'.heap.size) (hb : w'.heap[g]? = w.heap[g]?) : Own w' g cs := h.keep (Nat.lt_of_lt_of_le h.lt hs) hb
theorem bel_grown {g : Nat} {w w' : World} (h : Below w.heap.size w w') : w.grownBy w' (some g) := ⟨h.os, h.tape, h.output, h.size, fun k hk _ => h.block k hk⟩

theorem keys_any (g : Nat) (v : ByteArray) (w : World) :
    Calls Tryz.prog 112 #[.pointer (some ⟨g, 0, none⟩), .string v] w fun e w' =>
      e = .returned (.func (.func 143) #[] #[.pointer (some ⟨w.heap.size, 0, none⟩), .pointer (some ⟨w.heap.size + 1, 0, none⟩)]) ∧
      Own w' w.heap.size [.pointer (some ⟨g, 0, none⟩)] ∧ Own w' (w.heap.size + 1) [.string v] ∧ Below w.heap.size w w' := by
  have o0 := fun A B => (Own.new w [.pointer (some ⟨g, 0, none⟩)] A).alloc B
  have o1 := fun A B => Own.new (w.alloc A) [.string v] B
  have hb := fun A B => ((Below.refl w.heap.size w).alloc (Nat.le_refl _) A).alloc (by simp) B
  simp only [World.size_alloc] at o1
  go_enter Tryz.func112, Tryz.ntmps112
  go_wp2
  go_ret
  exact ⟨rfl, o0 _ _, o1 _ _, hb _ _⟩

set_option maxRecDepth 100000 in
set_option maxHeartbeats 1000000 in
theorem keys_seq (N0 g B0 Bw : Nat) (a : Option Addr) (n c : Nat) (m : Mach) (v : ByteArray) (w : World) (hs : setB m v = true) (hA : Asm w g a n c m) (hM : MachAt w w.heap.size a n m)
    (h0 : Own w B0 [.pointer (some ⟨g, 0, none⟩)]) (hw : Own w Bw [.string v]) (n1 : Bw ≠ g) (n2 : Bw ≠ B0) (n3 : ∀ ad, a = some ad → ad.block ≠ Bw) :
    KSeq Fence.wide N0 Tryz.prog 143 #[.pointer (some ⟨B0, 0, none⟩), .pointer (some ⟨Bw, 0, none⟩)] (encsK m v) (KA g a B0) Bw w := by
  intro l J Jx N W hh hJ hY hN hj
  refine callsIn_of_wp Tryz.func143 rfl trivial ?_ rfl
  simp only [Tryz.ntmps143, List.size_toArray, List.length_cons, List.length_nil, Nat.reduceAdd, Nat.reduceSub, Array.replicate_succ, Array.replicate_zero, List.push_toArray, List.append_toArray, List.nil_append, List.cons_append]
  gi_wp2
  have HK : Hid (∀ b, KA g a B0 b → b < w.heap.size ∧ b ≠ Bw) := by
    intro b hb
    rcases hb with rfl | rfl | ⟨ad, ha, rfl⟩
    · exact ⟨hA.lt, fun e => n1 e.symm⟩
    · exact ⟨h0.lt, fun e => n2 e.symm⟩
    · obtain ⟨b, off, ha', hbl, -⟩ := hM.whl.cells (setB_fit hs).one
      rw [ha] at ha'
      cases ha'
      exact ⟨hbl, n3 _ ha⟩
  have hwW := hw.held hh.size (hh.block Bw (.inr rfl))
  have hhK : Holds (KA g a B0) w W := ⟨hh.size, fun b hb => hh.block b (.inl hb)⟩
  gi_loopg [] N (fun r wr => ∃ k, k + r = N ∧ k < N ∧ J k wr ∧ Own wr Bw [.string (stepN m.wheels k v)] ∧ Holds (KA g a B0) w wr)
  case atStart => exact ⟨0, by omega, hN, hj, hwW, hhK⟩
  case round =>
    clear hwW hhK hh hj W hN
    obtain ⟨k, hkr, hkN, hj, hcw, hh⟩ := hrel
    have hx := setB_stepN k hs
    have hfit := setB_fit hx
    have hs2 := setB_stepN (k + 1) hs
    have lA := hA.lt
    have hA2 := hA.keep (Nat.lt_of_lt_of_le hA.lt hh.size) (hh.block g (.inl rfl))
    have hM2 := hM.held (B' := wr.heap.size) hh.size (fun ad e => hh.block _ (.inr (.inr ⟨ad, e, rfl⟩)))
    have h02 := h0.held hh.size (hh.block B0 (.inr (.inl rfl)))
    have f0 := h02.at_ (i := 0) rfl
    have f1 := hcw.at_ (i := 0) rfl
    have g0 := hA2.mach.at_ (i := 0) rfl
    have g1 := hA2.mach.at_ (i := 1) rfl
    simp only [Nat.zero_add] at g0 g1
    have e0 := hA2.lt
    have e1 := h02.lt
    have e2 := hcw.lt
    have d0 := fun (cc : Cls wr.heap.size wr) => (cc.cell B0 0 e1).trans f0
    have d1 := fun (cc : Cls wr.heap.size wr) => (cc.cell Bw 0 e2).trans f1
    have d2 := fun (cc : Cls wr.heap.size wr) => (cc.cell g 0 e0).trans g0
    have d3 := fun (cc : Cls wr.heap.size wr) => (cc.cell g 1 e0).trans g1
    have st := fun (cc : Cls wr.heap.size wr) => step_any a n c m.wheels (stepN m.wheels k v) cc.w ((hM2.whl.below cc.bel (Nat.le_refl _)).more cc.bel.size) hfit
    have HSN := Lib.hid (stepN_succ m.wheels k v)
    clear f0 f1 g0 g1
    gi_wp2
    refine wpIn_wide.2 ?_
    refine wp_region_cls_tail 7 (by kernel_rfl) (by kernel_rfl) ?_
    simp only [List.take_succ_cons, List.take_zero, List.drop_succ_cons, List.drop_zero]
    repeat (go_big_quiet_step (first | (go_at_call 144; with_reducible exact cls_of (Nat.le_refl _) (st _))))
    refine wpQuiet_nil ?_
    intro wc hbc
    have hcw2 := hcw.below hbc e2
    have f1 := hcw2.at_ (i := 0) rfl
    have f2 := hcw2.free 0 (by simp)
    rw [← HSN.out] at *
    have hA3 := (hA2.below hbc e0).far (p := ⟨Bw, 0, none⟩) (fun e => n1 e.symm) (.string (stepN m.wheels (k + 1) v))
    have h03 := (h02.below hbc e1).far (p := ⟨Bw, 0, none⟩) (fun e => n2 e.symm) (.string (stepN m.wheels (k + 1) v))
    have hcw3 := hcw2.set_ (i := 0) (by simp) (.string (stepN m.wheels (k + 1) v))
    have hj3 := hJ _ _ _ (hJ _ _ _ hj (bel_grown hbc)) (grown_setCell wc Bw 0 (.string (stepN m.wheels (k + 1) v)))
    have hg3 := grown_trans (bel_grown (g := Bw) hbc) (grown_setCell wc Bw 0 (.string (stepN m.wheels (k + 1) v)))
    clear d0 d1 d2 d3 st hcw hA2 h02
    have hz3 : wr.heap.size ≤ (wc.setCell ⟨Bw, 0, none⟩ (.string (stepN m.wheels (k + 1) v))).heap.size := by
      have := hbc.size
      simpa [World.setCell] using this
    go_wp2
    generalize hW3 : wc.setCell ⟨Bw, 0, none⟩ (.string (stepN m.wheels (k + 1) v)) = w3 at *
    simp only [List.set_cons_zero] at hcw3
    clear hcw2 f1 f2 hbc hW3
    have f0 := h03.at_ (i := 0) rfl
    have f1 := hcw3.at_ (i := 0) rfl
    have e0 := hA3.lt
    have e1 := h03.lt
    have e2 := hcw3.lt
    have d0 := fun (cc : Cls w3.heap.size w3) => (cc.cell B0 0 e1).trans f0
    have d1 := fun (cc : Cls w3.heap.size w3) => (cc.cell Bw 0 e2).trans f1
    have st := fun (cc : Cls w3.heap.size w3) => permAt_any g a n c m (stepN m.wheels (k + 1) v) cc.w (hA3.below cc.bel e0) hs2
    clear f0 f1
    gi_wp2
    refine wpIn_region_cls_tail (ro := none) 5 (by kernel_rfl) (by kernel_rfl) (by kernel_rfl) ?_
    simp only [List.take_succ_cons, List.take_zero, List.drop_succ_cons, List.drop_zero]
    repeat (go_big_quiet_step (first | (go_at_call 145; with_reducible exact cls_of (Nat.le_refl _) (st _))))
    refine wpQuiet_nil ?_
    intro wd hbd
    have hj4 := hJ _ _ _ hj3 (bel_grown hbd)
    have hg4 := grown_trans hg3 (bel_grown (g := Bw) hbd)
    have hcw4 := hcw3.below hbd e2
    have HH : Holds (KA g a B0) w wd := hh.trans (Holds.grown hg4 (fun b hb => by have := (HK.out b hb).1; have := hh.size; omega) (fun b hb => by have := (HK.out b hb).2; simp; omega))
    obtain ⟨fn, tmps, assign, body, hy, hR⟩ := hY k wd hj4 hkN
    simp only [encsK] at hy
    rw [show keyN m v k = keyP m (stepN m.wheels (k + 1) v) from rfl] at hy
    gi_wp2
    refine ⟨(fun h => by cases h), hR.mono ?_⟩
    rintro e W3 (⟨rfl, hk1, hj5, hh5⟩ | ⟨rfl, hjx⟩)
    · have hcw5 := hcw4.held hh5.size (hh5.block Bw (.inr rfl))
      have hh6 : Holds (KA g a B0) w W3 := HH.trans ⟨hh5.size, fun b hb => hh5.block b (.inl hb)⟩
      gi_wp2
      gi_roundg (N - (k + 1))
      case measure => omega
      case rel => exact ⟨k + 1, by omega, hk1, hj5, hcw5, hh6⟩
    · gi_wp2
      refine bodyPost_ret (results_none rfl _ _ _) rfl ?_
      exact ⟨⟨_, rfl⟩, hjx⟩
end Go.Proofs.YtdmnkcmkpjmfaaaGreat

/- 'x = append(x, u)' of an owned slice, and where the new row lies; a row made with a capacity. -/
namespace Go.Proofs.YtdmnkcmkpjmfaaaGreat
open Go.RowKit

section
variable {P : Program} {ops : Array Oper} {rest : List Oper} {dst : Option Tmp} {ty : TypeId} {pos : String} {after : Array Edge} {a : Act} {w0 : World} {Q : Exit → Act → World → Prop}
theorem wl_pushG (t e : TypeId) {s x : Operand} {z : Value} {sz bytes : Nat} (hinfo : (P.info? e).map (fun i => (i.zero, i.size, i.bytes)) = some (some z, sz, bytes)) (ht : P.underlying t = some (.slice e)) (hzs : z.cells.size = sz) (hsz : 0 < sz)
    {base n : Nat} {v : Value} {xs us : List Value} (hown : OwR w0 base e sz v n xs) (hb : base ≤ w0.heap.size) (hus : us.length = sz) (h1 : ∀ u ∈ us, u.oneCell' = true) (hn : n ≤ 1048576) (hby : bytes ≤ 1000)
    (hs : a.eval s = v) (hx : a.eval x = .slice (some ⟨w0.heap.size, 0, none⟩) 1 1)
    (h : ∀ g cap w', OwR w' base e sz (.slice (some ⟨g, 0, none⟩) (n + 1) cap) (n + 1) (xs ++ us) → w0.grownBy w' v.ownBlock → (v.ownBlock = some g ∨ w0.heap.size < g) → w0.heap.size < w'.heap.size → KeepsOthers w0 w' → wpList P ops Q rest (a.put dst (.slice (some ⟨g, 0, none⟩) (n + 1) cap)) w') :
    wpList P ops Q (⟨dst, .call { callee := .builtin .append, args := #[s, x], argTypes := #[t, t] }, ty, pos, after, none⟩ :: rest) a (w0.alloc (.cells us.toArray e)) := by
  obtain ⟨i0, hi0, hz0, hz1, hz2⟩ := info_parts hinfo
  refine wpList_append_lies _ rfl s x t rfl base e i0 z sz bytes ht hi0 hz0 hz1 hz2 hzs hsz v n xs hs (World.ownsRow.alloc hown _) ⟨w0.heap.size, 0, none⟩ 1 1 us hx (by omega) ?_ h1 (by omega) (by unfold maxLen; omega) ?_ (by simp; omega) (w0.heap.size + 1) (by simp) ?_
  · intro j u hu
    rw [show ((⟨w0.heap.size, 0, none⟩ : Addr).add j) = ⟨w0.heap.size, j, none⟩ by unfold Addr.add; split <;> simp_all]
    rw [World.cell?_alloc_mark]; simpa using hu
  · have : (n + 1) * bytes ≤ (1048576 + 1) * 1000 := Nat.mul_le_mul (by omega) hby
    omega
  · intro g cap w' ho hg hat hlt
    have hs' := hg.size
    simp only [World.size_alloc] at hs'
    refine h g cap w' ho ?_ ?_ (by omega) ?_
    · exact ⟨hg.os, hg.tape, hg.output, by omega, fun k hk hne => (hg.block k (by simp; omega) hne).trans (Below.heap_alloc w0 _ k hk)⟩
    · rcases hat with h1 | h1
      · exact .inl h1
      · exact .inr (by omega)
    · refine (KeepsOthers.alloc w0 _).trans (KeepsOthers.of_grownBy hg fun j o ej hj => ?_)
      rcases hown.2 with ⟨rfl, _⟩ | ⟨g', cap', cur, rfl, _, hh, _⟩
      · simp [Value.ownBlock] at ej
      · simp only [Value.ownBlock, Option.some.injEq] at ej
        subst ej
        have hlt' : g' < w0.heap.size := (Array.getElem?_eq_some_iff.1 hh).1
        rw [Below.heap_alloc w0 _ g' hlt', hh] at hj
        cases hj
        rfl
end
theorem OwR.lt_ {w : World} {base n cap g sz : Nat} {e : TypeId} {xs : List Value} (h : OwR w base e sz (.slice (some ⟨g, 0, none⟩) n cap) n xs) : g < w.heap.size := (World.ownsRow.lt h g rfl).2
/-- The row of a slice is kept where its block is. -/
theorem OwR.same {w w' : World} {base n cap g sz : Nat} {e : TypeId} {xs : List Value} (h : OwR w base e sz (.slice (some ⟨g, 0, none⟩) n cap) n xs) (hb : w'.heap[g]? = w.heap[g]?) : OwR w' base e sz (.slice (some ⟨g, 0, none⟩) n cap) n xs := by
  refine ⟨h.1, ?_⟩
  rcases h.2 with ⟨h0, _⟩ | ⟨g', cap', cur, hv, hg, hh, h1⟩
  · cases h0
  · cases hv
    exact .inr ⟨g, cap, cur, rfl, hg, hb.trans hh, h1⟩
/-- What lay below stays, and what is no cells. -/
theorem keeps_below {w w' : World} (h : Below w.heap.size w w') : KeepsOthers w w' := ⟨h.size, fun k _ hk _ => (h.block k (Array.getElem?_eq_some_iff.1 hk).1).trans hk⟩
end Go.Proofs.YtdmnkcmkpjmfaaaGreat

/- A loop over the keys of a machine that collects in a slice of its own. -/
namespace Go.Proofs.YtdmnkcmkpjmfaaaGreat
open Go.RowKit

/-- Box BL holds a slice of the call's own that holds xs; its row lies in block R0 or beyond L + 1. -/
def Coll (e : TypeId) (sz base R0 BL L k : Nat) (xs : List Value) (W : World) : Prop :=
  ∃ val, Own W BL [val] ∧ OwR W base e sz val k xs ∧ (∀ b, val.ownBlock = some b → b = R0 ∨ L + 1 < b)
section
variable {e : TypeId} {sz base R0 BL L k : Nat} {xs : List Value} {A B : World}
theorem Coll.grown {r : Nat} (h : Coll e sz base R0 BL L k xs A) (hg : A.grownBy B (some r)) (h1 : r ≠ BL) (h2 : r ≠ R0) (h3 : r ≤ L + 1) : Coll e sz base R0 BL L k xs B := by
  obtain ⟨val, ho, hr, hb⟩ := h
  refine ⟨val, ho.grown hg (by simp; omega), World.ownsRow.kept hr hg (.inr fun e => ?_), hb⟩
  have := hb r e
  omega
theorem Coll.below (h : Coll e sz base R0 BL L k xs A) (hg : Below A.heap.size A B) : Coll e sz base R0 BL L k xs B := by
  obtain ⟨val, ho, hr, hb⟩ := h
  exact ⟨val, ho.below hg ho.lt, OwR.below hr hg (Nat.le_refl _), hb⟩
theorem Coll.start {A : World} {val : Value} (ho : Own A BL [val]) (hr : OwR A base e sz val k xs) (hb : ∀ b, val.ownBlock = some b → b = R0) : Coll e sz base R0 BL L k xs A := ⟨val, ho, hr, fun b h => .inl (hb b h)⟩
/-- One more has been collected. -/
theorem Coll.push {val : Value} {us : List Value} {g cap : Nat} {wc w' : World} (hBL : BL ≤ L) (hR0 : BL ≠ R0) (hL : L + 1 < wc.heap.size) (ho : Own wc BL [val]) (hb : ∀ b, val.ownBlock = some b → b = R0 ∨ L + 1 < b)
    (hr : OwR w' base e sz (.slice (some ⟨g, 0, none⟩) (k + 1) cap) (k + 1) (xs ++ us)) (hg : wc.grownBy w' val.ownBlock) (hat : val.ownBlock = some g ∨ wc.heap.size < g) :
    Coll e sz base R0 BL L (k + 1) (xs ++ us) (w'.setCell ⟨BL, 0, none⟩ (.slice (some ⟨g, 0, none⟩) (k + 1) cap)) := by
  have hne : val.ownBlock ≠ some BL := fun e => by have := hb _ e; omega
  have hgb : g = R0 ∨ L + 1 < g := by
    rcases hat with h | h
    · exact hb _ h
    · exact .inr (by omega)
  refine ⟨_, (ho.grown hg (fun e => hne e.symm)).set_ (by simp) _, OwR.off hr (fun e => ?_) _, fun b e => ?_⟩
  · simp only [Value.ownBlock, Option.some.injEq] at e
    omega
  · simp only [Value.ownBlock, Option.some.injEq] at e
    omega
end

theorem zip2 (T : Array Value) (s1 s2 : Tmp) (x y : Value) : (#[s1, s2].zip #[x, y]).foldl (fun t (p, v) => t.setIfInBounds p v) T = (T.setIfInBounds s1 x).setIfInBounds s2 y := by simp
/-- The law, the frame of a round said by the frame before. -/
theorem wpIn_rangeFunc_keysT {F : Fence} {n : Nat} {P : Program} {g : Operand} {s1 s2 : Tmp} {assign body : Code} {Q : Exit → Act → World → Prop} {a : Act} {w : World}
    (hro : F.round = none) (h1 : 1 ≤ n) {gf : Nat} {lb : Array Value} (hg : a.eval g = .func (.func gf) #[] lb) (hFg : F.fn gf) (eg : ∀ args w, (callFunc gf args).run P w = .ok (.enter gf args) w)
    {m : Mach} {v : ByteArray} {K : Nat → Prop} {Bw : Nat} (hseq : KSeq F (n - 1) P gf lb (encsK m v) K Bw w)
    (hK : ∀ b, K b → b < w.heap.size) (hBw : Bw < w.heap.size)
    (N : Nat) (hN : 0 < N) (I : Nat → World → Prop) (Ix : Code → World → Prop)
    (hI : ∀ k A B r, I k A → A.grownBy B (some r) → (r = Bw ∨ r = w.heap.size ∨ r = w.heap.size + 1) → I k B)
    (hIx : ∀ c A B r, Ix c A → A.grownBy B (some r) → (r = w.heap.size ∨ r = w.heap.size + 1) → Ix c B)
    (h0 : I 0 w) (Ax : Array Value → Nat → Act → World → Prop)
    (hAx : ∀ k a' A B, Ax a.tmps k a' A → A.grownBy B (some (w.heap.size + 1)) → Ax a.tmps k a' B)
    (hassign : ∀ (l k : Nat) (W : World) (Kn : Act → World → Prop), I k W → k < N → w.heap.size + 1 < W.heap.size → (∀ a' W', W'.heap[w.heap.size + 1]? = W.heap[w.heap.size + 1]? → W'.heap[w.heap.size]? = W.heap[w.heap.size]? → Holds (fun b => K b ∨ b = Bw) W W' → I k W' → Ax a.tmps k a' W' → Kn a' W') →
      assign.wpIn (F.inRound l) (n - 1 - 1) P (Exit.then Kn (fun _ _ _ => False)) { tmps := (a.tmps.setIfInBounds s1 (.string (stepN m.wheels (k + 1) v))).setIfInBounds s2 (.agg (pv (keyN m v k)).toArray), defers := [] } W)
    (hbody : ∀ (l k : Nat) (a' : Act) (W : World), I k W → Ax a.tmps k a' W → k < N → w.heap.size + 1 < W.heap.size → body.wpIn (F.inRound l) (n - 1 - 1) P (keysPost K Bw N I Ix k W) a' W)
    (hstop : ∀ (c : Code) (W : World), Ix c W → W.heap[w.heap.size]? = some (.deferred (some [])) → c.wpIn F n P Q { a with defers := { target := .collected w.heap.size, args := #[] } :: a.defers } W) :
    (Code.rangeFunc g #[s1, s2] assign body).wpIn F n P Q a w := wpIn_rangeFunc_keys hro h1 hg hFg eg hseq hK hBw (fun _ => rfl) N hN I Ix hI hIx h0 (Ax a.tmps) hAx (fun l k W Kn a b c d => by rw [encsK, zip2]; exact hassign l k W Kn a b c d) hbody hstop
/-- What a round is told of its frame where the permutation is boxed in slot s3. -/
def AxBox (m : Mach) (v : ByteArray) (L : Nat) (s1 s2 s3 : Tmp) (T : Array Value) (k : Nat) (a' : Act) (W : World) : Prop :=
  ∃ Bx, L + 1 < Bx ∧ Own W Bx (pv (keyN m v k)) ∧ a' = { tmps := ((T.setIfInBounds s1 (.string (stepN m.wheels (k + 1) v))).setIfInBounds s2 (.agg (pv (keyN m v k)).toArray)).setIfInBounds s3 (.pointer (some ⟨Bx, 0, none⟩)), defers := [] }
theorem AxBox.grown {m : Mach} {v : ByteArray} {L : Nat} {s1 s2 s3 : Tmp} {T : Array Value} {k : Nat} {a' : Act} {A B : World} (h : AxBox m v L s1 s2 s3 T k a' A) (hg : A.grownBy B (some (L + 1))) : AxBox m v L s1 s2 s3 T k a' B := by
  obtain ⟨Bx, h1, h2, h3⟩ := h
  exact ⟨Bx, h1, h2.grown hg (by simp; omega), h3⟩
/-- The same, the windows kept in slot s4. -/
def AxBox2 (m : Mach) (v : ByteArray) (L : Nat) (s1 s2 s3 s4 : Tmp) (T : Array Value) (k : Nat) (a' : Act) (W : World) : Prop :=
  ∃ Bx, L + 1 < Bx ∧ Own W Bx (pv (keyN m v k)) ∧ a' = { tmps := (((T.setIfInBounds s1 (.string (stepN m.wheels (k + 1) v))).setIfInBounds s2 (.agg (pv (keyN m v k)).toArray)).setIfInBounds s4 (.string (stepN m.wheels (k + 1) v))).setIfInBounds s3 (.pointer (some ⟨Bx, 0, none⟩)), defers := [] }
theorem AxBox2.grown {m : Mach} {v : ByteArray} {L : Nat} {s1 s2 s3 s4 : Tmp} {T : Array Value} {k : Nat} {a' : Act} {A B : World} (h : AxBox2 m v L s1 s2 s3 s4 T k a' A) (hg : A.grownBy B (some (L + 1))) : AxBox2 m v L s1 s2 s3 s4 T k a' B := by
  obtain ⟨Bx, h1, h2, h3⟩ := h
  exact ⟨Bx, h1, h2.grown hg (by simp; omega), h3⟩
end Go.Proofs.YtdmnkcmkpjmfaaaGreat

/- A region that draws its order, one of whose loads reads the very cell that its last store hits: the load is taken first. -/
namespace Go.Proofs.YtdmnkcmkpjmfaaaGreat
open Go.RowKit
section
variable {P : Program} {ops : Array Oper} {Q : Exit → Act → World → Prop} {md : Region.Mode} {S : World → Prop} {kp : Nat → Bool}

/-- Whatever order is picked, and S holds behind each operation that kp names. -/
def wpAnyK (P : Program) (md : Region.Mode) (ops : Array Oper) (Q : Exit → Act → World → Prop) (S : World → Prop) (kp : Nat → Bool) : Nat → Array Bool → Act → World → Prop
  | 0, listed, a, w => Region.ready md ops listed = [] ∧ Q .normal a w
  | fuel + 1, listed, a, w =>
    (Region.ready md ops listed = [] → Q .normal a w) ∧
    ∀ i ∈ Region.ready md ops listed, wpOp P ops Q i (fun a' w' => (kp i = true → S w') ∧ wpAnyK P md ops Q S kp fuel (listed.setIfInBounds i true) a' w') a w
theorem wpAny_of_K : ∀ (fuel : Nat) (listed : Array Bool) (a : Act) (w : World), wpAnyK P md ops Q S kp fuel listed a w → wpAny P md ops Q fuel listed a w
  | 0, _, _, _, h => h
  | fuel + 1, _, _, _, h => ⟨h.1, fun i hi => wpOp_mono (fun a' w' h' => wpAny_of_K fuel _ a' w' h'.2) (h.2 i hi)⟩
theorem wpAnyK_of_any (hkp : ∀ i, kp i = false) : ∀ (fuel : Nat) (listed : Array Bool) (a : Act) (w : World), wpAny P md ops Q fuel listed a w → wpAnyK P md ops Q S kp fuel listed a w
  | 0, _, _, _, h => h
  | fuel + 1, _, _, _, h => ⟨h.1, fun i hi => wpOp_mono (fun a' w' h' => ⟨(fun e => by rw [hkp i] at e; cases e), wpAnyK_of_any hkp fuel _ a' w' h'⟩) (h.2 i hi)⟩

theorem wpAnyK_first {i : Nat} {oi : Oper} {v : Value} (hi : ops[i]? = some oi) (hsel : ∀ (j : Nat) (o : Oper) cs b, ops[j]? = some o → o.op ≠ .select cs b)
    (hQ : ∀ c a w, Q (.panic c) (a.put oi.dst v) w → Q (.panic c) a w)
    (hkp : ∀ j oj, ops[j]? = some oj → j ≠ i → kp j = false → ∃ e ∈ oj.after, Region.binds md e = true ∧ e.on = i) :
    ∀ (fuel : Nat) (listed : Array Bool) (a : Act) (w : World),
      (∀ j oj, ops[j]? = some oj → j ≠ i → listed.getD j true = false → (∀ e ∈ oj.after, Region.binds md e = true → e.on ≠ i) → oi.apart ops oj = true) →
      i ∈ Region.ready md ops listed → YieldsIf P ops S oi v a → S w →
      wpAnyK P md ops Q S kp fuel (listed.setIfInBounds i true) (a.put oi.dst v) w → wpAnyK P md ops Q S kp (fuel + 1) listed a w := by
  intro fuel
  induction fuel with
  | zero =>
    intro listed a w _ hr hy hS H
    refine ⟨fun h => (by rw [h] at hr; cases hr), fun j hj => ?_⟩
    by_cases hji : j = i
    · subst hji; exact hy.wpOp hi hS ⟨fun _ => hS, H⟩
    · have := ready_mono hj hji
      rw [H.1] at this
      cases this
  | succ fuel ih =>
    intro listed a w hfree hr hy hS H
    refine ⟨fun h => (by rw [h] at hr; cases hr), fun j hj => ?_⟩
    by_cases hji : j = i
    · subst hji; exact hy.wpOp hi hS ⟨fun _ => hS, H⟩
    · have h1 := H.2 j (ready_mono hj hji)
      obtain ⟨hjun, oj, hoj, hall⟩ := mem_ready.1 hj
      have hnot : ∀ e ∈ oj.after, Region.binds md e = true → e.on ≠ i := fun e he hb heq => by
        have h1 := hall e he hb
        have h0 := (mem_ready.1 hr).1
        rw [heq] at h1
        rcases Nat.lt_or_ge i listed.size with h' | h'
        · simp [h'] at h0 h1; rw [h0] at h1; cases h1
        · simp [Array.getElem?_eq_none h'] at h1
      have hkj : kp j = true := by
        cases hk : kp j with
        | true => rfl
        | false => obtain ⟨e, he, hb, heq⟩ := hkp j oj hoj hji hk; exact absurd heq (hnot e he hb)
      have h2 := wpOp_putIf hoj (hfree j oj hoj hji hjun hnot) (fun cs b => hsel i oi cs b hi) (fun cs b => hsel j oj cs b hoj) hQ hy h1
      have hfree' : ∀ k ok, ops[k]? = some ok → k ≠ i → (listed.setIfInBounds j true).getD k true = false →
          (∀ e ∈ ok.after, Region.binds md e = true → e.on ≠ i) → oi.apart ops ok = true := fun k ok hk hki hun hno => by
        refine hfree k ok hk hki ?_ hno
        by_cases hjk : j = k
        · subst hjk; exact hjun
        · rw [getD_set_ne true hjk] at hun; exact hun
      refine wpOp_mono (fun a' w' h3 => ⟨h3.2.1, ih (listed.setIfInBounds j true) a' w' hfree' (ready_mono hr (Ne.symm hji)) h3.1 (h3.2.1 hkj) ?_⟩) h2
      rw [Array.setIfInBounds_comm _ _ hji]
      exact h3.2.2
/-- Which operations need not keep S: those that wait for number i. -/
def kpB (md : Region.Mode) (ops : Array Oper) (kp : Nat → Bool) (i : Nat) : Bool :=
  (List.range ops.size).all fun j => j == i || kp j || (match ops[j]? with | some o => o.after.any fun e => Region.binds md e && e.on == i | none => true)
theorem kpB_spec {i : Nat} (h : kpB md ops kp i = true) : ∀ j oj, ops[j]? = some oj → j ≠ i → kp j = false → ∃ e ∈ oj.after, Region.binds md e = true ∧ e.on = i := by
  intro j oj hj hji hk
  have hlt : j < ops.size := (Array.getElem?_eq_some_iff.1 hj).1
  have := List.all_eq_true.1 h j (by simpa using hlt)
  simp only [hj, hk, Bool.or_false, Bool.or_eq_true, beq_iff_eq, hji, false_or] at this
  obtain ⟨k, hk, h0⟩ := Array.any_eq_true.1 this
  simp only [Bool.and_eq_true, beq_iff_eq] at h0
  exact ⟨_, Array.getElem_mem hk, h0.1, h0.2⟩
theorem kr_take (i d : Nat) {oi : Oper} {v : Value} {fuel : Nat} {listed : Array Bool} {a : Act} {w : World} (hi : ops[i]? = some oi) (hs : Region.noSelect ops = true) (hf : Region.free md ops listed i = true) (hr : (Region.ready md ops listed).contains i = true)
    (hk : kpB md ops kp i = true) (hQ : ∀ c a w, Q (.panic c) (a.put oi.dst v) w → Q (.panic c) a w) (hd : oi.dst = some d) (hS : S w) (hy : YieldsIf P ops S oi v a)
    (h : wpAnyK P md ops Q S kp fuel (listed.setIfInBounds i true) (a.put (some d) v) w) : wpAnyK P md ops Q S kp (fuel + 1) listed a w :=
  wpAnyK_first hi (Region.noSelect_spec hs) hQ (kpB_spec hk) fuel listed a w (Region.free_spec hi hf) (by simpa using hr) hy hS (by rw [hd]; exact h)
/-- The one operation that may come up. -/
theorem kr_one (i : Nat) {o : Oper} {fuel : Nat} {listed : Array Bool} {a : Act} {w : World} (hr : Region.ready md ops listed = [i]) (hi : ops[i]? = some o) (hw : Region.wanted o (yielded ops a.tmps) = true)
    (h : o.wp P a w (fun a' w' => (kp i = true → S w') ∧ wpAnyK P md ops Q S kp fuel (listed.setIfInBounds i true) a' w') Q) : wpAnyK P md ops Q S kp (fuel + 1) listed a w := by
  refine ⟨fun h0 => (by rw [hr] at h0; cases h0), fun j hj => ?_⟩
  rw [hr] at hj
  have : j = i := by simpa using hj
  subst this
  unfold wpOp
  simp only [hi, hw, if_true]
  exact .inl h
/-- The rest comes in one forced order, and none of it need keep S. -/
theorem kr_rest {fuel : Nat} {listed : Array Bool} {a : Act} {w : World} (l : List Oper) (k : Nat) (hl : ∀ j, l[j]? = ops[k + j]?) (hf : fuel = l.length) (hB : Region.seqB md ops l.length k listed = true) (hkp : (List.range l.length).all (fun j => !kp (k + j)) = true)
    (h : wpList P ops Q l a w) : wpAnyK P md ops Q S kp fuel listed a w := by
  subst hf
  have aux : ∀ (l : List Oper) (k : Nat) (listed : Array Bool) (a : Act) (w : World), (∀ j, l[j]? = ops[k + j]?) → Region.seqB md ops l.length k listed = true → (∀ j, j < l.length → kp (k + j) = false) → wpList P ops Q l a w → wpAnyK P md ops Q S kp l.length listed a w := by
    intro l
    induction l with
    | nil => intro k listed a w _ hB _ h; exact ⟨by simpa [Region.seqB] using hB, h⟩
    | cons o l ih =>
      intro k listed a w hl hB hkp h
      have h0 : ops[k]? = some o := by simpa using (hl 0).symm
      simp only [List.length_cons, Region.seqB, Bool.and_eq_true, decide_eq_true_eq] at hB
      refine ⟨fun h1 => (by rw [hB.1] at h1; cases h1), fun i hi => ?_⟩
      rw [hB.1] at hi
      have hik : i = k := by simpa using hi
      subst hik
      have hk0 : kp i = false := by simpa using hkp 0 (by simp)
      have hw : wpOp P ops Q i (wpList P ops Q l) a w := by unfold wpOp; simp only [h0]; exact h
      exact wpOp_mono (fun a' w' h' => ⟨(fun e => by rw [hk0] at e; cases e), ih (i + 1) _ a' w' (fun j => by have := hl (j + 1); simpa [Nat.add_assoc, Nat.add_comm 1 j] using this) hB.2 (fun j hj => by have := hkp (j + 1) (by simp; omega); simpa [Nat.add_assoc, Nat.add_comm 1 j] using this) h'⟩) hw
  exact aux l k listed a w hl hB (fun j hj => by have := List.all_eq_true.1 hkp j (by simpa using hj); simpa using this) h
theorem kr_drop {l : List Oper} {fuel : Nat} {listed : Array Bool} {a : Act} {w : World} (k : Nat) (hf : fuel = l.length - k) (hB : Region.seqB md l.toArray (l.length - k) k listed = true) (hkp : (List.range (l.length - k)).all (fun j => !kp (k + j)) = true)
    (h : wpList P l.toArray Q (l.drop k) a w) : wpAnyK P md l.toArray Q S kp fuel listed a w :=
  kr_rest (l.drop k) k (fun j => by simp [List.getElem?_drop]) (by simpa using hf) (by simpa using hB) (by simpa using hkp) h
theorem kr_call (i d : Nat) {o : Oper} {f : FuncId} {args : Array Value} {v : Value} {T : World → Prop} {fuel : Nat} {listed : Array Bool} {a : Act} {w : World} (hr : Region.ready md ops listed = [i]) (hi : ops[i]? = some o) (hw : Region.wanted o (yielded ops a.tmps) = true)
    (hd : o.dst = some d) (he : ∀ w, (execOp a.eval o).run P w = .ok (.enter f args) w) (hc : Calls P f args w fun e w' => e = .returned v ∧ T w')
    (h : ∀ w', T w' → S w' ∧ wpAnyK P md ops Q S kp fuel (listed.setIfInBounds i true) (a.put (some d) v) w') : wpAnyK P md ops Q S kp (fuel + 1) listed a w := by
  refine kr_one i hr hi hw ?_
  simp only [Oper.wp, he, Oper.upon]
  refine hc.mono ?_
  rintro e w' ⟨rfl, hT⟩
  rw [hd]
  exact ⟨fun _ => (h w' hT).1, (h w' hT).2⟩
theorem kr_value (i d : Nat) {o : Oper} {v : Value} {fuel : Nat} {listed : Array Bool} {a : Act} {w w' : World} (hr : Region.ready md ops listed = [i]) (hi : ops[i]? = some o) (hw : Region.wanted o (yielded ops a.tmps) = true)
    (hd : o.dst = some d) (he : (execOp a.eval o).run P w = .ok (.value v) w') (h : S w' ∧ wpAnyK P md ops Q S kp fuel (listed.setIfInBounds i true) (a.put (some d) v) w') : wpAnyK P md ops Q S kp (fuel + 1) listed a w := by
  refine kr_one i hr hi hw ?_
  simp only [Oper.wp, he, Oper.upon]
  rw [hd]
  exact ⟨fun _ => h.1, h.2⟩
theorem kr_load (i d : Nat) (ty : TypeId) {o : Oper} {x : Operand} {g off : Nat} {cs : List Value} {ds : TypeDesc} {fuel : Nat} {listed : Array Bool} {a : Act} {w : World} (hr : Region.ready md ops listed = [i]) (hi : ops[i]? = some o) (hw : Region.wanted o (yielded ops a.tmps) = true)
    (hd : o.dst = some d) (ho : o.op = .load ty x) (hx : a.eval x = .pointer (some ⟨g, off, none⟩)) (hc : Cells w g off cs) (hz : (P.info? ty).map (·.size) = some cs.length) (hu : P.underlying ty = some ds) (hg : aggD ds = true)
    (h : S w ∧ wpAnyK P md ops Q S kp fuel (listed.setIfInBounds i true) (a.put (some d) (.agg cs.toArray)) w) : wpAnyK P md ops Q S kp (fuel + 1) listed a w := by
  refine kr_value i d hr hi hw hd (v := .agg cs.toArray) (w' := w) ?_ h
  unfold execOp
  simp only [ho, hx, Instr.loadAt, Instr.sureAddr, Sem.run_bind, Sem.run_pure, Result.andThen_ok, run_loadVar_cells w g off ty cs ds hc hu hg hz]
end
end Go.Proofs.YtdmnkcmkpjmfaaaGreat

/- Contracts of the laws' own functions on lists of strings: their sizes, copies and comparison. -/
namespace Go.Proofs.YtdmnkcmkpjmfaaaGreat
open Go.RowKit

theorem info_str : (Tryz.prog.info? 9).map (fun i => (i.zero, i.size, i.bytes)) = some (some (.string ⟨#[]⟩), 1, 16) := by kernel_rfl

/-- What is left of a size: -1, or no string is greater. -/
def SzPost (ss : List ByteArray) (left : Int) (w : World) (e : Ending) (w' : World) : Prop :=
  ∃ r : Int, e = .returned (.int .i64 r) ∧ w = w' ∧ (r = -1 ∨ (0 ≤ r ∧ r ≤ left ∧ (ss.length : Int) ≤ left ∧ ∀ s ∈ ss, (s.size : Int) ≤ left))
def szTo (ss : List ByteArray) (left : Int) (k : Nat) : Prop := ∀ j (h : j < ss.length), j < k → (ss[j].size : Int) ≤ left
theorem szStringS_any (a : Option Addr) (c : Nat) (ss : List ByteArray) (left : Int) (w : World) (h : Reads w w.heap.size a (sv ss)) (hz : ∀ s ∈ ss, s.size ≤ 9223372036854775807) (hl : ss.length ≤ 9223372036854775807) (h0 : 0 ≤ left) (h1 : left ≤ 1048576) :
    Calls Tryz.prog 59 #[.slice a ss.length c, .int .i64 left] w (SzPost ss left w) := by
  by_cases hn : left < ss.length
  · go_enter Tryz.func59, Tryz.ntmps59
    go_wp2
    go_ret
    exact ⟨-1, rfl, rfl, .inl rfl⟩
  · have Z := Lib.hid hz
    have HR := Lib.hid h
    clear hz h
    go_enter Tryz.func59, Tryz.ntmps59
    go_wp2
    go_loop [1, 5] (fun l i => ∃ (k : Nat) (q : Int), k ≤ ss.length ∧ i = .int .i64 k ∧ l = .int .i64 q ∧ 0 ≤ q ∧ q ≤ left ∧ szTo ss left k) (fun _ i => ss.length - (intOf i).toNat)
    case atStart => exact ⟨0, left - ss.length, Nat.zero_le _, rfl, rfl, by omega, by omega, fun _ _ h => absurd h (by omega)⟩
    case round =>
      obtain ⟨k, q, hk, rfl, rfl, hq0, hq1, ha⟩ := hrel
      by_cases hlt : k < ss.length
      · obtain ⟨b, off, rfl, hb, hc⟩ := HR.out.open_ (by rw [length_sv]; omega)
        have d1 := hc k (by rw [length_sv]; exact hlt)
        rw [sv_at hlt] at d1
        have z1 := Z.out _ (List.getElem_mem hlt)
        clear hc
        by_cases hs : q < ss[k].size
        · go_wp2
          go_ret
          exact ⟨-1, rfl, rfl, .inl rfl⟩
        · go_wp2
          go_round
          case rel =>
            refine ⟨k + 1, q - ss[k].size, by omega, by go_num, rfl, by omega, by omega, fun j hj hlt' => ?_⟩
            by_cases e : j = k
            · subst e; omega
            · exact ha j hj (by omega)
          case measure => simp [intOf]; omega
      · go_wp2
        go_ret
        refine ⟨q, rfl, rfl, .inr ⟨hq0, hq1, by omega, fun s hs => ?_⟩⟩
        obtain ⟨j, hj, rfl⟩ := List.getElem_of_mem hs
        exact ha j hj (by omega)

/-- A copy of a list of strings in new memory. -/
def CopyPost (ss : List ByteArray) (w : World) (e : Ending) (w' : World) : Prop :=
  ∃ g, w.heap.size ≤ g ∧ e = .returned (.slice (some ⟨g, 0, none⟩) ss.length ss.length) ∧ Own w' g (sv ss) ∧ Below w.heap.size w w'
theorem sv_set (ss : List ByteArray) (k : Nat) (s : ByteArray) : (sv ss).set k (.string s) = sv (ss.set k s) := by simp [sv, List.map_set]
theorem toStringS_any (a : Option Addr) (c : Nat) (ss : List ByteArray) (w : World) (h : Reads w w.heap.size a (sv ss)) (hl : ss.length ≤ 1048576) :
    Calls Tryz.prog 61 #[.slice a ss.length c] w (CopyPost ss w) := by
  have hmk := run_make1 (P := Tryz.prog) Tryz.underlying30 info_str rfl ss.length ss.length (Nat.le_refl _) (by omega) (by omega)
  have HR := Lib.hid h
  clear h
  go_enter Tryz.func61, Tryz.ntmps61
  go_wp2
  go_loopw [4] (fun i wr => ∃ k : Nat, k ≤ ss.length ∧ i = .int .i64 k ∧ Below w.heap.size w wr ∧ Own wr w.heap.size (sv (ss.take k ++ (List.replicate ss.length (⟨#[]⟩ : ByteArray)).drop k))) (fun i _ => ss.length - (intOf i).toNat)
  case atStart =>
    refine ⟨0, Nat.zero_le _, rfl, (Below.refl _ _).alloc (Nat.le_refl _) _, ?_⟩
    have := Own.new w (sv (List.replicate ss.length (⟨#[]⟩ : ByteArray))) 9
    simpa [sv] using this
  case round =>
    obtain ⟨k, hk, rfl, hbel, hown⟩ := hrel
    have hlen : Hid ((sv (ss.take k ++ (List.replicate ss.length (⟨#[]⟩ : ByteArray)).drop k)).length = ss.length) := by
      show _ = _
      rw [length_sv, fill_len (by simp) hk]
    by_cases hlt : k < ss.length
    · obtain ⟨b, off, rfl, hb, hc⟩ := HR.out.open_ (by rw [length_sv]; omega)
      have d1 : wr.cell? ⟨b, off + k, none⟩ = some (.string ss[k]) := by
        have := hc k (by rw [length_sv]; exact hlt)
        rw [sv_at hlt] at this
        rw [← this]; exact hbel.cell hb
      clear hc
      obtain ⟨x, hx⟩ := hown.some_ (i := k) (by rw [hlen.out]; omega)
      have hf := hown.free k (by rw [hlen.out]; omega)
      have hbn : ¬ w.heap.size = b := by omega
      go_wp2
      go_roundw
      case rel =>
        refine ⟨k + 1, by omega, by go_num, hbel.setCell (Nat.le_refl _) _, ?_⟩
        have h0 := hown.set_ (i := k) (by rw [hlen.out]; omega) (.string ss[k])
        rw [sv_set, fill_set hlt (by simp)] at h0
        exact h0
      case measure => simp [intOf]; omega
    · have hk' : k = ss.length := by omega
      subst hk'
      go_wp2
      go_ret
      refine ⟨w.heap.size, Nat.le_refl _, rfl, ?_, hbel⟩
      rw [List.take_length, List.drop_of_length_le (by simp), List.append_nil] at hown
      exact hown

def eqTo (ss tt : List ByteArray) (k : Nat) : Prop := ∀ j (h1 : j < ss.length) (h2 : j < tt.length), j < k → ss[j] = tt[j]
theorem eqStringS_any (a b : Option Addr) (c d : Nat) (ss tt : List ByteArray) (w : World) (h1 : Reads w w.heap.size a (sv ss)) (h2 : Reads w w.heap.size b (sv tt)) (l1 : ss.length ≤ 1048576) :
    Calls Tryz.prog 27 #[.slice a ss.length c, .slice b tt.length d] w fun e w' => e = .returned (.bool (decide (ss = tt))) ∧ ∃ n, w' = w.drewN n := by
  by_cases hl : ss.length = tt.length
  · have t0 : ((ss.length : Int) != (tt.length : Int)) = false := by simp [hl]
    have g1 : ss.length ≤ tt.length := by omega
    have g2 : tt.length ≤ ss.length := by omega
    have HR1 := Lib.hid h1
    have HR2 := Lib.hid h2
    clear hl h1 h2
    go_enter Tryz.func27, Tryz.ntmps27
    go_wp2
    go_loopw [5] (fun i wr => ∃ k n : Nat, k ≤ ss.length ∧ i = .int .i64 k ∧ eqTo ss tt k ∧ wr = w.drewN n) (fun i _ => ss.length - (intOf i).toNat)
    case atStart => exact ⟨0, 0, Nat.zero_le _, rfl, fun _ _ _ h => absurd h (by omega), rfl⟩
    case round =>
      obtain ⟨k, n, hk, rfl, ha, rfl⟩ := hrel
      by_cases hlt : k < ss.length
      · obtain ⟨b1, off1, rfl, hb1, hc1⟩ := HR1.out.open_ (by rw [length_sv]; omega)
        obtain ⟨b2, off2, rfl, hb2, hc2⟩ := HR2.out.open_ (by rw [length_sv]; omega)
        have d1 := hc1 k (by rw [length_sv]; exact hlt)
        have d2 := hc2 k (by rw [length_sv]; omega)
        rw [sv_at hlt] at d1
        rw [sv_at (by omega)] at d2
        clear hc1 hc2
        have q1 : (k : Int) < (ss.length : Int) := by omega
        have q2 : (k : Int) < (tt.length : Int) := by omega
        by_cases he : ss[k] = tt[k]'(by omega)
        · have te : (ss[k].toList == (tt[k]'(by omega)).toList) = true := by rw [he]; simp
          have He := Lib.hid he
          clear he
          go_wp2_with fail
          go_quiet (fail)
          go_wp2
          go_roundw
          case rel =>
            refine ⟨k + 1, _, by omega, by go_num, fun j hj1 hj2 hlt' => ?_, rfl⟩
            by_cases e : j = k
            · subst e; exact He.out
            · exact ha j hj1 hj2 (by omega)
          case measure => simp [intOf]; omega
        · have te : (ss[k].toList == (tt[k]'(by omega)).toList) = false := by
            rw [toList_L, toList_L, beq_eq_false_iff_ne]
            exact fun h => he (L_inj h)
          go_wp2_with fail
          go_quiet (fail)
          go_wp2
          go_ret
          exact ⟨ret_bool (by simp; intro h; exact he (by simp [h])), n + nq, by rw [World.drewN_drewN]⟩
      · go_wp2
        go_ret
        refine ⟨ret_bool ?_, n, rfl⟩
        have : ss = tt := List.ext_getElem (by omega) fun j hj1 hj2 => ha j hj1 hj2 (by omega)
        simp [this]
  · have t0 : ((ss.length : Int) != (tt.length : Int)) = true := by rw [bne_iff_ne]; omega
    have T : Hid (decide (ss = tt) = false) := by show _ = _; simp; intro h; exact hl (by rw [h])
    clear hl
    go_enter Tryz.func27, Tryz.ntmps27
    go_wp2
    go_ret
    exact ⟨ret_bool T.out.symm, 0, rfl⟩
end Go.Proofs.YtdmnkcmkpjmfaaaGreat
