/- Several of my texts in one: CjL, Fac, Fac2, BoI, BoA, FaP, FaI, FaC. -/
import Derived.Test.YtnnblmibonnpcaaGreatM17
import Derived.Test.YtnnblmibonnpcaaGreatM7
import Derived.Test.YtnnblmibonnpcaaGreatM2
import Derived.Test.YtnnblmibonnpcaaGreatM16
import Derived.Test.YtnnblmibonnpcaaGreatM4
/- Plain laws: a permutation and its conjugate have cycles of the same lengths (without the texts of lengths). -/
namespace Go.Proofs.YtnnblmibonnpcaaGreat

theorem conj_at {p q : List Nat} (hq : IsP q) {x : Nat} (hx : x < 10) : pAt (conjP p q) (pAt q x) = pAt q (pAt p x) := by
  unfold conjP
  rw [at_then q (by rw [len_then, len_back]; exact hq.at_lt hx), at_then p (by rw [len_back]; exact hq.at_lt hx), hq.back_at hx]
theorem conj_it {p q : List Nat} (hp : IsP p) (hq : IsP q) {x : Nat} (hx : x < 10) : ∀ n, itP (conjP p q) n (pAt q x) = pAt q (itP p n x)
  | 0 => rfl
  | n + 1 => by
    simp only [itP]
    rw [conj_it hp hq hx n, conj_at hq (itP_lt hp hx n)]
theorem conj_ord {p q : List Nat} (hp : IsP p) (hq : IsP q) {x : Nat} (hx : x < 10) : ordP (conjP p q) (pAt q x) = ordP p x := by
  unfold ordP
  congr 1
  congr 1
  funext k
  rw [conj_it hp hq hx, Bool.eq_iff_iff, beq_iff_eq, beq_iff_eq]
  exact ⟨fun e => hq.inj (itP_lt hp hx _) hx e, fun e => by rw [e]⟩
theorem conj_cyc {p q : List Nat} (hp : IsP p) (hq : IsP q) {x y : Nat} (hx : x < 10) (hm : y ∈ cycL p x) : pAt q y ∈ cycL (conjP p q) (pAt q x) := by
  obtain ⟨k, _, e⟩ := List.mem_map.1 hm
  rw [← show itP p k x = y from e, ← conj_it hp hq hx]
  exact itP_mem (hp.conj hq) (hq.at_lt hx) k
theorem mem_rep {p : List Nat} {r : Nat} : r ∈ repC p 10 ↔ r < 10 ∧ mnC p r = r := by
  unfold repC
  simp only [List.mem_filter, List.mem_range, decide_eq_true_eq]
theorem rep_conj {p q : List Nat} (hp : IsP p) (hq : IsP q) : ((repC p 10).map fun r => mnC (conjP p q) (pAt q r)).Perm (repC (conjP p q) 10) := by
  have hc := hp.conj hq
  refine (List.perm_ext_iff_of_nodup ?_ (nodup_filter _ List.nodup_range)).2 fun i => ?_
  · rw [List.nodup_iff_pairwise_ne, List.pairwise_map]
    refine List.Pairwise.imp_of_mem (fun {x y} hx hy h e => h ?_) (List.nodup_iff_pairwise_ne.1 (nodup_filter _ List.nodup_range))
    obtain ⟨x1, x2⟩ := mem_rep.1 hx
    obtain ⟨y1, y2⟩ := mem_rep.1 hy
    have a1 := mnC_mem (p := conjP p q) (hq.at_lt x1)
    have a2 := mnC_mem (p := conjP p q) (hq.at_lt y1)
    rw [e] at a1
    have a3 := cyc_trans hc (hq.at_lt x1) (cyc_symm hc a1.1 (hq.at_lt x1) a1.2) a2.2
    obtain ⟨k, _, e2⟩ := List.mem_map.1 a3
    rw [conj_it hp hq x1] at e2
    have e3 := hq.inj (itP_lt hp x1 k) y1 e2
    have := mnC_eq hp x1 y1 (e3 ▸ itP_mem hp x1 k)
    rw [← x2, ← y2, this]
  · constructor
    · intro hi
      obtain ⟨r, hr, rfl⟩ := List.mem_map.1 hi
      have r1 := (mem_rep.1 hr).1
      have a1 := mnC_mem (p := conjP p q) (hq.at_lt r1)
      exact mem_rep.2 ⟨a1.1, mnC_mn hc (hq.at_lt r1)⟩
    · intro hi
      obtain ⟨i1, i2⟩ := mem_rep.1 hi
      have hx := hq.back.at_lt i1
      have hqx := hq.at_idx i1
      have a1 := mnC_mem (p := p) hx
      refine List.mem_map.2 ⟨mnC p (pAt (backP q) i), mem_rep.2 ⟨a1.1, mnC_mn hp hx⟩, ?_⟩
      have a2 := conj_cyc hp hq a1.1 a1.2
      rw [hqx] at a2
      rw [mnC_eq hc (hq.at_lt a1.1) i1 a2, i2]
theorem lenD_lensI (p : List Nat) : (lenD p).Perm (lensI p (cycs p).length) := by
  unfold lenD sortI
  exact (List.reverse_perm _).trans (List.mergeSort_perm _ _)
theorem lenD_desc (p : List Nat) : (lenD p).Pairwise fun a b => b ≤ a := by
  unfold lenD sortI
  rw [List.pairwise_reverse]
  have := List.pairwise_mergeSort (le := fun a b : Int => decide (a ≤ b)) (fun a b c h1 h2 => by
    simp only [decide_eq_true_eq] at *
    omega) (fun a b => by
    simp only [Bool.or_eq_true, decide_eq_true_eq]
    omega) (lensI p (cycs p).length)
  exact this.imp fun h => by simpa using h
theorem desc_uniq {l m : List Int} (h : l.Perm m) (h1 : l.Pairwise fun a b => b ≤ a) (h2 : m.Pairwise fun a b => b ≤ a) : l = m :=
  List.Perm.eq_of_pairwise (le := fun a b => b ≤ a) (fun _ _ _ _ h1 h2 => Int.le_antisymm h2 h1) h1 h2 h
/-- A conjugate has cycles of the same lengths. -/
theorem lenD_conj {p q : List Nat} (hp : IsP p) (hq : IsP q) : lenD (conjP p q) = lenD p := by
  have hc := hp.conj hq
  have h1 : (lensI (conjP p q) (cycs (conjP p q)).length).Perm (lensI p (cycs p).length) := by
    rw [lens_rep hc, lens_rep hp]
    refine ((rep_conj hp hq).map _).symm.trans ?_
    rw [List.map_map]
    refine List.Perm.of_eq (List.map_congr_left fun r hr => ?_)
    have r1 := (mem_rep.1 hr).1
    have a1 := mnC_mem (p := conjP p q) (hq.at_lt r1)
    show ((ordP (conjP p q) (mnC (conjP p q) (pAt q r)) : Nat) : Int) = _
    rw [← ord_cyc hc a1.1 a1.2, conj_ord hp hq r1]
  have h2 := ((lenD_lensI (conjP p q)).trans h1).trans (lenD_lensI p).symm
  exact desc_uniq h2 (lenD_desc _) (lenD_desc _)
end Go.Proofs.YtnnblmibonnpcaaGreat

/- Plain laws: the reflectors that begin a product of two reflectors. -/
namespace Go.Proofs.YtnnblmibonnpcaaGreat

/-- Two letters are exchanged. -/
def put2 (p : List Nat) (x y : Nat) : List Nat := (p.set x y).set y x
/-- All reflectors that extend p on free letters. -/
def genR : Nat → List Nat → List Nat → List (List Nat)
  | 0, _, p => [p]
  | _ + 1, [], _ => []
  | n + 1, x :: fr, p => fr.flatMap fun y => genR n (fr.erase y) (put2 p x y)
/-- All reflectors. -/
def allR : List (List Nat) := genR 5 (List.range 10) idP
def reflQ (q : List Nat) : Bool := decide (thenP q q = idP) && decide (movedN q / 2 = 5)
theorem reflB_wd {q : List Nat} (h : IsP q) : reflB (wd q) = reflQ q := by
  unfold reflB plugB reflQ
  rw [permB_wd h, dg_wd h.lt, Bool.true_and]
theorem reflQ_iff {q : List Nat} (h : IsP q) : reflQ q = true ↔ Inv q ∧ Free q := by
  constructor
  · intro e
    rw [← reflB_wd h] at e
    have h1 := plugB_inv (reflB_plug e)
    have h2 := reflB_free e
    rw [dg_wd h.lt] at h1 h2
    exact ⟨h1, h2⟩
  · rintro ⟨h1, h2⟩
    simp only [reflQ, Bool.and_eq_true, decide_eq_true_eq]
    refine ⟨h1, ?_⟩
    have : movedN q = 10 := by
      unfold movedN
      have : (List.range 10).countP (fun i => pAt q i != i) = (List.range 10).length := List.countP_eq_length.2 fun i hi => by simpa using h2 i (by simpa using hi)
      simpa using this
    rw [this]
theorem at_set {p : List Nat} {i j y : Nat} (h : i < p.length) : pAt (p.set i y) j = if j = i then y else pAt p j := by
  unfold pAt
  simp only [List.getD_eq_getElem?_getD, List.getElem?_set]
  by_cases e : i = j
  · subst e; simp [h]
  · rw [if_neg e, if_neg (fun h => e h.symm)]
theorem at_put2 {p : List Nat} {x y i : Nat} (hp : p.length = 10) (hx : x < 10) (hy : y < 10) : pAt (put2 p x y) i = if i = y then x else if i = x then y else pAt p i := by
  unfold put2
  rw [at_set (by rw [List.length_set]; omega), at_set (by omega)]
theorem gen_mem {t : List Nat} (ht : IsP t) (hi : Inv t) (hf : Free t) : ∀ (n : Nat) (fr p : List Nat), fr.length = 2 * n → fr.Nodup → (∀ x ∈ fr, x < 10) → (∀ x ∈ fr, pAt t x ∈ fr) → p.length = 10 → (∀ i, i < 10 → i ∉ fr → pAt p i = pAt t i) → t ∈ genR n fr p
  | 0, fr, p, hl, _, _, _, hp, ha => by
    have : fr = [] := List.length_eq_zero_iff.1 (by omega)
    subst this
    simp only [genR, List.mem_singleton]
    exact ext10 ht.len hp fun i hi => (ha i hi (by simp)).symm
  | n + 1, [], p, hl, _, _, _, _, _ => by simp at hl
  | n + 1, x :: fr, p, hl, hd, hlt, hc, hp, ha => by
    have hd2 := List.nodup_cons.1 hd
    have hx := hlt x (by simp)
    have hy := hc x (by simp)
    have hne := hf x hx
    have hym : pAt t x ∈ fr := by
      rcases List.mem_cons.1 hy with h | h
      · exact absurd h hne
      · exact h
    have hyl := ht.at_lt hx
    have hmem : ∀ z, z ∈ fr.erase (pAt t x) ↔ z ≠ pAt t x ∧ z ∈ fr := fun z => List.Nodup.mem_erase_iff hd2.2
    simp only [genR, List.mem_flatMap]
    refine ⟨pAt t x, hym, gen_mem ht hi hf n _ _ ?_ (hd2.2.erase _) ?_ ?_ (by simp [put2, hp]) ?_⟩
    · rw [List.length_erase_of_mem hym]; simp only [List.length_cons] at hl; omega
    · intro z hz; exact hlt z (by simp [((hmem z).1 hz).2])
    · intro z hz
      obtain ⟨h1, h2⟩ := (hmem z).1 hz
      have hz10 := hlt z (by simp [h2])
      have h3 := hc z (by simp [h2])
      refine (hmem _).2 ⟨fun e => ?_, ?_⟩
      · have := ht.inj hz10 hx e
        exact hd2.1 (this ▸ h2)
      · rcases List.mem_cons.1 h3 with h | h
        · have h4 := congrArg (pAt t) h
          rw [hi.at ht hz10] at h4
          exact absurd h4 h1
        · exact h
    · intro i hi10 hni
      rw [at_put2 hp hx hyl]
      by_cases e1 : i = pAt t x
      · rw [if_pos e1, e1, hi.at ht hx]
      · by_cases e2 : i = x
        · rw [if_neg e1, if_pos e2, e2]
        · rw [if_neg e1, if_neg e2]
          refine ha i hi10 fun hm => ?_
          rcases List.mem_cons.1 hm with h | h
          · exact e2 h
          · exact hni ((hmem i).2 ⟨e1, h⟩)
theorem allR_mem {t : List Nat} (ht : IsP t) (hi : Inv t) (hf : Free t) : t ∈ allR :=
  gen_mem ht hi hf 5 _ _ (by simp) List.nodup_range (fun x hx => by simpa using hx) (fun x hx => by simpa using ht.at_lt (by simpa using hx)) len_id (fun i h1 h2 => absurd (by simpa using h1) h2)

/- Quick forms, for the kernel. -/
def nAt : List Nat → Nat → Nat
  | [], _ => 0
  | a :: _, 0 => a
  | _ :: l, n + 1 => nAt l n
def eqN : List Nat → List Nat → Bool
  | [], [] => true
  | a :: l, b :: m => cond (Nat.beq a b) (eqN l m) false
  | _, _ => false
def mapN (f : Nat → Nat) : List Nat → List Nat
  | [] => []
  | a :: l => f a :: mapN f l
def maskN : List Nat → Nat → Nat
  | [], m => m
  | a :: l, m => maskN l (Nat.lor m (Nat.shiftLeft 1 a))
def nfx (x : List Nat) : List Nat → Bool
  | [] => true
  | i :: l => cond (Nat.beq (nAt x i) i) false (nfx x l)
theorem nAt_at : ∀ (l : List Nat) (i : Nat), nAt l i = pAt l i
  | [], i => by simp [nAt, pAt]
  | a :: l, 0 => by simp [nAt, pAt]
  | a :: l, n + 1 => by rw [nAt, nAt_at l n]; simp [pAt]
theorem nAt_fun (l : List Nat) : nAt l = pAt l := funext (nAt_at l)
theorem mapN_map (f : Nat → Nat) : ∀ l, mapN f l = l.map f
  | [] => rfl
  | a :: l => by rw [mapN, mapN_map f l]; rfl
theorem mapN_then (p q : List Nat) : mapN (nAt q) p = thenP p q := by rw [mapN_map, nAt_fun]; rfl
theorem eqN_eq : ∀ {a b : List Nat}, eqN a b = true → a = b
  | [], [], _ => rfl
  | [], b :: m, h => by simp [eqN] at h
  | a :: l, [], h => by simp [eqN] at h
  | a :: l, b :: m, h => by
    simp only [eqN] at h
    cases e : Nat.beq a b with
    | false => rw [e] at h; cases h
    | true => rw [e] at h; rw [Nat.eq_of_beq_eq_true e, eqN_eq h]
theorem mask_bit : ∀ (l : List Nat) (m i : Nat), (maskN l m).testBit i = true → m.testBit i = true ∨ i ∈ l
  | [], m, i, h => .inl h
  | a :: l, m, i, h => by
    rcases mask_bit l _ i h with h | h
    · have h2 : (m ||| 1 <<< a).testBit i = true := h
      rw [Nat.testBit_or, Nat.one_shiftLeft, Nat.testBit_two_pow, Bool.or_eq_true, decide_eq_true_eq] at h2
      rcases h2 with h2 | h2
      · exact .inl h2
      · exact .inr (by simp [h2])
    · exact .inr (by simp [h])
theorem isP_cover {l : List Nat} (hl : l.length = 10) (h : ∀ i, i < 10 → i ∈ l) : IsP l := by
  have hm : IsP (backP l) := isP_mk (len_back l) (fun i hi => by
    rw [at_back l hi]
    have := List.idxOf_lt_length_of_mem (h i hi)
    omega) (fun i j hi hj e => by
    rw [at_back l hi, at_back l hj] at e
    have h1 := List.getElem_idxOf (List.idxOf_lt_length_of_mem (h i hi))
    have h2 := List.getElem_idxOf (List.idxOf_lt_length_of_mem (h j hj))
    rw [← h1, ← h2]
    simp only [e])
  have hg : ∀ i, i < 10 → pAt l (pAt (backP l) i) = i := fun i hi => by
    rw [at_back l hi, pAt_get (List.idxOf_lt_length_of_mem (h i hi))]
    exact List.getElem_idxOf _
  have hs : ∀ j, j < 10 → ∃ i, i < 10 ∧ pAt (backP l) i = j := fun j hj => ⟨_, hm.back.at_lt hj, hm.at_idx hj⟩
  refine isP_mk hl (fun j hj => ?_) (fun j k hj hk e => ?_)
  · obtain ⟨i, hi, rfl⟩ := hs j hj
    rw [hg i hi]; exact hi
  · obtain ⟨i, hi, rfl⟩ := hs j hj
    obtain ⟨i', hi', rfl⟩ := hs k hk
    rw [hg i hi, hg i' hi'] at e
    rw [e]
def isN (l : List Nat) : Bool := cond (Nat.beq l.length 10) (Nat.beq (maskN l 0) 1023) false
theorem isN_isP {l : List Nat} (h : isN l = true) : IsP l := by
  unfold isN at h
  cases e : Nat.beq l.length 10 with
  | false => rw [e] at h; cases h
  | true =>
    rw [e] at h
    have hm : maskN l 0 = 1023 := Nat.eq_of_beq_eq_true h
    refine isP_cover (Nat.eq_of_beq_eq_true e) fun i hi => ?_
    have hb : (1023 : Nat).testBit i = true := by
      have : ∀ i, i < 10 → (1023 : Nat).testBit i = true := by decide
      exact this i hi
    rcases mask_bit l 0 i (by rw [hm]; exact hb) with h | h
    · simp at h
    · exact h
def n10 : List Nat := [0, 1, 2, 3, 4, 5, 6, 7, 8, 9]
theorem nfx_free {x : List Nat} : ∀ {l : List Nat}, nfx x l = true → ∀ i ∈ l, pAt x i ≠ i
  | [], _, i, hi => by simp at hi
  | a :: l, h, i, hi => by
    simp only [nfx] at h
    cases e : Nat.beq (nAt x a) a with
    | true => rw [e] at h; cases h
    | false =>
      rw [e] at h
      rcases List.mem_cons.1 hi with rfl | hi
      · intro e2
        rw [nAt_at, e2] at e
        simp at e
      · exact nfx_free h i hi
def chkR (x : List Nat) : Bool := cond (isN x) (cond (eqN (mapN (nAt x) x) n10) (nfx x n10) false) false
theorem chkR_refl {x : List Nat} (h : chkR x = true) : IsP x ∧ Inv x ∧ Free x := by
  unfold chkR at h
  cases e1 : isN x with
  | false => rw [e1] at h; cases h
  | true =>
    rw [e1] at h
    cases e2 : eqN (mapN (nAt x) x) n10 with
    | false => rw [e2] at h; cases h
    | true =>
      rw [e2] at h
      refine ⟨isN_isP e1, ?_, fun i hi => nfx_free h i (by
        have : ∀ i, i < 10 → i ∈ n10 := by decide
        exact this i hi)⟩
      have := eqN_eq e2
      rw [mapN_then] at this
      exact this
theorem allR_all : (allR.all chkR) = true := by decide +kernel
theorem allR_iff {t : List Nat} : t ∈ allR ↔ IsP t ∧ Inv t ∧ Free t :=
  ⟨fun h => chkR_refl (List.all_eq_true.1 allR_all t h), fun h => allR_mem h.1 h.2.1 h.2.2⟩
def codeN (p : List Nat) : Nat := p.foldl (fun n x => n * 10 + x) 0
def ascN : List Nat → Bool
  | a :: b :: l => cond (Nat.blt a b) (ascN (b :: l)) false
  | _ => true
theorem asc_pair : ∀ {l : List Nat}, ascN l = true → l.Pairwise (· < ·)
  | [], _ => .nil
  | [a], _ => by simp
  | a :: b :: l, h => by
    simp only [ascN] at h
    cases e : Nat.blt a b with
    | false => rw [e] at h; cases h
    | true =>
      rw [e] at h
      have h1 : a < b := by simpa using e
      have h2 := asc_pair h
      refine List.pairwise_cons.2 ⟨fun x hx => ?_, h2⟩
      rcases List.mem_cons.1 hx with rfl | hx
      · exact h1
      · exact Nat.lt_trans h1 ((List.pairwise_cons.1 h2).1 x hx)
theorem allR_asc : ascN (allR.map codeN) = true := by decide +kernel
theorem allR_nodup : allR.Nodup := by
  have h := asc_pair allR_asc
  rw [List.pairwise_map] at h
  rw [List.nodup_iff_pairwise_ne]
  exact h.imp fun {a b} h e => by rw [e] at h; exact absurd h (Nat.lt_irrefl _)

/- Each reflector is that of neighbours, renamed. -/
def r0 : List Nat := [1, 0, 3, 2, 5, 4, 7, 6, 9, 8]
def ordG (x : List Nat) : List Nat → List Nat
  | [] => []
  | i :: l => cond (Nat.ble (nAt x i) i) (ordG x l) (i :: nAt x i :: ordG x l)
def ordL (x : List Nat) : List Nat := ordG x n10
def chk4 (x l r : List Nat) : Bool := cond (isN l) (eqN (mapN (nAt x) l) (mapN (nAt l) r)) false
theorem conj_of {l a r : List Nat} (hl : IsP l) (hr : IsP r) (e : thenP l a = thenP r l) : conjP a (backP l) = r := by
  unfold conjP
  rw [back_back hl, e, then_assoc hr hl, then_back hl, then_id hr]
theorem chk4_conj {x l r : List Nat} (hr : IsP r) (h : chk4 x l r = true) : IsP l ∧ conjP x (backP l) = r := by
  unfold chk4 at h
  cases e1 : isN l with
  | false => rw [e1] at h; cases h
  | true =>
    rw [e1] at h
    have hl := isN_isP e1
    have := eqN_eq h
    rw [mapN_then, mapN_then] at this
    exact ⟨hl, conj_of hl hr this⟩
theorem r0_isP : IsP r0 := isN_isP (by decide +kernel)
theorem allR_r0 : (allR.all fun x => chk4 x (ordL x) r0) = true := by decide +kernel

/- The product of it and any reflector is one of seven, renamed. -/
def cycF (a : List Nat) (s : Nat) : Nat → Nat → List Nat
  | 0, _ => []
  | f + 1, x => x :: cond (Nat.beq (nAt a x) s) [] (cycF a s f (nAt a x))
def geN (s : Nat) : List Nat → Bool
  | [] => true
  | x :: l => cond (Nat.ble s x) (geN s l) false
def cycA (a : List Nat) : List Nat → List (List Nat)
  | [] => []
  | s :: l => cond (geN s (cycF a s 10 s)) (cycF a s 10 s :: cycA a l) (cycA a l)
def pickN (n : Nat) : List (List Nat) → List Nat
  | [] => []
  | c :: l => cond (Nat.beq c.length n) (c ++ pickN n l) (pickN n l)
def ordD (cs : List (List Nat)) : List Nat := pickN 5 cs ++ pickN 4 cs ++ pickN 3 cs ++ pickN 2 cs ++ pickN 1 cs
def ordC (a : List Nat) : List Nat := ordD (cycA a n10)
def reps : List (List Nat) := [[1, 2, 3, 4, 0, 6, 7, 8, 9, 5], [1, 2, 3, 0, 5, 6, 7, 4, 8, 9], [1, 2, 0, 4, 5, 3, 7, 6, 9, 8], [1, 2, 0, 4, 5, 3, 6, 7, 8, 9], [1, 0, 3, 2, 5, 4, 7, 6, 8, 9], [1, 0, 3, 2, 4, 5, 6, 7, 8, 9], [0, 1, 2, 3, 4, 5, 6, 7, 8, 9]]
def anyN (f : List Nat → Bool) : List (List Nat) → Bool
  | [] => false
  | r :: l => cond (f r) true (anyN f l)
theorem anyN_ex {f : List Nat → Bool} : ∀ {l : List (List Nat)}, anyN f l = true → ∃ r ∈ l, f r = true
  | [], h => by simp [anyN] at h
  | r :: l, h => by
    simp only [anyN] at h
    cases e : f r with
    | true => exact ⟨r, by simp, e⟩
    | false =>
      rw [e] at h
      obtain ⟨s, hs, h2⟩ := anyN_ex h
      exact ⟨s, by simp [hs], h2⟩
def chk5 (a l : List Nat) : Bool := anyN (chk4 a l) reps
theorem reps_all : (reps.all isN) = true := by decide +kernel
theorem allR_reps : (allR.all fun y => chk5 (mapN (nAt y) r0) (ordC (mapN (nAt y) r0))) = true := by decide +kernel
theorem reps_isP {r : List Nat} (h : r ∈ reps) : IsP r := isN_isP (List.all_eq_true.1 reps_all r h)
end Go.Proofs.YtnnblmibonnpcaaGreat

/- Plain laws: how many reflectors begin a product of two reflectors; the reflectors in their order. -/
namespace Go.Proofs.YtnnblmibonnpcaaGreat

/-- How many reflectors begin a permutation. -/
def facN (a : List Nat) : Nat := (allR.filter fun x => reflQ (thenP x a)).length
theorem conj_un {p q : List Nat} (hp : IsP p) (hq : IsP q) : conjP (conjP p q) (backP q) = p :=
  ext10 ((hp.conj hq).conj hq.back).len hp.len fun i hi => by
    rw [at_conj (hp.conj hq) hq.back hi, back_back hq, at_conj hp hq (hq.at_lt hi), hq.back_at hi, hq.back_at (hp.at_lt hi)]
theorem reflQ_conj {p q : List Nat} (hp : IsP p) (hq : IsP q) : reflQ (conjP p q) = reflQ p := by
  rw [Bool.eq_iff_iff, reflQ_iff (hp.conj hq), reflQ_iff hp]
  constructor
  · rintro ⟨h1, h2⟩
    have e1 := h1.conj (hp.conj hq) hq.back
    have e2 := h2.conj (hp.conj hq) hq.back
    rw [conj_un hp hq] at e1 e2
    exact ⟨e1, e2⟩
  · rintro ⟨h1, h2⟩
    exact ⟨h1.conj hp hq, h2.conj hp hq⟩
theorem conj_inj {x y q : List Nat} (hx : IsP x) (hy : IsP y) (hq : IsP q) (e : conjP x q = conjP y q) : x = y := by
  rw [← conj_un hx hq, e, conj_un hy hq]
theorem allR_conj {q : List Nat} (hq : IsP q) : (allR.map fun x => conjP x q).Perm allR := by
  refine (List.perm_ext_iff_of_nodup ?_ allR_nodup).2 fun t => ?_
  · rw [List.nodup_iff_pairwise_ne, List.pairwise_map]
    refine List.Pairwise.imp_of_mem (fun {x y} hx hy h e => h ?_) (List.nodup_iff_pairwise_ne.1 allR_nodup)
    exact conj_inj (allR_iff.1 hx).1 (allR_iff.1 hy).1 hq e
  · constructor
    · intro ht
      obtain ⟨x, hx, rfl⟩ := List.mem_map.1 ht
      obtain ⟨h1, h2, h3⟩ := allR_iff.1 hx
      exact allR_iff.2 ⟨h1.conj hq, h2.conj h1 hq, h3.conj h1 hq⟩
    · intro ht
      obtain ⟨h1, h2, h3⟩ := allR_iff.1 ht
      refine List.mem_map.2 ⟨conjP t (backP q), allR_iff.2 ⟨h1.conj hq.back, h2.conj h1 hq.back, h3.conj h1 hq.back⟩, ?_⟩
      have := conj_un h1 hq.back
      rwa [back_back hq] at this
theorem facN_conj {a q : List Nat} (ha : IsP a) (hq : IsP q) : facN (conjP a q) = facN a := by
  unfold facN
  rw [← ((allR_conj hq).filter _).length_eq, List.filter_map, List.length_map]
  congr 1
  apply List.filter_congr
  intro x hx
  have h1 := (allR_iff.1 hx).1
  simp only [Function.comp]
  rw [conj_then h1 ha hq, reflQ_conj (h1.then ha) hq]
/-- The lengths of the cycles of such products, and how many reflectors begin them. -/
def typ7 : List (List Int × Nat) := [([5, 5], 5), ([4, 4, 1, 1], 4), ([3, 3, 2, 2], 6), ([3, 3, 1, 1, 1, 1], 9), ([2, 2, 2, 2, 1, 1], 12), ([2, 2, 1, 1, 1, 1, 1, 1], 30), ([1, 1, 1, 1, 1, 1, 1, 1, 1, 1], 945)]
theorem lens7 : reps.map (fun r => (repC r 10).map fun x => (ordP r x : Int)) = typ7.map Prod.fst := by decide +kernel
theorem desc7 : (typ7.all fun t => (t.1.zip (t.1.drop 1)).all fun q => decide (q.2 ≤ q.1)) = true := by decide +kernel
theorem pair_desc : ∀ {l : List Int}, ((l.zip (l.drop 1)).all fun q => decide (q.2 ≤ q.1)) = true → l.Pairwise fun a b => b ≤ a
  | [], _ => .nil
  | [a], _ => by simp
  | a :: b :: l, h => by
    simp only [List.drop_succ_cons, List.drop_zero, List.zip_cons_cons, List.all_cons, Bool.and_eq_true, decide_eq_true_eq] at h
    have ih := pair_desc (l := b :: l) (by simpa using h.2)
    refine List.pairwise_cons.2 ⟨fun x hx => ?_, ih⟩
    rcases List.mem_cons.1 hx with rfl | hx
    · exact h.1
    · exact Int.le_trans ((List.pairwise_cons.1 ih).1 x hx) h.1
theorem facs7 : reps.map facN = typ7.map Prod.snd := by decide +kernel
theorem rep7 {r : List Nat} (h : r ∈ reps) : (lenD r, facN r) ∈ typ7 := by
  obtain ⟨i, hi, hr⟩ := List.getElem_of_mem h
  have h1 : (reps.map (fun r => (repC r 10).map fun x => (ordP r x : Int)))[i]? = (typ7.map Prod.fst)[i]? := by rw [lens7]
  have h2 : (reps.map facN)[i]? = (typ7.map Prod.snd)[i]? := by rw [facs7]
  have hi7 : i < typ7.length := hi
  rw [List.getElem?_map, List.getElem?_map, List.getElem?_eq_getElem hi, List.getElem?_eq_getElem hi7] at h1 h2
  simp only [Option.map_some, Option.some.injEq] at h1 h2
  rw [hr] at h1 h2
  have hd := List.all_eq_true.1 desc7 _ (List.getElem_mem hi7)
  have hl : lenD r = typ7[i].1 := by
    refine desc_uniq ?_ (lenD_desc _) (pair_desc hd)
    have := lenD_lensI r
    rw [lens_rep (reps_isP h), h1] at this
    exact this
  rw [hl, h2]
  exact List.getElem_mem _
/-- A product of two reflectors. -/
theorem fac_law {x y : List Nat} (hx : IsP x) (ix : Inv x) (fx : Free x) (hy : IsP y) (iy : Inv y) (fy : Free y) : (lenD (thenP x y), facN (thenP x y)) ∈ typ7 := by
  have h1 := chk4_conj r0_isP (List.all_eq_true.1 allR_r0 x (allR_mem hx ix fx))
  obtain ⟨hl, e⟩ := h1
  have hq := hl.back
  have hc := conj_then hx hy hq
  rw [e] at hc
  have hy1 := allR_mem (hy.conj hq) (iy.conj hy hq) (fy.conj hy hq)
  have h5 := List.all_eq_true.1 allR_reps _ hy1
  rw [mapN_then] at h5
  obtain ⟨r, hr, h6⟩ := anyN_ex h5
  obtain ⟨hl2, e2⟩ := chk4_conj (reps_isP hr) h6
  have hxy := hx.then hy
  have hp1 := hxy.conj hq
  rw [hc] at e2
  have f1 := facN_conj hp1 hl2.back
  have f2 := facN_conj hxy hq
  have f3 := lenD_conj hp1 hl2.back
  have f4 := lenD_conj hxy hq
  rw [hc] at f1 f3
  rw [e2] at f1 f3
  rw [← f4, ← f2, ← f3, ← f1]
  exact rep7 hr
theorem fac_self {x y : List Nat} (hx : IsP x) (ix : Inv x) (fx : Free x) (hy : IsP y) (iy : Inv y) (fy : Free y) : x ∈ allR.filter fun z => reflQ (thenP z (thenP x y)) := by
  refine List.mem_filter.2 ⟨allR_mem hx ix fx, ?_⟩
  rw [← then_assoc hx hx, show thenP x x = idP from ix, id_then hy]
  exact (reflQ_iff hy).2 ⟨iy, fy⟩

/- The boards with five pairs in their order. -/
/-- The partner of a letter: the first free one whose boards are not passed. -/
def skB (d : List Nat) (each : Nat) : Nat → Nat → Nat → Option (Nat × Nat)
  | 0, _, _ => none
  | f + 1, y, n => if 10 ≤ y then none else if y ∈ d then skB d each f (y + 1) n else if each ≤ n then skB d each f (y + 1) (n - each) else some (y, n)
def eachB : Nat → Nat
  | 4 => 105
  | 3 => 15
  | 2 => 3
  | _ => 1
def simB : Nat → List Nat → List Nat → Nat → Nat → Option (List Nat)
  | 0, _, p, _, _ => some p
  | k + 1, d, p, pr, n => if (9 - k) ∈ d then simB k d p pr n else
    match pr with
    | 0 => none
    | pr + 1 => match skB d (eachB pr) 10 (10 - k) n with
      | none => none
      | some (y, n') => simB k (d ++ [y]) (put2 p (9 - k) y) pr n'
theorem sim_all : (List.range 945).map (simB 10 [] idP 5) = allR.map some := by decide +kernel
theorem allR_len : allR.length = 945 := by
  have := congrArg List.length sim_all
  simpa using this.symm
theorem sim_at {n : Nat} (h : n < allR.length) : simB 10 [] idP 5 n = some allR[n] := by
  have h1 : ((List.range 945).map (simB 10 [] idP 5))[n]? = (allR.map some)[n]? := by rw [sim_all]
  have hn : n < 945 := by rw [allR_len] at h; exact h
  rw [List.getElem?_map, List.getElem?_map, List.getElem?_eq_getElem h, List.getElem?_range hn] at h1
  simpa using h1
end Go.Proofs.YtnnblmibonnpcaaGreat

/- Contracts of boardsOf, BoardCount, withPair and BoardAt. -/
namespace Go.Proofs.YtnnblmibonnpcaaGreat
open Go.RowKit

theorem boardsOf_0 (w : World) : Calls Tryz.prog 48 #[.int .i64 0, .int .i64 0] w fun e w' => e = .returned (.int .i64 1) ∧ w' = w := by
  go_enter Tryz.func48, Tryz.ntmps48
  go_wp2_with fail
  go_loop [5, 6, 7, 17] (fun u _ _ i => (i = .int .i64 0 ∧ u = .int .i64 1)) (fun _ _ _ i => 0 - (intOf i).toNat)
  case atStart => exact ⟨rfl, rfl⟩
  case round =>
    obtain ⟨rfl, rfl⟩ := hrel
    go_wp2
    go_ret
    exact ⟨rfl, rfl⟩
theorem boardsOf_1 (w : World) : Calls Tryz.prog 48 #[.int .i64 2, .int .i64 1] w fun e w' => e = .returned (.int .i64 1) ∧ w' = w := by
  go_enter Tryz.func48, Tryz.ntmps48
  go_wp2_with fail
  go_loop [5, 6, 7, 17] (fun u _ _ i => (i = .int .i64 0 ∧ u = .int .i64 1) ∨ (i = .int .i64 1 ∧ u = .int .i64 1)) (fun _ _ _ i => 1 - (intOf i).toNat)
  case atStart => exact .inl ⟨rfl, rfl⟩
  case round =>
    rcases hrel with ⟨rfl, rfl⟩ | ⟨rfl, rfl⟩
    · go_wp2_with fail
      go_round
      case rel => exact .inr (⟨rfl, rfl⟩)
      case measure => simp [intOf]
    · go_wp2
      go_ret
      exact ⟨rfl, rfl⟩
theorem boardsOf_2 (w : World) : Calls Tryz.prog 48 #[.int .i64 4, .int .i64 2] w fun e w' => e = .returned (.int .i64 3) ∧ w' = w := by
  go_enter Tryz.func48, Tryz.ntmps48
  go_wp2_with fail
  go_loop [5, 6, 7, 17] (fun u _ _ i => (i = .int .i64 0 ∧ u = .int .i64 1) ∨ (i = .int .i64 1 ∧ u = .int .i64 6) ∨ (i = .int .i64 2 ∧ u = .int .i64 3)) (fun _ _ _ i => 2 - (intOf i).toNat)
  case atStart => exact .inl ⟨rfl, rfl⟩
  case round =>
    rcases hrel with ⟨rfl, rfl⟩ | ⟨rfl, rfl⟩ | ⟨rfl, rfl⟩
    · go_wp2_with fail
      go_round
      case rel => exact .inr (.inl ⟨rfl, rfl⟩)
      case measure => simp [intOf]
    · go_wp2_with fail
      go_round
      case rel => exact .inr (.inr (⟨rfl, rfl⟩))
      case measure => simp [intOf]
    · go_wp2
      go_ret
      exact ⟨rfl, rfl⟩
theorem boardsOf_3 (w : World) : Calls Tryz.prog 48 #[.int .i64 6, .int .i64 3] w fun e w' => e = .returned (.int .i64 15) ∧ w' = w := by
  go_enter Tryz.func48, Tryz.ntmps48
  go_wp2_with fail
  go_loop [5, 6, 7, 17] (fun u _ _ i => (i = .int .i64 0 ∧ u = .int .i64 1) ∨ (i = .int .i64 1 ∧ u = .int .i64 15) ∨ (i = .int .i64 2 ∧ u = .int .i64 45) ∨ (i = .int .i64 3 ∧ u = .int .i64 15)) (fun _ _ _ i => 3 - (intOf i).toNat)
  case atStart => exact .inl ⟨rfl, rfl⟩
  case round =>
    rcases hrel with ⟨rfl, rfl⟩ | ⟨rfl, rfl⟩ | ⟨rfl, rfl⟩ | ⟨rfl, rfl⟩
    · go_wp2_with fail
      go_round
      case rel => exact .inr (.inl ⟨rfl, rfl⟩)
      case measure => simp [intOf]
    · go_wp2_with fail
      go_round
      case rel => exact .inr (.inr (.inl ⟨rfl, rfl⟩))
      case measure => simp [intOf]
    · go_wp2_with fail
      go_round
      case rel => exact .inr (.inr (.inr (⟨rfl, rfl⟩)))
      case measure => simp [intOf]
    · go_wp2
      go_ret
      exact ⟨rfl, rfl⟩
theorem boardsOf_4 (w : World) : Calls Tryz.prog 48 #[.int .i64 8, .int .i64 4] w fun e w' => e = .returned (.int .i64 105) ∧ w' = w := by
  go_enter Tryz.func48, Tryz.ntmps48
  go_wp2_with fail
  go_loop [5, 6, 7, 17] (fun u _ _ i => (i = .int .i64 0 ∧ u = .int .i64 1) ∨ (i = .int .i64 1 ∧ u = .int .i64 28) ∨ (i = .int .i64 2 ∧ u = .int .i64 210) ∨ (i = .int .i64 3 ∧ u = .int .i64 420) ∨ (i = .int .i64 4 ∧ u = .int .i64 105)) (fun _ _ _ i => 4 - (intOf i).toNat)
  case atStart => exact .inl ⟨rfl, rfl⟩
  case round =>
    rcases hrel with ⟨rfl, rfl⟩ | ⟨rfl, rfl⟩ | ⟨rfl, rfl⟩ | ⟨rfl, rfl⟩ | ⟨rfl, rfl⟩
    · go_wp2_with fail
      go_round
      case rel => exact .inr (.inl ⟨rfl, rfl⟩)
      case measure => simp [intOf]
    · go_wp2_with fail
      go_round
      case rel => exact .inr (.inr (.inl ⟨rfl, rfl⟩))
      case measure => simp [intOf]
    · go_wp2_with fail
      go_round
      case rel => exact .inr (.inr (.inr (.inl ⟨rfl, rfl⟩)))
      case measure => simp [intOf]
    · go_wp2_with fail
      go_round
      case rel => exact .inr (.inr (.inr (.inr (⟨rfl, rfl⟩))))
      case measure => simp [intOf]
    · go_wp2
      go_ret
      exact ⟨rfl, rfl⟩
theorem boardsOf_5 (w : World) : Calls Tryz.prog 48 #[.int .i64 10, .int .i64 5] w fun e w' => e = .returned (.int .i64 945) ∧ w' = w := by
  go_enter Tryz.func48, Tryz.ntmps48
  go_wp2_with fail
  go_loop [5, 6, 7, 17] (fun u _ _ i => (i = .int .i64 0 ∧ u = .int .i64 1) ∨ (i = .int .i64 1 ∧ u = .int .i64 45) ∨ (i = .int .i64 2 ∧ u = .int .i64 630) ∨ (i = .int .i64 3 ∧ u = .int .i64 3150) ∨ (i = .int .i64 4 ∧ u = .int .i64 4725) ∨ (i = .int .i64 5 ∧ u = .int .i64 945)) (fun _ _ _ i => 5 - (intOf i).toNat)
  case atStart => exact .inl ⟨rfl, rfl⟩
  case round =>
    rcases hrel with ⟨rfl, rfl⟩ | ⟨rfl, rfl⟩ | ⟨rfl, rfl⟩ | ⟨rfl, rfl⟩ | ⟨rfl, rfl⟩ | ⟨rfl, rfl⟩
    · go_wp2_with fail
      go_round
      case rel => exact .inr (.inl ⟨rfl, rfl⟩)
      case measure => simp [intOf]
    · go_wp2_with fail
      go_round
      case rel => exact .inr (.inr (.inl ⟨rfl, rfl⟩))
      case measure => simp [intOf]
    · go_wp2_with fail
      go_round
      case rel => exact .inr (.inr (.inr (.inl ⟨rfl, rfl⟩)))
      case measure => simp [intOf]
    · go_wp2_with fail
      go_round
      case rel => exact .inr (.inr (.inr (.inr (.inl ⟨rfl, rfl⟩))))
      case measure => simp [intOf]
    · go_wp2_with fail
      go_round
      case rel => exact .inr (.inr (.inr (.inr (.inr (⟨rfl, rfl⟩)))))
      case measure => simp [intOf]
    · go_wp2
      go_ret
      exact ⟨rfl, rfl⟩
/-- As many letters as pairs fill. -/
theorem boardsOf_even (q : Nat) (hq : q ≤ 4) (a b : Int) (ha : a = 2 * (q : Int)) (hb : b = q) (w : World) : Calls Tryz.prog 48 #[.int .i64 a, .int .i64 b] w fun e w' => e = .returned (.int .i64 (eachB q : Nat)) ∧ w' = w := by
  subst ha; subst hb
  have h : q = 0 ∨ q = 1 ∨ q = 2 ∨ q = 3 ∨ q = 4 := by omega
  rcases h with rfl | rfl | rfl | rfl | rfl
  · exact boardsOf_0 w
  · exact boardsOf_1 w
  · exact boardsOf_2 w
  · exact boardsOf_3 w
  · exact boardsOf_4 w
/-- Too few letters. -/
theorem boardsOf_no (a b : Int) (hb0 : 0 ≤ b) (hb : b ≤ 100) (hab : a < 2 * b) (w : World) : Calls Tryz.prog 48 #[.int .i64 a, .int .i64 b] w fun e w' => e = .returned (.int .i64 0) ∧ w' = w := by
  go_enter Tryz.func48, Tryz.ntmps48
  go_wp2
  go_ret
  exact ⟨rfl, rfl⟩
theorem boardCount_5 (w : World) : Calls Tryz.prog 24 #[.int .i64 5] w fun e w' => e = .returned (.int .i64 945) ∧ w' = w := by
  go_enter Tryz.func24, Tryz.ntmps24
  go_wp2_with fail
  refine (boardsOf_5 _).mono ?_
  rintro e w' ⟨rfl, rfl⟩
  go_wp2
  go_ret
  exact ⟨rfl, rfl⟩
theorem pv_set (p : List Nat) (i n : Nat) : (pv p).set i (.int .u8 (n : Int)) = pv (p.set i n) := by
  unfold pv
  rw [List.map_set]
theorem pv_put2 (p : List Nat) (x y : Nat) : ((pv p).set x (.int .u8 (y : Int))).set y (.int .u8 (x : Int)) = pv (put2 p x y) := by
  rw [pv_set, pv_set]; rfl
set_option maxRecDepth 100000 in
theorem withPair_any (p : List Nat) (x y : Nat) (w : World) (hp : p.length = 10) (hx : x < 10) (hy : y < 10) (hne : x < y) :
    Calls Tryz.prog 50 #[.agg (pv p).toArray, .int .i64 (x : Int), .int .i64 (y : Int)] w fun e w' => e = .returned (.agg (pv (put2 p x y)).toArray) ∧ Below w.heap.size w w' := by
  have hl := length_pv p
  have e1 := pv_at (p := p) (i := x) (by omega)
  have e2 := pv_at (p := p) (i := y) (by omega)
  have s0 := fun A => (Own.new w (((pv p).set x (.int .u8 (y : Int))).set y (.int .u8 (x : Int))) 42).alloc A
  have s1 : Own ((w.alloc (.cells (((pv p).set x (.int .u8 (y : Int))).set y (.int .u8 (x : Int))).toArray 42)).alloc (.cells #[.int .u8 0, .int .u8 0, .int .u8 0, .int .u8 0, .int .u8 0, .int .u8 0, .int .u8 0, .int .u8 0, .int .u8 0, .int .u8 0] 42)) (w.alloc (.cells (((pv p).set x (.int .u8 (y : Int))).set y (.int .u8 (x : Int))).toArray 42)).heap.size z10 := Own.new _ z10 42
  have hbs := ((Below.refl w.heap.size w).alloc (Nat.le_refl _) (.cells (((pv p).set x (.int .u8 (y : Int))).set y (.int .u8 (x : Int))).toArray 42)).alloc (by simp) (.cells z10.toArray 42)
  simp only [World.size_alloc] at s1
  have hlq : (((pv p).set x (.int .u8 (y : Int))).set y (.int .u8 (x : Int))).length = 10 := by simp; omega
  have hsq : (Tryz.prog.info? 42).map (·.size) = some (((pv p).set x (.int .u8 (y : Int))).set y (.int .u8 (x : Int))).length := by rw [hlq]; exact size_perm
  have hoq : ∀ v ∈ (((pv p).set x (.int .u8 (y : Int))).set y (.int .u8 (x : Int))), v.oneCell' = true := by rw [pv_put2]; exact pv_one _
  have q1 : x ≠ y := by omega
  have q2 : y ≠ x := by omega
  have q3 : (0 : Int) ≤ (x : Int) := by omega
  have q4 : (x : Int) < 10 := by omega
  have q5 : (0 : Int) ≤ (y : Int) := by omega
  have q6 : (y : Int) < 10 := by omega
  have HLQ := Lib.hid hlq
  have HSQ := Lib.hid hsq
  have HOQ := Lib.hid hoq
  clear hlq hsq hoq hl hp
  go_enter Tryz.func50, Tryz.ntmps50
  go_wp2_with (first | ((with_reducible refine wl_load 42 (s0 _).cells HSQ.out Tryz.underlying42 ?_ ?_ ?_ ?_); (· rfl); (· rfl); (· rfl)) | ((with_reducible refine wl_store 42 0 s1 HSQ.out HOQ.out (by rw [HLQ.out, len_z10]; omega) ?_ ?_ ?_ ?_); (· rfl); (· rfl); (· rfl); intro w5 o5 b5 s5))
  rw [put_all (by rw [HLQ.out, len_z10]), pv_put2] at o5
  have hlr : (pv (put2 p x y)).length = 10 := by rw [← pv_put2]; exact HLQ.out
  refine bodyPost_ret (results_cell_own Tryz.results50 _ _ _ _ _ (by rfl) o5.cells Tryz.underlying42 rfl (by rw [hlr]; exact size_perm)) rfl ?_
  exact ⟨rfl, bel_store hbs b5 (by simp; omega) (by omega)⟩
end Go.Proofs.YtnnblmibonnpcaaGreat

/- The contract of BoardAt, at five pairs. -/
namespace Go.Proofs.YtnnblmibonnpcaaGreat
open Go.RowKit

theorem sim_step {x : Nat} (hx : x < 10) (d p : List Nat) (pr n : Nat) : simB (10 - x) d p pr n = if x ∈ d then simB (10 - (x + 1)) d p pr n else
    match pr with
    | 0 => none
    | pr + 1 => match skB d (eachB pr) 10 (x + 1) n with
      | none => none
      | some (y, n') => simB (10 - (x + 1)) (d ++ [y]) (put2 p x y) pr n' := by
  obtain ⟨k, hk⟩ : ∃ k, k = 9 - x := ⟨_, rfl⟩
  have h1 : 9 - k = x := by omega
  have h2 : 10 - k = x + 1 := by omega
  rw [show 10 - x = k + 1 by omega, show 10 - (x + 1) = k by omega]
  simp only [simB, h1, h2] <;> rfl
theorem sk_step {d : List Nat} {e f y n : Nat} {r : Nat × Nat} (h : skB d e f y n = some r) : y < 10 ∧ ∃ f', f = f' + 1 ∧ ((y ∈ d ∧ skB d e f' (y + 1) n = some r) ∨ (¬ y ∈ d ∧ e ≤ n ∧ skB d e f' (y + 1) (n - e) = some r) ∨ (¬ y ∈ d ∧ n < e ∧ r = (y, n))) := by
  cases f with
  | zero => simp [skB] at h
  | succ f =>
    simp only [skB] at h
    by_cases h1 : 10 ≤ y
    · rw [if_pos h1] at h; cases h
    · rw [if_neg h1] at h
      refine ⟨by omega, f, rfl, ?_⟩
      by_cases h2 : y ∈ d
      · rw [if_pos h2] at h; exact .inl ⟨h2, h⟩
      · rw [if_neg h2] at h
        by_cases h3 : e ≤ n
        · rw [if_pos h3] at h; exact .inr (.inl ⟨h2, h3, h⟩)
        · rw [if_neg h3] at h
          exact .inr (.inr ⟨h2, by omega, (Option.some.inj h).symm⟩)
set_option maxRecDepth 100000 in
set_option maxHeartbeats 2000000 in
theorem boardAt_any (n : Nat) (out : List Nat) (w : World) (hn : n < 945) (hs : simB 10 [] idP 5 n = some out) (ho : IsP out) :
    Calls Tryz.prog 25 #[.int .i64 5, .int .i64 (n : Int)] w fun e w' => e = .returned (.tuple #[.string (wd out), .bool true]) ∧ Below w.heap.size w w' := by
  have t0 : decide ((n : Int) < 0) = false := decide_eq_false (by omega)
  have t1 : decide ((945 : Int) ≤ (n : Int)) = false := decide_eq_false (by omega)
  have HO := Lib.hid ho
  go_enter Tryz.func25, Tryz.ntmps25
  go_wp2_with fail
  refine (boardCount_5 _).mono ?_
  rintro e w' ⟨rfl, hw⟩
  rw [hw]
  clear hw
  go_wp2_with fail
  refine (identity_any w).mono ?_
  rintro e w1 ⟨rfl, hb1⟩
  have o1 : Own (w1.alloc (.cells #[.int .u8 0, .int .u8 0, .int .u8 0, .int .u8 0, .int .u8 0, .int .u8 0, .int .u8 0, .int .u8 0, .int .u8 0, .int .u8 0] 42)) w1.heap.size z10 := Own.new w1 z10 42
  have hb2 := hb1.alloc hb1.size (.cells #[.int .u8 0, .int .u8 0, .int .u8 0, .int .u8 0, .int .u8 0, .int .u8 0, .int .u8 0, .int .u8 0, .int .u8 0, .int .u8 0] 42)
  have hz1 := hb1.size
  go_wp2_with ((with_reducible refine wl_store 42 0 o1 (size_pv len_id) (pv_one _) (by rw [length_pv, len_id, len_z10]; omega) ?_ ?_ ?_ ?_); (· rfl); (· rfl); (· rfl); intro w3 o3 b3 s3)
  rw [put_all (by rw [length_pv, len_id, len_z10])] at o3
  have hb3 := bel_store hb2 b3 (by simp; omega) hz1
  have o4 := o3.alloc (.cells [.bool false, .bool false, .bool false, .bool false, .bool false, .bool false, .bool false, .bool false, .bool false, .bool false].toArray 80)
  have p4 : Own (w3.alloc (.cells [.bool false, .bool false, .bool false, .bool false, .bool false, .bool false, .bool false, .bool false, .bool false, .bool false].toArray 80)) w3.heap.size (bmk []) := Own.new w3 [.bool false, .bool false, .bool false, .bool false, .bool false, .bool false, .bool false, .bool false, .bool false, .bool false] 80
  have hb4 := hb3.alloc (by have := o3.lt; omega) (.cells [.bool false, .bool false, .bool false, .bool false, .bool false, .bool false, .bool false, .bool false, .bool false, .bool false].toArray 80)
  have hbd : w3.heap.size = w1.heap.size + 1 := by rw [s3]; simp
  rw [hbd] at p4
  clear o1 o3 hb1 hb2 hb3 b3 t0 t1 s3 hbd
  generalize (w3.alloc (.cells [.bool false, .bool false, .bool false, .bool false, .bool false, .bool false, .bool false, .bool false, .bool false, .bool false].toArray 80)) = w4 at *
  generalize w1.heap.size = bp at *
  go_loopw [0, 1, 7, 9, 10, 11, 12, 22] (fun pr nn fr _ _ _ _ i wr => ∃ (k q m : Nat) (d p : List Nat), k ≤ 10 ∧ simB (10 - k) d p q m = some out ∧ q ≤ 5 ∧ m ≤ 944 ∧ p.length = 10 ∧ pr = .int .i64 (q : Int) ∧ nn = .int .i64 (m : Int) ∧ fr = .int .i64 (2 * (q : Int)) ∧ i = .int .i64 (k : Int) ∧ Own wr bp (pv p) ∧ Own wr (bp + 1) (bmk d) ∧ Below w.heap.size w wr) (fun _ _ _ _ _ _ _ i _ => 10 - (intOf i).toNat)
  case atStart => exact ⟨0, 5, n, [], idP, by omega, hs, by omega, by omega, len_id, rfl, rfl, rfl, rfl, o4, p4, hb4⟩
  case round =>
    clear o4 p4 hb4 hs hn
    obtain ⟨k, q, m, d, p, hk, hsim, hq, hm, hpl, rfl, rfl, rfl, rfl, o4, p4, hb4⟩ := hrel
    have HPL := Lib.hid hpl
    clear hpl
    by_cases hlt : k < 10
    · rw [sim_step hlt] at hsim
      have e1 := p4.at_ (bmk_at (l := d) hlt)
      have q1 : (0 : Int) ≤ (k : Int) := by omega
      have q2 : (k : Int) < 10 := by omega
      by_cases hd : k ∈ d
      · rw [if_pos hd] at hsim
        rw [decide_eq_true hd] at e1
        have HS := Lib.hid hsim
        clear hsim hd
        go_wp2_with fail
        go_roundw
        case rel => exact ⟨k + 1, q, m, d, p, by omega, HS.out, hq, hm, HPL.out, rfl, rfl, rfl, by go_num, o4, p4, hb4⟩
        case measure => simp [intOf]; omega
      · rw [if_neg hd] at hsim
        rw [decide_eq_false hd] at e1
        cases q with
        | zero => simp only at hsim; cases hsim
        | succ q' =>
          simp only at hsim
          have hk2 : ∀ r, skB d (eachB q') 10 (k + 1) m = some r → simB (10 - (k + 1)) (d ++ [r.1]) (put2 p k r.1) q' r.2 = some out := by
            intro r hr
            rw [hr] at hsim
            exact hsim
          obtain ⟨r, hr⟩ : ∃ r, skB d (eachB q') 10 (k + 1) m = some r := by
            cases hr : skB d (eachB q') 10 (k + 1) m with
            | none => rw [hr] at hsim; cases hsim
            | some r => exact ⟨r, rfl⟩
          have HS := Lib.hid (hk2 r hr)
          have HR := Lib.hid hr
          have t1 : decide ((0 : Int) ≤ (m : Int)) = true := decide_eq_true (by omega)
          clear hsim hk2 hr hd
          go_wp2_with fail
          refine Calls.mono (boardsOf_no _ _ ?h0 ?h1 ?h2 _) ?_
          case h0 => omega
          case h1 => omega
          case h2 => omega
          rintro e w' ⟨rfl, hw⟩
          rw [hw]
          clear hw
          go_wp2_with fail
          refine Calls.mono (boardsOf_even q' (by omega) _ _ ?h0 ?h1 _) ?_
          case h0 => omega
          case h1 => omega
          rintro e w' ⟨rfl, hw⟩
          rw [hw]
          clear hw
          generalize eachB q' = ea at *
          go_wp2_with fail
          go_loop [1, 11] (fun nn y => ∃ f yy mm : Nat, skB d ea f yy mm = some r ∧ k < yy ∧ mm ≤ 944 ∧ nn = .int .i64 (mm : Int) ∧ y = .int .i64 (yy : Int)) (fun _ y => 10 - (intOf y).toNat)
          case atStart => exact ⟨10, k + 1, m, HR.out, by omega, hm, by go_num, by go_num⟩
          case round =>
            clear hm HR
            obtain ⟨f, yy, mm, hsk, hky, hmm, rfl, rfl⟩ := hrel
            obtain ⟨hy10, f', rfl, hcase⟩ := sk_step hsk
            have e2 := p4.at_ (bmk_at (l := d) hy10)
            have q3 : (0 : Int) ≤ (yy : Int) := by omega
            have q4 : (yy : Int) < 10 := by omega
            rcases hcase with ⟨hyd, h2⟩ | ⟨hyd, he, h2⟩ | ⟨hyd, he, heq⟩
            · rw [decide_eq_true hyd] at e2
              have HH := Lib.hid h2
              clear hsk hyd h2
              go_wp2_with fail
              go_round
              case rel => exact ⟨f', yy + 1, mm, HH.out, by omega, hmm, rfl, by go_num⟩
              case measure => simp [intOf]; omega
            · rw [decide_eq_false hyd] at e2
              have HH := Lib.hid h2
              have t2 : decide ((ea : Int) ≤ (mm : Int)) = true := decide_eq_true (by omega)
              clear hsk hyd h2
              go_wp2_with fail
              go_round
              case rel => exact ⟨f', yy + 1, mm - ea, HH.out, by omega, by omega, by congr 1; omega, by go_num⟩
              case measure => simp [intOf]; omega
            · rw [decide_eq_false hyd] at e2
              have t2 : decide ((ea : Int) ≤ (mm : Int)) = false := decide_eq_false (by omega)
              rw [heq] at HS
              clear hsk hyd heq
              go_wp2_with ((with_reducible refine wl_load 42 o4.cells (size_pv HPL.out) Tryz.underlying42 ?_ ?_ ?_ ?_); (· rfl); (· rfl); (· rfl))
              refine (withPair_any p k yy _ HPL.out hlt hy10 hky).mono ?_
              rintro e w6 ⟨rfl, hb6⟩
              have o6 := o4.below hb6 o4.lt
              have p6 := p4.below hb6 p4.lt
              have hbw6 := bt hb4 hb6
              have HL2 := Lib.hid (show (put2 p k yy).length = 10 by simp [put2, HPL.out])
              have hbd := hb4.size
              go_wp2_with (first | ((with_reducible refine wl_load 42 o6.cells (size_pv HPL.out) Tryz.underlying42 ?_ ?_ ?_ ?_); (· rfl); (· rfl); (· rfl)) | ((with_reducible refine wl_store 42 0 o6 (size_pv HL2.out) (pv_one _) (by rw [length_pv, length_pv, HL2.out, HPL.out]; omega) ?_ ?_ ?_ ?_); (· rfl); (· rfl); (· rfl); intro w7 o7 b7 s7; have p7 := p6.grown b7 (by simp); have e3 := p7.at_ (bmk_at (l := d) hy10); have g3 := p7.free yy (by rw [len_bmk]; exact hy10)))
              rw [put_all (by rw [length_pv, length_pv, HL2.out, HPL.out])] at o7
              have ov := o7.far (p := ⟨bp + 1, yy, none⟩) (by simp) (.bool true)
              have pv_ := p7.set_ (i := yy) (by rw [len_bmk]; exact hy10) (.bool true)
              rw [bmk_set] at pv_
              have hbv := (bel_store hbw6 b7 (by have := hb6.size; omega) hz1).setCell (p := ⟨bp + 1, yy, none⟩) (by simp only; omega) (.bool true)
              go_roundw
              case rel => exact ⟨k + 1, q', mm, d ++ [yy], put2 p k yy, by omega, HS.out, by omega, hmm, HL2.out, rfl, rfl, by congr 1; omega, by go_num, ov, pv_, hbv⟩
              case measure => simp [intOf]; omega
    · have hk' : k = 10 := by omega
      subst hk'
      have hpo : p = out := by
        simp only [Nat.sub_self, simB] at hsim
        exact Option.some.inj hsim
      subst hpo
      clear hsim HPL
      go_wp2_with ((with_reducible refine wl_load 42 o4.cells (size_pv HO.out.len) Tryz.underlying42 ?_ ?_ ?_ ?_); (· rfl); (· rfl); (· rfl))
      refine (string_any p _ HO.out).mono ?_
      rintro e w5 ⟨rfl, hb5⟩
      have hbw := bt hb4 hb5
      go_wp2
      go_ret2
      exact ⟨rfl, hbw⟩
end Go.Proofs.YtnnblmibonnpcaaGreat

/- Plain: the reflectors that begin a permutation, one after the other, and how FactorCount counts them. -/
namespace Go.Proofs.YtnnblmibonnpcaaGreat
open Go.RowKit

/-- Those of the first k reflectors that begin a. -/
def facL (a : List Nat) (k : Nat) : List ByteArray := ((allR.take k).filter fun x => reflQ (thenP x a)).map wd
theorem facL_zero (a : List Nat) : facL a 0 = [] := rfl
theorem facL_succ {a : List Nat} {k : Nat} (h : k < allR.length) : facL a (k + 1) = if reflQ (thenP allR[k] a) = true then facL a k ++ [wd allR[k]] else facL a k := by
  unfold facL
  rw [List.take_succ_eq_append_getElem h, List.filter_append, List.map_append]
  by_cases hc : reflQ (thenP allR[k] a) = true
  · rw [if_pos hc]; simp [hc]
  · rw [if_neg hc]; simp [hc]
theorem facL_len (a : List Nat) (k : Nat) : (facL a k).length ≤ k := by
  unfold facL
  rw [List.length_map]
  exact Nat.le_trans (List.length_filter_le _ _) (by rw [List.length_take]; omega)
theorem facL_all (a : List Nat) : (facL a 945).length = facN a := by
  unfold facL facN
  rw [List.take_of_length_le (by rw [allR_len]; exact Nat.le_refl _), List.length_map]
theorem facL_mem {a x : List Nat} (h : x ∈ allR.filter fun z => reflQ (thenP z a)) : wd x ∈ facL a 945 := by
  unfold facL
  rw [List.take_of_length_le (by rw [allR_len]; exact Nat.le_refl _)]
  exact List.mem_map.2 ⟨x, h, rfl⟩

/-- Where the run of equal lengths ends. -/
def runB (ls : List Int) (fr : Nat) : Nat → Nat → Option Nat
  | 0, _ => none
  | f + 1, t => if t < ls.length then (if ls.getD t 0 = ls.getD fr 0 then runB ls fr f (t + 1) else some t) else some t
/-- The ways to pair cycles of one length. -/
def mulB (x : Nat) : Nat → Nat → Nat → Option Nat
  | 0, _, _ => none
  | f + 1, left, n => if left = 0 then some n else if left = 1 then none else if n * ((left - 1) * x) ≤ 100000 then mulB x f (left - 2) (n * ((left - 1) * x)) else none
/-- FactorCount's count. -/
def facC (ls : List Int) : Nat → Nat → Nat → Option Nat
  | 0, _, _ => none
  | f + 1, fr, n => if fr < ls.length then
      match runB ls fr 11 fr with
      | none => none
      | some t => match mulB (ls.getD fr 0).toNat 11 (t - fr) n with
        | none => none
        | some n' => facC ls f t n'
    else some n
theorem fac7 : (typ7.all fun t => facC t.1 11 0 1 == some t.2) = true := by decide +kernel
theorem facC_typ {ls : List Int} {n : Nat} (h : (ls, n) ∈ typ7) : facC ls 11 0 1 = some n := by
  have := List.all_eq_true.1 fac7 _ h
  simpa using this
theorem facC_step {ls : List Int} {f fr n c : Nat} (h : facC ls f fr n = some c) : ∃ f', f = f' + 1 ∧ ((fr < ls.length ∧ ∃ t n', runB ls fr 11 fr = some t ∧ mulB (ls.getD fr 0).toNat 11 (t - fr) n = some n' ∧ facC ls f' t n' = some c) ∨ (¬ fr < ls.length ∧ n = c)) := by
  cases f with
  | zero => simp [facC] at h
  | succ f =>
    refine ⟨f, rfl, ?_⟩
    simp only [facC] at h
    by_cases hl : fr < ls.length
    · rw [if_pos hl] at h
      refine .inl ⟨hl, ?_⟩
      cases hr : runB ls fr 11 fr with
      | none => rw [hr] at h; cases h
      | some t =>
        rw [hr] at h
        simp only at h
        cases hm : mulB (ls.getD fr 0).toNat 11 (t - fr) n with
        | none => rw [hm] at h; cases h
        | some n' => rw [hm] at h; exact ⟨t, n', rfl, hm, h⟩
    · rw [if_neg hl] at h
      exact .inr ⟨hl, Option.some.inj h⟩
theorem runB_step {ls : List Int} {fr f t r : Nat} (h : runB ls fr f t = some r) : ∃ f', f = f' + 1 ∧ ((t < ls.length ∧ ls.getD t 0 = ls.getD fr 0 ∧ runB ls fr f' (t + 1) = some r) ∨ (t < ls.length ∧ ¬ ls.getD t 0 = ls.getD fr 0 ∧ r = t) ∨ (¬ t < ls.length ∧ r = t)) := by
  cases f with
  | zero => simp [runB] at h
  | succ f =>
    refine ⟨f, rfl, ?_⟩
    simp only [runB] at h
    by_cases hl : t < ls.length
    · rw [if_pos hl] at h
      by_cases he : ls.getD t 0 = ls.getD fr 0
      · rw [if_pos he] at h; exact .inl ⟨hl, he, h⟩
      · rw [if_neg he] at h; exact .inr (.inl ⟨hl, he, (Option.some.inj h).symm⟩)
    · rw [if_neg hl] at h
      exact .inr (.inr ⟨hl, (Option.some.inj h).symm⟩)
theorem runB_le {ls : List Int} {fr : Nat} : ∀ {f t r : Nat}, runB ls fr f t = some r → t ≤ ls.length → t ≤ r ∧ r ≤ ls.length
  | 0, t, r, h, _ => by simp [runB] at h
  | f + 1, t, r, h, ht => by
    obtain ⟨f', e, hc⟩ := runB_step h
    cases Nat.succ.inj e
    rcases hc with ⟨h1, -, h2⟩ | ⟨h1, -, rfl⟩ | ⟨h1, rfl⟩
    · have := runB_le h2 (by omega); omega
    · omega
    · omega
theorem mulB_step {x f left n r : Nat} (h : mulB x f left n = some r) : ∃ f', f = f' + 1 ∧ ((left = 0 ∧ r = n) ∨ (2 ≤ left ∧ n * ((left - 1) * x) ≤ 100000 ∧ mulB x f' (left - 2) (n * ((left - 1) * x)) = some r)) := by
  cases f with
  | zero => simp [mulB] at h
  | succ f =>
    refine ⟨f, rfl, ?_⟩
    simp only [mulB] at h
    by_cases h0 : left = 0
    · rw [if_pos h0] at h; exact .inl ⟨h0, (Option.some.inj h).symm⟩
    · rw [if_neg h0] at h
      by_cases h1 : left = 1
      · rw [if_pos h1] at h; cases h
      · rw [if_neg h1] at h
        by_cases h2 : n * ((left - 1) * x) ≤ 100000
        · rw [if_pos h2] at h; exact .inr ⟨by omega, h2, h⟩
        · rw [if_neg h2] at h; cases h
end Go.Proofs.YtnnblmibonnpcaaGreat

/- Contracts of FactorsOf and of FactorCount, at a permutation whose cycles come in pairs. -/
namespace Go.Proofs.YtnnblmibonnpcaaGreat
open Go.RowKit

theorem xm7 : (typ7.all fun t => xmT t.1 == 0) = true := by decide +kernel
theorem paired_typ {a : List Nat} {n : Nat} (h : (lenD a, n) ∈ typ7) : pairedB a = true := by
  have := List.all_eq_true.1 xm7 _ h
  unfold pairedB
  exact decide_eq_true (by simpa using this)
set_option maxRecDepth 100000 in
set_option maxHeartbeats 2000000 in
theorem factorsOf_any (a : List Nat) (w : World) (ha : IsP a) (hpa : pairedB a = true) :
    Calls Tryz.prog 12 #[.string (wd a)] w (RowPost 9 1 (facL a 945).length (sv (facL a 945)) w) := by
  have hpl := size_pv10 ha
  have hps : (wd a).size ≤ 4294967296 := by rw [size_wd, ha.len]; omega
  have n1 := fun W => permOf_any (wd a) W hps
  rw [permB_wd ha, permC_yes, dg_wd ha.lt] at n1
  have npr := fun W => paired_any a W ha
  rw [hpa] at npr
  go_enter Tryz.func12, Tryz.ntmps12
  go_wp2_with fail
  refine (n1 _).mono ?_
  rintro e w1 ⟨rfl, hb1⟩
  have o1 : Own (w1.alloc (.cells #[.int .u8 0, .int .u8 0, .int .u8 0, .int .u8 0, .int .u8 0, .int .u8 0, .int .u8 0, .int .u8 0, .int .u8 0, .int .u8 0] 42)) w1.heap.size z10 := Own.new w1 z10 42
  have hz1 := hb1.size
  have hbw := hb1.alloc (by omega) (.cells #[.int .u8 0, .int .u8 0, .int .u8 0, .int .u8 0, .int .u8 0, .int .u8 0, .int .u8 0, .int .u8 0, .int .u8 0, .int .u8 0] 42)
  go_wp2_with (first | ((with_reducible refine wl_store 42 0 o1 (size_pv ha.len) (pv_one _) (by rw [hpl, len_z10]; omega) ?_ ?_ ?_ ?_); (· rfl); (· rfl); (· rfl); intro w2 o2 b2 s2; rw [put_z10 hpl] at o2) | ((with_reducible refine wl_load 42 o2.cells (size_pv ha.len) Tryz.underlying42 ?_ ?_ ?_ ?_); (· rfl); (· rfl); (· rfl)))
  simp only [World.size_alloc] at s2
  have hbw2 := bel_store hbw b2 (by simp; omega) (by omega)
  refine (npr _).mono ?_
  rintro e w3 ⟨rfl, hb3⟩
  have o3 := o2.below hb3 o2.lt
  have hbw3 := bt hbw2 hb3
  have hbz := o2.lt
  clear o1 o2 hb1 hbw hbw2 hb3 n1 npr b2 s2
  go_wp2_with fail
  refine (boardCount_5 _).mono ?_
  rintro e w' ⟨rfl, hw⟩
  rw [hw]
  clear hw
  go_wp2_with fail
  have hbl : w1.heap.size < w3.heap.size := o3.lt
  have hwl : w.heap.size ≤ w3.heap.size := hbw3.size
  generalize w1.heap.size = bp at *
  obtain ⟨Bl, hBl⟩ : ∃ Bl, Bl = w3.heap.size := ⟨_, rfl⟩
  rw [← hBl] at hbl hwl
  clear hps hpl
  go_loopw [5, 6, 7, 8, 9, 10, 24] (fun l _ _ _ _ _ i wr => ∃ k : Nat, k ≤ 945 ∧ i = .int .i64 k ∧ Bl ≤ wr.heap.size ∧ OwR wr Bl 9 1 l (facL a k).length (sv (facL a k)) ∧ Own wr bp (pv a) ∧ Below w.heap.size w wr) (fun _ _ _ _ _ _ i _ => 945 - (intOf i).toNat)
  case atStart => exact ⟨0, by omega, rfl, by omega, World.ownsRow_nil _ _ _ _, o3, hbw3⟩
  case round =>
    clear o3 hbw3 hbz hz1 hBl
    obtain ⟨k, hk, rfl, hBw, hown, o, hb⟩ := hrel
    by_cases hlt : k < 945
    · have hka : k < allR.length := by rw [allR_len]; exact hlt
      have hsim := sim_at hka
      have HS := Lib.hid (facL_succ (a := a) hka)
      obtain ⟨hx, ix, fx⟩ := allR_iff.1 (List.getElem_mem hka)
      generalize allR[k] = x at *
      clear hka
      have hrf : reflB (wd x) = true := by rw [reflB_wd hx]; exact (reflQ_iff hx).2 ⟨ix, fx⟩
      have hxz : (wd x).size ≤ 4294967296 := by rw [size_wd, hx.len]; omega
      have nrf := fun W => reflectorOf_any (wd x) W hxz
      rw [hrf, reflB_plug hrf, permC_yes, dg_wd hx.lt] at nrf
      have hxa := hx.then ha
      have hxaz : (wd (thenP x a)).size ≤ 4294967296 := by rw [size_wd, hxa.len]; omega
      have nrv := fun W => implReflectorValid_any (wd (thenP x a)) W hxaz
      rw [reflB_wd hxa] at nrv
      have nth := fun W => then_any x a W hx ha
      have nst := fun W => string_any (thenP x a) W hxa
      have hle := facL_len a k
      have hxpl := size_pv10 hx
      clear hrf hxz hxa hxaz ix fx
      generalize reflQ (thenP x a) = rq at *
      generalize thenP x a = xa at *
      have q1 : (0 : Int) ≤ (k : Int) := by omega
      have q2 : (k : Int) < 945 := by omega
      go_wp2_with fail
      refine (boardAt_any k x _ hlt hsim hx).mono ?_
      rintro e w4 ⟨rfl, hb4⟩
      have own4 := hown.below hb4 (Nat.le_refl _)
      have o4 := o.below hb4 o.lt
      have hbw4 := bt hb hb4
      have hB4 := Nat.le_trans hBw hb4.size
      clear hown o hb hb4 hsim
      go_wp2_with fail
      refine (nrf _).mono ?_
      rintro e w5 ⟨rfl, hb5⟩
      have own5 := World.ownsRow.alloc (own4.below hb5 (Nat.le_refl _)) (.cells #[.int .u8 0, .int .u8 0, .int .u8 0, .int .u8 0, .int .u8 0, .int .u8 0, .int .u8 0, .int .u8 0, .int .u8 0, .int .u8 0] 42)
      have o5 := (o4.below hb5 o4.lt).alloc (.cells #[.int .u8 0, .int .u8 0, .int .u8 0, .int .u8 0, .int .u8 0, .int .u8 0, .int .u8 0, .int .u8 0, .int .u8 0, .int .u8 0] 42)
      have hnb : ∀ v, own5 = v → True := fun _ _ => trivial
      have hbw5 := (bt hbw4 hb5).alloc (bt hbw4 hb5).size (.cells #[.int .u8 0, .int .u8 0, .int .u8 0, .int .u8 0, .int .u8 0, .int .u8 0, .int .u8 0, .int .u8 0, .int .u8 0, .int .u8 0] 42)
      have x5 : Own (w5.alloc (.cells #[.int .u8 0, .int .u8 0, .int .u8 0, .int .u8 0, .int .u8 0, .int .u8 0, .int .u8 0, .int .u8 0, .int .u8 0, .int .u8 0] 42)) w5.heap.size z10 := Own.new w5 z10 42
      have hbz5 := (o4.below hb5 o4.lt).lt
      have hz5 := (bt hbw4 hb5).size
      have hB5 := Nat.le_trans hB4 hb5.size
      have hro := (World.ownsRow.lt (own4.below hb5 (Nat.le_refl _)))
      clear hnb own4 o4 hbw4 hb5
      go_wp2_with (first | ((with_reducible refine wl_store 42 0 x5 (size_pv hx.len) (pv_one _) (by rw [hxpl, len_z10]; omega) ?_ ?_ ?_ ?_); (· rfl); (· rfl); (· rfl); intro w6 x6 b6 s6; rw [put_z10 hxpl] at x6; have own6 := OwR.movedR own5 b6 (fun e => Nat.lt_irrefl _ (hro _ e).2); have o6 := o5.grown b6 (by simp; omega)) | ((with_reducible refine wl_load 42 x6.cells (size_pv hx.len) Tryz.underlying42 ?_ ?_ ?_ ?_); (· rfl); (· rfl); (· rfl)) | ((with_reducible refine wl_load 42 o6.cells (size_pv ha.len) Tryz.underlying42 ?_ ?_ ?_ ?_); (· rfl); (· rfl); (· rfl)))
      have hB6 : Bl ≤ w6.heap.size := by have := x6.lt; omega
      have hbw6 := bel_store hbw5 b6 (by simp; omega) hz5
      clear own5 o5 hbw5 x5 hro b6
      refine (nth _).mono ?_
      rintro e w7 ⟨rfl, hb7⟩
      have own7 := own6.below hb7 (Nat.le_refl _)
      have o7 := o6.below hb7 o6.lt
      have hbw7 := bt hbw6 hb7
      have hb7' := hb7.size
      clear own6 o6 hbw6 hb7
      go_wp2_with fail
      refine (nst _).mono ?_
      rintro e w8 ⟨rfl, hb8⟩
      have own8 := own7.below hb8 (Nat.le_refl _)
      have o8 := o7.below hb8 o7.lt
      have hbw8 := bt hbw7 hb8
      have hb8' := hb8.size
      clear own7 o7 hbw7 hb8
      go_wp2_with fail
      refine (nrv _).mono ?_
      rintro e w9 ⟨rfl, hb9⟩
      have own9 := own8.below hb9 (Nat.le_refl _)
      have o9 := o8.below hb9 o8.lt
      have hbw9 := bt hbw8 hb9
      have hb9' := hb9.size
      have hB9 := Nat.le_trans (Nat.le_trans (Nat.le_trans hB6 hb7') hb8') hb9'
      clear own8 o8 hbw8 hb9
      cases rq with
      | true =>
        have hl1 : (facL a (k + 1)).length = (facL a k).length + 1 := by rw [HS.out, if_pos rfl]; simp
        have hsv : Hid (sv (facL a (k + 1)) = sv (facL a k) ++ [.string (wd x)] ) := Lib.hid (by rw [HS.out, if_pos rfl, sv_append]; rfl)
        go_wp2_with (at_builtin; ((with_reducible refine wl_push 30 9 inf_str Tryz.underlying30 rfl (by omega) own9 hB9 rfl (by simp [Value.oneCell']) (by omega) (by omega) rfl rfl ?_); intro g7 cap w10 o10 b10 k10))
        have o11 := o9.below b10 hbl
        go_roundw
        case rel => exact ⟨k + 1, by omega, by go_num, by omega, by rw [hl1, hsv.out]; exact o10, o11, hbw9.trans (b10.mono hwl)⟩
        case measure => simp [intOf]; omega
      | false =>
        go_wp2_with fail
        go_roundw
        case rel => exact ⟨k + 1, by omega, by go_num, hB9, by rw [HS.out, if_neg (by decide)]; exact own9, o9, hbw9⟩
        case measure => simp [intOf]; omega
    · have hk' : k = 945 := by omega
      subst hk'
      go_wp2
      go_ret
      exact ⟨_, rfl, World.ownsRow.mono hown hwl, hb⟩
end Go.Proofs.YtnnblmibonnpcaaGreat

/- The contract of FactorCount, at a permutation whose cycles come in pairs. -/
namespace Go.Proofs.YtnnblmibonnpcaaGreat
open Go.RowKit

theorem mul_wrap {m l x : Nat} (h2 : 2 ≤ l) (hl : l ≤ 10) (hx : x ≤ 10) (hm : m * ((l - 1) * x) ≤ 100000) : wrap64 ((m : Int) * wrap64 (((l : Int) - 1) * (x : Int))) = ((m * ((l - 1) * x) : Nat) : Int) := by
  have h1 : (l - 1) * x ≤ 9 * 10 := Nat.mul_le_mul (by omega) hx
  have e1 : ((l : Int) - 1) * (x : Int) = (((l - 1) * x : Nat) : Int) := by
    rw [Int.natCast_mul, show ((l - 1 : Nat) : Int) = (l : Int) - 1 by omega]
  have e2 : ∀ n : Nat, n ≤ 100000 → wrap64 (n : Int) = (n : Int) := fun n hn => by unfold wrap64; omega
  rw [e1, e2 _ (by omega), ← Int.natCast_mul, e2 _ hm]
set_option maxRecDepth 100000 in
set_option maxHeartbeats 2000000 in
theorem factorCount_any (a : List Nat) (c : Nat) (w : World) (ha : IsP a) (hpa : pairedB a = true) (hc : facC (lenD a) 11 0 1 = some c) :
    Calls Tryz.prog 13 #[.string (wd a)] w fun e w' => e = .returned (.int .i64 (c : Int)) ∧ Below w.heap.size w w' := by
  have hpl := size_pv10 ha
  have hps : (wd a).size ≤ 4294967296 := by rw [size_wd, ha.len]; omega
  have n1 := fun W => permOf_any (wd a) W hps
  rw [permB_wd ha, permC_yes, dg_wd ha.lt] at n1
  have npr := fun W => paired_any a W ha
  rw [hpa] at npr
  have hcl : (cycs a).length ≤ 10 := cycsTo_len a 10
  have hln := fun W => lengths_any a W ha
  rw [← len_lenD] at hcl hln
  have HM := Lib.hid (mem_lenD ha)
  have HC := Lib.hid hc
  clear hc hpa
  generalize lenD a = ld at *
  go_enter Tryz.func13, Tryz.ntmps13
  go_wp2_with fail
  refine (n1 _).mono ?_
  rintro e w1 ⟨rfl, hb1⟩
  have o1 : Own (w1.alloc (.cells #[.int .u8 0, .int .u8 0, .int .u8 0, .int .u8 0, .int .u8 0, .int .u8 0, .int .u8 0, .int .u8 0, .int .u8 0, .int .u8 0] 42)) w1.heap.size z10 := Own.new w1 z10 42
  have hz1 := hb1.size
  have hbw := hb1.alloc (by omega) (.cells #[.int .u8 0, .int .u8 0, .int .u8 0, .int .u8 0, .int .u8 0, .int .u8 0, .int .u8 0, .int .u8 0, .int .u8 0, .int .u8 0] 42)
  go_wp2_with (first | ((with_reducible refine wl_store 42 0 o1 (size_pv ha.len) (pv_one _) (by rw [hpl, len_z10]; omega) ?_ ?_ ?_ ?_); (· rfl); (· rfl); (· rfl); intro w2 o2 b2 s2; rw [put_z10 hpl] at o2) | ((with_reducible refine wl_load 42 o2.cells (size_pv ha.len) Tryz.underlying42 ?_ ?_ ?_ ?_); (· rfl); (· rfl); (· rfl)))
  simp only [World.size_alloc] at s2
  have hbw2 := bel_store hbw b2 (by simp; omega) (by omega)
  refine (npr _).mono ?_
  rintro e w3 ⟨rfl, hb3⟩
  have o3 := o2.below hb3 o2.lt
  have hbw3 := bt hbw2 hb3
  clear o1 o2 hb1 hbw hbw2 hb3 n1 npr b2 s2
  go_wp2_with ((with_reducible refine wl_load 42 o3.cells (size_pv ha.len) Tryz.underlying42 ?_ ?_ ?_ ?_); (· rfl); (· rfl); (· rfl))
  refine (hln _).mono ?_
  rintro e w4 ⟨cv, rfl, oc, hb4⟩
  obtain ⟨ca, cc, rfl, -, hrc, -⟩ := OwR.val oc
  have hbw4 := bt hbw3 hb4
  clear oc hb4 hbw3 o3 hz1 hps hpl
  have HRC := Lib.hid hrc
  clear hrc
  generalize w1.heap.size = bp at *
  go_wp2_with fail
  go_loopg [5, 7, 8, 9] 11 (fun f n fr _ _ wr => ∃ (i j q : Nat), facC ld f i j = some c ∧ i ≤ ld.length ∧ j ≤ 100000 ∧ n = .int .i64 (j : Int) ∧ fr = .int .i64 (i : Int) ∧ wr = w4.drewN q)
  case atStart => exact ⟨0, 1, 0, HC.out, by omega, by omega, rfl, rfl, rfl⟩
  case round =>
    clear HC
    obtain ⟨i, j, q, hfc, hi, hj, rfl, rfl, rfl⟩ := hrel
    obtain ⟨f', rfl, hcase⟩ := facC_step hfc
    rcases hcase with ⟨hlt, t, n', hr, hm, hf2⟩ | ⟨hge, rfl⟩
    · obtain ⟨hit, htl⟩ := runB_le hr hi
      have HF := Lib.hid hf2
      have HR := Lib.hid hr
      have HMM := Lib.hid hm
      have HI : Hid (i < t) := Lib.hid (by
        obtain ⟨g', -, h1⟩ := runB_step hr
        rcases h1 with ⟨-, -, h2⟩ | ⟨-, h2, -⟩ | ⟨h2, -⟩
        · exact (runB_le h2 (by omega)).1
        · exact absurd rfl h2
        · exact absurd hlt h2)
      obtain ⟨x, hx, x1, x10⟩ := HM.out _ (List.getElem_mem hlt)
      obtain ⟨b, off, rfl, hbl, hcl2⟩ := HRC.out.open_ (by rw [length_iv]; omega)
      have HCL := Lib.hid hcl2
      have c2 := hcl2 i (by rw [length_iv]; exact hlt)
      rw [iv_at hlt, hx] at c2
      have gi : ld.getD i 0 = (x : Int) := by rw [List.getD_eq_getElem?_getD, List.getElem?_eq_getElem hlt]; exact hx
      rw [gi] at HMM
      have HGI := Lib.hid gi
      have q1 : (0 : Int) ≤ (i : Int) := by omega
      have q2 : (i : Int) < (ld.length : Int) := by omega
      clear hfc hr hm hf2 hx hcl2 gi
      go_wp2_with fail
      go_loopw [8] (fun e wr => ∃ (g u q : Nat), runB ld i g u = some t ∧ i ≤ u ∧ u ≤ ld.length ∧ e = .int .i64 (u : Int) ∧ wr = w4.drewN q) (fun e _ => ld.length - (intOf e).toNat)
      case atStart => exact ⟨11, i, q, HR.out, by omega, hi, rfl, rfl⟩
      case round =>
        clear HR
        obtain ⟨g, u, q', hru, hiu, hul, rfl, rfl⟩ := hrel
        obtain ⟨g', rfl, h1⟩ := runB_step hru
        have p1 : (0 : Int) ≤ (u : Int) := by omega
        rcases h1 with ⟨hu, he, hr2⟩ | h1
        · have c1 := HCL.out u (by rw [length_iv]; exact hu)
          have gu : ld.getD u 0 = ld[u] := by rw [List.getD_eq_getElem?_getD, List.getElem?_eq_getElem hu]; rfl
          rw [HGI.out, gu] at he
          rw [iv_at hu, he] at c1
          have p2 : (u : Int) < (ld.length : Int) := by omega
          have HR2 := Lib.hid hr2
          clear hru hr2 gu he
          go_wp2_with fail
          go_quiet (fail)
          go_wp2
          go_roundw
          case rel => exact ⟨g', u + 1, _, HR2.out, by omega, by omega, by go_num, rfl⟩
          case measure => simp [intOf]; omega
        · have hut : u = t := by rcases h1 with ⟨-, -, h⟩ | ⟨-, h⟩ <;> exact h.symm
          subst hut
          rcases h1 with ⟨hu, he, -⟩ | ⟨hu, -⟩
          · have c1 := HCL.out u (by rw [length_iv]; exact hu)
            have gu : ld.getD u 0 = ld[u] := by rw [List.getD_eq_getElem?_getD, List.getElem?_eq_getElem hu]; rfl
            rw [HGI.out, gu] at he
            rw [iv_at hu] at c1
            have p2 : (u : Int) < (ld.length : Int) := by omega
            have te : (ld[u] == (x : Int)) = false := by rw [beq_eq_false_iff_ne]; exact he
            clear hru gu he
            generalize ld[u] = X at *
            go_wp2_with fail
            go_quiet (fail)
            go_wp2_with fail
            clear c1 te p2 hu
            go_loop [5, 9] (fun n lf => ∃ (g l m : Nat), mulB x g l m = some n' ∧ l ≤ 10 ∧ m ≤ 100000 ∧ n = .int .i64 (m : Int) ∧ lf = .int .i64 (l : Int)) (fun _ lf => (intOf lf).toNat)
            case atStart => exact ⟨11, u - i, j, by have := HMM.out; simpa using this, by omega, hj, rfl, by congr 1; omega⟩
            case round =>
              clear HMM
              obtain ⟨g, l, m, hml, hl, hm, rfl, rfl⟩ := hrel
              obtain ⟨g', rfl, h1⟩ := mulB_step hml
              rcases h1 with ⟨rfl, rfl⟩ | ⟨h2, hmx, hm2⟩
              · go_wp2_with fail
                go_roundg f'
                case measure => omega
                case rel => exact ⟨u, n', _, HF.out, hul, hm, rfl, rfl, rfl⟩
              · have HM2 := Lib.hid hm2
                clear hml hm2
                go_wp2_with fail
                go_round
                case rel => exact ⟨g', l - 2, m * ((l - 1) * x), HM2.out, by omega, hmx, congrArg _ (mul_wrap h2 hl x10 hmx), by congr 1; omega⟩
                case measure => simp [intOf]; omega
          · have p2 : ¬ (u : Int) < (ld.length : Int) := by omega
            clear hru
            go_wp2_with fail
            go_quiet (fail)
            go_wp2_with fail
            clear p2 hu
            go_loop [5, 9] (fun n lf => ∃ (g l m : Nat), mulB x g l m = some n' ∧ l ≤ 10 ∧ m ≤ 100000 ∧ n = .int .i64 (m : Int) ∧ lf = .int .i64 (l : Int)) (fun _ lf => (intOf lf).toNat)
            case atStart => exact ⟨11, u - i, j, by have := HMM.out; simpa using this, by omega, hj, rfl, by congr 1; omega⟩
            case round =>
              clear HMM
              obtain ⟨g, l, m, hml, hl, hm, rfl, rfl⟩ := hrel
              obtain ⟨g', rfl, h1⟩ := mulB_step hml
              rcases h1 with ⟨rfl, rfl⟩ | ⟨h2, hmx, hm2⟩
              · go_wp2_with fail
                go_roundg f'
                case measure => omega
                case rel => exact ⟨u, n', _, HF.out, hul, hm, rfl, rfl, rfl⟩
              · have HM2 := Lib.hid hm2
                clear hml hm2
                go_wp2_with fail
                go_round
                case rel => exact ⟨g', l - 2, m * ((l - 1) * x), HM2.out, by omega, hmx, congrArg _ (mul_wrap h2 hl x10 hmx), by congr 1; omega⟩
                case measure => simp [intOf]; omega
    · go_wp2
      go_ret
      exact ⟨rfl, bel_drewN hbw4 _⟩
end Go.Proofs.YtnnblmibonnpcaaGreat
