/- Several of my texts in one: Bom, Brd, ImpS, With. -/
import Derived.Test.YtdmnkcmkpjmfaaaGreatM18
import Derived.Test.YtdmnkcmkpjmfaaaGreatM13
import Derived.Test.YtdmnkcmkpjmfaaaGreatM17
import Derived.Test.YtdmnkcmkpjmfaaaGreatM7
import Derived.Test.YtdmnkcmkpjmfaaaGreatM3
import Derived.Test.YtdmnkcmkpjmfaaaGreatM14
import Derived.Test.YtdmnkcmkpjmfaaaGreatM15
import Derived.Lib.SliceRun
/- The wires of a menu, what follows from them, and the plugboards that pairs make: plain. -/
namespace Go.Proofs.YtdmnkcmkpjmfaaaGreat

theorem oneS {s : ByteArray} (h : s.size = 1) : s = S [s[0]'(by omega)] := by
  refine L_inj ?_
  rw [L_S]
  refine List.ext_getElem (by rw [size_L]; simpa using h) fun i h1 h2 => ?_
  have : i = 0 := by simp at h2; omega
  subst this
  rw [← getElem_L]; rfl
/-- A word of one letter is that of its number. -/
theorem lk_S {s : ByteArray} (h1 : s.size = 1) (hl : ∀ c ∈ L s, isL c = true) : s = S [letr (lkA s : Int)] := by
  obtain ⟨e1, -, -⟩ := lk_letter h1 hl
  have h3 := oneS h1
  have hi : isL (s[0]'(by omega)) = true := hl _ (by rw [getElem_L]; exact List.getElem_mem _)
  have h5 := (isL_iff _).1 hi
  have h6 : letr (dig (s[0]'(by omega))) = s[0]'(by omega) := letr_dig ⟨h5.1, h5.2⟩
  rw [e1] at h6
  rw [h6]; exact h3
theorem letr_inj {a b : Nat} (ha : a < 10) (hb : b < 10) (h : letr (a : Int) = letr (b : Int)) : a = b := by
  have := congrArg dig h
  rw [dig_letr, dig_letr] at this
  omega
structure LnkOk (x : Lnk) : Prop where
  p1 : x.p.size = 1
  c1 : x.c.size = 1
  wd : wordB (x.p ++ x.c) = true
  pl : lkA x.p < 10
  cl : lkA x.c < 10
  pe : x.p = S [letr (lkA x.p : Int)]
  ce : x.c = S [letr (lkA x.c : Int)]
  nn : lkA x.p ≠ lkA x.c
  k1 : 1 ≤ x.k
  k60 : x.k ≤ 60
theorem menuB_lnk {ms : List Lnk} (h : menuB ms = true) : ∀ x ∈ ms, LnkOk x := by
  intro x hx
  obtain ⟨i, hi, rfl⟩ := List.getElem_of_mem hx
  have ho := okLnk_iff.1 (okFrom_asc ms 0 (menuB_ok h).2.2 i hi)
  have hp := menuB_pos (menuB_ok h).2.2 i hi
  have hw := word_two ho.2.2.1
  have e1 := lk_S ho.1 hw.1
  have e2 := lk_S ho.2.1 hw.2
  refine ⟨ho.1, ho.2.1, ho.2.2.1, (lk_letter ho.1 hw.1).2.1, (lk_letter ho.2.1 hw.2).2.1, e1, e2, fun e => ho.2.2.2.1 ?_, by omega, ho.2.2.2.2.2⟩
  rw [e1, e2, e]
/-- The wires of a link, with the key of the machine without pairs. -/
def lnkG (m : Mach) (v : ByteArray) (x : Lnk) : List Wire :=
  [⟨lkA x.p, lkA x.c, pAt (keyN (bareM m) v (x.k.toNat - 1))⟩, ⟨lkA x.c, lkA x.p, pAt (keyN (bareM m) v (x.k.toNat - 1))⟩]
/-- The wires of a menu. -/
def menG (m : Mach) (v : ByteArray) (ms : List Lnk) : List Wire := ms.flatMap (lnkG m v)
theorem mem_menG {m : Mach} {v : ByteArray} {ms : List Lnk} {r : Wire} : r ∈ menG m v ms ↔ ∃ x ∈ ms, r ∈ lnkG m v x := List.mem_flatMap
theorem menG_snoc {m : Mach} {v : ByteArray} {ms : List Lnk} {c : Nat} (h : c < ms.length) : menG m v (ms.take (c + 1)) = menG m v (ms.take c) ++ lnkG m v ms[c] := by
  unfold menG
  rw [List.take_succ_eq_append_getElem h, List.flatMap_append]
  simp
theorem mem_lnkG {m : Mach} {v : ByteArray} {x : Lnk} {r : Wire} : r ∈ lnkG m v x ↔ r = ⟨lkA x.p, lkA x.c, pAt (keyN (bareM m) v (x.k.toNat - 1))⟩ ∨ r = ⟨lkA x.c, lkA x.p, pAt (keyN (bareM m) v (x.k.toNat - 1))⟩ := by
  simp [lnkG]
section
variable {m : Mach} {v : ByteArray} {ms : List Lnk}
theorem menG_ok (h : machB m = true) (hm : menuB ms = true) : GOk (menG m v ms) := by
  intro r hr
  obtain ⟨x, hx, hr⟩ := mem_menG.1 hr
  have hk := isP_keyN (machB_bare h) v (x.k.toNat - 1)
  have ho := menuB_lnk hm x hx
  rcases mem_lnkG.1 hr with rfl | rfl
  · exact ⟨ho.pl, ho.cl, fun b hb => hk.at_lt hb⟩
  · exact ⟨ho.cl, ho.pl, fun b hb => hk.at_lt hb⟩
theorem menG_sym (h : machB m = true) : GSym (menG m v ms) := by
  intro r hr
  obtain ⟨x, hx, hr⟩ := mem_menG.1 hr
  have hi : ∀ b, b < 10 → pAt (keyN (bareM m) v (x.k.toNat - 1)) (pAt (keyN (bareM m) v (x.k.toNat - 1)) b) = b := fun b hb => inv_keyN (machB_bare h) v _ hb
  rcases mem_lnkG.1 hr with rfl | rfl
  · exact ⟨_, mem_menG.2 ⟨x, hx, mem_lnkG.2 (.inr rfl)⟩, rfl, rfl, hi⟩
  · exact ⟨_, mem_menG.2 ⟨x, hx, mem_lnkG.2 (.inl rfl)⟩, rfl, rfl, hi⟩
/-- If a machine keeps a menu, each wire leads from a pair of its plugboard to a pair of its plugboard. -/
theorem menG_keep (h : machB m = true) (hm : menuB ms = true) (hk : ms.all (chk1 m v) = true) : ∀ r ∈ menG m v ms, r.p (pAt (dg m.plugs) r.f) = pAt (dg m.plugs) r.t := by
  intro r hr
  obtain ⟨x, hx, hr⟩ := mem_menG.1 hr
  have ho := menuB_lnk hm x hx
  have hc := List.all_eq_true.1 hk x hx
  unfold chk1 at hc
  have hc1 := beq_iff_eq.1 hc
  rcases mem_lnkG.1 hr with rfl | rfl
  · have := chk_bare (v := v) (k := x.k.toNat - 1) h ho.pl ho.cl
    rw [hc] at this
    exact beq_iff_eq.1 this
  · have := chk_bare (v := v) (k := x.k.toNat - 1) h ho.cl ho.pl
    rw [show pAt (keyN m v (x.k.toNat - 1)) (lkA x.c) = lkA x.p by rw [← hc1]; exact inv_keyN h v _ ho.pl] at this
    simp only [beq_self_eq_true] at this
    exact beq_iff_eq.1 this
theorem menG_bare : menG (bareM m) v ms = menG m v ms := rfl
/-- A link with its letters exchanged. -/
def turnL (x : Lnk) : Lnk := ⟨x.c, x.p, x.k⟩
theorem menG_turn (r : Wire) : r ∈ menG m v (ms.map turnL) ↔ r ∈ menG m v ms := by
  rw [mem_menG, mem_menG]
  constructor
  · rintro ⟨x, hx, hr⟩
    obtain ⟨y, hy, rfl⟩ := List.mem_map.1 hx
    exact ⟨y, hy, mem_lnkG.2 ((mem_lnkG.1 hr).symm)⟩
  · rintro ⟨x, hx, hr⟩
    exact ⟨_, List.mem_map_of_mem hx, mem_lnkG.2 ((mem_lnkG.1 hr).symm)⟩
end
/-- Which pairs follow from a pair. -/
noncomputable def impG (m : Mach) (v : ByteArray) (ms : List Lnk) (x y : Nat) : Nat → Nat → Bool := impB (menG m v ms) x y
theorem impG_symm (m : Mach) (v : ByteArray) (ms : List Lnk) (x y a b : Nat) : impG m v ms x y a b = impG m v ms x y b a := impB_symm _ _ _ _ _

/-- How many links a letter has. -/
def degN (ms : List Lnk) (n : Nat) : Nat := ms.countP fun x => lkA x.p == n || lkA x.c == n
/-- The first of some letters with the most links. -/
def cenTo (ms : List Lnk) : Nat → Nat
  | 0 => 0
  | k + 1 => if degN ms (cenTo ms k) < degN ms (k + 1) then k + 1 else cenTo ms k
def cenN (ms : List Lnk) : Nat := cenTo ms 9
theorem cenTo_le (ms : List Lnk) : ∀ k, cenTo ms k ≤ k
  | 0 => Nat.le_refl _
  | k + 1 => by
    have := cenTo_le ms k
    unfold cenTo; split <;> omega
theorem cenN_lt (ms : List Lnk) : cenN ms < 10 := by have := cenTo_le ms 9; unfold cenN; omega
theorem cenTo_max (ms : List Lnk) : ∀ k n, n ≤ k → degN ms n ≤ degN ms (cenTo ms k)
  | 0, n, h => by
    have : n = 0 := by omega
    subst this; exact Nat.le_refl _
  | k + 1, n, h => by
    have ih := cenTo_max ms k
    unfold cenTo
    by_cases hn : n ≤ k
    · have := ih n hn
      split <;> omega
    · have : n = k + 1 := by omega
      subst this
      split <;> omega
theorem cenN_max (ms : List Lnk) {n : Nat} (h : n < 10) : degN ms n ≤ degN ms (cenN ms) := cenTo_max ms 9 n (by omega)
theorem degN_le (ms : List Lnk) (n : Nat) : degN ms n ≤ ms.length := List.countP_le_length
theorem degN_turn (ms : List Lnk) (n : Nat) : degN (ms.map turnL) n = degN ms n := by
  unfold degN
  rw [List.countP_map]
  congr 1
  funext x
  exact Bool.or_comm _ _

/-- The plugboard of pairs. -/
def boardL (R : Nat → Nat → Bool) : List Nat := (List.range 10).map (mate R)
theorem len_boardL (R : Nat → Nat → Bool) : (boardL R).length = 10 := by simp [boardL]
theorem at_boardL {R : Nat → Nat → Bool} {a : Nat} (h : a < 10) : pAt (boardL R) a = mate R a := by
  rw [pAt_get (by rw [len_boardL]; exact h)]; simp [boardL]
theorem isP_boardL {R : Nat → Nat → Bool} (hs : ∀ a b, R a b = R b a) (h1 : oneB R = true) : IsP (boardL R) :=
  isP_mk (len_boardL R) (fun i hi => by rw [at_boardL hi]; exact mate_lt hi) (fun i j hi hj e => by
    rw [at_boardL hi, at_boardL hj] at e
    rw [← mate_mate hs h1 hi, ← mate_mate hs h1 hj, e])
theorem inv_boardL {R : Nat → Nat → Bool} (hs : ∀ a b, R a b = R b a) (h1 : oneB R = true) : Inv (boardL R) :=
  Inv.of_at (isP_boardL hs h1) fun i hi => by rw [at_boardL hi, at_boardL (mate_lt hi), mate_mate hs h1 hi]
theorem plugB_wd {p : List Nat} (h : IsP p) (k : Inv p) : plugB (wd p) = true := by
  unfold plugB
  rw [permB_wd h, dg_wd h.lt]
  simp only [Bool.true_and, decide_eq_true_eq]
  exact k
theorem oneB_congr {R Q : Nat → Nat → Bool} (h : ∀ a b, a < 10 → b < 10 → R a b = Q a b) : oneB R = oneB Q := by
  rw [Bool.eq_iff_iff, oneB_iff, oneB_iff]
  constructor
  · intro k a b c ha hb hc h1 h2
    exact k a b c ha hb hc (by rw [h a b ha hb]; exact h1) (by rw [h a c ha hc]; exact h2)
  · intro k a b c ha hb hc h1 h2
    exact k a b c ha hb hc (by rw [← h a b ha hb]; exact h1) (by rw [← h a c ha hc]; exact h2)
theorem find_congr {P Q : Nat → Bool} : ∀ {l : List Nat}, (∀ b ∈ l, P b = Q b) → l.find? P = l.find? Q
  | [], _ => rfl
  | x :: l, h => by
    rw [List.find?_cons, List.find?_cons, h x (by simp), find_congr (fun b hb => h b (by simp [hb]))]
theorem mate_congr {R Q : Nat → Nat → Bool} {a : Nat} (h : ∀ b, b < 10 → R a b = Q a b) : mate R a = mate Q a := by
  unfold mate
  rw [find_congr (fun b hb => h b (by simpa using hb))]
theorem boardL_congr {R Q : Nat → Nat → Bool} (h : ∀ a b, a < 10 → b < 10 → R a b = Q a b) : boardL R = boardL Q :=
  List.map_congr_left fun a ha => mate_congr fun b hb => h a b (by simpa using ha) hb
/-- With fewer pairs no letter is in more. -/
theorem oneB_mono {R Q : Nat → Nat → Bool} (h : ∀ a b, R a b = true → Q a b = true) (k : oneB Q = true) : oneB R = true :=
  oneB_iff.2 fun a b c ha hb hc h1 h2 => oneB_iff.1 k a b c ha hb hc (h _ _ h1) (h _ _ h2)
/-- What PairsBoard answers. -/
def brdT (R : Nat → Nat → Bool) : ByteArray × Bool := if oneB R = true then (wd (boardL R), true) else (S [], false)
theorem brdT_congr {R Q : Nat → Nat → Bool} (h : ∀ a b, a < 10 → b < 10 → R a b = Q a b) : brdT R = brdT Q := by
  unfold brdT
  rw [oneB_congr h, boardL_congr h]

/-- Whether a string is a pair of letters. -/
def pairB (s : ByteArray) : Bool := decide (s.size = 2) && wordB s
theorem pairB_size {s : ByteArray} (h : pairB s = true) : s.size = 2 := by simp only [pairB, Bool.and_eq_true, decide_eq_true_eq] at h; exact h.1
theorem pairB_word {s : ByteArray} (h : pairB s = true) : wordB s = true := by simp only [pairB, Bool.and_eq_true] at h; exact h.2
theorem pairB_lt {s : ByteArray} (h : pairB s = true) : pAt (dg s) 0 < 10 ∧ pAt (dg s) 1 < 10 := by
  have h2 := pairB_size h
  have hl := word_dg_lt (pairB_word h)
  have hz := len_dg s
  exact ⟨by rw [pAt_get (by omega)]; exact hl _ (List.getElem_mem _), by rw [pAt_get (by omega)]; exact hl _ (List.getElem_mem _)⟩
theorem pairB_wd {a b : Nat} : pairB (wd [a, b]) = true := by
  simp only [pairB, Bool.and_eq_true, decide_eq_true_eq]
  exact ⟨by rw [size_wd]; rfl, word_wd (by simp)⟩
theorem dg2 {a b : Nat} (ha : a < 10) (hb : b < 10) : dg (wd [a, b]) = [a, b] := dg_wd (by simp [ha, hb])
/-- A pair as a text. -/
def pw (q : Nat × Nat) : ByteArray := wd [q.1, q.2]
theorem pw_inj {p q : Nat × Nat} (h1 : p.1 < 10 ∧ p.2 < 10) (h2 : q.1 < 10 ∧ q.2 < 10) (e : pw p = pw q) : p = q := by
  have := wd_inj (p := [p.1, p.2]) (q := [q.1, q.2]) (by simp [h1]) (by simp [h2]) e
  simp only [List.cons.injEq, and_true] at this
  exact Prod.ext this.1 this.2
/-- The pairs of a letter with the letters from itself up to k. -/
def rowP (R : Nat → Nat → Bool) (a k : Nat) : List (Nat × Nat) := ((List.range k).filter fun b => decide (a ≤ b) && R a b).map fun b => (a, b)
/-- The pairs of the first k letters. -/
def impP (R : Nat → Nat → Bool) : Nat → List (Nat × Nat)
  | 0 => []
  | k + 1 => impP R k ++ rowP R k 10
theorem mem_rowP {R : Nat → Nat → Bool} {a k : Nat} {q : Nat × Nat} : q ∈ rowP R a k ↔ q.1 = a ∧ a ≤ q.2 ∧ q.2 < k ∧ R q.1 q.2 = true := by
  obtain ⟨x, y⟩ := q
  simp only [rowP, List.mem_map, List.mem_filter, List.mem_range, Bool.and_eq_true, decide_eq_true_eq, Prod.mk.injEq]
  constructor
  · rintro ⟨b, ⟨h1, h2, h3⟩, rfl, rfl⟩
    exact ⟨rfl, h2, h1, h3⟩
  · rintro ⟨rfl, h1, h2, h3⟩
    exact ⟨y, ⟨h2, h1, h3⟩, rfl, rfl⟩
theorem mem_impP {R : Nat → Nat → Bool} {q : Nat × Nat} : ∀ {k : Nat}, q ∈ impP R k ↔ q.1 < k ∧ q.1 ≤ q.2 ∧ q.2 < 10 ∧ R q.1 q.2 = true
  | 0 => by simp [impP]
  | k + 1 => by
    rw [impP, List.mem_append, mem_impP (k := k), mem_rowP]
    constructor
    · rintro (⟨h1, h2⟩ | ⟨rfl, h2, h3⟩)
      · exact ⟨by omega, h2⟩
      · exact ⟨by omega, h2, h3⟩
    · rintro ⟨h1, h2, h3⟩
      by_cases h : q.1 = k
      · subst h; exact .inr ⟨rfl, h2, h3⟩
      · exact .inl ⟨by omega, h2, h3⟩
theorem asc_rowP (R : Nat → Nat → Bool) (a k : Nat) : (rowP R a k).Pairwise fun p q => p.1 < q.1 ∨ (p.1 = q.1 ∧ p.2 < q.2) := by
  unfold rowP
  rw [List.pairwise_map]
  refine List.Pairwise.filter _ ?_
  refine List.Pairwise.imp ?_ List.pairwise_lt_range
  intro x y h
  exact .inr ⟨rfl, h⟩
theorem asc_impP (R : Nat → Nat → Bool) : ∀ k, (impP R k).Pairwise fun p q => p.1 < q.1 ∨ (p.1 = q.1 ∧ p.2 < q.2)
  | 0 => by simp [impP]
  | k + 1 => by
    rw [impP, List.pairwise_append]
    refine ⟨asc_impP R k, asc_rowP R k 10, fun p hp q hq => .inl ?_⟩
    have h1 := mem_impP.1 hp
    have h2 := mem_rowP.1 hq
    omega
/-- The set of some pairs. -/
def setP (ps : List (Nat × Nat)) (a b : Nat) : Bool := ps.any fun q => q == (a, b) || q == (b, a)
theorem setP_iff {ps : List (Nat × Nat)} {a b : Nat} : setP ps a b = true ↔ (a, b) ∈ ps ∨ (b, a) ∈ ps := by
  simp only [setP, List.any_eq_true, Bool.or_eq_true, beq_iff_eq]
  constructor
  · rintro ⟨q, hq, rfl | rfl⟩
    · exact .inl hq
    · exact .inr hq
  · rintro (h | h)
    · exact ⟨_, h, .inl rfl⟩
    · exact ⟨_, h, .inr rfl⟩
theorem setP_symm (ps : List (Nat × Nat)) (a b : Nat) : setP ps a b = setP ps b a := by
  rw [Bool.eq_iff_iff, setP_iff, setP_iff, or_comm]
theorem setP_snoc (ps : List (Nat × Nat)) (q : Nat × Nat) : setP (ps ++ [q]) = addR (setP ps) q.1 q.2 := by
  funext a b
  rw [Bool.eq_iff_iff, setP_iff]
  simp only [List.mem_append, List.mem_singleton, addR, Bool.or_eq_true, setP_iff, Bool.and_eq_true, beq_iff_eq]
  obtain ⟨x, y⟩ := q
  simp only [Prod.mk.injEq]
  constructor
  · rintro ((h | h) | (h | h))
    · exact .inl (.inl h)
    · exact .inr (.inl h)
    · exact .inl (.inr h)
    · exact .inr (.inr ⟨h.2, h.1⟩)
  · rintro ((h | h) | (h | h))
    · exact .inl (.inl h)
    · exact .inr (.inl h)
    · exact .inl (.inr h)
    · exact .inr (.inr ⟨h.2, h.1⟩)
/-- The set of the pairs of a set. -/
theorem setP_impP {R : Nat → Nat → Bool} (hs : ∀ a b, R a b = R b a) {a b : Nat} (ha : a < 10) (hb : b < 10) : setP (impP R 10) a b = R a b := by
  rw [Bool.eq_iff_iff, setP_iff, mem_impP, mem_impP]
  simp only
  constructor
  · rintro (h | h)
    · exact h.2.2.2
    · rw [hs]; exact h.2.2.2
  · intro h
    by_cases hab : a ≤ b
    · exact .inl ⟨ha, hab, hb, h⟩
    · exact .inr ⟨hb, by omega, ha, by rw [hs]; exact h⟩
/-- The set of what the reference's search finds. -/
theorem SInv.setP {G : List Wire} {x y k : Nat} {out : List (Nat × Nat)} (h : SInv G x y out k) (hk : out.length ≤ k) (a b : Nat) : Go.Proofs.YtdmnkcmkpjmfaaaGreat.setP out a b = impB G x y a b := by
  rw [Bool.eq_iff_iff, setP_iff, impB_iff, ← h.end_ hk a b]
  constructor
  · rintro (h1 | h1)
    · have := h.ord _ h1
      rw [norm_le this]; exact h1
    · have := h.ord _ h1
      rw [norm_symm, norm_le this]; exact h1
  · intro h1
    rcases norm_cases a b with e | e <;> rw [e] at h1
    · exact .inl h1
    · exact .inr h1

/-- What ImpliedPairs answers, as pairs. -/
noncomputable def impL (m : Mach) (v : ByteArray) (ms : List Lnk) (s : ByteArray) : List (Nat × Nat) :=
  if (setB m v && (menuB ms && pairB s)) = true then impP (impG m v ms (pAt (dg s) 0) (pAt (dg s) 1)) 10 else []
/-- What ImpliedPairs answers. -/
noncomputable def impT (m : Mach) (v : ByteArray) (ms : List Lnk) (s : ByteArray) : List ByteArray := (impL m v ms s).map pw
/-- The hypotheses. -/
noncomputable def hypL (m : Mach) (v : ByteArray) (ms : List Lnk) : List Nat := (List.range 10).filter fun y => oneB (impG m v ms (cenN ms) y)
noncomputable def hypT (m : Mach) (v : ByteArray) (ms : List Lnk) : ByteArray := if (setB m v && menuB ms) = true then wd (hypL m v ms) else S []
/-- What MenuBoards answers. -/
noncomputable def mbdT (m : Mach) (v : ByteArray) (ms : List Lnk) : List ByteArray :=
  if (setB m v && menuB ms) = true then (hypL m v ms).map fun y => wd (boardL (impG m v ms (cenN ms) y)) else []
/-- What BombeStops answers. -/
noncomputable def stpT (m : Mach) (vs : List ByteArray) (ms : List Lnk) : List ByteArray :=
  if (machB m && (menuB ms && (decide (vs.length ≤ 12) && vs.all (setB m)))) = true then vs.filter fun v => !(hypL m v ms).isEmpty else []
end Go.Proofs.YtdmnkcmkpjmfaaaGreat

/- Plugboards out of pairs, as the reference makes them; rows of bits with at most one bit: plain. -/
namespace Go.Proofs.YtdmnkcmkpjmfaaaGreat

/-- Whether a letter is in a pair. -/
def tiedB (R : Nat → Nat → Bool) (a : Nat) : Bool := (List.range 10).any (R a)
theorem tiedB_iff {R : Nat → Nat → Bool} {a : Nat} : tiedB R a = true ↔ ∃ b, b < 10 ∧ R a b = true := by simp [tiedB]
theorem mate_loose {R : Nat → Nat → Bool} {a : Nat} (h : tiedB R a = false) : mate R a = a := mate_none fun b hb => by
  rw [Bool.eq_false_iff]
  intro e
  have := tiedB_iff.2 ⟨b, hb, e⟩
  rw [h] at this; cases this
/-- The letters that pairs tell, a dash where they tell none. -/
def brdL (R : Nat → Nat → Bool) : List UInt8 := (List.range 10).map fun a => if tiedB R a = true then letr (mate R a : Int) else 45
theorem len_brdL (R : Nat → Nat → Bool) : (brdL R).length = 10 := by simp [brdL]
theorem brdL_at (R : Nat → Nat → Bool) {a : Nat} (h : a < 10) : (brdL R)[a]'(by rw [len_brdL]; exact h) = if tiedB R a = true then letr (mate R a : Int) else 45 := by simp [brdL]
theorem brdL_none : brdL (fun _ _ => false) = List.replicate 10 45 := by
  refine List.ext_getElem (by simp [brdL]) fun i h1 h2 => ?_
  have hi : i < 10 := by simpa [len_brdL] using h1
  rw [brdL_at _ hi, if_neg (by rw [Bool.not_eq_true, Bool.eq_false_iff]; intro e; obtain ⟨b, -, h⟩ := tiedB_iff.1 e; cases h), List.getElem_replicate]
section
variable {R : Nat → Nat → Bool} {x y : Nat}
theorem one_addR (h : oneB R = true) (h1 : ∀ b, b < 10 → R x b = true → b = y) (h2 : ∀ b, b < 10 → R y b = true → b = x) : oneB (addR R x y) = true := by
  refine oneB_iff.2 fun a b c ha hb hc e1 e2 => ?_
  rcases addR_cases e1 with e1 | ⟨k1, k2⟩ | ⟨k1, k2⟩
  · rcases addR_cases e2 with e2 | ⟨k3, k4⟩ | ⟨k3, k4⟩
    · exact oneB_iff.1 h a b c ha hb hc e1 e2
    · rw [k4]; exact h1 b hb (k3 ▸ e1)
    · rw [k4]; exact h2 b hb (k3 ▸ e1)
  · rcases addR_cases e2 with e2 | ⟨k3, k4⟩ | ⟨k3, k4⟩
    · rw [k2]; exact (h1 c hc (k1 ▸ e2)).symm
    · omega
    · omega
  · rcases addR_cases e2 with e2 | ⟨k3, k4⟩ | ⟨k3, k4⟩
    · rw [k2]; exact (h2 c hc (k1 ▸ e2)).symm
    · omega
    · omega
theorem brdL_add (hs : ∀ a b, R a b = R b a) (hx : x < 10) (hy : y < 10) (h : oneB R = true) (h1 : ∀ b, b < 10 → R x b = true → b = y) (h2 : ∀ b, b < 10 → R y b = true → b = x) :
    brdL (addR R x y) = ((brdL R).set x (letr (y : Int))).set y (letr (x : Int)) := by
  have ho := one_addR h h1 h2
  have hxy := addR_new R x y
  have hyx : addR R x y y x = true := by rw [addR_symm hs]; exact hxy
  refine List.ext_getElem (by simp [len_brdL]) fun i h3 h4 => ?_
  have hi : i < 10 := by simpa [len_brdL] using h3
  rw [brdL_at _ hi, List.getElem_set]
  by_cases e1 : y = i
  · subst e1
    rw [if_pos rfl, if_pos (tiedB_iff.2 ⟨x, hx, hyx⟩), mate_eq ho hy hx hyx]
  · rw [if_neg e1, List.getElem_set]
    by_cases e2 : x = i
    · subst e2
      rw [if_pos rfl, if_pos (tiedB_iff.2 ⟨y, hy, hxy⟩), mate_eq ho hx hy hxy]
    · rw [if_neg e2, brdL_at _ hi]
      have hc : ∀ b, addR R x y i b = R i b := fun b => by
        rw [Bool.eq_iff_iff]
        refine ⟨fun e => ?_, addR_old⟩
        rcases addR_cases e with e | ⟨h, -⟩ | ⟨h, -⟩
        · exact e
        · exact absurd h.symm e2
        · exact absurd h.symm e1
      have hh : tiedB (addR R x y) i = tiedB R i := by
        unfold tiedB
        congr 1
        funext b; exact hc b
      rw [hh, mate_congr (fun b _ => hc b)]
/-- A pair against another one. -/
theorem one_not {b : Nat} (hx : x < 10) (hy : y < 10) (hb : b < 10) (h : R x b = true) (hne : b ≠ y) : oneB (addR R x y) = false := by
  rw [Bool.eq_false_iff]
  intro e
  exact hne (oneB_iff.1 e x b y hx hb hy (addR_old h) (addR_new _ _ _))
theorem oneB_no {Q : Nat → Nat → Bool} (h : ∀ a b, R a b = true → Q a b = true) (k : oneB R = false) : oneB Q = false := by
  rw [Bool.eq_false_iff]
  intro e
  rw [oneB_mono h e] at k; cases k
end
/-- The letters that pairs tell, with the letters below k filled in. -/
def filL (R : Nat → Nat → Bool) (k : Nat) : List UInt8 := (List.range 10).map fun a => if (tiedB R a || decide (a < k)) = true then letr (mate R a : Int) else 45
theorem len_filL (R : Nat → Nat → Bool) (k : Nat) : (filL R k).length = 10 := by simp [filL]
theorem filL_at (R : Nat → Nat → Bool) (k : Nat) {a : Nat} (h : a < 10) : (filL R k)[a]'(by rw [len_filL]; exact h) = if (tiedB R a || decide (a < k)) = true then letr (mate R a : Int) else 45 := by simp [filL]
theorem filL_zero (R : Nat → Nat → Bool) : filL R 0 = brdL R := by
  refine List.ext_getElem (by simp [len_filL, len_brdL]) fun i h1 h2 => ?_
  have hi : i < 10 := by simpa [len_filL] using h1
  rw [filL_at _ _ hi, brdL_at _ hi]
  simp
theorem filL_has {R : Nat → Nat → Bool} {k : Nat} (h : tiedB R k = true) : filL R (k + 1) = filL R k := by
  refine List.ext_getElem (by simp [len_filL]) fun i h1 h2 => ?_
  have hi : i < 10 := by simpa [len_filL] using h1
  rw [filL_at _ _ hi, filL_at _ _ hi]
  by_cases e : i = k
  · subst e; simp [h]
  · have : decide (i < k + 1) = decide (i < k) := by rw [decide_eq_decide]; omega
    rw [this]
theorem filL_not {R : Nat → Nat → Bool} {k : Nat} (h : tiedB R k = false) : filL R (k + 1) = (filL R k).set k (letr (k : Int)) := by
  refine List.ext_getElem (by simp [len_filL]) fun i h1 h2 => ?_
  have hi : i < 10 := by simpa [len_filL] using h1
  rw [filL_at _ _ hi, List.getElem_set]
  by_cases e : k = i
  · subst e
    rw [if_pos rfl, mate_loose h]; simp
  · rw [if_neg e, filL_at _ _ hi]
    have : decide (i < k + 1) = decide (i < k) := by rw [decide_eq_decide]; omega
    rw [this]
theorem filL_ten (R : Nat → Nat → Bool) : S (filL R 10) = wd (boardL R) := by
  unfold wd
  congr 1
  refine List.ext_getElem (by simp [len_filL, len_boardL]) fun i h1 h2 => ?_
  have hi : i < 10 := by simpa [len_filL] using h1
  rw [filL_at _ _ hi]
  simp [boardL, hi]
theorem letr_no_dash (n : Int) : letr n ≠ 45 := by
  intro e
  have h1 := letr_toNat n
  rw [e] at h1
  have : (45 : UInt8).toNat = 45 := rfl
  omega
/-- What stands at a letter. -/
theorem brdL_dash {R : Nat → Nat → Bool} {a : Nat} (h : a < 10) (e : tiedB R a = false) : (brdL R)[a]'(by rw [len_brdL]; exact h) = 45 := by
  rw [brdL_at _ h, if_neg (by rw [e]; simp)]
theorem brdL_mate {R : Nat → Nat → Bool} {a : Nat} (h : a < 10) (e : tiedB R a = true) : (brdL R)[a]'(by rw [len_brdL]; exact h) = letr (mate R a : Int) := by
  rw [brdL_at _ h, if_pos e]

/-- Numbers with at most one of the first ten bits. -/
theorem one_bit_all : ((List.range 1024).all fun n => decide ((n &&& (n - 1)) = 0) == ((List.range 10).all fun b => (List.range 10).all fun c => !(n.testBit b && n.testBit c) || b == c)) = true := by decide +kernel
theorem one_bit {n : Nat} (h : n < 1024) : (n &&& (n - 1)) = 0 ↔ ∀ b c, b < 10 → c < 10 → n.testBit b = true → n.testBit c = true → b = c := by
  have := List.all_eq_true.1 one_bit_all n (by simpa using h)
  rw [beq_iff_eq, Bool.eq_iff_iff, decide_eq_true_eq] at this
  rw [this]
  simp only [List.all_eq_true, List.mem_range, Bool.or_eq_true, Bool.not_eq_true', Bool.and_eq_false_iff, beq_iff_eq]
  constructor
  · intro h b c hb hc h1 h2
    rcases h b hb c hc with (h | h) | h
    · rw [h1] at h; cases h
    · rw [h2] at h; cases h
    · exact h
  · intro h b hb c hc
    by_cases h1 : n.testBit b = true
    · by_cases h2 : n.testBit c = true
      · exact .inr (h b c hb hc h1 h2)
      · exact .inl (.inr (by simpa using h2))
    · exact .inl (.inl (by simpa using h1))
/-- Whether the letters below k are in pairs with one letter each. -/
def oneTo (R : Nat → Nat → Bool) (k : Nat) : Bool := (List.range k).all fun a => (List.range 10).all fun b => (List.range 10).all fun c => !(R a b && R a c) || b == c
theorem oneTo_ten (R : Nat → Nat → Bool) : oneTo R 10 = oneB R := rfl
theorem oneTo_succ (R : Nat → Nat → Bool) (k : Nat) : oneTo R (k + 1) = (oneTo R k && ((List.range 10).all fun b => (List.range 10).all fun c => !(R k b && R k c) || b == c)) := by
  simp [oneTo, List.range_succ]
theorem rowN_one {R : Nat → Nat → Bool} {k : Nat} : (rowN (R k) 10 &&& (rowN (R k) 10 - 1)) = 0 ↔ ((List.range 10).all fun b => (List.range 10).all fun c => !(R k b && R k c) || b == c) = true := by
  rw [one_bit (rowN_lt (by omega))]
  simp only [rowN_test, List.all_eq_true, List.mem_range, Bool.or_eq_true, Bool.not_eq_true', Bool.and_eq_false_iff, beq_iff_eq, Bool.and_eq_true, decide_eq_true_eq]
  constructor
  · intro h b hb c hc
    by_cases h1 : R k b = true
    · by_cases h2 : R k c = true
      · exact .inr (h b c hb hc ⟨hb, h1⟩ ⟨hc, h2⟩)
      · exact .inl (.inr (by simpa using h2))
    · exact .inl (.inl (by simpa using h1))
  · intro h b c hb hc h1 h2
    rcases h b hb c hc with (h | h) | h
    · rw [h1.2] at h; cases h
    · rw [h2.2] at h; cases h
    · exact h
theorem oneB_row {R : Nat → Nat → Bool} {k : Nat} (hk : k < 10) (h : (rowN (R k) 10 &&& (rowN (R k) 10 - 1)) ≠ 0) : oneB R = false := by
  rw [Bool.eq_false_iff]
  intro e
  refine h (rowN_one.2 ?_)
  have := List.all_eq_true.1 (show ((List.range 10).all fun a => (List.range 10).all fun b => (List.range 10).all fun c => !(R a b && R a c) || b == c) = true from e) k (by simpa using hk)
  exact this
/-- The board of the letters below x, and of letter x as far as k. -/
def fillR (R : Nat → Nat → Bool) (x k : Nat) : List Nat := (List.range 10).map fun a => if a < x then mate R a else if a = x then ((List.range k).find? (R x)).getD x else a
theorem len_fillR (R : Nat → Nat → Bool) (x k : Nat) : (fillR R x k).length = 10 := by simp [fillR]
theorem fillR_at (R : Nat → Nat → Bool) (x k : Nat) {a : Nat} (h : a < 10) : (fillR R x k)[a]'(by rw [len_fillR]; exact h) = if a < x then mate R a else if a = x then ((List.range k).find? (R x)).getD x else a := by simp [fillR]
theorem fillR_zero (R : Nat → Nat → Bool) : fillR R 0 0 = idP := by
  refine List.ext_getElem (by simp [len_fillR, idP]) fun i h1 h2 => ?_
  have hi : i < 10 := by simpa [len_fillR] using h1
  rw [fillR_at _ _ _ hi]
  simp [idP]
  intro h; exact h.symm
theorem fillR_next (R : Nat → Nat → Bool) (x : Nat) : fillR R x 10 = fillR R (x + 1) 0 := by
  refine List.ext_getElem (by simp [len_fillR]) fun i h1 h2 => ?_
  have hi : i < 10 := by simpa [len_fillR] using h1
  rw [fillR_at _ _ _ hi, fillR_at _ _ _ hi]
  by_cases e1 : i < x
  · rw [if_pos e1, if_pos (by omega)]
  · by_cases e2 : i = x
    · subst e2
      rw [if_neg e1, if_pos rfl, if_pos (by omega)]; rfl
    · rw [if_neg e1, if_neg e2, if_neg (by omega)]
      by_cases e3 : i = x + 1
      · rw [if_pos e3]; simp [e3]
      · rw [if_neg e3]
theorem fillR_ten (R : Nat → Nat → Bool) : fillR R 10 0 = boardL R := by
  refine List.ext_getElem (by simp [len_fillR, len_boardL]) fun i h1 h2 => ?_
  have hi : i < 10 := by simpa [len_fillR] using h1
  rw [fillR_at _ _ _ hi, if_pos hi]
  simp [boardL]
theorem fillR_no {R : Nat → Nat → Bool} {x k : Nat} (h : R x k = false) : fillR R x (k + 1) = fillR R x k := by
  unfold fillR
  rw [List.range_succ, List.find?_append]
  simp [h]
theorem fillR_yes {R : Nat → Nat → Bool} {x k : Nat} (hk : k < 10) (h : R x k = true) (h1 : ∀ b, b < 10 → R x b = true → b = k) : fillR R x (k + 1) = (fillR R x k).set x k := by
  have hn : (List.range k).find? (R x) = none := by
    rw [List.find?_eq_none]
    intro b hb e
    have hb' : b < k := by simpa using hb
    have := h1 b (by omega) e
    omega
  refine List.ext_getElem (by simp [len_fillR]) fun i h2 h3 => ?_
  have hi : i < 10 := by simpa [len_fillR] using h2
  rw [fillR_at _ _ _ hi, List.getElem_set]
  by_cases e : x = i
  · subst e
    rw [if_neg (by omega), if_pos rfl, if_pos rfl, List.range_succ, List.find?_append, hn]
    simp [h]
  · rw [if_neg e, fillR_at _ _ _ hi]
    by_cases e1 : i < x
    · rw [if_pos e1, if_pos e1]
    · rw [if_neg e1, if_neg e1, if_neg (fun h => e h.symm), if_neg (fun h => e h.symm)]
end Go.Proofs.YtdmnkcmkpjmfaaaGreat

/- What follows from a pair, of the reference: pairs and lists of pairs. -/
namespace Go.Proofs.YtdmnkcmkpjmfaaaGreat
open Go.RowKit

theorem l13Pair_any (x y : Nat) (w : World) :
    Calls Tryz.prog 121 #[.int .i64 (x : Int), .int .i64 (y : Int)] w fun e w' => e = .returned (.string (pw (norm x y))) ∧ Below w.heap.size w w' := by
  have n1 := fun W => l1Letter_any (x : Int) W
  have n2 := fun W => l1Letter_any (y : Int) W
  by_cases h : y < x
  · have t0 : decide (y < x) = true := decide_eq_true h
    have HV : Hid (S [letr (y : Int)] ++ S [letr (x : Int)] = pw (norm x y)) := Lib.hid (by unfold norm; rw [if_pos h, S_append]; rfl)
    clear h
    go_enter Tryz.func121, Tryz.ntmps121
    go_wp2_with fail
    refine (n2 _).mono ?_
    rintro e w1 ⟨rfl, hb1⟩
    go_wp2_with fail
    refine (n1 _).mono ?_
    rintro e w2 ⟨rfl, hb2⟩
    go_wp2
    refine bodyPost_ret (v := .string (pw (norm x y))) (by simp [results, Tryz.results121, go_sem, HV.out]) rfl ?_
    exact ⟨rfl, bt hb1 hb2⟩
  · have t0 : decide (y < x) = false := decide_eq_false h
    have HV : Hid (S [letr (x : Int)] ++ S [letr (y : Int)] = pw (norm x y)) := Lib.hid (by unfold norm; rw [if_neg h, S_append]; rfl)
    clear h
    go_enter Tryz.func121, Tryz.ntmps121
    go_wp2_with fail
    refine (n1 _).mono ?_
    rintro e w1 ⟨rfl, hb1⟩
    go_wp2_with fail
    refine (n2 _).mono ?_
    rintro e w2 ⟨rfl, hb2⟩
    go_wp2
    refine bodyPost_ret (v := .string (pw (norm x y))) (by simp [results, Tryz.results121, go_sem, HV.out]) rfl ?_
    exact ⟨rfl, bt hb1 hb2⟩
/-- Whether a string is in a list. -/
def hasS (ss : List ByteArray) (s : ByteArray) : Bool := ss.any fun t => decide (t = s)
theorem hasS_iff {ss : List ByteArray} {s : ByteArray} : hasS ss s = true ↔ s ∈ ss := by simp [hasS]
theorem hasS_no {ss : List ByteArray} {s : ByteArray} (h : ¬ s ∈ ss) : hasS ss s = false := by
  rw [Bool.eq_false_iff]; exact fun e => h (hasS_iff.1 e)
theorem l13Has_any (a : Option Addr) (c : Nat) (ss : List ByteArray) (s : ByteArray) (w : World) (hr : Reads w w.heap.size a (sv ss)) (hl : ss.length ≤ 1048576) :
    Calls Tryz.prog 120 #[.slice a ss.length c, .string s] w fun e w' => e = .returned (.bool (hasS ss s)) ∧ w = w' := by
  go_enter Tryz.func120, Tryz.ntmps120
  go_wp2
  go_loop [5] (fun i => ∃ k : Nat, k ≤ ss.length ∧ i = .int .i64 k ∧ (∀ j (h : j < ss.length), j < k → ss[j] ≠ s)) (fun i => ss.length - (intOf i).toNat)
  case atStart => exact ⟨0, Nat.zero_le _, rfl, fun _ _ h => absurd h (by omega)⟩
  case round =>
    obtain ⟨k, hk, rfl, hn⟩ := hrel
    have HN := Lib.hid hn
    clear hn
    by_cases hlt : k < ss.length
    · obtain ⟨b, off, rfl, hbl, hcl⟩ := hr.open_ (by rw [length_sv]; omega)
      have c1 := hcl k (by rw [length_sv]; exact hlt)
      rw [sv_at hlt] at c1
      clear hcl
      have q1 : (0 : Int) ≤ (k : Int) := by omega
      have q2 : (k : Int) < (ss.length : Int) := by omega
      by_cases he : ss[k] = s
      · have tq : (ss[k].toList == s.toList) = true := by rw [he]; simp
        have HM : Hid (hasS ss s = true) := Lib.hid (hasS_iff.2 (he ▸ List.getElem_mem hlt))
        clear he
        generalize ss[k] = u at *
        go_wp2
        go_ret
        exact ⟨ret_bool HM.out.symm, rfl⟩
      · have tq : (ss[k].toList == s.toList) = false := by
          rw [beq_eq_false_iff_ne]; intro e; exact he (L_inj (by rw [← toList_L, ← toList_L, e]))
        have HM : Hid (∀ j (h : j < ss.length), j < k + 1 → ss[j] ≠ s) := Lib.hid (fun j hj h => by
          by_cases e : j = k
          · subst e; exact he
          · exact HN.out j hj (by omega))
        clear he
        generalize ss[k] = u at *
        go_wp2
        go_round
        case rel => exact ⟨k + 1, by omega, by go_num, HM.out⟩
        case measure => simp [intOf]; omega
    · have hk' : k = ss.length := by omega
      have HM : Hid (hasS ss s = false) := Lib.hid (hasS_no fun hm => by
        obtain ⟨j, hj, e⟩ := List.getElem_of_mem hm
        exact HN.out j hj (by omega) e)
      subst hk'
      go_wp2
      go_ret
      exact ⟨ret_bool HM.out.symm, rfl⟩
/-- What l13Add leaves: the list with the pair, in a row of the call's own. -/
def RowKeep (e : TypeId) (sz base n : Nat) (xs : List Value) (w : World) (E : Ending) (w' : World) : Prop := ∃ v, E = .returned v ∧ OwR w' base e sz v n xs ∧ Below base w w'
theorem pw_mem {out : List (Nat × Nat)} {q : Nat × Nat} (ho : ∀ z ∈ out, z.1 < 10 ∧ z.2 < 10) (hq : q.1 < 10 ∧ q.2 < 10) : pw q ∈ out.map pw ↔ q ∈ out := by
  constructor
  · intro h
    obtain ⟨z, hz, e⟩ := List.mem_map.1 h
    rw [← pw_inj (ho z hz) hq e]; exact hz
  · exact List.mem_map_of_mem
theorem l13Add_any (base : Nat) (v : Value) (out : List (Nat × Nat)) (q : Nat × Nat) (w : World) (h : OwR w base 9 1 v out.length (sv (out.map pw))) (hb : base ≤ w.heap.size) (hl : out.length ≤ 1000) (ho : ∀ z ∈ out, z.1 < 10 ∧ z.2 < 10) (hq : q.1 < 10 ∧ q.2 < 10) :
    Calls Tryz.prog 151 #[v, .string (pw q)] w (RowKeep 9 1 base (addL out q).length (sv ((addL out q).map pw)) w) := by
  obtain ⟨a, c, rfl, hc, hr, -⟩ := h.val
  have hh := fun W h => l13Has_any a c (out.map pw) (pw q) W h (by rw [List.length_map]; omega)
  rw [List.length_map] at hh
  by_cases hm : q ∈ out
  · have HA : Hid (addL out q = out) := Lib.hid (by unfold addL; rw [if_pos hm])
    have hd : hasS (out.map pw) (pw q) = true := hasS_iff.2 ((pw_mem ho hq).2 hm)
    rw [hd] at hh
    clear hm hd
    generalize pw q = s at *
    go_enter Tryz.func151, Tryz.ntmps151
    go_wp2_with (first | (go_at_call 120; ((with_reducible refine (hh _ hr).mono ?_); rintro e w' ⟨rfl, rfl⟩)))
    go_ret
    exact ⟨_, rfl, by rw [HA.out]; exact h, Below.refl _ _⟩
  · have HA : Hid ((addL out q).length = out.length + 1 ∧ sv ((addL out q).map pw) = sv (out.map pw) ++ [.string (pw q)]) := Lib.hid (by unfold addL; rw [if_neg hm]; simp [sv])
    have hd : hasS (out.map pw) (pw q) = false := hasS_no (fun e => hm ((pw_mem ho hq).1 e))
    rw [hd] at hh
    clear hm hd
    generalize pw q = s at *
    go_enter Tryz.func151, Tryz.ntmps151
    go_wp2_with (first | (go_at_call 120; ((with_reducible refine (hh _ hr).mono ?_); rintro e w' ⟨rfl, rfl⟩)) | (at_builtin; ((with_reducible refine wl_push 30 9 info_str Tryz.underlying30 rfl (by omega) h hb rfl (by simp [Value.oneCell']) (by omega) (by omega) rfl rfl ?_); intro g cap w1 o1 b1 k1)))
    go_ret
    exact ⟨_, rfl, by rw [HA.out.1, HA.out.2]; exact o1, b1⟩
end Go.Proofs.YtdmnkcmkpjmfaaaGreat

/- Contracts: a machine is given another plugboard. -/
namespace Go.Proofs.YtdmnkcmkpjmfaaaGreat
open Go.RowKit
attribute [local go_sem] Oper.semAt_some

theorem rvs_one_cell : ∀ (rs : List Rot), ∀ u ∈ rvs rs, u.oneCell' = true
  | [], u, h => by simp [rvs] at h
  | r :: rs, u, h => by
    simp only [rvs, List.mem_cons] at h
    rcases h with rfl | rfl | h
    · rfl
    · rfl
    · exact rvs_one_cell rs u h
/-- A copy of a list of rotors. -/
def CloneP (rs : List Rot) (w : World) (e : Ending) (w' : World) : Prop :=
  ∃ g c, e = .returned (.slice (some ⟨g, 0, none⟩) rs.length c) ∧ w.heap.size ≤ g ∧ Own w' g (rvs rs) ∧ Below w.heap.size w w'
theorem sClone_any (a : Option Addr) (c : Nat) (rs : List Rot) (w : World) (h : Reads w w.heap.size a (rvs rs)) (h1 : 1 ≤ rs.length) (hl : rs.length ≤ 1000000) :
    Calls Tryz.prog 178 #[.slice a rs.length c] w (CloneP rs w) := by
  obtain ⟨b, off, rfl, hb, hc⟩ := h.open_ (by rw [len_rvs]; omega)
  have qT : ∀ (w : World) (a : Option Addr) (n c n' c' : Nat), (binOp .eql 32 (.slice a n c) (.slice none n' c')).run Tryz.prog w = .ok (.bool a.isNone) w := fun w a n c n' c' => Lib.run_eql_slice_nil w _ _ a n c n' c' Tryz.underlying32
  have hb0 := (Below.refl w.heap.size w).alloc (Nat.le_refl _) (.cells #[] 159)
  have own : OwR (w.alloc (.cells #[] 159)) w.heap.size 159 2 (.slice (some ⟨w.heap.size, 0, none⟩) 0 0) 0 [] := by
    simpa using World.ownsRow_lit (base := w.heap.size) (e := 159) (size := 2) w #[] 0 (by simp) (by unfold maxLen; omega) (by simp)
  have hl1 : (rvs rs).length = rs.length * 2 := by rw [len_rvs]; omega
  have hn1 : ∀ j u, (rvs rs)[j]? = some u → (w.alloc (.cells #[] 159)).cell? ((⟨b, off, none⟩ : Addr).add j) = some u := fun j u hu => by
    rw [add_none, hb0.cell (p := ⟨b, off + j, none⟩) hb, hc j (List.getElem?_eq_some_iff.1 hu).1]; exact hu
  have HC := Lib.hid hc
  clear hc h
  go_enter Tryz.func178, Tryz.ntmps178
  go_wp2_with (at_builtin; ((with_reducible refine wl_pushs 32 159 inf_rotor Tryz.underlying32 rfl (by omega) own (by simp) hl1 hn1 (rvs_one_cell rs) (by omega) (by omega) (by omega) rfl rfl ?_); intro g cap w2 o2 b2 k2))
  go_ret
  rw [List.nil_append, Nat.zero_add] at o2
  exact ⟨g, cap, rfl, (World.ownsRow.lt o2 g rfl).1, OwR.own o2, hb0.trans b2⟩
/-- A copy of wheels. -/
def WhlCloneP (x : Whl) (w : World) (e : Ending) (w' : World) : Prop :=
  ∃ g c', e = .returned (.agg #[.slice (some ⟨g, 0, none⟩) x.rotors.length c', .string x.refl]) ∧ w.heap.size ≤ g ∧ Own w' g (rvs x.rotors) ∧ Below w.heap.size w w'
theorem whlClone_any (a : Option Addr) (c : Nat) (x : Whl) (w : World) (h : Reads w w.heap.size a (rvs x.rotors)) (h1 : 1 ≤ x.rotors.length) (hl : x.rotors.length ≤ 1000000) :
    Calls Tryz.prog 155 #[.agg #[.slice a x.rotors.length c, .string x.refl]] w (WhlCloneP x w) := by
  have o0 := (Own.new w [.slice a x.rotors.length c, .string x.refl] 34).alloc (.cells #[.slice none 0 0, .string ⟨#[]⟩] 34)
  have p0 := Own.new (w.alloc (.cells [.slice a x.rotors.length c, .string x.refl].toArray 34)) [.slice none 0 0, .string ⟨#[]⟩] 34
  have hb0 := ((Below.refl w.heap.size w).alloc (Nat.le_refl _) (.cells [.slice a x.rotors.length c, .string x.refl].toArray 34)).alloc (by simp) (.cells #[.slice none 0 0, .string ⟨#[]⟩] 34)
  rw [World.size_alloc] at p0
  have hr := (h.below hb0 (Nat.le_refl _)).more hb0.size
  clear h
  go_enter Tryz.func155, Tryz.ntmps155
  go_wp2_with fail
  generalize ((w.alloc (.cells [.slice a x.rotors.length c, .string x.refl].toArray 34)).alloc (.cells #[.slice none 0 0, .string ⟨#[]⟩] 34)) = W at *
  generalize hB : w.heap.size = B at *
  have l0 := p0.lt
  have l1 := o0.lt
  have HB := Lib.hid hB
  clear hB
  refine wp_onlyN ?_
  refine wp_region_any (by kernel_rfl) ?_
  refine wpAny_of_K (S := fun w' => w'.cell? ⟨B, 0, none⟩ = some (.slice a x.rotors.length c) ∧ w'.cell? ⟨B, 1, none⟩ = some (.string x.refl)) (kp := fun _ => true) _ _ _ _ ?_
  have hS : (fun w' : World => w'.cell? ⟨B, 0, none⟩ = some (.slice a x.rotors.length c) ∧ w'.cell? ⟨B, 1, none⟩ = some (.string x.refl)) W.drew := ⟨o0.drew.at_ (i := 0) rfl, o0.drew.at_ (i := 1) rfl⟩
  refine kr_take 0 3 (v := .pointer (some ⟨B, 0, none⟩)) rfl (by kernel_rfl) (by kernel_rfl) (by kernel_rfl) (by kernel_rfl) (fun _ _ _ h => by cases h.1) rfl hS (Or.inl ⟨by rfl, fun _ _ => by simp [go_sem]⟩) ?_; simp only [Act.put, List.setIfInBounds_toArray, List.set_cons_succ, List.set_cons_zero]
  refine kr_take 1 4 (v := .slice a x.rotors.length c) rfl (by kernel_rfl) (by kernel_rfl) (by kernel_rfl) (by kernel_rfl) (fun _ _ _ h => by cases h.1) rfl hS (Or.inl ⟨by rfl, fun w' hw' => by have hw1 := hw'.1; simp [go_sem, hw1]⟩) ?_; simp only [Act.put, List.setIfInBounds_toArray, List.set_cons_succ, List.set_cons_zero]
  refine kr_take 3 6 (v := .pointer (some ⟨B, 1, none⟩)) rfl (by kernel_rfl) (by kernel_rfl) (by kernel_rfl) (by kernel_rfl) (fun _ _ _ h => by cases h.1) rfl hS (Or.inl ⟨by rfl, fun _ _ => by simp [go_sem]⟩) ?_; simp only [Act.put, List.setIfInBounds_toArray, List.set_cons_succ, List.set_cons_zero]
  refine kr_take 4 7 (v := .string x.refl) rfl (by kernel_rfl) (by kernel_rfl) (by kernel_rfl) (by kernel_rfl) (fun _ _ _ h => by cases h.1) rfl hS (Or.inl ⟨by rfl, fun w' hw' => by have hw1 := hw'.2; simp [go_sem, hw1]⟩) ?_; simp only [Act.put, List.setIfInBounds_toArray, List.set_cons_succ, List.set_cons_zero]
  refine kr_callM 2 5 (by kernel_rfl) rfl (by rfl) rfl (fun w => by simp [go_sem]) (sClone_any a c x.rotors W.drew (hr.keep (fun _ _ => rfl)) h1 hl) (fun e w1 hT => ?_)
  obtain ⟨g, c', rfl, hg, og, hb1⟩ := hT
  have hgW : W.heap.size ≤ g := hg
  have o1 := o0.drew.below hb1 o0.lt
  have p1 := p0.drew.below hb1 p0.lt
  have hS1 : (fun w' : World => w'.cell? ⟨B, 0, none⟩ = some (.slice a x.rotors.length c) ∧ w'.cell? ⟨B, 1, none⟩ = some (.string x.refl)) w1 := ⟨o1.at_ (i := 0) rfl, o1.at_ (i := 1) rfl⟩
  refine ⟨_, rfl, hS1, ?_⟩
  simp only [Act.put, List.setIfInBounds_toArray, List.set_cons_succ, List.set_cons_zero]
  have hS := hS1
  refine kr_take 5 8 (v := .agg #[.slice (some ⟨g, 0, none⟩) x.rotors.length c', .string x.refl]) rfl (by kernel_rfl) (by kernel_rfl) (by kernel_rfl) (by kernel_rfl) (fun _ _ _ h => by cases h.1) rfl hS (Or.inl ⟨by rfl, fun _ _ => by simp [go_sem]⟩) ?_; simp only [Act.put, List.setIfInBounds_toArray, List.set_cons_succ, List.set_cons_zero]
  have e0 := p1.at_ (i := 0) rfl
  have e1 := p1.at_ (i := 1) rfl
  have g0 := p1.free 0 (by simp)
  have g1 := p1.free 1 (by simp)
  refine kr_one 6 (by kernel_rfl) rfl (by rfl) ?_
  simp [Oper.wp, Oper.upon, go_sem, e0, e1, g0, g1]
  have pz := (p1.set_ (i := 0) (by simp) (.slice (some ⟨g, 0, none⟩) x.rotors.length c')).set_ (i := 1) (by simp) (.string x.refl)
  refine ⟨hS1, ?_⟩
  refine ⟨by kernel_rfl, onlyN_mk ?_⟩
  have k0 := pz.at_ (i := 0) rfl
  have k1 := pz.at_ (i := 1) rfl
  go_wp2
  refine bodyPost_ret (v := .agg #[.slice (some ⟨g, 0, none⟩) x.rotors.length c', .string x.refl]) (by simp [results, Tryz.results155, go_sem, k0, k1]) rfl ?_
  exact ⟨g, c', rfl, by rw [HB.out]; omega, (og.far (by simp; omega) _).far (by simp; omega) _, by rw [HB.out]; exact ((hb0.drew.trans (hb1.mono (show B ≤ W.heap.size by omega))).setCell (show B ≤ B + 1 by omega) _).setCell (show B ≤ B + 1 by omega) _⟩
/-- A machine without pairs on its plugboard, its rotors copied. -/
def WithP (m : Mach) (w : World) (e : Ending) (w' : World) : Prop :=
  ∃ g c', e = .returned (.tuple #[.agg #[.slice (some ⟨g, 0, none⟩) m.wheels.rotors.length c', .string m.wheels.refl, .string m.rings, .string (wd idP)], .bool true]) ∧ w.heap.size ≤ g ∧ Own w' g (rvs m.wheels.rotors) ∧ Below w.heap.size w w'
set_option maxHeartbeats 1000000 in
/-- A valid machine without pairs on its plugboard. -/
theorem withPlugs_any (a : Option Addr) (c : Nat) (m : Mach) (w : World) (h : MachAt w w.heap.size a m.wheels.rotors.length m) (hm : machB m = true) :
    Calls Tryz.prog 126 #[.agg #[.slice a m.wheels.rotors.length c, .string m.wheels.refl, .string m.rings, .string m.plugs], .string (wd idP)] w (WithP m w) := by
  have o0 := (Own.new w [.slice a m.wheels.rotors.length c, .string m.wheels.refl, .string m.rings, .string m.plugs] 36).alloc (.cells #[.slice none 0 0, .string ⟨#[]⟩, .string ⟨#[]⟩, .string ⟨#[]⟩] 36)
  have p0 := Own.new (w.alloc (.cells [.slice a m.wheels.rotors.length c, .string m.wheels.refl, .string m.rings, .string m.plugs].toArray 36)) [.slice none 0 0, .string ⟨#[]⟩, .string ⟨#[]⟩, .string ⟨#[]⟩] 36
  have hb0 := ((Below.refl w.heap.size w).alloc (Nat.le_refl _) (.cells [.slice a m.wheels.rotors.length c, .string m.wheels.refl, .string m.rings, .string m.plugs].toArray 36)).alloc (by simp) (.cells #[.slice none 0 0, .string ⟨#[]⟩, .string ⟨#[]⟩, .string ⟨#[]⟩] 36)
  rw [World.size_alloc] at p0
  have h' := (h.below hb0 (Nat.le_refl _)).more hb0.size
  have nm := fun W h => implMachineValid_any a m.wheels.rotors.length c m W h
  rw [hm] at nm
  have np := fun W => implPlugsValid_any (wd idP) W (by rw [size_wd]; decide)
  rw [plugB_id] at np
  have hF := machB_fit hm
  have hone := hF.one
  have hthree := hF.three
  have hsz : (Tryz.prog.info? 34).map (·.size) = some [Value.slice a m.wheels.rotors.length c, .string m.wheels.refl].length := by kernel_rfl
  go_enter Tryz.func126, Tryz.ntmps126
  go_wp2_with fail
  refine (nm _ h').mono ?_
  rintro e w1 ⟨rfl, hb1⟩
  have o1 := o0.below hb1 o0.lt
  have p1 := p0.below hb1 p0.lt
  have hbw1 := bt hb0 hb1
  clear o0 p0 hb0 hb1 h' nm
  go_wp2_with fail
  refine (np _).mono ?_
  rintro e w2 ⟨rfl, hb2⟩
  have o2 := o1.below hb2 o1.lt
  have p2 := p1.below hb2 p1.lt
  have hbw2 := bt hbw1 hb2
  have h2 := h.whl
  clear o1 p1 hbw1 hb2 np
  go_wp2_with fail
  have hr2 := (h2.reads.below hbw2 (Nat.le_refl _)).more hbw2.size
  have l1 := o2.lt
  have hS0 : w2.drew.rangeAt w.heap.size 0 [.slice a m.wheels.rotors.length c, .string m.wheels.refl] := by
    have := (o2.cells.sub 0 2 (by simp)).range
    simpa using this
  refine wp_onlyN ?_
  refine wp_region_any (by kernel_rfl) ?_
  refine wpAny_of_K (S := fun w' => w'.rangeAt w.heap.size 0 [.slice a m.wheels.rotors.length c, .string m.wheels.refl] ∧ w'.cell? ⟨w.heap.size, 2, none⟩ = some (.string m.rings)) (kp := fun _ => true) _ _ _ _ ?_
  have hS : (fun w' : World => w'.rangeAt w.heap.size 0 [.slice a m.wheels.rotors.length c, .string m.wheels.refl] ∧ w'.cell? ⟨w.heap.size, 2, none⟩ = some (.string m.rings)) w2.drew := ⟨hS0, o2.drew.at_ (i := 2) rfl⟩
  refine kr_take 0 15 (v := .pointer (some ⟨w.heap.size, 0, none⟩)) rfl (by kernel_rfl) (by kernel_rfl) (by kernel_rfl) (by kernel_rfl) (fun _ _ _ h => by cases h.1) rfl hS (Or.inl ⟨by rfl, fun _ _ => by simp [go_sem]⟩) ?_; simp only [Act.put, List.setIfInBounds_toArray, List.set_cons_succ, List.set_cons_zero]
  refine kr_take 1 16 (v := .agg #[.slice a m.wheels.rotors.length c, .string m.wheels.refl]) rfl (by kernel_rfl) (by kernel_rfl) (by kernel_rfl) (by kernel_rfl) (fun _ _ _ h => by cases h.1) rfl hS (yieldsIf_load_mid (by rfl) _ _ rfl _ _ rfl _ _ (fun _ h => h.1) Tryz.underlying34 rfl hsz) ?_; simp only [Act.put, List.setIfInBounds_toArray, List.set_cons_succ, List.set_cons_zero]
  refine kr_take 3 18 (v := .pointer (some ⟨w.heap.size, 2, none⟩)) rfl (by kernel_rfl) (by kernel_rfl) (by kernel_rfl) (by kernel_rfl) (fun _ _ _ h => by cases h.1) rfl hS (Or.inl ⟨by rfl, fun _ _ => by simp [go_sem]⟩) ?_; simp only [Act.put, List.setIfInBounds_toArray, List.set_cons_succ, List.set_cons_zero]
  refine kr_take 4 19 (v := .string m.rings) rfl (by kernel_rfl) (by kernel_rfl) (by kernel_rfl) (by kernel_rfl) (fun _ _ _ h => by cases h.1) rfl hS (Or.inl ⟨by rfl, fun w' hw' => by have hw1 := hw'.2; simp [go_sem, hw1]⟩) ?_; simp only [Act.put, List.setIfInBounds_toArray, List.set_cons_succ, List.set_cons_zero]
  refine kr_take 5 20 (v := .string (wd idP)) rfl (by kernel_rfl) (by kernel_rfl) (by kernel_rfl) (by kernel_rfl) (fun _ _ _ h => by cases h.1) rfl hS (Or.inl ⟨by rfl, fun _ _ => rfl⟩) ?_; simp only [Act.put, List.setIfInBounds_toArray, List.set_cons_succ, List.set_cons_zero]
  refine kr_callM 2 17 (by kernel_rfl) rfl (by rfl) rfl (fun w => by simp [go_sem]) (whlClone_any a c m.wheels w2.drew (hr2.keep (fun _ _ => rfl)) hone (by omega)) (fun e w3 hT => ?_)
  obtain ⟨g, c', rfl, hg, og, hb3⟩ := hT
  have hgW : w2.heap.size ≤ g := hg
  have o3 := o2.drew.below hb3 o2.lt
  have p3 := p2.drew.below hb3 p2.lt
  have hz2 := hbw2.size
  have hbw3 : Below w.heap.size w w3 := hbw2.drew.trans (hb3.mono (show w.heap.size ≤ w2.heap.size by omega))
  have l3 := p2.lt
  have hS1 : w3.rangeAt w.heap.size 0 [.slice a m.wheels.rotors.length c, .string m.wheels.refl] ∧ w3.cell? ⟨w.heap.size, 2, none⟩ = some (.string m.rings) := ⟨by simpa using (o3.cells.sub 0 2 (by simp)).range, o3.at_ (i := 2) rfl⟩
  refine ⟨_, rfl, hS1, ?_⟩
  simp only [Act.put, List.setIfInBounds_toArray, List.set_cons_succ, List.set_cons_zero]
  have hS := hS1
  refine kr_take 6 21 (v := .agg #[.slice (some ⟨g, 0, none⟩) m.wheels.rotors.length c', .string m.wheels.refl, .string m.rings, .string (wd idP)]) rfl (by kernel_rfl) (by kernel_rfl) (by kernel_rfl) (by kernel_rfl) (fun _ _ _ h => by cases h.1) rfl hS (Or.inl ⟨by rfl, fun _ _ => by simp [go_sem]⟩) ?_; simp only [Act.put, List.setIfInBounds_toArray, List.set_cons_succ, List.set_cons_zero]
  have e0 := p3.at_ (i := 0) rfl
  have e1 := p3.at_ (i := 1) rfl
  have e2 := p3.at_ (i := 2) rfl
  have e3 := p3.at_ (i := 3) rfl
  have g0 := p3.free 0 (by simp)
  have g1 := p3.free 1 (by simp)
  have g2 := p3.free 2 (by simp)
  have g3 := p3.free 3 (by simp)
  refine kr_one 7 (by kernel_rfl) rfl (by rfl) ?_
  simp [Oper.wp, Oper.upon, go_sem, e0, e1, e2, e3, g0, g1, g2, g3]
  have hn : w.heap.size ≠ w.heap.size + 1 := by omega
  have o4 := (((o3.far (p := ⟨w.heap.size + 1, 0, none⟩) hn (.slice (some ⟨g, 0, none⟩) m.wheels.rotors.length c')).far (p := ⟨w.heap.size + 1, 1, none⟩) hn (.string m.wheels.refl)).far (p := ⟨w.heap.size + 1, 2, none⟩) hn (.string m.rings)).far (p := ⟨w.heap.size + 1, 3, none⟩) hn (.string (wd idP))
  have hr4 := (o4.cells.sub 0 2 (by simp)).range
  have hk4 := o3.at_ (i := 2) rfl
  refine ⟨⟨by simpa using hr4, hk4⟩, ?_⟩
  have hS : (fun w' : World => w'.rangeAt w.heap.size 0 [.slice a m.wheels.rotors.length c, .string m.wheels.refl] ∧ w'.cell? ⟨w.heap.size, 2, none⟩ = some (.string m.rings)) ((((w3.setCell ⟨w.heap.size + 1, 0, none⟩ (.slice (some ⟨g, 0, none⟩) m.wheels.rotors.length c')).setCell ⟨w.heap.size + 1, 1, none⟩ (.string m.wheels.refl)).setCell ⟨w.heap.size + 1, 2, none⟩ (.string m.rings)).setCell ⟨w.heap.size + 1, 3, none⟩ (.string (wd idP))) := ⟨by simpa using hr4, o4.at_ (i := 2) rfl⟩
  refine kr_take 8 5 (v := .bool true) rfl (by kernel_rfl) (by kernel_rfl) (by kernel_rfl) (by kernel_rfl) (fun _ _ _ h => by cases h.1) rfl hS (Or.inl ⟨by rfl, fun _ _ => rfl⟩) ?_; simp only [Act.put, List.setIfInBounds_toArray, List.set_cons_succ, List.set_cons_zero]
  refine ⟨by kernel_rfl, onlyN_mk ?_⟩
  have pz := p3.set4 (.slice (some ⟨g, 0, none⟩) m.wheels.rotors.length c') (.string m.wheels.refl) (.string m.rings) (.string (wd idP))
  have ogz := (((og.far (p := ⟨w.heap.size + 1, 0, none⟩) (show g ≠ w.heap.size + 1 by omega) (.slice (some ⟨g, 0, none⟩) m.wheels.rotors.length c')).far (p := ⟨w.heap.size + 1, 1, none⟩) (show g ≠ w.heap.size + 1 by omega) (.string m.wheels.refl)).far (p := ⟨w.heap.size + 1, 2, none⟩) (show g ≠ w.heap.size + 1 by omega) (.string m.rings)).far (p := ⟨w.heap.size + 1, 3, none⟩) (show g ≠ w.heap.size + 1 by omega) (.string (wd idP))
  have k0 := pz.at_ (i := 0) rfl
  have k1 := pz.at_ (i := 1) rfl
  have k2 := pz.at_ (i := 2) rfl
  have k3 := pz.at_ (i := 3) rfl
  unfold set4 at k0 k1 k2 k3
  go_wp2
  refine bodyPost_ret (v := .tuple #[.agg #[.slice (some ⟨g, 0, none⟩) m.wheels.rotors.length c', .string m.wheels.refl, .string m.rings, .string (wd idP)], .bool true]) (by simp [results, Tryz.results126, go_sem, k0, k1, k2, k3]) rfl ?_
  exact ⟨g, c', rfl, by omega, ogz, bel_set4 hbw3 (Nat.le_succ _) _ _ _ _⟩
end Go.Proofs.YtdmnkcmkpjmfaaaGreat
