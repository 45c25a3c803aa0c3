/- Several of my texts in one: Uni, MbP, UniW, UniP. -/
import Derived.Test.YtdmnkcmkpjmfaaaGreatM23
import Derived.Test.YtdmnkcmkpjmfaaaGreatM28
import Derived.Test.YtdmnkcmkpjmfaaaGreatM25
import Derived.Deep.RegionLaw
import Derived.Test.YtdmnkcmkpjmfaaaGreatM27
/- A forest of letters: its roots, the steps of find and join; the parts of a menu: plain. -/
namespace Go.Proofs.YtdmnkcmkpjmfaaaGreat

theorem pAt_set {P : List Nat} {i a v : Nat} (ha : a < P.length) : pAt (P.set i v) a = if i = a then v else pAt P a := by
  rw [pAt_get (by simpa using ha), List.getElem_set, pAt_get ha]
/-- A forest: 'root' tells the root of a letter, 'rk' grows away from it. -/
structure UF (P : List Nat) (root rk : Nat → Nat) : Prop where
  len : P.length = 10
  lt : ∀ a, a < 10 → pAt P a < 10
  up : ∀ a, a < 10 → pAt P a ≠ a → rk (pAt P a) < rk a
  par : ∀ a, a < 10 → root (pAt P a) = root a
  fix : ∀ a, a < 10 → pAt P a = a → root a = a
section
variable {P : List Nat} {root rk : Nat → Nat}
theorem UF.start : UF (List.range 10) (fun a => a) (fun _ => 0) := by
  have e : ∀ a, a < 10 → pAt (List.range 10) a = a := fun a ha => by rw [pAt_get (by simpa using ha)]; simp
  exact ⟨by simp, fun a ha => by rw [e a ha]; exact ha, fun a ha h => absurd (e a ha) h, fun a ha => e a ha, fun _ _ _ => rfl⟩
theorem UF.root_ok (h : UF P root rk) : ∀ n a, a < 10 → rk a ≤ n → root a < 10 ∧ pAt P (root a) = root a
  | n, a, ha, hn => by
    by_cases e : pAt P a = a
    · rw [h.fix a ha e]; exact ⟨ha, e⟩
    · have h1 := h.up a ha e
      cases n with
      | zero => omega
      | succ n =>
        have := h.root_ok n (pAt P a) (h.lt a ha) (by omega)
        rw [h.par a ha] at this
        exact this
theorem UF.root_lt (h : UF P root rk) {a : Nat} (ha : a < 10) : root a < 10 := (h.root_ok _ a ha (Nat.le_refl _)).1
theorem UF.root_at (h : UF P root rk) {a : Nat} (ha : a < 10) : pAt P (root a) = root a := (h.root_ok _ a ha (Nat.le_refl _)).2
theorem UF.root_root (h : UF P root rk) {a : Nat} (ha : a < 10) : root (root a) = root a := h.fix _ (h.root_lt ha) (h.root_at ha)
theorem UF.half (h : UF P root rk) {x : Nat} (hx : x < 10) (hne : pAt P x ≠ x) :
    UF (P.set x (pAt P (pAt P x))) root rk ∧ rk (pAt P (pAt P x)) < rk x ∧ root (pAt P (pAt P x)) = root x ∧ pAt P (pAt P x) < 10 := by
  have hp := h.lt x hx
  have h1 := h.up x hx hne
  have hr : root (pAt P (pAt P x)) = root x := by rw [h.par _ hp, h.par x hx]
  have h2 : rk (pAt P (pAt P x)) < rk x := by
    by_cases e : pAt P (pAt P x) = pAt P x
    · rw [e]; exact h1
    · have := h.up _ hp e; omega
  have hs : ∀ a, a < 10 → pAt (P.set x (pAt P (pAt P x))) a = if x = a then pAt P (pAt P x) else pAt P a := fun a ha =>
    pAt_set (by rw [h.len]; exact ha)
  refine ⟨⟨by rw [List.length_set]; exact h.len, fun a ha => ?_, fun a ha => ?_, fun a ha => ?_, fun a ha => ?_⟩, h2, hr, h.lt _ hp⟩
  · rw [hs a ha]; split
    · exact h.lt _ hp
    · exact h.lt a ha
  · rw [hs a ha]; split
    · rename_i e; subst e; exact fun _ => h2
    · exact h.up a ha
  · rw [hs a ha]; split
    · rename_i e; subst e; exact hr
    · exact h.par a ha
  · rw [hs a ha]; split
    · rename_i e; subst e
      intro e2; rw [e2] at h2; omega
    · exact h.fix a ha
theorem UF.join (h : UF P root rk) {a b : Nat} (ha : a < 10) (hb : b < 10) :
    UF (P.set (root a) (root b)) (fun z => if root z = root a then root b else root z) (fun z => if root z = root a ∧ root a ≠ root b then rk z + rk (root b) + 1 else rk z) := by
  have la := h.root_lt ha
  have lb := h.root_lt hb
  have ra := h.root_root ha
  have rb := h.root_root hb
  have hs : ∀ z, z < 10 → pAt (P.set (root a) (root b)) z = if root a = z then root b else pAt P z := fun z hz =>
    pAt_set (by rw [h.len]; exact hz)
  refine ⟨by rw [List.length_set]; exact h.len, fun z hz => ?_, fun z hz => ?_, fun z hz => ?_, fun z hz => ?_⟩
  · rw [hs z hz]; split
    · exact lb
    · exact h.lt z hz
  · rw [hs z hz]; split
    · rename_i e; subst e
      intro hne
      rw [if_neg (fun k => k.2 (by rw [← k.1, rb])), ra, if_pos ⟨rfl, fun k => hne k.symm⟩]
      omega
    · intro hne
      have := h.up z hz hne
      show (if root (pAt P z) = root a ∧ root a ≠ root b then _ else _) < _
      rw [h.par z hz]
      split <;> omega
  · rw [hs z hz]; split
    · rename_i e; subst e
      show (if root (root b) = root a then root b else root (root b)) = if root (root a) = root a then root b else root (root a)
      rw [rb, ra, if_pos rfl]
      split <;> rfl
    · show (if root (pAt P z) = root a then root b else root (pAt P z)) = _
      rw [h.par z hz]
  · rw [hs z hz]; split
    · rename_i e; subst e
      intro e2
      show (if root (root a) = root a then root b else root (root a)) = root a
      rw [ra, if_pos rfl]; exact e2
    · rename_i e
      intro e2
      have := h.fix z hz e2
      show (if root z = root a then root b else root z) = z
      rw [this, if_neg (fun k => e k.symm)]
end
/-- Letters are connected by some links: they are in each equivalence that has the links. -/
def Con (ms : List Lnk) (a b : Nat) : Prop :=
  ∀ R : Nat → Nat → Prop, (∀ a, R a a) → (∀ a b, R a b → R b a) → (∀ a b c, R a b → R b c → R a c) → (∀ x ∈ ms, R (lkA x.p) (lkA x.c)) → R a b
section
variable {ms : List Lnk} {a b c : Nat}
theorem Con.refl (a : Nat) : Con ms a a := fun _ h _ _ _ => h a
theorem Con.symm (h : Con ms a b) : Con ms b a := fun R h0 h1 h2 h3 => h1 _ _ (h R h0 h1 h2 h3)
theorem Con.trans (h : Con ms a b) (k : Con ms b c) : Con ms a c := fun R h0 h1 h2 h3 => h2 _ _ _ (h R h0 h1 h2 h3) (k R h0 h1 h2 h3)
theorem Con.link {x : Lnk} (hx : x ∈ ms) : Con ms (lkA x.p) (lkA x.c) := fun _ _ _ _ h3 => h3 x hx
theorem Con.mono {ms' : List Lnk} (hs : ∀ x ∈ ms, x ∈ ms') (h : Con ms a b) : Con ms' a b := fun R h0 h1 h2 h3 => h R h0 h1 h2 fun x hx => h3 x (hs x hx)
end
/-- A forest of the first links: letters of one root are connected, and the letters of a link have one root. -/
structure UM (ms : List Lnk) (root : Nat → Nat) : Prop where
  con : ∀ a b, a < 10 → b < 10 → root a = root b → Con ms a b
  one : ∀ x ∈ ms, root (lkA x.p) = root (lkA x.c)
theorem UM.start : UM [] (fun a => a) := ⟨fun a b _ _ e => by subst e; exact .refl a, fun _ h => by cases h⟩
theorem UM.join {ms : List Lnk} {root : Nat → Nat} (h : UM ms root) (x : Lnk) (hp : lkA x.p < 10) (hc : lkA x.c < 10) : UM (ms ++ [x]) (fun z => if root z = root (lkA x.p) then root (lkA x.c) else root z) := by
  have hx : Con (ms ++ [x]) (lkA x.p) (lkA x.c) := .link (by simp)
  have hm : ∀ {a b : Nat}, Con ms a b → Con (ms ++ [x]) a b := fun h => h.mono (fun y hy => by simp [hy])
  refine ⟨fun a b ha hb e => ?_, fun y hy => ?_⟩
  · by_cases h1 : root a = root (lkA x.p)
    · by_cases h2 : root b = root (lkA x.p)
      · exact hm (h.con a b ha hb (by rw [h1, h2]))
      · simp only [if_pos h1, if_neg h2] at e
        exact ((hm (h.con a _ ha hp h1)).trans hx).trans (hm (h.con _ b hc hb e))
    · by_cases h2 : root b = root (lkA x.p)
      · simp only [if_pos h2, if_neg h1] at e
        exact ((hm (h.con a _ ha hc e)).trans hx.symm).trans (hm (h.con _ b hp hb h2.symm))
      · simp only [if_neg h1, if_neg h2] at e
        exact hm (h.con a b ha hb e)
  · rcases List.mem_append.1 hy with hy | hy
    · have := h.one y hy
      simp only [this]
    · have : y = x := by simpa using hy
      subst this
      simp only [if_pos]
      split <;> rfl
/-- The letters of a menu, in order. -/
def letL (ms : List Lnk) : List Nat := (List.range 10).filter fun n => decide (0 < degN ms n)
theorem mem_letL {ms : List Lnk} {a : Nat} : a ∈ letL ms ↔ a < 10 ∧ ∃ x ∈ ms, lkA x.p = a ∨ lkA x.c = a := by
  unfold letL degN
  rw [List.mem_filter]
  simp
theorem letL_len (ms : List Lnk) : (letL ms).length ≤ 10 := Nat.le_trans (List.length_filter_le _ _) (by simp)
theorem letL_nodup (ms : List Lnk) : (letL ms).Nodup := List.Pairwise.filter _ List.nodup_range
/-- The roots of some letters, each once. -/
def newR (rs : List Nat) (r : Nat) : List Nat := if r ∈ rs then rs else rs ++ [r]
def rotsL (root : Nat → Nat) (l : List Nat) : List Nat := l.foldl (fun rs a => newR rs (root a)) []
theorem rotsL_snoc (root : Nat → Nat) (l : List Nat) (a : Nat) : rotsL root (l ++ [a]) = newR (rotsL root l) (root a) := by simp [rotsL]
theorem mem_newR {rs : List Nat} {r z : Nat} : z ∈ newR rs r ↔ z ∈ rs ∨ z = r := by
  unfold newR; split
  · rename_i h
    exact ⟨.inl, fun k => k.elim id (fun e => e ▸ h)⟩
  · simp
theorem newR_nodup {rs : List Nat} (h : rs.Nodup) (r : Nat) : (newR rs r).Nodup := by
  unfold newR; split
  · exact h
  · rename_i hq
    rw [List.nodup_append]
    exact ⟨h, by simp, fun a ha b hb e => by simp at hb; subst hb; subst e; exact hq ha⟩
theorem rots_acc (root : Nat → Nat) : ∀ (l rs : List Nat), (∀ z, z ∈ l.foldl (fun rs a => newR rs (root a)) rs ↔ z ∈ rs ∨ ∃ a ∈ l, root a = z) ∧ (rs.Nodup → (l.foldl (fun rs a => newR rs (root a)) rs).Nodup)
  | [], rs => ⟨by simp, id⟩
  | a :: l, rs => by
    have ih := rots_acc root l (newR rs (root a))
    refine ⟨fun z => ?_, fun h => ih.2 (newR_nodup h _)⟩
    rw [List.foldl_cons, ih.1, mem_newR]
    simp only [List.mem_cons, exists_eq_or_imp]
    constructor
    · rintro ((h | h) | h)
      · exact .inl h
      · exact .inr (.inl h.symm)
      · exact .inr (.inr h)
    · rintro (h | h | h)
      · exact .inl (.inl h)
      · exact .inl (.inr h.symm)
      · exact .inr h
theorem rots_few_acc (root : Nat → Nat) : ∀ (l rs : List Nat), (l.foldl (fun rs a => newR rs (root a)) rs).length ≤ rs.length + l.length
  | [], rs => by simp
  | a :: l, rs => by
    have ih := rots_few_acc root l (newR rs (root a))
    have : (newR rs (root a)).length ≤ rs.length + 1 := by unfold newR; split <;> simp
    rw [List.foldl_cons, List.length_cons]; omega
theorem rots_few (root : Nat → Nat) (l : List Nat) : (rotsL root l).length ≤ l.length := by
  have := rots_few_acc root l []
  simpa [rotsL] using this
theorem mem_rotsL {root : Nat → Nat} {l : List Nat} {z : Nat} : z ∈ rotsL root l ↔ ∃ a ∈ l, root a = z := by
  unfold rotsL; rw [(rots_acc root l []).1]; simp
theorem rotsL_nodup (root : Nat → Nat) (l : List Nat) : (rotsL root l).Nodup := (rots_acc root l []).2 (by simp)
/-- The letters of each root, in order. -/
def partL (root : Nat → Nat) (l : List Nat) : List (List Nat) := (rotsL root l).map fun r => l.filter fun a => root a == r
theorem len_partL (root : Nat → Nat) (l : List Nat) : (partL root l).length = (rotsL root l).length := by simp [partL]
theorem partL_at {root : Nat → Nat} {l : List Nat} {i : Nat} (h : i < (rotsL root l).length) : (partL root l)[i]'(by rw [len_partL]; exact h) = l.filter fun a => root a == (rotsL root l)[i] := by simp [partL]
theorem filter_snoc {l : List Nat} {a : Nat} (P : Nat → Bool) : (l ++ [a]).filter P = l.filter P ++ if P a = true then [a] else [] := by
  rw [List.filter_append]
  congr 1
  by_cases h : P a = true <;> simp [h]
theorem partL_old {root : Nat → Nat} {l : List Nat} {a i : Nat} (hi : i < (rotsL root l).length) (h : (rotsL root l)[i] = root a) :
    rotsL root (l ++ [a]) = rotsL root l ∧ partL root (l ++ [a]) = (partL root l).set i ((partL root l)[i]'(by rw [len_partL]; exact hi) ++ [a]) := by
  have hr : rotsL root (l ++ [a]) = rotsL root l := by
    rw [rotsL_snoc]; unfold newR; rw [if_pos (h ▸ List.getElem_mem hi)]
  refine ⟨hr, List.ext_getElem (by simp [len_partL, hr]) fun j h1 h2 => ?_⟩
  have hj : j < (rotsL root l).length := by rw [len_partL, hr] at h1; exact h1
  rw [partL_at (by rw [hr]; exact hj), List.getElem_set]
  have e : (rotsL root (l ++ [a]))[j]'(by rw [hr]; exact hj) = (rotsL root l)[j] := by simp only [hr]
  rw [e, filter_snoc]
  by_cases hij : i = j
  · subst hij
    rw [if_pos rfl, partL_at hi, h]
    simp
  · rw [if_neg hij, partL_at hj]
    have hne : (root a == (rotsL root l)[j]) = false := by
      rw [beq_eq_false_iff_ne, ← h]
      intro e2
      exact hij ((List.getElem_inj (rotsL_nodup root l)).1 e2)
    rw [hne]; simp
theorem partL_new {root : Nat → Nat} {l : List Nat} {a : Nat} (h : root a ∉ rotsL root l) :
    rotsL root (l ++ [a]) = rotsL root l ++ [root a] ∧ partL root (l ++ [a]) = partL root l ++ [[a]] := by
  have hr : rotsL root (l ++ [a]) = rotsL root l ++ [root a] := by
    rw [rotsL_snoc]; unfold newR; rw [if_neg h]
  refine ⟨hr, ?_⟩
  unfold partL
  rw [hr, List.map_append]
  congr 1
  · refine List.map_congr_left fun r hm => ?_
    rw [filter_snoc]
    have : (root a == r) = false := by
      rw [beq_eq_false_iff_ne]; intro e; exact h (e ▸ hm)
    rw [this]; simp
  · rw [List.map_cons, List.map_nil, filter_snoc]
    have : l.filter (fun b => root b == root a) = [] := by
      rw [List.filter_eq_nil_iff]
      intro b hb e
      exact h (mem_rotsL.2 ⟨b, hb, by simpa using e⟩)
    rw [this]; simp
/-- The parts of a menu: letters of a part are connected, both letters of a link are in one part, and no letter is in two. -/
structure Parts (ms : List Lnk) (ps : List (List Nat)) : Prop where
  rng : ∀ p ∈ ps, ∀ a ∈ p, a < 10
  con : ∀ p ∈ ps, ∀ a ∈ p, ∀ b ∈ p, Con ms a b
  all : ∀ x ∈ ms, ∃ p ∈ ps, lkA x.p ∈ p
  lnk : ∀ p ∈ ps, ∀ x ∈ ms, lkA x.p ∈ p ↔ lkA x.c ∈ p
  dis : ∀ i j (hi : i < ps.length) (hj : j < ps.length) a, a ∈ ps[i] → a ∈ ps[j] → i = j
  few : ps.length ≤ 10
  low : ∀ p ∈ ps, p.length ≤ 10
theorem parts_of {ms : List Lnk} {root : Nat → Nat} (h : UM ms root) (hm : menuB ms = true) : Parts ms (partL root (letL ms)) := by
  have hmem : ∀ p ∈ partL root (letL ms), ∃ r ∈ rotsL root (letL ms), ∀ a, a ∈ p ↔ a ∈ letL ms ∧ root a = r := by
    intro p hp
    obtain ⟨r, hr, rfl⟩ := List.mem_map.1 hp
    exact ⟨r, hr, fun a => by rw [List.mem_filter]; simp⟩
  have hl : ∀ x ∈ ms, lkA x.p ∈ letL ms ∧ lkA x.c ∈ letL ms := fun x hx => by
    have := menuB_lnk hm x hx
    exact ⟨mem_letL.2 ⟨this.pl, x, hx, .inl rfl⟩, mem_letL.2 ⟨this.cl, x, hx, .inr rfl⟩⟩
  refine ⟨fun p hp a ha => ?_, fun p hp a ha b hb => ?_, fun x hx => ?_, fun p hp x hx => ?_, fun i j hi hj a h1 h2 => ?_, ?_, fun p hp => ?_⟩
  · obtain ⟨r, -, k⟩ := hmem p hp
    exact (mem_letL.1 ((k a).1 ha).1).1
  · obtain ⟨r, -, k⟩ := hmem p hp
    have h1 := (k a).1 ha
    have h2 := (k b).1 hb
    exact h.con a b (mem_letL.1 h1.1).1 (mem_letL.1 h2.1).1 (by rw [h1.2, h2.2])
  · refine ⟨(letL ms).filter fun a => root a == root (lkA x.p), List.mem_map.2 ⟨root (lkA x.p), mem_rotsL.2 ⟨_, (hl x hx).1, rfl⟩, rfl⟩, ?_⟩
    rw [List.mem_filter]; exact ⟨(hl x hx).1, by simp⟩
  · obtain ⟨r, -, k⟩ := hmem p hp
    rw [k, k, h.one x hx]
    exact ⟨fun z => ⟨(hl x hx).2, z.2⟩, fun z => ⟨(hl x hx).1, z.2⟩⟩
  · rw [len_partL] at hi hj
    rw [partL_at hi, List.mem_filter] at h1
    rw [partL_at hj, List.mem_filter] at h2
    refine (List.getElem_inj (h₀ := hi) (h₁ := hj) (rotsL_nodup root (letL ms))).1 ?_
    rw [← eq_of_beq h1.2, eq_of_beq h2.2]
  · rw [len_partL]
    have hb : (rotsL root (letL ms)).length ≤ (letL ms).length := rots_few root (letL ms)
    exact Nat.le_trans hb (letL_len ms)
  · obtain ⟨r, -, rfl⟩ := List.mem_map.1 hp
    exact Nat.le_trans (List.length_filter_le _ _) (letL_len ms)
end Go.Proofs.YtdmnkcmkpjmfaaaGreat

/- What the plugboards of a menu do to the letters that are connected with the central letter: plain. -/
namespace Go.Proofs.YtdmnkcmkpjmfaaaGreat

section
variable {m : Mach} {v : ByteArray} {ms : List Lnk}
theorem wire_p {l : Lnk} (hl : l ∈ ms) : (⟨lkA l.p, lkA l.c, pAt (keyN (bareM m) v (l.k.toNat - 1))⟩ : Wire) ∈ menG m v ms := mem_menG.2 ⟨l, hl, mem_lnkG.2 (.inl rfl)⟩
theorem wire_c {l : Lnk} (hl : l ∈ ms) : (⟨lkA l.c, lkA l.p, pAt (keyN (bareM m) v (l.k.toNat - 1))⟩ : Wire) ∈ menG m v ms := mem_menG.2 ⟨l, hl, mem_lnkG.2 (.inr rfl)⟩
/-- If a machine keeps a menu, the pairs of its plugboard follow for all connected letters. -/
theorem con_true (h : machB m = true) (hm : menuB ms = true) (hk : ms.all (chk1 m v) = true) {x a : Nat} (hc : Con ms x a) : Imp (menG m v ms) x (pAt (dg m.plugs) x) a (pAt (dg m.plugs) a) := by
  have := hc (fun a b => Imp (menG m v ms) x (pAt (dg m.plugs) x) a (pAt (dg m.plugs) a) ↔ Imp (menG m v ms) x (pAt (dg m.plugs) x) b (pAt (dg m.plugs) b)) (fun _ => Iff.rfl) (fun _ _ h => h.symm) (fun _ _ _ h k => h.trans k) (fun l hl => by
    constructor
    · intro hi
      have h1 := Imp.step (wire_p (m := m) (v := v) hl) hi
      have h2 := menG_keep h hm hk _ (wire_p hl)
      simp only at h1 h2
      rw [h2] at h1; exact h1
    · intro hi
      have h1 := Imp.step (wire_c (m := m) (v := v) hl) hi
      have h2 := menG_keep h hm hk _ (wire_c hl)
      simp only at h1 h2
      rw [h2] at h1; exact h1)
  exact this.1 .base
theorem con_mate (h : machB m = true) (hm : menuB ms = true) (hk : ms.all (chk1 m v) = true) {x a : Nat} (hx : x < 10) (ha : a < 10) (hc : Con ms x a) : mate (impG m v ms x (pAt (dg m.plugs) x)) a = pAt (dg m.plugs) a :=
  mate_eq (keep_one h hm hk hx) ha ((machB_plugP h).at_lt ha) (impB_iff.2 (con_true h hm hk hc))
/-- The plugboard of a hypothesis keeps the links of the connected letters. -/
theorem con_board (h : machB m = true) (hm : menuB ms = true) {x y a : Nat} (hx : x < 10) (hy : y < 10) (h1 : oneB (impG m v ms x y) = true) (hc : Con ms x a) : Imp (menG m v ms) x y a (mate (impG m v ms x y) a) := by
  have hG := menG_ok h hm (v := v)
  have key : ∀ r ∈ menG m v ms, Imp (menG m v ms) x y r.f (mate (impG m v ms x y) r.f) → r.p (mate (impG m v ms x y) r.f) = mate (impG m v ms x y) r.t := fun r hr hi => by
    have h3 := Imp.step hr hi
    have h4 := h3.lt hG hx hy
    exact (mate_eq h1 h4.1 h4.2 (impB_iff.2 h3)).symm
  have := hc (fun a b => Imp (menG m v ms) x y a (mate (impG m v ms x y) a) ↔ Imp (menG m v ms) x y b (mate (impG m v ms x y) b)) (fun _ => Iff.rfl) (fun _ _ h => h.symm) (fun _ _ _ h k => h.trans k) (fun l hl => by
    constructor
    · intro hi
      have h3 := Imp.step (wire_p (m := m) (v := v) hl) hi
      have h4 := key _ (wire_p hl) hi
      simp only at h3 h4
      rw [h4] at h3; exact h3
    · intro hi
      have h3 := Imp.step (wire_c (m := m) (v := v) hl) hi
      have h4 := key _ (wire_c hl) hi
      simp only at h3 h4
      rw [h4] at h3; exact h3)
  refine this.1 ?_
  rw [mate_eq h1 hx hy (impB_iff.2 .base)]
  exact .base
/-- A machine with other pairs. -/
def plugM (m : Mach) (p : ByteArray) : Mach := { m with plugs := p }
theorem machB_plugM {p : ByteArray} (h : machB m = true) (hp : plugB p = true) : machB (plugM m p) = true := by
  simp only [machB, Bool.and_eq_true] at h ⊢
  exact ⟨h.1, hp⟩
theorem setB_plugM {p : ByteArray} (h : setB m v = true) (hp : plugB p = true) : setB (plugM m p) v = true := by
  simp only [setB, Bool.and_eq_true] at h ⊢
  exact ⟨⟨machB_plugM h.1.1 hp, h.1.2⟩, h.2⟩
theorem con_keep (h : machB m = true) (hm : menuB ms = true) {x y : Nat} (hx : x < 10) (hy : y < 10) (h1 : oneB (impG m v ms x y) = true) {l : Lnk} (hl : l ∈ ms) (hc : Con ms x (lkA l.p)) : chk1 (plugM m (wd (boardL (impG m v ms x y)))) v l = true := by
  have hs := impG_symm m v ms x y
  have hP := isP_boardL hs h1
  have hpl := plugB_wd hP (inv_boardL hs h1)
  have ho := menuB_lnk hm l hl
  have hM := machB_plugM h hpl
  have hb := con_board h hm hx hy h1 hc
  have hb2 := con_board h hm hx hy h1 (hc.trans (.link hl))
  have h3 := Imp.step (wire_p (m := m) (v := v) hl) hb
  have h4 := h3.lt (menG_ok h hm) hx hy
  have h5 := mate_eq h1 h4.1 h4.2 (impB_iff.2 h3)
  have := chk_bare (v := v) (k := l.k.toNat - 1) hM ho.pl ho.cl
  have hd : dg (plugM m (wd (boardL (impG m v ms x y)))).plugs = boardL (impG m v ms x y) := dg_wd hP.lt
  rw [hd, at_boardL ho.pl, at_boardL ho.cl] at this
  unfold chk1
  rw [← this, beq_iff_eq]
  exact h5.symm
theorem okFrom_low : ∀ (ms : List Lnk) {b b' : Int}, b ≤ b' → okFrom b' ms = true → okFrom b ms = true
  | [], _, _, _, _ => rfl
  | x :: ms, b, b', hle, h => by
    simp only [okFrom, Bool.and_eq_true] at h ⊢
    obtain ⟨h1, h2, h3, h4, h5, h6⟩ := okLnk_iff.1 h.1
    exact ⟨okLnk_iff.2 ⟨h1, h2, h3, h4, by omega, h6⟩, h.2⟩
theorem okFrom_filter (Q : Lnk → Bool) : ∀ (ms : List Lnk) (b : Int), okFrom b ms = true → okFrom b (ms.filter Q) = true
  | [], _, _ => rfl
  | x :: ms, b, h => by
    simp only [okFrom, Bool.and_eq_true] at h
    have ih := okFrom_filter Q ms x.k h.2
    by_cases hq : Q x = true
    · rw [List.filter_cons_of_pos hq]
      simp only [okFrom, Bool.and_eq_true]
      exact ⟨h.1, ih⟩
    · rw [List.filter_cons_of_neg hq]
      have := (okLnk_iff.1 h.1).2.2.2.2.1
      exact okFrom_low _ (by omega) ih
/-- The central letter has a link. -/
theorem cen_link (hm : menuB ms = true) : ∃ x ∈ ms, lkA x.p = cenN ms ∨ lkA x.c = cenN ms := by
  obtain ⟨h1, -, -⟩ := menuB_ok hm
  have h0 : 0 < degN ms (lkA (ms[0]'(by omega)).p) := by
    unfold degN
    rw [List.countP_pos_iff]
    exact ⟨ms[0]'(by omega), List.getElem_mem _, by simp⟩
  have hx := menuB_lnk hm _ (List.getElem_mem (show 0 < ms.length by omega))
  have h2 := cenN_max ms hx.pl
  have h3 : 0 < degN ms (cenN ms) := by omega
  unfold degN at h3
  rw [List.countP_pos_iff] at h3
  obtain ⟨x, hx, e⟩ := h3
  exact ⟨x, hx, by simpa using e⟩
/-- The part with the central letter. -/
theorem cen_part (hm : menuB ms = true) {ps : List (List Nat)} (hp : Parts ms ps) : ∃ i, ∃ hi : i < ps.length, cenN ms ∈ ps[i] ∧ ∀ j (hj : j < ps.length), cenN ms ∈ ps[j] → j = i := by
  obtain ⟨x, hx, e⟩ := cen_link hm
  obtain ⟨p, hpm, hxp⟩ := hp.all x hx
  have hc : cenN ms ∈ p := by
    rcases e with e | e
    · rw [← e]; exact hxp
    · rw [← e]; exact (hp.lnk p hpm x hx).1 hxp
  obtain ⟨i, hi, rfl⟩ := List.getElem_of_mem hpm
  exact ⟨i, hi, hc, fun j hj h => hp.dis j i hj hi _ h hc⟩
/-- The links of a part. -/
def subM (ms : List Lnk) (p : List Nat) : List Lnk := ms.filter fun l => decide (lkA l.p ∈ p)
theorem subM_ok (hm : menuB ms = true) {ps : List (List Nat)} (hp : Parts ms ps) {p : List Nat} (hpm : p ∈ ps) (hc : cenN ms ∈ p) : menuB (subM ms p) = true := by
  obtain ⟨h1, h2, h3⟩ := menuB_ok hm
  obtain ⟨x, hx, e⟩ := cen_link hm
  have hxp : lkA x.p ∈ p := by
    rcases e with e | e
    · rw [e]; exact hc
    · rw [hp.lnk p hpm x hx, e]; exact hc
  have hmem : x ∈ subM ms p := List.mem_filter.2 ⟨hx, by simpa using hxp⟩
  have hpos : 0 < (subM ms p).length := List.length_pos_of_mem hmem
  have hle : (subM ms p).length ≤ ms.length := List.length_filter_le _ _
  simp only [menuB, Bool.and_eq_true, decide_eq_true_eq]
  exact ⟨by omega, by omega, okFrom_filter _ ms 0 h3⟩
theorem subM_chk (hs : setB m v = true) (hm : menuB ms = true) {ps : List (List Nat)} (hp : Parts ms ps) {p : List Nat} (hpm : p ∈ ps) (hc : cenN ms ∈ p) {y : Nat} (hy : y ∈ hypL m v ms) : chkT (plugM m (wd (boardL (impG m v ms (cenN ms) y)))) v (subM ms p) = true := by
  have hyf := List.mem_filter.1 hy
  have hy10 : y < 10 := by simpa using hyf.1
  have h1 := hyf.2
  have hsy := impG_symm m v ms (cenN ms) y
  have hpl := plugB_wd (isP_boardL hsy h1) (inv_boardL hsy h1)
  unfold chkT
  rw [setB_plugM hs hpl, subM_ok hm hp hpm hc]
  simp only [Bool.true_and, List.all_eq_true]
  intro l hl
  have hl2 := List.mem_filter.1 hl
  have hlp : lkA l.p ∈ p := by simpa using hl2.2
  exact con_keep (setB_mach hs) hm (cenN_lt ms) hy10 h1 hl2.1 (hp.con p hpm _ hc _ hlp)
/-- On a part with the central letter the plugboard of the right hypothesis is that of the machine. -/
theorem part_true (h : machB m = true) (hm : menuB ms = true) (hk : ms.all (chk1 m v) = true) {ps : List (List Nat)} (hp : Parts ms ps) {p : List Nat} (hpm : p ∈ ps) (hc : cenN ms ∈ p) : ∀ a ∈ p, pAt (boardL (impG m v ms (cenN ms) (pAt (dg m.plugs) (cenN ms)))) a = pAt (dg m.plugs) a := by
  intro a ha
  have ha10 := hp.rng p hpm a ha
  rw [at_boardL ha10]
  exact con_mate h hm hk (cenN_lt ms) ha10 (hp.con p hpm _ hc _ ha)
end
end Go.Proofs.YtdmnkcmkpjmfaaaGreat

/- The forest of the program: newUnion, find, join. -/
namespace Go.Proofs.YtdmnkcmkpjmfaaaGreat
open Go.RowKit
attribute [local go_sem] Oper.semAt_some

/-- Numbers as ints in cells. -/
def uv (P : List Nat) : List Value := P.map fun n : Nat => .int .i64 (n : Int)
theorem len_uv (P : List Nat) : (uv P).length = P.length := by simp [uv]
theorem uv_at {P : List Nat} {i : Nat} (h : i < P.length) : (uv P)[i]? = some (.int .i64 (pAt P i : Int)) := by simp [uv, h, pAt_get h]
theorem uv_set (P : List Nat) (i n : Nat) : (uv P).set i (.int .i64 (n : Int)) = uv (P.set i n) := by simp [uv, List.map_set]
def fillU (k : Nat) : List Nat := (List.range 10).map fun a => if a < k then a else 0
theorem len_fillU (k : Nat) : (fillU k).length = 10 := by simp [fillU]
theorem fillU_zero : uv (fillU 0) = zi10 := rfl
theorem fillU_ten : fillU 10 = List.range 10 := rfl
theorem fillU_set {k : Nat} (_h : k < 10) : (fillU k).set k k = fillU (k + 1) := by
  refine List.ext_getElem (by simp [len_fillU]) fun i h1 h2 => ?_
  have hi : i < 10 := by simpa [len_fillU] using h1
  rw [List.getElem_set]
  by_cases e : k = i
  · subst e; rw [if_pos rfl]; simp [fillU]
  · rw [if_neg e]
    simp only [fillU, List.getElem_map, List.getElem_range]
    have : (i < k) = (i < k + 1) := by simp; omega
    simp only [this]
set_option maxRecDepth 100000 in
set_option maxHeartbeats 1000000 in
theorem newUnion_any (w : World) :
    Calls Tryz.prog 104 #[] w fun e w' => ∃ g, e = .returned (.pointer (some ⟨g, 0, none⟩)) ∧ w.heap.size ≤ g ∧ Own w' g (uv (List.range 10)) ∧ Below w.heap.size w w' := by
  have o0 := Own.new w zi10 152
  have hb0 := (Below.refl w.heap.size w).alloc (Nat.le_refl _) (.cells zi10.toArray 152)
  rw [← fillU_zero] at o0
  go_enter Tryz.func104, Tryz.ntmps104
  go_wp2_with fail
  go_loopw [2, 5] (fun _ i wr => ∃ k : Nat, k ≤ 10 ∧ i = .int .i64 k ∧ Own wr w.heap.size (uv (fillU k)) ∧ Below w.heap.size w wr) (fun _ i _ => 10 - (intOf i).toNat)
  case atStart => exact ⟨0, by omega, rfl, o0, hb0⟩
  case round =>
    clear o0 hb0
    obtain ⟨k, hk, rfl, o, hb⟩ := hrel
    by_cases hlt : k < 10
    · have tk : decide ((k : Int) < 10) = true := decide_eq_true (by omega)
      obtain ⟨x0, f0⟩ := o.some_ (i := k) (by rw [len_uv, len_fillU]; exact hlt)
      have g0 := o.free k (by rw [len_uv, len_fillU]; exact hlt)
      have q0 : (0 : Int) ≤ (k : Int) := by omega
      have q1 : (k : Int) < 10 := by omega
      go_wp2
      go_roundw
      case rel =>
        refine ⟨k + 1, by omega, by go_num, ?_, hb.setCell (by simp) _⟩
        rw [← fillU_set hlt, ← uv_set]
        exact o.set_ (by rw [len_uv, len_fillU]; exact hlt) _
      case measure => simp [intOf]; omega
    · have tk : decide ((k : Int) < 10) = false := decide_eq_false (by omega)
      have hk' : k = 10 := by omega
      subst hk'
      go_wp2
      go_ret
      exact ⟨_, rfl, Nat.le_refl _, o, hb⟩
set_option maxRecDepth 100000 in
set_option maxHeartbeats 1000000 in
theorem find_any (g : Nat) (P : List Nat) (root rk : Nat → Nat) (x : Nat) (w : World) (o : Own w g (uv P)) (h : UF P root rk) (hx : x < 10) :
    Calls Tryz.prog 107 #[.pointer (some ⟨g, 0, none⟩), .int .i64 (x : Int)] w fun e w' => e = .returned (.int .i64 (root x : Int)) ∧ (∃ P', UF P' root rk ∧ Own w' g (uv P')) ∧ Moved g w w' := by
  go_enter Tryz.func107, Tryz.ntmps107
  go_wp2_with fail
  go_loopw [1] (fun i wr => ∃ (z : Nat) (P' : List Nat), i = .int .i64 (z : Int) ∧ z < 10 ∧ root z = root x ∧ UF P' root rk ∧ Own wr g (uv P') ∧ Moved g w wr) (fun i _ => rk (intOf i).toNat)
  case atStart => exact ⟨x, P, rfl, hx, rfl, h, o, Moved.refl g w⟩
  case round =>
    clear o h
    obtain ⟨z, P', rfl, hz, hr, h, o, hm⟩ := hrel
    have hlen := h.len
    have f0 := o.at_ (uv_at (i := z) (by omega))
    have g0 := o.free z (by rw [len_uv]; omega)
    have hp := h.lt z hz
    have f1 := o.at_ (uv_at (i := pAt P' z) (by omega))
    have q0 : (0 : Int) ≤ (z : Int) := by omega
    have q1 : (z : Int) < 10 := by omega
    have q2 : (0 : Int) ≤ (pAt P' z : Int) := by omega
    have q3 : (pAt P' z : Int) < 10 := by omega
    by_cases he : pAt P' z = z
    · have t0 : ((pAt P' z : Int) != (z : Int)) = false := by rw [he]; simp
      have HR := Lib.hid (h.fix z hz he)
      have HR2 := Lib.hid hr
      have HH := Lib.hid h
      clear he hr h hlen
      generalize pAt P' z = y at *
      go_wp2
      go_ret
      exact ⟨by rw [← HR2.out, HR.out]; rfl, ⟨P', HH.out, o⟩, hm⟩
    · have t0 : ((pAt P' z : Int) != (z : Int)) = true := by rw [bne_iff_ne]; omega
      obtain ⟨h2, hrk, hr2, hl2⟩ := h.half hz he
      have HS := Lib.hid (uv_set P' z (pAt P' (pAt P' z)))
      have HH := Lib.hid h2
      have HR := Lib.hid (hr2.trans hr)
      have hlz : z < (uv P').length := by rw [len_uv]; omega
      clear he h h2 hr2 hr hlen
      generalize hY : pAt P' z = y at *
      generalize hU : pAt P' y = u at *
      clear hY hU
      go_wp2_with fail
      go_region_law (fail)
      all_goals
       have o2 := (o.set_ (i := z) hlz (.int .i64 (u : Int))).drew
       have f2 := (o.set_ (i := z) hlz (.int .i64 (u : Int))).at_ (i := z) (u := .int .i64 (u : Int)) (by simp [hlz])
       go_wp2
       go_roundw
       case rel =>
        rw [HS.out] at o2
        exact ⟨u, _, rfl, hl2, HR.out, HH.out, o2, (hm.set_ (.inl rfl) _).drew⟩
       case measure => simp [intOf]; exact hrk
set_option maxRecDepth 100000 in
set_option maxHeartbeats 1000000 in
theorem join_any (g : Nat) (P : List Nat) (root rk : Nat → Nat) (a b : Nat) (w : World) (o : Own w g (uv P)) (h : UF P root rk) (ha : a < 10) (hb : b < 10) :
    Calls Tryz.prog 105 #[.pointer (some ⟨g, 0, none⟩), .int .i64 (a : Int), .int .i64 (b : Int)] w fun e w' => e = .returned (.tuple #[]) ∧ (∃ P' rk', UF P' (fun z => if root z = root a then root b else root z) rk' ∧ Own w' g (uv P')) ∧ Moved g w w' := by
  go_enter Tryz.func105, Tryz.ntmps105
  go_wp2_with fail
  refine wp_onlyN ?_
  refine wp_region_any (by kernel_rfl) ?_
  refine wpAny_of_K (S := fun _ => True) (kp := fun _ => true) _ _ _ _ ?_
  have hS : True := trivial
  refine kr_take 0 6 (v := .pointer (some ⟨g, 0, none⟩)) rfl (by kernel_rfl) (by kernel_rfl) (by kernel_rfl) (by kernel_rfl) (fun _ _ _ h => by cases h.1) rfl hS (Or.inl ⟨by rfl, fun _ _ => rfl⟩) ?_; simp only [Act.put, List.setIfInBounds_toArray, List.set_cons_succ, List.set_cons_zero]
  refine kr_take 1 7 (v := .pointer (some ⟨g, 0, none⟩)) rfl (by kernel_rfl) (by kernel_rfl) (by kernel_rfl) (by kernel_rfl) (fun _ _ _ h => by cases h.1) rfl hS (Or.inl ⟨by rfl, fun _ _ => rfl⟩) ?_; simp only [Act.put, List.setIfInBounds_toArray, List.set_cons_succ, List.set_cons_zero]
  refine kr_take 2 8 (v := .int .i64 (a : Int)) rfl (by kernel_rfl) (by kernel_rfl) (by kernel_rfl) (by kernel_rfl) (fun _ _ _ h => by cases h.1) rfl hS (Or.inl ⟨by rfl, fun _ _ => rfl⟩) ?_; simp only [Act.put, List.setIfInBounds_toArray, List.set_cons_succ, List.set_cons_zero]
  refine kr_take 4 10 (v := .pointer (some ⟨g, 0, none⟩)) rfl (by kernel_rfl) (by kernel_rfl) (by kernel_rfl) (by kernel_rfl) (fun _ _ _ h => by cases h.1) rfl hS (Or.inl ⟨by rfl, fun _ _ => rfl⟩) ?_; simp only [Act.put, List.setIfInBounds_toArray, List.set_cons_succ, List.set_cons_zero]
  refine kr_take 5 11 (v := .int .i64 (b : Int)) rfl (by kernel_rfl) (by kernel_rfl) (by kernel_rfl) (by kernel_rfl) (fun _ _ _ h => by cases h.1) rfl hS (Or.inl ⟨by rfl, fun _ _ => rfl⟩) ?_; simp only [Act.put, List.setIfInBounds_toArray, List.set_cons_succ, List.set_cons_zero]
  refine kr_take 7 13 (v := .pointer (some ⟨g, 0, none⟩)) rfl (by kernel_rfl) (by kernel_rfl) (by kernel_rfl) (by kernel_rfl) (fun _ _ _ h => by cases h.1) rfl hS (Or.inl ⟨by rfl, fun _ _ => by simp [go_sem]⟩) ?_; simp only [Act.put, List.setIfInBounds_toArray, List.set_cons_succ, List.set_cons_zero]
  refine kr_take 8 14 (v := .pointer (some ⟨g, 0, none⟩)) rfl (by kernel_rfl) (by kernel_rfl) (by kernel_rfl) (by kernel_rfl) (fun _ _ _ h => by cases h.1) rfl hS (Or.inl ⟨by rfl, fun _ _ => by simp [go_sem]⟩) ?_; simp only [Act.put, List.setIfInBounds_toArray, List.set_cons_succ, List.set_cons_zero]
  refine kr_callM 3 9 (by kernel_rfl) rfl (by rfl) rfl (fun w => by simp [go_sem]) (find_any g P root rk a w.drew o.drew h ha) (fun e w1 hT => ?_)
  obtain ⟨rfl, ⟨P1, h1, o1⟩, hm1⟩ := hT
  refine ⟨_, rfl, trivial, ?_⟩
  simp only [Act.put, List.setIfInBounds_toArray, List.set_cons_succ, List.set_cons_zero]
  refine kr_callM 6 12 (by kernel_rfl) rfl (by rfl) rfl (fun w => by simp [go_sem]) (find_any g P1 root rk b w1 o1 h1 hb) (fun e w2 hT => ?_)
  obtain ⟨rfl, ⟨P2, h2, o2⟩, hm2⟩ := hT
  refine ⟨_, rfl, trivial, ?_⟩
  simp only [Act.put, List.setIfInBounds_toArray, List.set_cons_succ, List.set_cons_zero]
  have la := h2.root_lt ha
  have lb := h2.root_lt hb
  have hj := h2.join ha hb
  have HJ := Lib.hid hj
  have hlen := h2.len
  have hla : root a < (uv P2).length := by rw [len_uv]; omega
  have HS := Lib.hid (uv_set P2 (root a) (root b))
  obtain ⟨x0, f0⟩ := o2.some_ (i := root a) hla
  have g0 := o2.free (root a) hla
  have q0 : (0 : Int) ≤ (root a : Int) := by omega
  have q1 : (root a : Int) < 10 := by omega
  refine kr_take 9 15 (v := .pointer (some ⟨g, root a, none⟩)) rfl (by kernel_rfl) (by kernel_rfl) (by kernel_rfl) (by kernel_rfl) (fun _ _ _ h => by cases h.1) rfl hS (Or.inl ⟨by rfl, fun w' hw' => by simp [go_sem, q0, q1]⟩) ?_; simp only [Act.put, List.setIfInBounds_toArray, List.set_cons_succ, List.set_cons_zero]
  have o3 := o2.set_ (i := root a) hla (.int .i64 (root b : Int))
  rw [HS.out] at o3
  have hm3 : Moved g w (w2.setCell ⟨g, root a, none⟩ (.int .i64 (root b : Int))) := (((Moved.refl g w).drew.trans hm1).trans hm2).set_ (.inl rfl) _
  clear hj hlen h1 h2 o1 o2 hm1 hm2
  refine kr_one 10 (by kernel_rfl) rfl (by rfl) ?_
  simp [Oper.wp, Oper.upon, go_sem, f0, g0]
  refine ⟨by kernel_rfl, onlyN_mk ?_⟩
  go_wp2
  go_end0
  exact ⟨rfl, ⟨_, _, HJ.out, o3⟩, hm3⟩
end Go.Proofs.YtdmnkcmkpjmfaaaGreat

/- The letters and the parts of a menu, of the program. -/
namespace Go.Proofs.YtdmnkcmkpjmfaaaGreat
open Go.RowKit
attribute [local go_sem] Oper.semAt_some

/-- The letters of a menu below k. -/
def letX (ms : List Lnk) (k : Nat) : List Nat := (List.range k).filter fun n => decide (0 < degN ms n)
theorem letX_succ (ms : List Lnk) (k : Nat) : letX ms (k + 1) = letX ms k ++ if decide (0 < degN ms k) = true then [k] else [] := by
  unfold letX
  rw [List.range_succ, List.filter_append]
  congr 1
  by_cases h : decide (0 < degN ms k) = true <;> simp [h]
theorem letX_len (ms : List Lnk) (k : Nat) : (letX ms k).length ≤ k := Nat.le_trans (List.length_filter_le _ _) (by simp)
set_option maxRecDepth 100000 in
set_option maxHeartbeats 1000000 in
theorem implMenuLetters_yes (am : Option Addr) (cm : Nat) (ms : List Lnk) (w : World) (hrm : Reads w w.heap.size am (lks ms)) (hz : SmL ms) (hl : ms.length ≤ 4294967296) (hm : menuB ms = true) :
    Calls Tryz.prog 106 #[.slice am ms.length cm] w fun e w' => e = .returned (.string (wd (letL ms))) ∧ Below w.heap.size w w' := by
  have hv := implMenuValid_any am cm ms w hrm hz hl
  rw [hm] at hv
  have HRM := Lib.hid (fun (wr : World) (hb : Below w.heap.size w wr) => (hrm.below hb (Nat.le_refl _)).more hb.size)
  clear hrm
  go_enter Tryz.func106, Tryz.ntmps106
  go_wp2_with fail
  refine hv.mono ?_
  rintro e w1 ⟨rfl, hb1⟩
  clear hv
  go_wp2_with fail
  refine (linkCounts_any am cm ms w1 (HRM.out _ hb1) hm).mono ?_
  rintro e w2 ⟨rfl, hb2⟩
  have hb := bt hb1 hb2
  have z2 : Own (w2.alloc (.cells #[.int .i64 0, .int .i64 0, .int .i64 0, .int .i64 0, .int .i64 0, .int .i64 0, .int .i64 0, .int .i64 0, .int .i64 0, .int .i64 0] 112)) w2.heap.size zi10 := Own.new w2 zi10 112
  have hbz := hb.size
  go_wp2_with (first | (((with_reducible refine wl_store 112 0 z2 (size_cnv ms) (cnv_one _) (by rw [len_cnv, len_zi10]; omega) ?_ ?_ ?_ ?_); (· rfl); (· rfl); (· rfl); intro w5 o5 b5 s5); rw [put_all (by rw [len_cnv, len_zi10])] at o5) | ((with_reducible refine wl_load 112 o5.cells (size_cnv ms) Tryz.underlying112 ?_ ?_ ?_ ?_); (· rfl); (· rfl); (· rfl)))
  have hz5 : w.heap.size ≤ w5.heap.size := by have := b5.size; rw [World.size_alloc] at this; omega
  clear s5
  have hbw5 : Below w.heap.size w w5 := bel_store (hb.alloc hbz _) b5 (by rw [World.size_alloc]; omega) hbz
  clear o5
  go_loopw [4, 5, 6, 13] (fun u _ _ i wr => ∃ k : Nat, k ≤ 10 ∧ i = .int .i64 k ∧ OwR wr w5.heap.size 5 1 u (letX ms k).length (bv (lts (letX ms k))) ∧ Below w5.heap.size w5 wr) (fun _ _ _ i _ => 10 - (intOf i).toNat)
  case atStart => exact ⟨0, by omega, rfl, World.ownsRow_nil _ _ _ _, Below.refl _ _⟩
  case round =>
    obtain ⟨k, hk, rfl, hown, hb⟩ := hrel
    by_cases hlt : k < 10
    · have tk : decide ((k : Int) < 10) = true := decide_eq_true (by omega)
      have HS := Lib.hid (letX_succ ms k)
      have hle := letX_len ms k
      have hz0 := hb.size
      generalize letX ms k = l at *
      have e1 := cnv_at ms hlt
      obtain ⟨la, lc, rfl, -, -, -⟩ := OwR.val hown
      by_cases hd : 0 < degN ms k
      · have HS2 : Hid (letX ms (k + 1) = l ++ [k]) := Lib.hid (by rw [HS.out, if_pos (by simpa using hd)])
        have t1 : decide (0 < degN ms k) = true := decide_eq_true hd
        clear hd HS
        generalize degN ms k = D at *
        go_wp2_with ((with_reducible refine wl_index 112 e1 hlt Tryz.underlying112 agg_int size_int ?_ ?_ ?_ ?_); (· rfl); (· rfl); (· rfl))
        refine (implLetter_any (k : Int) _ (by omega) (by omega)).mono ?_
        rintro e w' ⟨rfl, rfl⟩
        go_wp2_with (at_builtin; ((with_reducible refine wl_push 47 5 info_byte Tryz.underlying47 rfl (by omega) hown hz0 rfl (by simp [Value.oneCell']) (by omega) (by omega) rfl rfl ?_); intro g7 cap w7 o7 b7 k7))
        go_roundw
        case rel => exact ⟨k + 1, by omega, by go_num, by rw [HS2.out, List.length_append, lts_snoc, bv_append]; exact o7, hb.trans b7⟩
        case measure => simp [intOf]; omega
      · have HS2 : Hid (letX ms (k + 1) = l) := Lib.hid (by rw [HS.out, if_neg (by simpa using hd), List.append_nil])
        have t1 : decide (0 < degN ms k) = false := decide_eq_false hd
        clear hd HS
        generalize degN ms k = D at *
        go_wp2_with ((with_reducible refine wl_index 112 e1 hlt Tryz.underlying112 agg_int size_int ?_ ?_ ?_ ?_); (· rfl); (· rfl); (· rfl))
        go_roundw
        case rel => exact ⟨k + 1, by omega, by go_num, by rw [HS2.out]; exact hown, hb⟩
        case measure => simp [intOf]; omega
    · have tk : decide ((k : Int) < 10) = false := decide_eq_false (by omega)
      have hk' : k = 10 := by omega
      subst hk'
      have hc := OwR.conv hown
      go_wp2
      go_ret
      exact ⟨rfl, hbw5.trans (hb.mono hz5)⟩
/-- The places of the roots: one more than the number of the part. -/
def rotV (rs : List Nat) : List Value := (List.range 10).map fun r => .int .i64 ((if r ∈ rs then rs.idxOf r + 1 else 0 : Nat) : Int)
theorem len_rotV (rs : List Nat) : (rotV rs).length = 10 := by simp [rotV]
theorem rotV_nil : rotV [] = zi10 := rfl
theorem rotV_at (rs : List Nat) {r : Nat} (h : r < 10) : (rotV rs)[r]? = some (.int .i64 ((if r ∈ rs then rs.idxOf r + 1 else 0 : Nat) : Int)) := by simp [rotV, h]
theorem rotV_snoc {rs : List Nat} {r : Nat} (h : r ∉ rs) : (rotV rs).set r (.int .i64 ((rs.length : Int) + 1)) = rotV (rs ++ [r]) := by
  refine List.ext_getElem (by simp [len_rotV]) fun i h1 h2 => ?_
  have hi : i < 10 := by simpa [len_rotV] using h1
  rw [List.getElem_set]
  simp only [rotV, List.getElem_map, List.getElem_range]
  by_cases e : r = i
  · subst e
    rw [if_pos rfl, if_pos (by simp), List.idxOf_append, if_neg h]
    simp
  · rw [if_neg e]
    by_cases hm : i ∈ rs
    · rw [if_pos hm, if_pos (by simp [hm]), List.idxOf_append, if_pos hm]
    · rw [if_neg hm, if_neg (by simp [hm]; exact fun h => e h.symm)]
theorem part_old {root : Nat → Nat} {l : List Nat} {a i : Nat} (h : (rotsL root l)[i]? = some (root a)) :
    rotsL root (l ++ [a]) = rotsL root l ∧ partL root (l ++ [a]) = (partL root l).set i ((partL root l).getD i [] ++ [a]) := by
  obtain ⟨hi, e⟩ := List.getElem?_eq_some_iff.1 h
  obtain ⟨h1, h2⟩ := partL_old hi e
  refine ⟨h1, ?_⟩
  rw [h2]
  congr 2
  simp [List.getD, len_partL, hi]
/-- The texts of parts. -/
def pts (ps : List (List Nat)) : List ByteArray := ps.map wd
theorem len_pts (ps : List (List Nat)) : (pts ps).length = ps.length := by simp [pts]
set_option maxRecDepth 100000 in
set_option maxHeartbeats 4000000 in
theorem implMenuParts_yes (am : Option Addr) (cm : Nat) (ms : List Lnk) (w : World) (hrm : Reads w w.heap.size am (lks ms)) (hz : SmL ms) (hl : ms.length ≤ 4294967296) (hm : menuB ms = true) :
    Calls Tryz.prog 49 #[.slice am ms.length cm] w fun e w' => ∃ ps, Parts ms ps ∧ RowPost 9 1 ps.length (sv (pts ps)) w e w' := by
  have hv := implMenuValid_any am cm ms w hrm hz hl
  rw [hm] at hv
  have HRM := Lib.hid (fun (wr : World) (hb : Below w.heap.size w wr) => (hrm.below hb (Nat.le_refl _)).more hb.size)
  have HML := Lib.hid (fun (wr : World) (hb : Below w.heap.size w wr) => implMenuLetters_yes am cm ms wr ((hrm.below hb (Nat.le_refl _)).more hb.size) hz hl hm)
  have hfew := (menuB_asc hm).few
  have HLK := Lib.hid (menuB_lnk hm)
  have HPO := Lib.hid (fun root (h : UM ms root) => parts_of h hm)
  clear hrm hm hz
  go_enter Tryz.func49, Tryz.ntmps49
  go_wp2_with fail
  refine hv.mono ?_
  rintro e w1 ⟨rfl, hb1⟩
  clear hv
  go_wp2_with fail
  refine (newUnion_any w1).mono ?_
  rintro e w2 ⟨g, rfl, hg, o2, hb2⟩
  have hb := bt hb1 hb2
  have hgw : w.heap.size ≤ g := by have := hb1.size; omega
  clear hb1 hb2 hg
  go_wp2_with fail
  go_loopw [5, 17] (fun _ i wr => ∃ (k : Nat) (P : List Nat) (root rk : Nat → Nat), k ≤ ms.length ∧ i = .int .i64 k ∧ UF P root rk ∧ UM (ms.take k) root ∧ Own wr g (uv P) ∧ Below w.heap.size w wr) (fun _ i _ => ms.length - (intOf i).toNat)
  case atStart => exact ⟨0, _, _, _, Nat.zero_le _, rfl, UF.start, UM.start, o2, hb⟩
  case round =>
    clear o2 hb
    obtain ⟨k, P, root, rk, hk, rfl, hU, hM, o, hb⟩ := hrel
    by_cases hlt : k < ms.length
    · have tk : decide ((k : Int) < (ms.length : Int)) = true := decide_eq_true (by omega)
      obtain ⟨b, off, rfl, hbl, hcl⟩ := (HRM.out _ hb).open_ (by rw [len_lks]; omega)
      have c0 := hcl (k * 3) (by rw [len_lks]; omega)
      have c1 := hcl (k * 3 + 1) (by rw [len_lks]; omega)
      have c2 := hcl (k * 3 + 2) (by rw [len_lks]; omega)
      rw [lks_at0 _ _ hlt] at c0
      rw [lks_at1 _ _ hlt, ← Nat.add_assoc] at c1
      rw [lks_at2 _ _ hlt, ← Nat.add_assoc] at c2
      clear hcl
      have hok := HLK.out ms[k] (List.getElem_mem hlt)
      have HJ := Lib.hid (hM.join ms[k] hok.pl hok.cl)
      rw [← List.take_succ_eq_append_getElem hlt] at HJ
      have HU := Lib.hid hU
      clear hM hU
      generalize ms[k] = x at *
      have e1 := hok.p1
      have e2 := hok.c1
      have g1 := hok.pl
      have g2 := hok.cl
      have hw2 := word_two hok.wd
      obtain ⟨d1, -, d3⟩ := lk_letter e1 hw2.1
      obtain ⟨d4, -, d6⟩ := lk_letter e2 hw2.2
      have n1 := fun W => implNumber_any (x.p[0]'(by omega)) W d3
      have n2 := fun W => implNumber_any (x.c[0]'(by omega)) W d6
      rw [d1] at n1
      rw [d4] at n2
      have x0 := Own.new wr [.string x.p, .string x.c, .int .i64 x.k] 72
      have o3 := o.alloc (.cells [.string x.p, .string x.c, .int .i64 x.k].toArray 72)
      have hz := hb.size
      have hb1 := hb.alloc hz (.cells [.string x.p, .string x.c, .int .i64 x.k].toArray 72)
      have q1 : (0 : Int) ≤ (k : Int) := by omega
      have q2 : (k : Int) < (ms.length : Int) := by omega
      have lgo := o.lt
      have s1 : 0 < x.p.size := by omega
      have s2 : 0 < x.c.size := by omega
      clear d1 d3 d4 d6 hw2 hok o hb
      obtain ⟨xp, xc, xk⟩ := x
      simp only at *
      generalize hA : lkA xp = A at *
      generalize hC : lkA xc = C at *
      clear hA hC
      go_wp2_with fail
      generalize hBL : wr.heap.size = BL at *
      generalize (wr.alloc (.cells [.string xp, .string xc, .int .i64 xk].toArray 72)) = W at *
      have h0 := x0.at_ (i := 0) rfl
      have h1 := x0.at_ (i := 1) rfl
      refine wp_onlyN ?_
      refine wp_region_any (by kernel_rfl) ?_
      refine wpAny_of_K (S := fun w' => w'.cell? ⟨BL, 0, none⟩ = some (.string xp) ∧ w'.cell? ⟨BL, 1, none⟩ = some (.string xc)) (kp := fun _ => true) _ _ _ _ ?_
      have hS : W.drew.cell? ⟨BL, 0, none⟩ = some (.string xp) ∧ W.drew.cell? ⟨BL, 1, none⟩ = some (.string xc) := ⟨h0, h1⟩
      refine kr_take 0 21 (v := .pointer (some ⟨g, 0, none⟩)) rfl (by kernel_rfl) (by kernel_rfl) (by kernel_rfl) (by kernel_rfl) (fun _ _ _ h => by cases h.1) rfl hS (Or.inl ⟨by rfl, fun _ _ => rfl⟩) ?_; simp only [Act.put, List.setIfInBounds_toArray, List.set_cons_succ, List.set_cons_zero]
      refine kr_take 1 22 (v := .pointer (some ⟨BL, 0, none⟩)) rfl (by kernel_rfl) (by kernel_rfl) (by kernel_rfl) (by kernel_rfl) (fun _ _ _ h => by cases h.1) rfl hS (Or.inl ⟨by rfl, fun _ _ => by simp [go_sem]⟩) ?_; simp only [Act.put, List.setIfInBounds_toArray, List.set_cons_succ, List.set_cons_zero]
      refine kr_take 2 23 (v := .string xp) rfl (by kernel_rfl) (by kernel_rfl) (by kernel_rfl) (by kernel_rfl) (fun _ _ _ h => by cases h.1) rfl hS (Or.inl ⟨by rfl, fun w' hw' => by have hw1 := hw'.1; simp [go_sem, hw1]⟩) ?_; simp only [Act.put, List.setIfInBounds_toArray, List.set_cons_succ, List.set_cons_zero]
      refine kr_take 3 24 (v := .int .u8 ((xp[0]'(by omega)).toNat : Int)) rfl (by kernel_rfl) (by kernel_rfl) (by kernel_rfl) (by kernel_rfl) (fun _ _ _ h => by cases h.1) rfl hS (Or.inl ⟨by rfl, fun w' hw' => by simp [go_sem, s1]⟩) ?_; simp only [Act.put, List.setIfInBounds_toArray, List.set_cons_succ, List.set_cons_zero]
      refine kr_take 5 26 (v := .pointer (some ⟨BL, 1, none⟩)) rfl (by kernel_rfl) (by kernel_rfl) (by kernel_rfl) (by kernel_rfl) (fun _ _ _ h => by cases h.1) rfl hS (Or.inl ⟨by rfl, fun _ _ => by simp [go_sem]⟩) ?_; simp only [Act.put, List.setIfInBounds_toArray, List.set_cons_succ, List.set_cons_zero]
      refine kr_take 6 27 (v := .string xc) rfl (by kernel_rfl) (by kernel_rfl) (by kernel_rfl) (by kernel_rfl) (fun _ _ _ h => by cases h.1) rfl hS (Or.inl ⟨by rfl, fun w' hw' => by have hw1 := hw'.2; simp [go_sem, hw1]⟩) ?_; simp only [Act.put, List.setIfInBounds_toArray, List.set_cons_succ, List.set_cons_zero]
      refine kr_take 7 28 (v := .int .u8 ((xc[0]'(by omega)).toNat : Int)) rfl (by kernel_rfl) (by kernel_rfl) (by kernel_rfl) (by kernel_rfl) (fun _ _ _ h => by cases h.1) rfl hS (Or.inl ⟨by rfl, fun w' hw' => by simp [go_sem, s2]⟩) ?_; simp only [Act.put, List.setIfInBounds_toArray, List.set_cons_succ, List.set_cons_zero]
      refine kr_callM 4 25 (by kernel_rfl) rfl (by rfl) rfl (fun w => by simp [go_sem]) (n1 W.drew) (fun e w' hT => ?_)
      obtain ⟨rfl, rfl⟩ := hT
      refine ⟨_, rfl, hS, ?_⟩
      simp only [Act.put, List.setIfInBounds_toArray, List.set_cons_succ, List.set_cons_zero]
      refine kr_callM 8 29 (by kernel_rfl) rfl (by rfl) rfl (fun w => by simp [go_sem]) (n2 W.drew) (fun e w' hT => ?_)
      obtain ⟨rfl, rfl⟩ := hT
      refine ⟨_, rfl, hS, ?_⟩
      simp only [Act.put, List.setIfInBounds_toArray, List.set_cons_succ, List.set_cons_zero]
      refine kr_callM 9 30 (by kernel_rfl) rfl (by rfl) rfl (fun w => by simp [go_sem]) (join_any g P root rk A C W.drew o3.drew HU.out g1 g2) (fun e w3 hT => ?_)
      obtain ⟨rfl, ⟨P3, rk3, hU3, o4⟩, hm3⟩ := hT
      have hS3 : w3.cell? ⟨BL, 0, none⟩ = some (.string xp) ∧ w3.cell? ⟨BL, 1, none⟩ = some (.string xc) := by
        have x3 := x0.drew.grown hm3 (by simp; omega)
        exact ⟨x3.at_ (i := 0) rfl, x3.at_ (i := 1) rfl⟩
      refine ⟨_, rfl, hS3, ?_⟩
      simp only [Act.put, List.setIfInBounds_toArray, List.set_cons_succ, List.set_cons_zero]
      refine ⟨by kernel_rfl, onlyN_mk ?_⟩
      have HU3 := Lib.hid hU3
      have hb3 : Below w.heap.size w w3 := hb1.drew.trans (hm3.toBelow hgw hb1.size)
      clear hS3 hU3 hm3 o3 x0 h0 h1 hb1
      go_wp2
      go_roundw
      case rel => exact ⟨k + 1, P3, _, rk3, by omega, by go_num, HU3.out, HJ.out, o4, hb3⟩
      case measure => simp [intOf]; omega
    · have tk : decide ((k : Int) < (ms.length : Int)) = false := decide_eq_false (by omega)
      have hk' : k = ms.length := by omega
      rw [hk', List.take_length] at hM
      have HP := Lib.hid (HPO.out root hM)
      have HU := Lib.hid hU
      have hz0 := hb.size
      have lg := o.lt
      have z4 : Own (wr.alloc (.cells zi10.toArray 112)) wr.heap.size (rotV []) := Own.new wr zi10 112
      have o4 := o.alloc (.cells zi10.toArray 112)
      have hb4 := hb.alloc hz0 (.cells zi10.toArray 112)
      have hz4 : (wr.alloc (.cells zi10.toArray 112)).heap.size = wr.heap.size + 1 := by simp
      clear hM hU o hb
      go_wp2_with fail
      generalize hA : wr.heap.size = A at *
      have z4' : Own (wr.alloc (.cells #[.int .i64 0, .int .i64 0, .int .i64 0, .int .i64 0, .int .i64 0, .int .i64 0, .int .i64 0, .int .i64 0, .int .i64 0, .int .i64 0] 112)) A (rotV []) := z4
      have o4' : Own (wr.alloc (.cells #[.int .i64 0, .int .i64 0, .int .i64 0, .int .i64 0, .int .i64 0, .int .i64 0, .int .i64 0, .int .i64 0, .int .i64 0, .int .i64 0] 112)) g (uv P) := o4
      have hb4' : Below w.heap.size w (wr.alloc (.cells #[.int .i64 0, .int .i64 0, .int .i64 0, .int .i64 0, .int .i64 0, .int .i64 0, .int .i64 0, .int .i64 0, .int .i64 0, .int .i64 0] 112)) := hb4
      have hz4' : (wr.alloc (.cells #[.int .i64 0, .int .i64 0, .int .i64 0, .int .i64 0, .int .i64 0, .int .i64 0, .int .i64 0, .int .i64 0, .int .i64 0, .int .i64 0] 112)).heap.size = A + 1 := hz4
      clear z4 o4 hb4 hz4
      generalize (wr.alloc (.cells #[.int .i64 0, .int .i64 0, .int .i64 0, .int .i64 0, .int .i64 0, .int .i64 0, .int .i64 0, .int .i64 0, .int .i64 0, .int .i64 0] 112)) = W4 at *
      refine (HML.out _ hb4').mono ?_
      rintro e w5 ⟨rfl, hb5⟩
      have lA := z4'.lt
      have z5 := z4'.below hb5 lA
      have o5 := o4'.below hb5 o4'.lt
      have hbw5 := bt hb4' hb5
      have hz5 := hb5.size
      obtain ⟨cap6, w6, hcv, oC, hb6, s6, hcap6⟩ := conv_bytes w5 (wd (letL ms))
      have hLW : L (wd (letL ms)) = lts (letL ms) := L_wd (letL ms)
      rw [hLW] at oC
      have hsw : (wd (letL ms)).size = (letL ms).length := size_wd _
      rw [hsw] at hcv
      have z6 := z5.below hb6 z5.lt
      have o6 := o5.below hb6 o5.lt
      have hbw6 := bt hbw5 hb6
      have hll := letL_len ms
      have HMM := Lib.hid (fun a (h : a ∈ letL ms) => (mem_letL.1 h).1)
      have hz6 := hb6.size
      clear z4' o4' hb4' hb5 z5 o5 hbw5 hb6 hsw
      generalize hLs : letL ms = ls at *
      generalize wd ls = s at *
      go_wp2_with fail
      have lgA : g < A := lg
      have lAC : A < w5.heap.size := by omega
      have lC := oC.lt
      generalize w5.heap.size = C at *
      generalize hE : w6.heap.size = E at *
      clear hcv hLW
      go_loopw [6, 9, 10, 36] (fun u _ _ i wr => ∃ (k : Nat) (P : List Nat), k ≤ ls.length ∧ i = .int .i64 k ∧ UF P root rk ∧ Own wr g (uv P) ∧ Own wr A (rotV (rotsL root (ls.take k))) ∧ Own wr C (bv (lts ls)) ∧ OwR wr E 9 1 u (partL root (ls.take k)).length (sv (pts (partL root (ls.take k)))) ∧ Below w.heap.size w wr ∧ E ≤ wr.heap.size) (fun _ _ _ i _ => ls.length - (intOf i).toNat)
      case atStart => exact ⟨0, P, Nat.zero_le _, rfl, HU.out, o6, z6, oC, World.ownsRow_nil _ _ _ _, hbw6, by omega⟩
      case round =>
        clear o6 z6 oC hbw6 HU
        obtain ⟨k, P, hk, rfl, hU, o, z, oC, hown, hb, hEz⟩ := hrel
        by_cases hlt : k < ls.length
        · have tk : decide ((k : Int) < (ls.length : Int)) = true := decide_eq_true (by omega)
          have ha := HMM.out ls[k] (List.getElem_mem hlt)
          have c0 := oC.at_ (i := k) (bv_at (by rw [lts_len]; exact hlt))
          rw [show (lts ls)[k]'(by rw [lts_len]; exact hlt) = letr (ls[k] : Int) by simp [lts]] at c0
          have n1 := fun W => implNumber_any (letr (ls[k] : Int)) W (by rw [letr_toNat]; omega)
          rw [dig_letr, show ((ls[k] : Int) % 10) = (ls[k] : Int) by omega] at n1
          have HOLD := Lib.hid (fun (i : Nat) (h : (rotsL root (ls.take k))[i]? = some (root ls[k])) => part_old h)
          have HNEW := Lib.hid (@partL_new root (ls.take k) ls[k])
          rw [← List.take_succ_eq_append_getElem hlt] at HOLD HNEW
          have HSM := Lib.hid (fun p (hp : p ∈ partL root (ls.take k)) => show p.length ≤ 10 by
            obtain ⟨r, -, rfl⟩ := List.mem_map.1 hp
            exact Nat.le_trans (List.length_filter_le _ _) (by rw [List.length_take]; omega))
          have HLN := Lib.hid (len_partL root (ls.take k))
          have hfew2 := rots_few root (ls.take k)
          rw [List.length_take] at hfew2
          have q1 : (0 : Int) ≤ (k : Int) := by omega
          have q2 : (k : Int) < (ls.length : Int) := by omega
          generalize ls[k] = a at *
          generalize hRS : rotsL root (ls.take k) = rs at *
          generalize hRS2 : rotsL root (ls.take (k + 1)) = rs2 at *
          generalize hPL : partL root (ls.take k) = pl at *
          generalize hPL2 : partL root (ls.take (k + 1)) = pl2 at *
          clear hRS
          have HRS2 := Lib.hid hRS2
          have HPL2 := Lib.hid hPL2
          clear hRS2 hPL hPL2
          go_wp2_with fail
          refine (n1 _).mono ?_
          rintro e w' ⟨rfl, rfl⟩
          go_wp2_with fail
          refine (find_any g P root rk a wr o hU ha).mono ?_
          rintro e w7 ⟨rfl, ⟨P7, hU7, o7⟩, hm7⟩
          have z7 := z.grown hm7 (by simp; omega)
          have oC7 := oC.grown hm7 (by simp; omega)
          have hown7 := OwR.moved hown hm7 (by omega)
          have hb7 := hb.trans (hm7.toBelow hgw hb.size)
          have hz7 := hm7.size
          have hr10 := hU.root_lt ha
          have HU7 := Lib.hid hU7
          have f0 := z7.at_ (rotV_at rs hr10)
          have g0 := z7.free (root a) (by rw [len_rotV]; exact hr10)
          have q3 : (0 : Int) ≤ (root a : Int) := by omega
          have q4 : (root a : Int) < 10 := by omega
          have HRL := Lib.hid (@rotV_snoc rs (root a))
          clear o z oC hown hb hm7 hU hU7 c0 n1
          obtain ⟨la, lc, rfl, -, -, -⟩ := OwR.val hown7
          generalize hRA : root a = r at *
          have hEz7 : E ≤ w7.heap.size := by omega
          have hpl10 : pl.length ≤ 10 := by have := HLN.out; omega
          have hval := OwR.val hown7
          obtain ⟨q, hq⟩ : ∃ q : Nat, q = if r ∈ rs then rs.idxOf r + 1 else 0 := ⟨_, rfl⟩
          rw [← hq] at f0
          have HQ := Lib.hid hq
          clear hq
          go_upto_if 47 with (fail)
          go_cut [6] (fun u wx => ∃ (ps : List (List Nat)) (i pg pc : Nat), i < ps.length ∧ ps.length ≤ 10 ∧ (ps.getD i []).length ≤ 10 ∧ u = .slice (some ⟨pg, 0, none⟩) ps.length pc ∧ ps.set i (ps.getD i [] ++ [a]) = pl2 ∧ (rotV rs2)[r]? = some (.int .i64 ((i : Int) + 1)) ∧ Own wx g (uv P7) ∧ Own wx A (rotV rs2) ∧ Own wx C (bv (lts ls)) ∧ OwR wx E 9 1 (.slice (some ⟨pg, 0, none⟩) ps.length pc) ps.length (sv (pts ps)) ∧ Below w.heap.size w wx ∧ E ≤ wx.heap.size)
          case first =>
            by_cases hin : r ∈ rs
            · have hq := HQ.out
              rw [if_pos hin] at hq
              have hi := List.idxOf_lt_length_of_mem hin
              have he : rs[rs.idxOf r]? = some r := by rw [List.getElem?_eq_getElem hi, List.getElem_idxOf hi]
              obtain ⟨h1, h2⟩ := HOLD.out _ he
              have hv := rotV_at rs2 hr10
              rw [h1, if_pos hin] at hv
              generalize rs.idxOf r = i at *
              have hc : ((i + 1 : Nat) : Int) = (i : Int) + 1 := by omega
              rw [hc] at hv
              have t47 : ((q : Int) == 0) = false := by rw [beq_eq_false_iff_ne]; omega
              obtain ⟨a', c', he2, -, -, hor⟩ := hval
              injection he2 with ea _ ec
              subst ea; subst ec
              have HI := Lib.hid (show i < pl.length by have := HLN.out; omega)
              rcases hor with hor | ⟨pg, rfl, hpg, -⟩
              · have := HI.out; omega
              have H1 := Lib.hid h1
              have H2 := Lib.hid h2
              have HV := Lib.hid hv
              clear h1 h2 hv he hi hin hc hq
              go_wp2_with fail
              go_meet
              rw [H1.out]
              refine ⟨pl, i, pg, lc, HI.out, by omega, ?_, rfl, H2.out.symm, HV.out, o7, z7, oC7, hown7, hb7, hEz7⟩
              exact HSM.out _ (by rw [show pl.getD i [] = pl[i]'HI.out by simp [List.getD, HI.out]]; exact List.getElem_mem _)
            · have hq := HQ.out
              rw [if_neg hin] at hq
              have t47 : ((q : Int) == 0) = true := by rw [beq_iff_eq]; omega
              clear hq
              obtain ⟨h1, h2⟩ := HNEW.out hin
              have h3 := HRL.out hin
              have hv := rotV_at rs2 hr10
              rw [h1, if_pos (by simp), List.idxOf_append, if_neg hin] at hv
              have hneA : (Value.slice la pl.length lc).ownBlock ≠ some A := fun e => by have := (World.ownsRow.lt hown7 _ e).1; omega
              have hneC : (Value.slice la pl.length lc).ownBlock ≠ some C := fun e => by have := (World.ownsRow.lt hown7 _ e).1; omega
              have hneg : (Value.slice la pl.length lc).ownBlock ≠ some g := fun e => by have := (World.ownsRow.lt hown7 _ e).1; omega
              have H1 := Lib.hid h1
              have H2 := Lib.hid h2
              have H3 := Lib.hid h3
              have HV := Lib.hid hv
              clear h1 h2 h3 hv hval hin
              go_upto_region 17 with (at_builtin; ((with_reducible refine wl_pushG 30 9 info_str Tryz.underlying30 rfl (by omega) hown7 hEz7 rfl (by simp [Value.oneCell']) (by omega) (by omega) rfl rfl ?_); intro g8 cap w8 o8 m8 n8 s8 k8))
              have z8 := z7.grownO m8 hneA
              have oC8 := oC7.grownO m8 hneC
              have o8' := o7.grownO m8 hneg
              have hb8 := hb7.grown m8 hb7.size (fun x e => by have := (World.ownsRow.lt hown7 x e).1; omega)
              obtain ⟨x1, f1⟩ := z8.some_ (i := r) (by rw [len_rotV]; exact hr10)
              have g1 := z8.free r (by rw [len_rotV]; exact hr10)
              have z9 := z8.set_ (i := r) (by rw [len_rotV]; exact hr10) (.int .i64 ((pl.length : Int) + 1))
              have hne2 : ¬ E ≤ A := by omega
              clear z7 oC7 o7 hb7 hown7 k8 n8 m8 z8 f0 g0
              go_wp2_with fail
              go_meet
              have hln := HLN.out
              have hps : sv (pts (pl ++ [[]])) = sv (pts pl) ++ [.string ⟨#[]⟩] := by rw [pts, List.map_append, sv_append]; rfl
              have H3' : (rotV rs).set r (.int .i64 ((pl.length : Int) + 1)) = rotV (rs ++ [r]) := by rw [hln]; exact H3.out
              rw [H3'] at z9
              rw [H1.out, H2.out]
              refine ⟨pl ++ [[]], pl.length, g8, cap, by simp, by rw [List.length_append]; simp; omega, by simp, by rw [List.length_append]; rfl, by simp, ?_, ?_, z9, ?_, ?_, ?_, ?_⟩
              · have e0 : ((List.idxOf r [r] + rs.length + 1 : Nat) : Int) = (pl.length : Int) + 1 := by rw [hln]; simp
                rw [HV.out, e0]
              · exact o8'.far (by simp; omega) _
              · exact oC8.far (by simp; omega) _
              · rw [hps, List.length_append]
                exact OwR.far o8 (by simp; omega) _
              · exact hb8.setCell (by simp; omega) _
              · simp [World.setCell]; omega
          case rest =>
            clear o7 z7 oC7 hown7 hb7 hEz7 f0 g0 hval hpl10 HQ
            obtain ⟨ps, i, pg, pc, hi, hps, hpi, rfl, hset, hrv, o8, z8, oC8, hown8, hb8, hEz8⟩ := hcut
            have HSET := Lib.hid hset
            clear hset
            have hst := World.ownsRow.stored hown8 i
            have c0 := z8.at_ hrv
            have c1 : wc.cell? ⟨pg, i, none⟩ = some (.string (wd (ps.getD i []))) := by
              rw [World.ownsRow.cellAt hown8 i (by omega), sv_at (ss := pts ps) (by rw [len_pts]; exact hi)]
              simp [pts, List.getD, hi]
            have g1 := World.ownsRow.frozenAt hown8 i
            have hpt : (wd (ps.getD i [])).size ≤ 10 := by rw [size_wd]; exact hpi
            have HWD := Lib.hid (wd_app (ps.getD i []) [a])
            have q5 : (0 : Int) ≤ (i : Int) := by omega
            have q6 : (i : Int) < (ps.length : Int) := by omega
            have hw1 : IntKind.i64.wrap (i : Int) = (i : Int) := IntWalk.i64_in _ (by omega)
            have hcv := fun W => run_conv_new (P := Tryz.prog) W 47 9 5 Tryz.underlying47 Tryz.underlying5 Tryz.underlying9 [((letr (a : Int)).toNat : Int)]
            simp only [List.map_cons, List.map_nil, List.length_cons, List.length_nil, Nat.zero_add, Int.toNat_natCast, UInt8.ofNat_toNat] at hcv
            rw [show S [letr (a : Int)] = wd [a] from rfl] at hcv
            have hs1 : (wd [a]).size = 1 := size_wd _
            have hsum : (wd (ps.getD i [])).size + (wd [a]).size ≤ 9223372036854775807 := by omega
            have lpg := OwR.lt_ hown8
            have hpg1 : E ≤ pg := (World.ownsRow.lt hown8 pg rfl).1
            have hcv2 : (convert 47 9 (.slice (some ⟨wc.heap.size, 0, none⟩) 1 1)).run Tryz.prog (wc.alloc (.cells #[.int .u8 ((letr (a : Int)).toNat : Int)] 5)).drew = .ok (.string (wd [a])) (wc.alloc (.cells #[.int .u8 ((letr (a : Int)).toNat : Int)] 5)).drew := hcv wc.drew
            clear hcv
            generalize hPT : wd (ps.getD i []) = pt at *
            generalize hWA : wd [a] = wa at *
            have z9 := z8.alloc (.cells #[.int .u8 ((letr (a : Int)).toNat : Int)] 5)
            have hown9 := World.ownsRow.alloc hown8 (.cells #[.int .u8 ((letr (a : Int)).toNat : Int)] 5)
            have d0 := z9.at_ hrv
            have d1 : (wc.alloc (.cells #[.int .u8 ((letr (a : Int)).toNat : Int)] 5)).cell? ⟨pg, i, none⟩ = some (.string pt) := by
              rw [← c1, World.ownsRow.cellAt hown9 i (by omega), World.ownsRow.cellAt hown8 i (by omega)]
            have g2 := World.ownsRow.frozenAt hown9 i
            have hnsum : ¬ 9223372036854775807 < pt.size + wa.size := by omega
            clear hs1 hpt hpi
            go_wp2_with fail
            go_region_law (fail)
            all_goals
             obtain ⟨st1, st2⟩ := World.ownsRow.stored hown8 i (.string (pt ++ wa))
             have hln1 : ps.length = (ps.set i (ps.getD i [] ++ [a])).length := by simp
             have hsv : (sv (pts ps)).set i (.string (pt ++ wa)) = sv (pts (ps.set i (ps.getD i [] ++ [a]))) := by
              rw [HWD.out]
              simp [sv, pts, List.map_set]
             rw [hsv] at st1
             have st3 := World.ownsRow.alloc st1 (.cells #[.int .u8 ((letr (a : Int)).toNat : Int)] 5)
             have o10 := ((o8.grown st2 (by simp; omega)).alloc (.cells #[.int .u8 ((letr (a : Int)).toNat : Int)] 5)).drew
             have z10' := ((z8.grown st2 (by simp; omega)).alloc (.cells #[.int .u8 ((letr (a : Int)).toNat : Int)] 5)).drew
             have oC10 := ((oC8.grown st2 (by simp; omega)).alloc (.cells #[.int .u8 ((letr (a : Int)).toNat : Int)] 5)).drew
             have hb10 := ((hb8.setCell (p := ⟨pg, i, none⟩) (by simp; omega) (.string (pt ++ wa))).alloc (by simp [World.setCell]; omega) (.cells #[.int .u8 ((letr (a : Int)).toNat : Int)] 5)).drew
             have hsz10 : E ≤ ((wc.setCell ⟨pg, i, none⟩ (.string (pt ++ wa))).alloc (.cells #[.int .u8 ((letr (a : Int)).toNat : Int)] 5)).heap.size := by simp [World.setCell]; omega
             clear hst z8 oC8 o8 hown8 hb8 z9 hown9 d0 d1 g1 g2 c0 c1 hcv2
             go_wp2
             go_roundw
             case rel =>
              refine ⟨k + 1, P7, by omega, by go_num, HU7.out, o10, ?_, oC10, ?_, hb10, hsz10⟩
              · rw [HRS2.out]; exact z10'
              · rw [HPL2.out, ← HSET.out, ← hln1]; exact st3
             case measure => simp [intOf]; omega
        · have tk : decide ((k : Int) < (ls.length : Int)) = false := decide_eq_false (by omega)
          have hk' : k = ls.length := by omega
          rw [hk', List.take_length] at hown
          go_wp2
          go_ret
          exact ⟨_, HP.out, _, rfl, World.ownsRow.mono hown (by omega), hb⟩
end Go.Proofs.YtdmnkcmkpjmfaaaGreat
