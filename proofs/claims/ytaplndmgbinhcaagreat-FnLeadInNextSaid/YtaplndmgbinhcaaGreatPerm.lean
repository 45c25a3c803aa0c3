/- Plain laws on permutations of ten letters, as lists of ten numbers. -/
import Derived.Test.YtaplndmgbinhcaaGreatBase
namespace Go.Proofs.YtaplndmgbinhcaaGreat

def pAt (p : List Nat) (i : Nat) : Nat := p.getD i 0
structure IsP (p : List Nat) : Prop where
  len : p.length = 10
  lt : ∀ x ∈ p, x < 10
  nd : p.Nodup
/-- First p, then q. -/
def thenP (p q : List Nat) : List Nat := p.map (pAt q)
def idP : List Nat := List.range 10
def rotP (n : Nat) : List Nat := (List.range 10).map fun i => (i + n) % 10
def backP (p : List Nat) : List Nat := (List.range 10).map fun x => p.idxOf x

theorem pAt_get {p : List Nat} {i : Nat} (h : i < p.length) : pAt p i = p[i] := by simp [pAt, List.getD, List.getElem?_eq_getElem h]
theorem ext10 {p q : List Nat} (hp : p.length = 10) (hq : q.length = 10) (h : ∀ i, i < 10 → pAt p i = pAt q i) : p = q :=
  List.ext_getElem (by omega) fun i h1 h2 => by rw [← pAt_get h1, ← pAt_get h2]; exact h i (by omega)
theorem IsP.at_lt {p : List Nat} (h : IsP p) {i : Nat} (hi : i < 10) : pAt p i < 10 := by
  rw [pAt_get (by rw [h.len]; exact hi)]; exact h.lt _ (List.getElem_mem _)
theorem IsP.inj {p : List Nat} (h : IsP p) {i j : Nat} (hi : i < 10) (hj : j < 10) (e : pAt p i = pAt p j) : i = j := by
  rw [pAt_get (by rw [h.len]; exact hi), pAt_get (by rw [h.len]; exact hj)] at e
  have hn := List.pairwise_iff_getElem.1 (List.nodup_iff_pairwise_ne.1 h.nd)
  rcases Nat.lt_trichotomy i j with hl | hl | hl
  · exact absurd e (hn i j _ _ hl)
  · exact hl
  · exact absurd e.symm (hn j i _ _ hl)
theorem nodup_le : ∀ (n : Nat) (l : List Nat), l.Nodup → (∀ x ∈ l, x < n) → l.length ≤ n
  | 0, l, _, h => by
    cases l with
    | nil => simp
    | cons a l => exact absurd (h a (by simp)) (by omega)
  | n + 1, l, hn, h => by
    have h1 := nodup_le n (l.erase n) (hn.erase n) (fun x hx => by
      have h2 := (List.Nodup.mem_erase_iff hn).1 hx
      have h3 := h x h2.2
      omega)
    have h4 : l.length ≤ (l.erase n).length + 1 := by
      by_cases hm : n ∈ l
      · rw [List.length_erase_of_mem hm]; omega
      · rw [List.erase_of_not_mem hm]; omega
    omega
theorem IsP.mem {p : List Nat} (h : IsP p) {x : Nat} (hx : x < 10) : x ∈ p := by
  apply Classical.byContradiction
  intro hm
  have := nodup_le 10 (x :: p) (List.nodup_cons.2 ⟨hm, h.nd⟩) (fun y hy => by
    rcases List.mem_cons.1 hy with rfl | hy
    · exact hx
    · exact h.lt y hy)
  simp [h.len] at this
theorem isP_mk {p : List Nat} (hl : p.length = 10) (h1 : ∀ i, i < 10 → pAt p i < 10) (h2 : ∀ i j, i < 10 → j < 10 → pAt p i = pAt p j → i = j) : IsP p := by
  refine ⟨hl, fun x hx => ?_, ?_⟩
  · obtain ⟨i, hi, rfl⟩ := List.getElem_of_mem hx
    rw [← pAt_get hi]; exact h1 i (by omega)
  · rw [List.nodup_iff_pairwise_ne, List.pairwise_iff_getElem]
    intro i j hi hj hlt e
    have := h2 i j (by omega) (by omega) (by rw [pAt_get hi, pAt_get hj]; exact e)
    omega

theorem len_then (p q : List Nat) : (thenP p q).length = p.length := by simp [thenP]
theorem at_then {p : List Nat} (q : List Nat) {i : Nat} (h : i < p.length) : pAt (thenP p q) i = pAt q (pAt p i) := by
  rw [pAt_get (by rw [len_then]; exact h), pAt_get h]; simp [thenP]
theorem len_id : idP.length = 10 := by simp [idP]
theorem at_id {i : Nat} (h : i < 10) : pAt idP i = i := by rw [pAt_get (by rw [len_id]; exact h)]; simp [idP]
theorem len_rot (n : Nat) : (rotP n).length = 10 := by simp [rotP]
theorem at_rot (n : Nat) {i : Nat} (h : i < 10) : pAt (rotP n) i = (i + n) % 10 := by rw [pAt_get (by rw [len_rot]; exact h)]; simp [rotP]
theorem len_back (p : List Nat) : (backP p).length = 10 := by simp [backP]
theorem at_back (p : List Nat) {i : Nat} (h : i < 10) : pAt (backP p) i = p.idxOf i := by rw [pAt_get (by rw [len_back]; exact h)]; simp [backP]
theorem isP_id : IsP idP := isP_mk len_id (fun i h => by rw [at_id h]; exact h) (fun i j hi hj e => by rw [at_id hi, at_id hj] at e; exact e)
theorem isP_rot (n : Nat) : IsP (rotP n) := isP_mk (len_rot n) (fun i h => by rw [at_rot n h]; omega) (fun i j hi hj e => by rw [at_rot n hi, at_rot n hj] at e; omega)
theorem IsP.then {p q : List Nat} (h : IsP p) (k : IsP q) : IsP (thenP p q) := by
  refine isP_mk (by rw [len_then]; exact h.len) (fun i hi => ?_) (fun i j hi hj e => ?_)
  · rw [at_then q (by rw [h.len]; exact hi)]; exact k.at_lt (h.at_lt hi)
  · rw [at_then q (by rw [h.len]; exact hi), at_then q (by rw [h.len]; exact hj)] at e
    exact h.inj hi hj (k.inj (h.at_lt hi) (h.at_lt hj) e)
theorem IsP.idx_lt {p : List Nat} (h : IsP p) {x : Nat} (hx : x < 10) : p.idxOf x < 10 := by
  have := List.idxOf_lt_length_of_mem (h.mem hx)
  rw [h.len] at this; exact this
theorem IsP.at_idx {p : List Nat} (h : IsP p) {x : Nat} (hx : x < 10) : pAt p (pAt (backP p) x) = x := by
  rw [at_back p hx, pAt_get (by rw [h.len]; exact h.idx_lt hx)]
  exact List.getElem_idxOf _
theorem IsP.back_at {p : List Nat} (h : IsP p) {i : Nat} (hi : i < 10) : pAt (backP p) (pAt p i) = i := by
  have h1 := h.at_lt hi
  have h2 := h.at_idx h1
  have h3 : pAt (backP p) (pAt p i) < 10 := by rw [at_back p h1]; exact h.idx_lt h1
  exact h.inj h3 hi h2
theorem IsP.back {p : List Nat} (h : IsP p) : IsP (backP p) :=
  isP_mk (len_back p) (fun i hi => by rw [at_back p hi]; exact h.idx_lt hi) (fun i j hi hj e => by
    have := congrArg (pAt p) e
    rw [h.at_idx hi, h.at_idx hj] at this; exact this)
theorem then_back {p : List Nat} (h : IsP p) : thenP p (backP p) = idP :=
  ext10 (by rw [len_then]; exact h.len) len_id fun i hi => by rw [at_then _ (by rw [h.len]; exact hi), h.back_at hi, at_id hi]
theorem back_then {p : List Nat} (h : IsP p) : thenP (backP p) p = idP :=
  ext10 (by rw [len_then]; exact len_back p) len_id fun i hi => by rw [at_then _ (by rw [len_back]; exact hi), h.at_idx hi, at_id hi]
theorem then_assoc {p q r : List Nat} (h : IsP p) (k : IsP q) : thenP (thenP p q) r = thenP p (thenP q r) :=
  ext10 (by rw [len_then, len_then]; exact h.len) (by rw [len_then]; exact h.len) fun i hi => by
    rw [at_then r (by rw [len_then, h.len]; exact hi), at_then q (by rw [h.len]; exact hi), at_then _ (by rw [h.len]; exact hi), at_then r (by rw [k.len]; exact h.at_lt hi)]
theorem id_then {p : List Nat} (h : IsP p) : thenP idP p = p :=
  ext10 (by rw [len_then]; exact len_id) h.len fun i hi => by rw [at_then p (by rw [len_id]; exact hi), at_id hi]
theorem then_id {p : List Nat} (h : IsP p) : thenP p idP = p :=
  ext10 (by rw [len_then]; exact h.len) h.len fun i hi => by rw [at_then _ (by rw [h.len]; exact hi), at_id (h.at_lt hi)]
theorem back_unique {p q : List Nat} (h : IsP p) (k : IsP q) (e : thenP p q = idP) : q = backP p := by
  have : thenP (backP p) (thenP p q) = thenP (backP p) idP := by rw [e]
  rw [← then_assoc h.back h, back_then h, id_then k, then_id h.back] at this
  exact this
theorem back_back {p : List Nat} (h : IsP p) : backP (backP p) = p := (back_unique h.back h (back_then h)).symm
theorem back_of_then {p q : List Nat} (h : IsP p) (k : IsP q) : backP (thenP p q) = thenP (backP q) (backP p) := by
  refine (back_unique (h.then k) (k.back.then h.back) ?_).symm
  rw [then_assoc h k, ← then_assoc (r := backP p) k k.back, then_back k, id_then h.back, then_back h]

/-- p with its letters renamed by q. -/
def conjP (p q : List Nat) : List Nat := thenP (thenP (backP q) p) q
theorem IsP.conj {p q : List Nat} (h : IsP p) (k : IsP q) : IsP (conjP p q) := (k.back.then h).then k
/-- p is its own inverse. -/
def Inv (p : List Nat) : Prop := thenP p p = idP
/-- p fixes no letter. -/
def Free (p : List Nat) : Prop := ∀ i, i < 10 → pAt p i ≠ i
theorem Inv.at {p : List Nat} (h : IsP p) (k : Inv p) {i : Nat} (hi : i < 10) : pAt p (pAt p i) = i := by
  have : pAt (thenP p p) i = pAt idP i := congrArg (fun l => pAt l i) k
  rw [at_then p (by rw [h.len]; exact hi), at_id hi] at this
  exact this
theorem Inv.of_at {p : List Nat} (h : IsP p) (k : ∀ i, i < 10 → pAt p (pAt p i) = i) : Inv p :=
  ext10 (by rw [len_then]; exact h.len) len_id fun i hi => by rw [at_then p (by rw [h.len]; exact hi), at_id hi]; exact k i hi
theorem Inv.back {p : List Nat} (h : IsP p) (k : Inv p) : backP p = p := (back_unique h h k).symm
theorem inv_iff_back {p : List Nat} (h : IsP p) : Inv p ↔ backP p = p := ⟨fun k => k.back h, fun e => by have := then_back h; rw [e] at this; exact this⟩
theorem at_conj {p q : List Nat} (_h : IsP p) (_k : IsP q) {i : Nat} (hi : i < 10) : pAt (conjP p q) i = pAt q (pAt p (pAt (backP q) i)) := by
  unfold conjP
  rw [at_then q (by rw [len_then, len_back]; exact hi), at_then p (by rw [len_back]; exact hi)]
theorem Inv.conj {p q : List Nat} (h : IsP p) (k : IsP q) (e : Inv p) : Inv (conjP p q) :=
  Inv.of_at (h.conj k) fun i hi => by
    have hb := k.back.at_lt hi
    have h1 := h.at_lt hb
    rw [at_conj h k hi, at_conj h k (k.at_lt h1), k.back_at h1, e.at h hb, k.at_idx hi]
theorem Free.conj {p q : List Nat} (h : IsP p) (k : IsP q) (e : Free p) : Free (conjP p q) := fun i hi he => by
  have hb := k.back.at_lt hi
  rw [at_conj h k hi] at he
  have := congrArg (pAt (backP q)) he
  rw [k.back_at (h.at_lt hb)] at this
  exact e _ hb this

/-- The permutation of a wiring that is turned by an offset. -/
def turnP (p : List Nat) (o : Nat) : List Nat := thenP (thenP (rotP o) p) (rotP ((10 - o) % 10))
theorem IsP.turn {p : List Nat} (h : IsP p) (o : Nat) : IsP (turnP p o) := ((isP_rot o).then h).then (isP_rot _)
theorem at_turn {p : List Nat} (h : IsP p) (o : Nat) {i : Nat} (hi : i < 10) : pAt (turnP p o) i = (pAt p ((i + o) % 10) + (10 - o) % 10) % 10 := by
  unfold turnP
  have h1 : (i + o) % 10 < 10 := by omega
  rw [at_then _ (by rw [len_then, len_rot]; exact hi), at_then p (by rw [len_rot]; exact hi), at_rot o hi, at_rot _ (h.at_lt h1)]

/-- The numbers of the letters of a string. -/
def dg (s : ByteArray) : List Nat := (L s).map fun c => (dig c).toNat
/-- The word of some numbers. -/
def wd (l : List Nat) : ByteArray := S (l.map fun n : Nat => letr (n : Int))
theorem len_dg (s : ByteArray) : (dg s).length = s.size := by simp [dg, size_L]
theorem size_wd (l : List Nat) : (wd l).size = l.length := by simp [wd, size_S]
theorem dg_at {s : ByteArray} {i : Nat} (h : i < s.size) : pAt (dg s) i = (dig s[i]).toNat := by
  rw [pAt_get (by rw [len_dg]; exact h)]; simp [dg, getElem_L]
theorem dg_wd {l : List Nat} (h : ∀ x ∈ l, x < 10) : dg (wd l) = l := by
  unfold dg wd
  rw [L_S, List.map_map]
  conv => rhs; rw [← List.map_id l]
  apply List.map_congr_left
  intro x hx
  have := h x hx
  simp only [Function.comp, id]
  rw [dig_letr]; omega
theorem letr_of_dig {c : UInt8} (h : isL c = true) : letr (((dig c).toNat : Nat) : Int) = c := by
  have h1 := (isL_iff c).1 h
  apply UInt8.toNat.inj
  rw [letr_toNat]
  unfold dig at *
  omega
theorem wd_dg {s : ByteArray} (h : wordB s = true) : wd (dg s) = s := by
  simp only [wordB, Bool.and_eq_true] at h
  apply L_inj
  unfold wd dg
  rw [L_S, List.map_map]
  conv => rhs; rw [← List.map_id (L s)]
  apply List.map_congr_left
  intro c hc
  exact letr_of_dig (List.all_eq_true.1 h.2 c hc)
theorem word_wd {l : List Nat} (h : l.length ≤ 200) : wordB (wd l) = true := by
  simp only [wordB, Bool.and_eq_true, decide_eq_true_eq]
  refine ⟨by rw [size_wd]; exact h, ?_⟩
  unfold wd
  rw [L_S, List.all_eq_true]
  intro c hc
  obtain ⟨n, _, rfl⟩ := List.mem_map.1 hc
  rw [isL_iff, dig_letr]; omega
theorem wd_inj {p q : List Nat} (hp : ∀ x ∈ p, x < 10) (hq : ∀ x ∈ q, x < 10) (e : wd p = wd q) : p = q := by
  rw [← dg_wd hp, ← dg_wd hq, e]
theorem word_dg_lt {s : ByteArray} (h : wordB s = true) : ∀ x ∈ dg s, x < 10 := by
  simp only [wordB, Bool.and_eq_true] at h
  intro x hx
  obtain ⟨c, hc, rfl⟩ := List.mem_map.1 hx
  have := (isL_iff c).1 (List.all_eq_true.1 h.2 c hc)
  omega

/-- A string is a permutation. -/
def permB (s : ByteArray) : Bool := decide (s.size = 10) && wordB s && decide (dg s).Nodup
theorem permB_isP {s : ByteArray} (h : permB s = true) : IsP (dg s) := by
  simp only [permB, Bool.and_eq_true, decide_eq_true_eq] at h
  exact ⟨by rw [len_dg]; exact h.1.1, word_dg_lt h.1.2, h.2⟩
theorem permB_word {s : ByteArray} (h : permB s = true) : wordB s = true := by
  simp only [permB, Bool.and_eq_true] at h; exact h.1.2
theorem permB_size {s : ByteArray} (h : permB s = true) : s.size = 10 := by
  simp only [permB, Bool.and_eq_true, decide_eq_true_eq] at h; exact h.1.1
theorem permB_wd {p : List Nat} (h : IsP p) : permB (wd p) = true := by
  simp only [permB, Bool.and_eq_true, decide_eq_true_eq]
  exact ⟨⟨by rw [size_wd]; exact h.len, word_wd (by rw [h.len]; omega)⟩, by rw [dg_wd h.lt]; exact h.nd⟩
/-- A string is a plugboard. -/
def plugB (s : ByteArray) : Bool := permB s && decide (thenP (dg s) (dg s) = idP)
theorem plugB_perm {s : ByteArray} (h : plugB s = true) : permB s = true := by simp only [plugB, Bool.and_eq_true] at h; exact h.1
theorem plugB_inv {s : ByteArray} (h : plugB s = true) : Inv (dg s) := by simp only [plugB, Bool.and_eq_true, decide_eq_true_eq] at h; exact h.2
/-- How many letters are not fixed. -/
def movedN (p : List Nat) : Nat := (List.range 10).countP fun i => pAt p i != i
/-- A string is a reflector. -/
def reflB (s : ByteArray) : Bool := plugB s && decide (movedN (dg s) / 2 = 5)
theorem reflB_plug {s : ByteArray} (h : reflB s = true) : plugB s = true := by simp only [reflB, Bool.and_eq_true] at h; exact h.1
theorem reflB_free {s : ByteArray} (h : reflB s = true) : Free (dg s) := by
  simp only [reflB, Bool.and_eq_true, decide_eq_true_eq] at h
  have h1 : movedN (dg s) ≤ 10 := by
    unfold movedN
    have := List.countP_le_length (p := fun i => pAt (dg s) i != i) (l := List.range 10)
    simpa using this
  have h2 : movedN (dg s) = (List.range 10).length := by simp; omega
  unfold movedN at h2
  rw [List.countP_eq_length] at h2
  intro i hi
  have := h2 i (by simpa using hi)
  simpa using this
end Go.Proofs.YtaplndmgbinhcaaGreat
