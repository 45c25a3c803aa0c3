/- Arguments that are slices of rotors, as the walks want them. -/
import Derived.Test.YtaplndmgbinhcaaExV
import Derived.OpenShut
import Derived.Deep.Slices
import Derived.Deep.Fields
import Derived.ChangeSame
import Derived.Lib.SmallJoins
namespace Go.Proofs.Ytaplndmgbinhcaa
open Go.ChangeShapes Go.WideShapes Go.Deep Go.RowKit

section
variable {H : Type} {enc : TypeId × Value → H} {P : Program} {w : World} {base : Nat} {spare : Nat → Bool} {held : Bool}
theorem open_slice_fields {t e : TypeId} {fs : Array Field} {fuel : Nat} {cs : List Value} {x : DataW H × List MemPlace} (ht : P.underlying t = some (.slice e)) (he : P.underlying e = some (.struct fs))
    (hone : oneCellFields P fs = true) (hC : P.cellsOf e = fs.size) (h : DataW.trod enc P w base spare held fuel t cs = some x) :
    (cs = [.slice none 0 0] ∧ x = (.nil, [])) ∨
    ∃ (a : Addr) (len cap m : Nat), cs = [.slice (some a) len cap] ∧ len ≤ cap ∧ cap ≤ maxLen ∧ m = (if spare a.block then cap else len) ∧
      ∀ i, i < m → ∀ (j : Nat) (f : Field), fs[j]? = some f → ∃ (v : Value) (y : DataW H × List MemPlace) (n : Nat), w.cell? (a.add (i * fs.size + j)) = some v ∧ DataW.trod enc P w base spare held n f.type [v] = some y := by
  rcases open_slice ht h with h0 | ⟨a, len, cap, m, n, D, Pl, hcs, hb, hl, hm, hmm, hx, hi⟩
  · exact .inl h0
  · refine .inr ⟨a, len, cap, m, hcs, hl, hm, hmm, fun i him j f hj => ?_⟩
    obtain ⟨cs', hc, ht'⟩ := hi i him
    rw [hC] at hc
    obtain ⟨ys, n', hn', hy, hlen, hyl, hf⟩ := DataW.trod_struct he ht'
    obtain ⟨_, hcl, hat⟩ := World.cells?_some hc
    obtain ⟨ho, hk⟩ := hone_of hone j f hj
    have hjl : j < fs.size := (Array.getElem?_eq_some_iff.1 hj).1
    have hcell := hat j hjl
    have hv : cs'[j]? = some (cs'[j]'(by omega)) := List.getElem?_eq_getElem (by omega)
    have h1 := hf j f hj
    rw [ho, hk] at h1
    have hone' : (cs'.drop j).take 1 = [cs'[j]'(by omega)] := by
      rw [List.drop_eq_getElem_cons (by omega)]
      rfl
    rw [hone'] at h1
    have hys : ys[j]? = some (ys[j]'(by omega)) := List.getElem?_eq_getElem (by omega)
    refine ⟨_, _, n', ?_, h1.trans hys⟩
    rw [← Go.Deep.add_add, hcell, hv]
end
theorem choose_list {α : Type} {Q : Nat → α → Prop} : ∀ n : Nat, (∀ i, i < n → ∃ r, Q i r) → ∃ rs : List α, rs.length = n ∧ ∀ i (h : i < rs.length), Q i rs[i]
  | 0, _ => ⟨[], rfl, fun i h => absurd h (by simp)⟩
  | n + 1, h => by
    obtain ⟨rs, hl, hr⟩ := choose_list n fun i hi => h i (by omega)
    obtain ⟨r, hq⟩ := h n (by omega)
    refine ⟨rs ++ [r], by simp [hl], fun i hi => ?_⟩
    by_cases e : i < rs.length
    · rw [List.getElem_append_left e]; exact hr i e
    · have : i = rs.length := by simp at hi; omega
      subst this
      simp [hl, hq]
theorem rvs_get : ∀ (rs : List Rot) (i : Nat), i < 2 * rs.length → (rvs rs)[i]? = some (if i % 2 = 0 then .string (rs.getD (i / 2) ⟨⟨#[]⟩, ⟨#[]⟩⟩).wiring else .string (rs.getD (i / 2) ⟨⟨#[]⟩, ⟨#[]⟩⟩).notches)
  | rs, i, h => by
    have hk : i / 2 < rs.length := by omega
    rcases Nat.mod_two_eq_zero_or_one i with e | e
    · have := rvs_at0 rs (i / 2) hk
      rw [show 2 * (i / 2) = i by omega] at this
      rw [this, if_pos e]; simp [List.getD, List.getElem?_eq_getElem hk]
    · have := rvs_at1 rs (i / 2) hk
      rw [show 2 * (i / 2) + 1 = i by omega] at this
      rw [this, if_neg (by omega)]; simp [List.getD, List.getElem?_eq_getElem hk]
theorem rots_open {H : Type} {enc : TypeId × Value → H} {w : World} {fuel : Nat} {v : Value} {x : DataW H × List MemPlace}
    (h : DataW.trod enc Try.prog w 0 (fun _ => true) true fuel 22 [v] = some x) :
    ∃ (a : Option Addr) (cap : Nat) (rs : List Rot), v = .slice a rs.length cap ∧ Reads w w.heap.size a (rvs rs) ∧ BigR rs := by
  rcases open_slice_fields Try.underlying22 Try.underlying65 (by kernel_rfl) (by kernel_rfl) h with ⟨hcs, _⟩ | ⟨a, len, cap, m, hcs, hl, hm, hmm, hf⟩
  · simp at hcs
    exact ⟨none, 0, [], by rw [hcs]; rfl, Reads.nil_, ⟨by simp, by simp⟩⟩
  · simp at hcs
    simp at hmm
    unfold maxLen at hm
    obtain ⟨rs, hrl, hr⟩ := choose_list (Q := fun i (r : Rot) => w.cell? (a.add (i * 2)) = some (.string r.wiring) ∧ w.cell? (a.add (i * 2 + 1)) = some (.string r.notches) ∧ r.wiring.size ≤ 9223372036854775807 ∧ r.notches.size ≤ 9223372036854775807) len fun i hi => by
      obtain ⟨v0, y0, n0, c0, t0⟩ := hf i (by omega) 0 _ rfl
      obtain ⟨v1, y1, n1, c1, t1⟩ := hf i (by omega) 1 _ rfl
      obtain ⟨s0, e0, _, hs0⟩ := DataW.trod_string Try.underlying9 t0
      obtain ⟨s1, e1, _, hs1⟩ := DataW.trod_string Try.underlying9 t1
      simp at e0 e1
      subst e0
      subst e1
      exact ⟨⟨s0, s1⟩, c0, c1, hs0, hs1⟩
    refine ⟨some a, cap, rs, by rw [hrl]; exact hcs, ?_, fun r hm => ?_, by omega⟩
    · by_cases h0 : len = 0
      · left
        rw [List.eq_nil_of_length_eq_zero (hrl.trans h0)]; rfl
      · obtain ⟨b, off, sp⟩ := a
        have h1 := (hr 0 (by omega)).1
        have hsp : sp = none := by simpa [Addr.add] using World.cell?_spot h1
        subst hsp
        have hb : b < w.heap.size := by
          rcases Nat.lt_or_ge b w.heap.size with hlt | hge
          · exact hlt
          · simp [Addr.add, World.cell?, Array.getElem?_eq_none hge] at h1
        refine .inr ⟨b, off, rfl, hb, fun i hi => ?_⟩
        rw [len_rvs] at hi
        have hk : i / 2 < rs.length := by omega
        obtain ⟨k0, k1, _⟩ := hr (i / 2) hk
        rw [add_none] at k0 k1
        rcases Nat.mod_two_eq_zero_or_one i with e | e
        · have := rvs_at0 rs (i / 2) hk
          rw [show 2 * (i / 2) = i by omega] at this
          rw [this, ← k0, show i / 2 * 2 = i by omega]
        · have := rvs_at1 rs (i / 2) hk
          rw [show 2 * (i / 2) + 1 = i by omega] at this
          rw [this, ← k1, show i / 2 * 2 + 1 = i by omega]
    · obtain ⟨j, hj, rfl⟩ := List.getElem_of_mem hm
      obtain ⟨_, _, k2, k3⟩ := hr j hj
      exact ⟨k2, k3⟩
end Go.Proofs.Ytaplndmgbinhcaa
