/- Slices that a call owns and grows by append. -/
import Derived.Test.YtaplndmgbinhcaaGreatMem
import Derived.Deep.AppendLies
import Derived.Deep.Onto
import Derived.Laws.OwnMore
import Derived.OwnWalk
namespace Go.Proofs.YtaplndmgbinhcaaGreat
open Go.RowKit

/-- The slice v with n elements of type e, of sz cells each, holds the cells xs in a row from block base on. -/
abbrev OwR (w : World) (base : Nat) (e : TypeId) (sz : Nat) (v : Value) (n : Nat) (xs : List Value) : Prop := w.ownsRow base e sz v n xs
section
variable {w w' : World} {base sz n : Nat} {e : TypeId} {v : Value} {xs : List Value}
theorem OwR.below (h : OwR w base e sz v n xs) {B : Nat} (hb : Below B w w') (hB : w.heap.size ≤ B) : OwR w' base e sz v n xs := by
  refine ⟨h.1, ?_⟩
  rcases h.2 with h0 | ⟨g, cap, cur, rfl, hg, hh, h1⟩
  · exact .inl h0
  · have hlt : g < w.heap.size := by
      rcases Nat.lt_or_ge g w.heap.size with h2 | h2
      · exact h2
      · rw [Array.getElem?_eq_none h2] at hh; cases hh
    exact .inr ⟨g, cap, cur, rfl, hg, (hb.block g (by omega)).trans hh, h1⟩
theorem OwR.far (h : OwR w base e sz v n xs) {p : Addr} (hp : p.block < base) (u : Value) : OwR (w.setCell p u) base e sz v n xs := by
  refine ⟨h.1, ?_⟩
  rcases h.2 with h0 | ⟨g, cap, cur, rfl, hg, hh, h1⟩
  · exact .inl h0
  · exact .inr ⟨g, cap, cur, rfl, hg, (Below.heap_setCell w p u g (by omega)).trans hh, h1⟩
theorem OwR.moved {R : Nat} (h : OwR w base e sz v n xs) (hb : w.grownBy w' (some R)) (hR : R < base) : OwR w' base e sz v n xs := by
  refine World.ownsRow.kept h hb ?_
  cases e' : v.ownBlock with
  | none => exact .inl rfl
  | some g => have := (World.ownsRow.lt h g e').1; exact .inr (by simp; omega)
theorem OwR.movedR {R : Nat} (h : OwR w base e sz v n xs) (hb : w.grownBy w' (some R)) (hR : v.ownBlock ≠ some R) : OwR w' base e sz v n xs := World.ownsRow.kept h hb (.inr hR)
theorem OwR.off (h : OwR w base e sz v n xs) {p : Addr} (hp : v.ownBlock ≠ some p.block) (u : Value) : OwR (w.setCell p u) base e sz v n xs := by
  refine ⟨h.1, ?_⟩
  rcases h.2 with h0 | ⟨g, cap, cur, rfl, hg, hh, h1⟩
  · exact .inl h0
  · exact .inr ⟨g, cap, cur, rfl, hg, (Below.heap_setCell w p u g (fun e => hp (by rw [← e]; rfl))).trans hh, h1⟩
theorem OwR.drewN (h : OwR w base e sz v n xs) (k : Nat) : OwR (w.drewN k) base e sz v n xs := h
theorem OwR.val (h : OwR w base e sz v n xs) : ∃ a c, v = .slice a n c ∧ n ≤ c ∧ Reads w w.heap.size a xs ∧ (n = 0 ∨ ∃ g, a = some ⟨g, 0, none⟩ ∧ base ≤ g ∧ Own w g xs) := by
  rcases h.2 with ⟨rfl, h0⟩ | ⟨g, cap, cur, rfl, hb, hh, hn, hm, hs, ht⟩
  · have := h.1; rw [h0] at this ⊢
    exact ⟨none, 0, rfl, Nat.le_refl _, .inl (List.eq_nil_of_length_eq_zero (by omega)), .inl rfl⟩
  · have hlt : g < w.heap.size := by
      rcases Nat.lt_or_ge g w.heap.size with h1 | h1
      · exact h1
      · rw [Array.getElem?_eq_none h1] at hh; cases hh
    have ho : Own w g xs := by
      refine ⟨hlt, fun i hi => ?_, fun i hi => by simp [World.frozen?, hh]⟩
      rw [cell_of_row w g i cur _ _ hh, ← ht]
      have : i < n * sz := by rw [← h.1]; exact hi
      rw [List.getElem?_take_of_lt this]
      simp
    exact ⟨_, _, rfl, hn, Reads.of_own ho hlt, .inr ⟨g, rfl, hb, ho⟩⟩
end

section
variable {P : Program} {ops : Array Oper} {rest : List Oper} {dst : Option Tmp} {ty : TypeId} {pos : String} {after : Array Edge} {a : Act} {w0 : World} {Q : Exit → Act → World → Prop}
/-- 'x = append(x, u)', x of the call's own. -/
theorem wl_push (t e : TypeId) {s x : Operand} {z : Value} {sz bytes : Nat} (hinfo : (P.info? e).map (fun i => (i.zero, i.size, i.bytes)) = some (some z, sz, bytes)) (ht : P.underlying t = some (.slice e)) (hzs : z.cells.size = sz) (hsz : 0 < sz)
    {base n : Nat} {v : Value} {xs us : List Value} (hown : OwR w0 base e sz v n xs) (hb : base ≤ w0.heap.size) (hus : us.length = sz) (h1 : ∀ u ∈ us, u.oneCell' = true) (hn : n ≤ 1048576) (hby : bytes ≤ 1000)
    (hs : a.eval s = v) (hx : a.eval x = .slice (some ⟨w0.heap.size, 0, none⟩) 1 1)
    (h : ∀ g cap w', OwR w' base e sz (.slice (some ⟨g, 0, none⟩) (n + 1) cap) (n + 1) (xs ++ us) → Below base w0 w' → w0.heap.size < w'.heap.size → wpList P ops Q rest (a.put dst (.slice (some ⟨g, 0, none⟩) (n + 1) cap)) w') :
    wpList P ops Q (⟨dst, .call { callee := .builtin .append, args := #[s, x], argTypes := #[t, t] }, ty, pos, after, none⟩ :: rest) a (w0.alloc (.cells us.toArray e)) := by
  obtain ⟨i0, hi0, hz0, hz1, hz2⟩ := info_parts hinfo
  refine wpList_append_lies _ rfl s x t rfl base e i0 z sz bytes ht hi0 hz0 hz1 hz2 hzs hsz v n xs hs (World.ownsRow.alloc hown _) ⟨w0.heap.size, 0, none⟩ 1 1 us hx (by omega) ?_ h1 (by omega) (by unfold maxLen; omega) ?_ (by simp; omega) (w0.heap.size + 1) (by simp) ?_
  · intro j u hu
    rw [show ((⟨w0.heap.size, 0, none⟩ : Addr).add j) = ⟨w0.heap.size, j, none⟩ by unfold Addr.add; split <;> simp_all]
    rw [World.cell?_alloc_mark]; simpa using hu
  · have : (n + 1) * bytes ≤ (1048576 + 1) * 1000 := Nat.mul_le_mul (by omega) hby
    omega
  · intro g cap w' ho hg hat hlt
    refine h g cap w' ho ?_ ?_
    · refine ((Below.refl base w0).alloc hb _).grown hg (by simp; omega) (fun k hk => ?_)
      exact (World.ownsRow.lt hown k hk).1
    · have := hg.size; simp at this; omega
end

theorem OwR.last {w : World} {base g cap n : Nat} {e : TypeId} {xs : List Value} {u : Value} (h : OwR w base e 1 (.slice (some ⟨g, 0, none⟩) (n + 1) cap) (n + 1) (xs ++ [u])) : w.cell? ⟨g, n, none⟩ = some u := by
  rw [World.ownsRow.cellAt h n (by omega)]
  have := h.1
  simp only [List.length_append, List.length_cons, List.length_nil] at this
  rw [List.getElem?_append_right (by omega), show n - xs.length = 0 by omega]; rfl
/-- What a function that answers a slice leaves. -/
def RowPost (e : TypeId) (sz n : Nat) (xs : List Value) (w : World) (E : Ending) (w' : World) : Prop := ∃ v, E = .returned v ∧ OwR w' w.heap.size e sz v n xs ∧ Below w.heap.size w w'
theorem sv_append (a b : List ByteArray) : sv (a ++ b) = sv a ++ sv b := by simp [sv]
theorem sv_one (s : ByteArray) : sv [s] = [.string s] := rfl
end Go.Proofs.YtaplndmgbinhcaaGreat
