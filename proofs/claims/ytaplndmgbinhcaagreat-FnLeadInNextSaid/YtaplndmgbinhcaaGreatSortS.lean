/- slices.Sort on a slice of strings that the call owns. -/
import Derived.Test.YtaplndmgbinhcaaGreatSpecC
import Derived.Test.YtaplndmgbinhcaaGreatShelfS
import Derived.Shelf.Slices.In.SortNone
import Derived.Sort.OwnSorted
namespace Go.Proofs.YtaplndmgbinhcaaGreat
open Go.RowKit Go.Sort

/-- Some strings, sorted. -/
def sortS (ss : List ByteArray) : List ByteArray := ((ss.map L).mergeSort fun a b => decide (a ≤ b)).map S
theorem len_sortS (ss : List ByteArray) : (sortS ss).length = ss.length := by simp [sortS]
theorem sv_enc (ls : List (List UInt8)) : ls.map encStr = sv (ls.map S) := by
  simp only [sv, List.map_map]; rfl
theorem slicesSort_any (v : Value) (ss : List ByteArray) (base : Nat) (w : World) (h : OwR w base 9 1 v ss.length (sv ss)) (hl : ss.length ≤ 1048576) :
    Calls Tryz.prog 25 #[v] w fun e w' => e = .returned (.tuple #[]) ∧ OwR w' base 9 1 v ss.length (sv (sortS ss)) ∧ Below base w w' := by
  rcases h.2 with ⟨rfl, h0⟩ | ⟨g, cap, cur, rfl, hg, hh, hn, hm, hs, ht⟩
  · have hss : ss = [] := List.eq_nil_of_length_eq_zero h0
    subst hss
    refine (Any.slices_Sort_string_none Tryz.lays190 none 0 w).mono ?_
    rintro e w' ⟨rfl, rfl⟩
    exact ⟨rfl, by simpa [sortS] using h, Below.refl _ _⟩
  · obtain ⟨a, c, he, _, _, ho⟩ := OwR.val h
    have hlt : g < w.heap.size := by
      rcases Nat.lt_or_ge g w.heap.size with h1 | h1
      · exact h1
      · rw [Array.getElem?_eq_none h1] at hh; cases hh
    have hH : Holds encStr w g 0 ((ss.map L).toArray) := by
      intro j hj
      simp only [List.size_toArray, List.length_map] at hj
      refine ⟨?_, by simp [World.frozen?, hh]⟩
      rw [Nat.zero_add, World.ownsRow.cellAt h j (by omega), sv_at hj]
      rw [getElem!_pos _ j (by simpa using hj)]
      simp [encStr, L]
    have hc := Tryz.slices_Sort_string g 0 cap (ss.map L) w hH hlt (by rw [List.length_map]; omega)
    rw [List.length_map] at hc
    refine hc.mono ?_
    rintro e w' ⟨rfl, n, os, rfl⟩
    refine ⟨rfl, ?_, ?_⟩
    · have := ownsRow_sorted (w := w) (base := base) (n := n) (os := os) (ss := ss.map L) (ts := (ss.map L).mergeSort fun a b => decide (a ≤ b)) (by simp) hg hh (by rw [List.length_map]; exact hn) hm hs
      rw [List.length_map, sv_enc] at this
      exact this
    · exact (Below.refl base w).grown (grownBy_sorted _) (by omega) (fun k hk => by cases hk; exact hg)
end Go.Proofs.YtaplndmgbinhcaaGreat
