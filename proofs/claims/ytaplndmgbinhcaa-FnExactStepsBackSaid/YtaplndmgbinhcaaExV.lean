/- Contracts of the laws' own functions on rotors and wheels: sizes, copies, comparison. -/
import Derived.Test.YtaplndmgbinhcaaExW
namespace Go.Proofs.Ytaplndmgbinhcaa
open Go.RowKit

def SzOne (r : Rot) (left : Int) (w : World) (e : Ending) (w' : World) : Prop :=
  ∃ q : Int, e = .returned (.int .i64 q) ∧ Below w.heap.size w w' ∧ (q = -1 ∨ (0 ≤ q ∧ q ≤ left ∧ (r.wiring.size : Int) ≤ left ∧ (r.notches.size : Int) ≤ left))
theorem szRotor_any (r : Rot) (left : Int) (w : World) (z1 : r.wiring.size ≤ 9223372036854775807) (z2 : r.notches.size ≤ 9223372036854775807) (h0 : 0 ≤ left) (h1 : left ≤ 1048576) :
    Calls Try.prog 43 #[.agg #[.string r.wiring, .string r.notches], .int .i64 left] w (SzOne r left w) := by
  have hb := (Below.refl w.heap.size w).alloc (Nat.le_refl _) (.cells [.string r.wiring, .string r.notches].toArray 65)
  by_cases hs : left < r.wiring.size
  · go_enter Try.func43, Try.ntmps43
    go_wp2
    go_ret
    exact ⟨-1, rfl, hb, .inl rfl⟩
  · by_cases hs2 : left - r.wiring.size < r.notches.size
    · go_enter Try.func43, Try.ntmps43
      go_wp2
      go_ret
      exact ⟨-1, rfl, hb, .inl rfl⟩
    · go_enter Try.func43, Try.ntmps43
      go_wp2
      go_ret
      exact ⟨left - r.wiring.size - r.notches.size, rfl, hb, .inr ⟨by omega, by omega, by omega, by omega⟩⟩

/-- The strings of some rotors are small. -/
def SmR (rs : List Rot) (left : Int) : Prop := ∀ r ∈ rs, (r.wiring.size : Int) ≤ left ∧ (r.notches.size : Int) ≤ left
def smTo (rs : List Rot) (left : Int) (k : Nat) : Prop := ∀ j (h : j < rs.length), j < k → (rs[j].wiring.size : Int) ≤ left ∧ (rs[j].notches.size : Int) ≤ left
def BigR (rs : List Rot) : Prop := (∀ r ∈ rs, r.wiring.size ≤ 9223372036854775807 ∧ r.notches.size ≤ 9223372036854775807) ∧ rs.length ≤ 9223372036854775807
def SzRs (rs : List Rot) (left : Int) (w : World) (e : Ending) (w' : World) : Prop :=
  ∃ q : Int, e = .returned (.int .i64 q) ∧ Below w.heap.size w w' ∧ (q = -1 ∨ (0 ≤ q ∧ q ≤ left ∧ (rs.length : Int) ≤ left ∧ SmR rs left))
theorem szRotorS_any (a : Option Addr) (c : Nat) (rs : List Rot) (left : Int) (w : World) (h : Reads w w.heap.size a (rvs rs)) (hz : BigR rs) (h0 : 0 ≤ left) (h1 : left ≤ 1048576) :
    Calls Try.prog 21 #[.slice a rs.length c, .int .i64 left] w (SzRs rs left w) := by
  have hl := hz.2
  have Z := Lib.hid hz.1
  clear hz
  by_cases hn : left < rs.length
  · go_enter Try.func21, Try.ntmps21
    go_wp2
    go_ret
    exact ⟨-1, rfl, Below.refl _ _, .inl rfl⟩
  · have HR := Lib.hid h
    clear h
    go_enter Try.func21, Try.ntmps21
    go_wp2
    go_loopw [1, 5] (fun l i wr => ∃ (k : Nat) (q : Int), k ≤ rs.length ∧ i = .int .i64 k ∧ l = .int .i64 q ∧ 0 ≤ q ∧ q ≤ left ∧ smTo rs left k ∧ Below w.heap.size w wr) (fun _ i _ => rs.length - (intOf i).toNat)
    case atStart => exact ⟨0, left - rs.length, Nat.zero_le _, rfl, rfl, by omega, by omega, fun _ _ h => absurd h (by omega), Below.refl _ _⟩
    case round =>
      obtain ⟨k, q, hk, rfl, rfl, hq0, hq1, ha, hb⟩ := hrel
      by_cases hlt : k < rs.length
      · obtain ⟨b, off, rfl, hbl, hc⟩ := HR.out.cells (by rw [len_rvs]; omega)
        obtain ⟨f0, f1⟩ := rot_cells (hc.below hb hbl) hlt
        have z1 := (Z.out _ (List.getElem_mem hlt)).1
        have z2 := (Z.out _ (List.getElem_mem hlt)).2
        have q1 : (k : Int) < (rs.length : Int) := by omega
        have HA := Lib.hid ha
        clear hc ha
        go_wp2_with fail
        refine (szRotor_any rs[k] q _ z1 z2 hq0 (by omega)).mono ?_
        rintro e w1 ⟨q', rfl, hb1, hq⟩
        have hb' := bt hb hb1
        clear hb hb1 f0 f1
        rcases hq with rfl | ⟨p0, p1, p2, p3⟩
        · go_wp2
          go_ret
          exact ⟨-1, rfl, hb', .inl rfl⟩
        · go_wp2
          go_roundw
          case rel =>
            refine ⟨k + 1, q', by omega, by go_num, rfl, by omega, by omega, fun j hj hlt' => ?_, hb'⟩
            by_cases e : j = k
            · subst e; exact ⟨by omega, by omega⟩
            · exact HA.out j hj (by omega)
          case measure => simp [intOf]; omega
      · go_wp2
        go_ret
        refine ⟨q, rfl, hb, .inr ⟨hq0, hq1, by omega, fun r hr => ?_⟩⟩
        obtain ⟨j, hj, rfl⟩ := List.getElem_of_mem hr
        exact ha j hj (by omega)

/-- Wheels are small. -/
structure SmW (x : Whl) : Prop where
  few : x.rotors.length ≤ 1048576
  rot : ∀ r ∈ x.rotors, r.wiring.size ≤ 1048576 ∧ r.notches.size ≤ 1048576
  refl : x.refl.size ≤ 1048576
theorem SmW.at_ {x : Whl} (h : SmW x) {w : World} {B : Nat} {a : Option Addr} (hr : Reads w B a (rvs x.rotors)) : WhlAt w B a x.rotors.length x :=
  ⟨hr, rfl, h.few, fun r hr => ⟨by have := (h.rot r hr).1; omega, by have := (h.rot r hr).2; omega⟩, by have := h.refl; omega⟩
def SzW (x : Whl) (left : Int) (w : World) (e : Ending) (w' : World) : Prop :=
  ∃ q : Int, e = .returned (.int .i64 q) ∧ Below w.heap.size w w' ∧ (q = -1 ∨ (0 ≤ q ∧ q ≤ left ∧ SmW x))
theorem szWheels_any (a : Option Addr) (c : Nat) (x : Whl) (left : Int) (w : World) (h : Reads w w.heap.size a (rvs x.rotors)) (hz : BigR x.rotors) (hr : x.refl.size ≤ 9223372036854775807) (h0 : 0 ≤ left) (h1 : left ≤ 1048576) :
    Calls Try.prog 6 #[.agg #[.slice a x.rotors.length c, .string x.refl], .int .i64 left] w (SzW x left w) := by
  have o0 := Own.new w [.slice a x.rotors.length c, .string x.refl] 24
  have hb0 := (Below.refl w.heap.size w).alloc (Nat.le_refl _) (.cells [.slice a x.rotors.length c, .string x.refl].toArray 24)
  have h' : Reads (w.alloc (.cells [.slice a x.rotors.length c, .string x.refl].toArray 24)) (w.alloc (.cells [.slice a x.rotors.length c, .string x.refl].toArray 24)).heap.size a (rvs x.rotors) := (h.below hb0 (Nat.le_refl _)).more hb0.size
  go_enter Try.func6, Try.ntmps6
  go_wp2_with fail
  refine (szRotorS_any a c x.rotors left _ h' hz h0 h1).mono ?_
  rintro e w1 ⟨q, rfl, hb1, hq⟩
  have o1 := o0.below hb1 o0.lt
  have c1 := o1.at_ (i := 1) rfl
  have hb' := bt hb0 hb1
  clear o0 hb0 h' hb1 h
  rcases hq with rfl | ⟨p0, p1, p2, p3⟩
  · go_wp2
    go_ret
    exact ⟨-1, rfl, hb', .inl rfl⟩
  · have HP := Lib.hid p3
    clear p3
    by_cases hs : q < x.refl.size
    · go_wp2
      go_ret
      exact ⟨-1, rfl, hb', .inl rfl⟩
    · go_wp2
      go_ret
      refine ⟨q - x.refl.size, rfl, hb', .inr ⟨by omega, by omega, by omega, fun r hr => ?_, by omega⟩⟩
      have := HP.out r hr
      omega

theorem toRotor_any (r : Rot) (w : World) :
    Calls Try.prog 50 #[.agg #[.string r.wiring, .string r.notches]] w fun e w' => e = .returned (.agg #[.string r.wiring, .string r.notches]) ∧ Below w.heap.size w w' := by
  go_enter Try.func50, Try.ntmps50
  go_wp2
  refine bodyPost_ret (v := .agg #[.string r.wiring, .string r.notches]) (by simp [results, Try.results50, go_sem]) rfl ⟨rfl, ?_⟩
  exact ((((((Below.refl w.heap.size w).alloc (Nat.le_refl _) _).alloc (by simp) _).alloc (by simp; omega) _)))
end Go.Proofs.Ytaplndmgbinhcaa
