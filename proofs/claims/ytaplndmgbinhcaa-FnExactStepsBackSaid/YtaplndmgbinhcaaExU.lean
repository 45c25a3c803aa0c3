/- Contracts of the laws' own functions on wheels: copies, comparison, marks. -/
import Derived.Test.YtaplndmgbinhcaaExV
namespace Go.Proofs.Ytaplndmgbinhcaa
open Go.RowKit

theorem rvs_set : ∀ (rs : List Rot) (k : Nat) (r : Rot), k < rs.length → put (rvs rs) (k * 2) (rv r) = rvs (rs.set k r)
  | _ :: _, 0, r, _ => by simp [put, rvs, rv]
  | q :: rs, k + 1, r, h => by
    have ih := rvs_set rs k r (by simpa using h)
    rw [show (k + 1) * 2 = k * 2 + 1 + 1 by omega]
    simp only [put, rv, rvs, List.take_succ_cons, List.length_cons, List.length_nil, List.set_cons_succ, List.cons_append, Nat.zero_add]
    rw [show k * 2 + 1 + 1 + (1 + 1) = (k * 2 + 2) + 1 + 1 by omega, List.drop_succ_cons, List.drop_succ_cons]
    rw [← ih]
    simp [put, rv]
/-- A rotor of empty strings. -/
def rot0 : Rot := ⟨⟨#[]⟩, ⟨#[]⟩⟩
theorem rvs_rep (n : Nat) : (madeCells #[.string ⟨#[]⟩, .string ⟨#[]⟩] (n * 2)) = (rvs (List.replicate n rot0)).toArray := by
  apply Array.toList_inj.1
  refine List.ext_getElem ?_ fun i h1 h2 => ?_
  · have := size_madeCells #[.string ⟨#[]⟩, .string ⟨#[]⟩] (n * 2)
    simp [len_rvs]; omega
  · have hall : ∀ (k : Nat), ∀ v ∈ rvs (List.replicate k rot0), v = .string ⟨#[]⟩ := by
      intro k
      induction k with
      | zero => intro v hv; simp [rvs] at hv
      | succ k ih =>
        intro v hv
        rw [List.replicate_succ] at hv
        simp only [rvs, List.mem_cons] at hv
        rcases hv with rfl | rfl | hv
        · rfl
        · rfl
        · exact ih v hv
    have e2 : (rvs (List.replicate n rot0)).toArray.toList[i] = .string ⟨#[]⟩ := hall n _ (List.getElem_mem _)
    rw [e2]
    simp only [madeCells, Array.toList_map, List.getElem_map]
    have : ∀ j : Nat, (#[Value.string ⟨#[]⟩, .string ⟨#[]⟩] : Array Value)[j % 2]! = .string ⟨#[]⟩ := fun j => by
      rcases Nat.mod_two_eq_zero_or_one j with e | e <;> rw [e] <;> rfl
    exact this _
theorem inf_rot : (Try.prog.info? 69).map (fun i => (i.zero, i.size, i.bytes)) = some (some (.agg #[.string ⟨#[]⟩, .string ⟨#[]⟩]), 2, 32) := by kernel_rfl
theorem make_rot (n : Nat) (hn : n ≤ 1048576) (w : World) : (Instr.makeSlice 28 (.int .i64 (n : Int)) (.int .i64 (n : Int))).run Try.prog w = .ok (.slice (some ⟨w.heap.size, 0, none⟩) n n) (w.alloc (.cells (rvs (List.replicate n rot0)).toArray 69)) := by
  obtain ⟨i, hi, h1, h2, h3⟩ := info_parts inf_rot
  have hr := run_make (P := Try.prog) w 28 69 i _ Try.underlying28 hi h1 .i64 .i64 n n (by omega) (by omega) (by rw [h3]; omega) (by omega)
  simp only [Int.toNat_natCast, h2] at hr
  have hz : (Value.agg #[.string ⟨#[]⟩, .string ⟨#[]⟩]).cells = #[.string ⟨#[]⟩, .string ⟨#[]⟩] := rfl
  rw [hz, rvs_rep] at hr
  exact hr

theorem put_two {cs : List Value} {k : Nat} {u v : Value} (h : k + 1 < cs.length) : put cs k [u, v] = (cs.set k u).set (k + 1) v := by
  refine List.ext_getElem (by simp [put]; omega) fun i h1 h2 => ?_
  have hi : i < cs.length := by simpa using h2
  simp only [put, List.append_assoc, List.getElem_set]
  rw [List.getElem_append]
  split
  · rename_i hlt
    have : i < k := by simp at hlt; omega
    rw [if_neg (by omega), if_neg (by omega), List.getElem_take]
  · rename_i hge
    have hlk : (cs.take k).length = k := by simp; omega
    have hik : k ≤ i := by omega
    by_cases e0 : i = k
    · subst e0; simp [hlk]
    · by_cases e1 : i = k + 1
      · subst e1; simp [hlk]
      · rw [if_neg (by omega), if_neg (by omega)]
        rw [List.getElem_append_right (by simp; omega)]
        simp only [List.getElem_drop, List.length_cons, List.length_nil, hlk]
        congr 1; omega
def CopyR (rs : List Rot) (w : World) (e : Ending) (w' : World) : Prop :=
  ∃ g, w.heap.size ≤ g ∧ e = .returned (.slice (some ⟨g, 0, none⟩) rs.length rs.length) ∧ Own w' g (rvs rs) ∧ Below w.heap.size w w'
theorem toRotorS_any (a : Option Addr) (c : Nat) (rs : List Rot) (w : World) (h : Reads w w.heap.size a (rvs rs)) (hl : rs.length ≤ 1048576) :
    Calls Try.prog 26 #[.slice a rs.length c] w (CopyR rs w) := by
  have hmk := make_rot rs.length hl
  have HR := Lib.hid h
  clear h
  go_enter Try.func26, Try.ntmps26
  go_wp2
  go_loopw [4] (fun i wr => ∃ k : Nat, k ≤ rs.length ∧ i = .int .i64 k ∧ Below w.heap.size w wr ∧ Own wr w.heap.size (rvs (rs.take k ++ (List.replicate rs.length rot0).drop k))) (fun i _ => rs.length - (intOf i).toNat)
  case atStart => exact ⟨0, Nat.zero_le _, rfl, (Below.refl _ _).alloc (Nat.le_refl _) _, by simpa using Own.new w (rvs (List.replicate rs.length rot0)) 69⟩
  case round =>
    clear hmk
    obtain ⟨k, hk, rfl, hbel, hown⟩ := hrel
    by_cases hlt : k < rs.length
    · obtain ⟨b, off, rfl, hb, hc⟩ := HR.out.cells (by rw [len_rvs]; omega)
      obtain ⟨f0, f1⟩ := rot_cells (hc.below hbel hb) hlt
      clear hc
      have hlen : Hid ((rs.take k ++ (List.replicate rs.length rot0).drop k).length = rs.length) := by
        show _ = _
        rw [fill_len (by simp) hk]
      have q1 : (k : Int) < (rs.length : Int) := by omega
      go_wp2_with fail
      refine (toRotor_any rs[k] _).mono ?_
      rintro e w1 ⟨rfl, hb1⟩
      have o1 := hown.below hb1 hown.lt
      have l1 : (rvs (rs.take k ++ (List.replicate rs.length rot0).drop k)).length = 2 * rs.length := by rw [len_rvs, hlen.out]
      have L1 := Lib.hid l1
      clear l1
      obtain ⟨y0, g0⟩ := o1.some_ (i := k * 2) (by rw [L1.out]; omega)
      obtain ⟨y1, g1⟩ := o1.some_ (i := k * 2 + 1) (by rw [L1.out]; omega)
      have e0 := o1.free (k * 2) (by rw [L1.out]; omega)
      have e1 := o1.free (k * 2 + 1) (by rw [L1.out]; omega)
      go_wp2
      go_roundw
      case rel =>
        refine ⟨k + 1, by omega, by go_num, ((bt hbel hb1).setCell (by simp) _).setCell (by simp) _, ?_⟩
        have h0 := (o1.set_ (i := k * 2) (by rw [L1.out]; omega) (.string rs[k].wiring)).set_ (i := k * 2 + 1) (by rw [List.length_set, L1.out]; omega) (.string rs[k].notches)
        have hset := rvs_set (rs.take k ++ (List.replicate rs.length rot0).drop k) k rs[k] (by rw [hlen.out]; exact hlt)
        rw [fill_set hlt (by simp)] at hset
        rw [← hset]
        have hp : put (rvs (rs.take k ++ (List.replicate rs.length rot0).drop k)) (k * 2) (rv rs[k]) = ((rvs (rs.take k ++ (List.replicate rs.length rot0).drop k)).set (k * 2) (.string rs[k].wiring)).set (k * 2 + 1) (.string rs[k].notches) := put_two (by rw [L1.out]; omega)
        rw [hp]
        exact h0
      case measure => simp [intOf]; omega
    · have hk' : k = rs.length := by omega
      subst hk'
      go_wp2
      go_ret
      refine ⟨w.heap.size, Nat.le_refl _, rfl, ?_, hbel⟩
      rw [List.take_length, List.drop_of_length_le (by simp), List.append_nil] at hown
      exact hown
end Go.Proofs.Ytaplndmgbinhcaa
