/- Contracts of the functions that draw rotors. -/
import Derived.Test.YtaplndmgbinhcaaGreatDrawS
namespace Go.Proofs.YtaplndmgbinhcaaGreat
open Go.RowKit

theorem asc_wd {l : List Nat} (hp : l.Pairwise (· < ·)) (hlt : ∀ a ∈ l, a < 10) : ascB (wd l) = true := by
  simp only [ascB, List.all_eq_true, List.mem_range, decide_eq_true_eq]
  intro i hi
  rw [size_wd] at hi
  have h1 : i < l.length := by omega
  have h2 : i + 1 < l.length := by omega
  have e : ∀ j (h : j < l.length), (L (wd l)).getD j 0 = letr (l[j] : Nat) := fun j h => by
    rw [L_wd]; simp [List.getD, h]
  rw [e i h1, e (i + 1) h2]
  have h3 := List.pairwise_iff_getElem.1 hp i (i + 1) h1 h2 (by omega)
  have h4 := hlt _ (List.getElem_mem h1)
  have h5 := hlt _ (List.getElem_mem h2)
  refine UInt8.lt_iff_toNat_lt.2 ?_
  rw [letr_toNat, letr_toNat]; omega
theorem rotorB_mk {a b : ByteArray} (h1 : permB a = true) (h2 : b.size ≤ 3) (h3 : wordB b = true) (h4 : ascB b = true) : rotorB ⟨a, b⟩ = true := by simp [rotorB, h1, h2, h3, h4]
/-- Notches. -/
def Nt (s : ByteArray) : Prop := s.size ≤ 3 ∧ wordB s = true ∧ ascB s = true
theorem Nt.of_one {s : ByteArray} (h : Wd 1 s) : Nt s := ⟨by rw [h.2]; omega, h.1, by simp [ascB, h.2]⟩
set_option maxHeartbeats 400000 in
theorem l5Notches_any (R : Nat) (c : Nat) (w : World) (h : Rd w R c) (hc : c ≤ 9000000) :
    Calls Tryz.prog 87 #[.pointer (some ⟨R, 0, none⟩), .int .i64 3] w (StrP R Nt (c + 6) w) := by
  go_enter Tryz.func87, Tryz.ntmps87
  go_wp2_with fail
  refine (pick_any R _ c w h (by omega) (by omega) (by omega)).mono ?_
  rintro e w1 ⟨v, rfl, hv0, hv1, _, hr, hm⟩
  obtain ⟨n, rfl⟩ := Int.eq_ofNat_of_zero_le hv0
  have hn : n ≤ 3 := by have := hv1 (by omega); omega
  clear hv1 hv0
  go_wp2_with fail
  refine (pick_any R _ _ _ hr (by omega) (by omega) (by omega)).mono ?_
  rintro e w2 ⟨v, rfl, hv0, hv1, _, hr2, hm2⟩
  obtain ⟨x0, rfl⟩ := Int.eq_ofNat_of_zero_le hv0
  have hx0 : x0 < 10 := by have := hv1 (by omega); omega
  have hm12 := hm.trans hm2
  clear hv1 hv0 hr hm hm2 h
  go_wp2_with fail
  go_loopw [5, 7] (fun o i wr => ∃ (x : Nat) (l : List Nat), x ≤ 100 ∧ i = .int .i64 x ∧ o = .string (wd l) ∧ l.length ≤ n ∧ l.Pairwise (· < ·) ∧ (∀ a ∈ l, a < 10 ∧ a < x) ∧ Rd wr R (c + 2 + l.length) ∧ Moved R w wr) (fun o _ _ => 3 - (match o with | .string t => t.size | _ => 0))
  case atStart => exact ⟨x0, [], by omega, rfl, rfl, by simp, List.Pairwise.nil, by simp, hr2, hm12⟩
  case round =>
    clear hr2 hm12
    obtain ⟨x, l, hx, rfl, rfl, hl, hp, ha, hr, hm⟩ := hrel
    have HP := Lib.hid hp
    have HA := Lib.hid ha
    clear hp ha
    have hsz : (wd l).size ≤ 3 := by rw [size_wd]; omega
    have HSZ := Lib.hid (size_wd l)
    by_cases hx10 : x < 10
    · have tx : decide ((x : Int) < 10) = true := by simp; omega
      by_cases hln : l.length < n
      · have tl : decide (((wd l).size : Int) < (n : Int)) = true := by rw [HSZ.out]; simp; omega
        have tl' : decide ((wd l).size < n) = true := by rw [HSZ.out]; simp; omega
        have hs1 : (S [letr (x : Int)]).size ≤ 1 := by rw [size_S]; simp
        go_wp2_with (go_at_call 36; ((with_reducible refine (l1Letter_any _ _).mono ?_); rintro e w3 ⟨rfl, hb3⟩))
        refine (pick_any R _ _ _ (hr.below hb3 hr.lt) (by omega) (by omega) (by omega)).mono ?_
        rintro e w4 ⟨v, rfl, hv0, hv1, _, hr4, hm4⟩
        obtain ⟨y, rfl⟩ := Int.eq_ofNat_of_zero_le hv0
        have hy : y < 4 := by have := hv1 (by omega); omega
        clear hv1 hv0
        go_wp2
        go_roundw
        case rel =>
          refine ⟨x + 1 + y, l ++ [x], by omega, by go_num, by rw [wd_snoc], by simp; omega, ?_, ?_, hr4.more (by simp; omega), (hm.below hb3).trans hm4⟩
          · rw [List.pairwise_append]
            exact ⟨HP.out, List.pairwise_singleton _ _, fun a h1 b h2 => by simp at h2; subst h2; exact (HA.out a h1).2⟩
          · intro a h1
            simp at h1
            rcases h1 with h1 | rfl
            · have := HA.out a h1; omega
            · omega
        case measure => have := HSZ.out; simp only [ByteArray.size_append, size_S, List.length_cons, List.length_nil]; omega
      · have tl : decide (((wd l).size : Int) < (n : Int)) = false := by rw [HSZ.out]; simp; omega
        have tl' : decide ((wd l).size < n) = false := by rw [HSZ.out]; simp; omega
        go_wp2
        go_ret
        exact ⟨wd l, ⟨by rw [HSZ.out]; omega, word_wd (by omega), asc_wd HP.out fun a h => (HA.out a h).1⟩, rfl, hr.more (by omega), hm⟩
    · have tx : decide ((x : Int) < 10) = false := by simp; omega
      go_wp2
      go_ret
      exact ⟨wd l, ⟨by rw [HSZ.out]; omega, word_wd (by omega), asc_wd HP.out fun a h => (HA.out a h).1⟩, rfl, hr.more (by omega), hm⟩

/-- What the drawing of a rotor leaves. -/
def RotP (R : Nat) (P : Rot → Prop) (c : Nat) (w : World) (e : Ending) (w' : World) : Prop :=
  ∃ r : Rot, P r ∧ e = .returned (.agg #[.string r.wiring, .string r.notches]) ∧ Rd w' R c ∧ Moved R w w'
theorem l5Some_any (R : Nat) (c : Nat) (w : World) (h : Rd w R c) (hc : c ≤ 9000000) :
    Calls Tryz.prog 67 #[.pointer (some ⟨R, 0, none⟩)] w (RotP R (fun r => rotorB r = true) (c + 11) w) := by
  have o0 := Own.new w [.string ⟨#[]⟩, .string ⟨#[]⟩] 70
  have hr0 := h.alloc (.cells #[.string ⟨#[]⟩, .string ⟨#[]⟩] 70)
  have hm0 := (Moved.refl R w).alloc (.cells #[.string ⟨#[]⟩, .string ⟨#[]⟩] 70)
  have hlt := h.lt
  go_enter Tryz.func67, Tryz.ntmps67
  go_wp2_with fail
  refine (l2Some_any R c _ hr0 (by omega)).mono ?_
  rintro e w1 ⟨s, hs, rfl, hr1, hm1⟩
  have o1 := o0.grown hm1 (by simp; omega)
  have hmw1 := hm0.trans hm1
  have HS := Lib.hid hs
  clear hs o0 hr0 hm0 hm1
  go_wp2_with fail
  refine (l1Some_any R 1 _ _ hr1 (by omega) (by omega)).mono ?_
  rintro e w2 ⟨t, ht, rfl, hr2, hm2⟩
  have o2 := o1.grown hm2 (by simp; omega)
  have hmw2 := hmw1.trans hm2
  have HT := Lib.hid (Nt.of_one ht)
  clear ht o1 hr1 hmw1 hm2
  have f0 := o2.at_ (i := 0) rfl
  have f1 := o2.at_ (i := 1) rfl
  have g0 := o2.free 0 (by simp)
  have g1 := o2.free 1 (by simp)
  go_wp2
  refine bodyPost_ret (v := .agg #[.string s, .string t]) (by simp [results, Tryz.results67, go_sem, f0, f1]) rfl ?_
  exact ⟨⟨s, t⟩, rotorB_mk HS.out HT.out.1 HT.out.2.1 HT.out.2.2, rfl, ((hr2.far (by simp; omega) _).far (by simp; omega) _).more (by omega), (hmw2.set_ (.inr (by simp)) _).set_ (.inr (by simp)) _⟩
end Go.Proofs.YtaplndmgbinhcaaGreat
