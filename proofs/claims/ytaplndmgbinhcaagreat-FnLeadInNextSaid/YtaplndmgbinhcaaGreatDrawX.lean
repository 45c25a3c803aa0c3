/- The contract of the function that draws any wheels. -/
import Derived.Test.YtaplndmgbinhcaaGreatDrawW
namespace Go.Proofs.YtaplndmgbinhcaaGreat
open Go.RowKit

theorem OwR.own {w : World} {base g cap n : Nat} {e : TypeId} {sz : Nat} {xs : List Value} (h : OwR w base e sz (.slice (some ⟨g, 0, none⟩) n cap) n xs) : Own w g xs := by
  rcases h.2 with ⟨h', _⟩ | ⟨g', cap', cur, h', hb, hh, hn, hm, hs, ht⟩
  · simp at h'
  · simp only [Value.slice.injEq, Option.some.injEq, Addr.mk.injEq, and_true, true_and] at h'
    obtain ⟨rfl, rfl⟩ := h'
    have hlt : g < w.heap.size := by
      rcases Nat.lt_or_ge g w.heap.size with h1 | h1
      · exact h1
      · rw [Array.getElem?_eq_none h1] at hh; cases hh
    refine ⟨hlt, fun i hi => ?_, fun i hi => by simp [World.frozen?, hh]⟩
    rw [cell_of_row w g i cur _ _ hh, ← ht]
    have : i < n * sz := by rw [← h.1]; exact hi
    rw [List.getElem?_take_of_lt this]
    simp
theorem rvs_set2 {rs : List Rot} {k : Nat} (r : Rot) (h : k < rs.length) : ((rvs rs).set (k * 2) (.string r.wiring)).set (k * 2 + 1) (.string r.notches) = rvs (rs.set k r) := by
  induction rs generalizing k with
  | nil => simp at h
  | cons q rs ih =>
    cases k with
    | zero => simp [rvs]
    | succ k =>
      rw [show (k + 1) * 2 = k * 2 + 1 + 1 by omega]
      simp only [rvs, List.set_cons_succ]
      rw [ih (by simpa using h)]
theorem set_all {rs : List Rot} {Q : Rot → Prop} (h : ∀ r ∈ rs, Q r) {k : Nat} {r : Rot} (hr : Q r) : ∀ q ∈ rs.set k r, Q q := fun q hq => by
  rcases List.mem_or_eq_of_mem_set hq with h1 | rfl
  · exact h q h1
  · exact hr

/-- Good wheels with some rotors, at most three. -/
def GoodW3 (x : Whl) : Prop := 1 ≤ x.rotors.length ∧ x.rotors.length ≤ 3 ∧ (∀ r ∈ x.rotors, rotorB r = true) ∧ reflB x.refl = true
theorem GoodW.three {n : Nat} {x : Whl} (h : GoodW n x) (h1 : 1 ≤ n) (h3 : n ≤ 3) : GoodW3 x := ⟨by rw [h.1]; exact h1, by rw [h.1]; exact h3, h.2.1, h.2.2⟩
theorem rvs_get0 {rs : List Rot} {k : Nat} (h : k < rs.length) : (rvs rs)[k * 2]? = some (.string rs[k].wiring) := by rw [Nat.mul_comm]; exact rvs_at0 rs k h
theorem rvs_get1 {rs : List Rot} {k : Nat} (h : k < rs.length) : (rvs rs)[k * 2 + 1]? = some (.string rs[k].notches) := by rw [Nat.mul_comm]; exact rvs_at1 rs k h

set_option maxRecDepth 100000 in
set_option maxHeartbeats 1000000 in
theorem l6Any_any (R : Nat) (c : Nat) (w : World) (h : Rd w R c) (hc : c ≤ 7000000) :
    Calls Tryz.prog 45 #[.pointer (some ⟨R, 0, none⟩)] w (WhlP R GoodW3 (c + 150) w) := by
  have o0 := Own.new w [.slice none 0 0, .string ⟨#[]⟩] 25
  have hr0 := h.alloc (.cells #[.slice none 0 0, .string ⟨#[]⟩] 25)
  have hm0 := (Moved.refl R w).alloc (.cells #[.slice none 0 0, .string ⟨#[]⟩] 25)
  have hlt := h.lt
  go_enter Tryz.func45, Tryz.ntmps45
  go_wp2_with fail
  refine (pick_any R _ c _ hr0 (by omega) (by omega) (by omega)).mono ?_
  rintro e w1 ⟨v, rfl, hv0, hv1, _, hr1, hm1⟩
  obtain ⟨n0, rfl⟩ := Int.eq_ofNat_of_zero_le hv0
  have hn0 : n0 < 3 := by have := hv1 (by omega); omega
  have o1 := o0.grown hm1 (by simp; omega)
  have hmw1 := hm0.trans hm1
  have z1 : w.heap.size < w1.heap.size := o1.lt
  clear hv1 hv0 o0 hr0 hm0 hm1 h
  have hso := l6Some_any R (1 + n0) _ _ hr1 (by omega) (by omega)
  rw [show ((1 + n0 : Nat) : Int) = 1 + (n0 : Int) by omega] at hso
  go_wp2_with fail
  refine hso.mono ?_
  rintro e w2 ⟨x, v, hx, rfl, hown2, hr2, hm2⟩
  have hN := hx.1
  have HRB := Lib.hid hx.2.1
  have HRF := Lib.hid hx.2.2
  clear hx hso
  obtain ⟨va, cp, rfl, -, -, hva⟩ := OwR.val hown2
  obtain ⟨g, rfl, hg, -⟩ : ∃ g, va = some ⟨g, 0, none⟩ ∧ w1.heap.size ≤ g ∧ Own w2 g (rvs x.rotors) := by
    rcases hva with h0 | h0
    · omega
    · exact h0
  clear hva
  have hgl := (World.ownsRow.lt hown2 g rfl).2
  have o2 := o1.grown hm2 (by simp; omega)
  have hmw2 := hmw1.trans hm2
  obtain ⟨rs, s⟩ := x
  simp only at hN hown2 HRB HRF
  generalize hNN : rs.length = N at *
  have hN1 : 1 ≤ N := by omega
  have hN3 : N ≤ 3 := by omega
  have HNN := Lib.hid hNN
  clear hNN hN
  have p2 := Own.new w2 [.slice (some ⟨g, 0, none⟩) N cp, .string s] 25
  have o2' := o2.alloc (.cells [.slice (some ⟨g, 0, none⟩) N cp, .string s].toArray 25)
  have hr2' := hr2.alloc (.cells [.slice (some ⟨g, 0, none⟩) N cp, .string s].toArray 25)
  have hm2' := hmw2.alloc (.cells [.slice (some ⟨g, 0, none⟩) N cp, .string s].toArray 25)
  have hown2' := World.ownsRow.alloc hown2 (.cells [.slice (some ⟨g, 0, none⟩) N cp, .string s].toArray 25)
  go_wp2_with fail
  generalize (w2.alloc (.cells [.slice (some ⟨g, 0, none⟩) N cp, .string s].toArray 25)) = W2 at *
  generalize hB1 : w2.heap.size = B1 at *
  generalize hB0 : w.heap.size = B0 at *
  have HB0 := Lib.hid hB0
  have hown3 := World.ownsRow.mono hown2' (base' := B0 + 1) (by omega)
  have hgB : B0 + 1 ≤ g := by omega
  clear o2 hr2 hmw2 hB1 hB0 hown2 hown2' o1 hr1 hmw1 hm2 z1 hg
  go_loopw [4] (fun i wr => ∃ (k : Nat) (rs : List Rot), k ≤ N ∧ i = .int .i64 k ∧ rs.length = N ∧ (∀ r ∈ rs, rotorB r = true) ∧ Own wr B1 [.slice (some ⟨g, 0, none⟩) N cp, .string s] ∧ Own wr B0 [.slice none 0 0, .string ⟨#[]⟩] ∧ OwR wr (B0 + 1) 70 2 (.slice (some ⟨g, 0, none⟩) N cp) N (rvs rs) ∧ Rd wr R (c + 51 + 21 * k) ∧ Moved R w wr) (fun i _ => N - (intOf i).toNat)
  case atStart => exact ⟨0, rs, by omega, rfl, HNN.out, HRB.out, p2, o2', hown3, hr2'.more (by omega), hm2'⟩
  case round =>
    clear p2 o2' hr2' hm2' hown3 HRB HNN
    obtain ⟨k, rs, hk, rfl, hrl, hrb, p1, o1, hown, hr, hm⟩ := hrel
    have HRL := Lib.hid hrl
    have HRB := Lib.hid hrb
    clear hrl hrb
    have f0 := p1.at_ (i := 0) rfl
    have lt1 := p1.lt
    by_cases hlt2 : k < N
    · go_wp2_with fail
      refine (pick_any R _ _ _ hr (by omega) (by omega) (by omega)).mono ?_
      rintro e w3 ⟨v, rfl, hv0, hv1, _, hr3, hm3⟩
      have p3 := p1.grown hm3 (by simp; omega)
      have o3 := o1.grown hm3 (by simp; omega)
      have hown3 := OwR.moved hown hm3 (by omega)
      have hmw3 := hm.trans hm3
      clear hv1 p1 o1 hown hr hm hm3 f0
      by_cases e0 : v = 0
      · have t0 : (v == 0) = true := by simp [e0]
        clear e0
        have f0 := p3.at_ (i := 0) rfl
        have lt3 := p3.lt
        have q1 : (k : Int) < (N : Int) := by omega
        have q0 : (0 : Int) ≤ (k : Int) := by omega
        have hne1 : ¬ g = B1 := by omega
        have hne2 : ¬ B1 = g := by omega
        go_wp2_with fail
        go_region_held3 (fun w' => w'.cell? ⟨B1, 0, none⟩ = some (.slice (some ⟨g, 0, none⟩) N cp)) (first | go_keep | exact f4)
          (first | (go_at_call 68; refine (l5Any_any R _ _ hr3.drew (by omega)).mono ?_; rintro e w4 ⟨r, hrB, rfl, hr4, hm4⟩; have p4 := p3.drew.grown hm4 (by simp; omega); have f4 := p4.at_ (i := 0) rfl; have hown4 := OwR.moved (w := w3.drew) hown3 hm4 (by omega); have og4 := OwR.own hown4; obtain ⟨y0, c0⟩ := og4.some_ (i := k * 2) (by rw [len_rvs, HRL.out]; omega); obtain ⟨y1, c1⟩ := og4.some_ (i := k * 2 + 1) (by rw [len_rvs, HRL.out]; omega); have d0 := og4.free (k * 2) (by rw [len_rvs, HRL.out]; omega); have d1 := og4.free (k * 2 + 1) (by rw [len_rvs, HRL.out]; omega)))
        all_goals
         go_wp2
         go_roundw
         case rel =>
          have hs1 := (World.ownsRow.stored (World.ownsRow.stored hown4 (k * 2) (.string r.wiring)).1 (k * 2 + 1) (.string r.notches)).1
          rw [rvs_set2 r (by rw [HRL.out]; exact hlt2)] at hs1
          have o4 := o3.drew.grown hm4 (by simp; omega)
          refine ⟨k + 1, rs.set k r, by omega, by go_num, by rw [List.length_set, HRL.out], set_all HRB.out hrB, (p4.far (by simp; omega) _).far (by simp; omega) _, (o4.far (by simp; omega) _).far (by simp; omega) _, hs1, (((hr4.far (by simp; omega) _).far (by simp; omega) _)).more (by omega), ((hmw3.drew.trans hm4).set_ (.inr (by simp; rw [HB0.out]; omega)) _).set_ (.inr (by simp; rw [HB0.out]; omega)) _⟩
         case measure => simp [intOf]; omega
      · have t0 : (v == 0) = false := by simp [e0]
        clear e0
        go_wp2
        go_roundw
        case rel => exact ⟨k + 1, rs, by omega, by go_num, HRL.out, HRB.out, p3, o3, hown3, hr3.more (by omega), hmw3⟩
        case measure => simp [intOf]; omega
    · have hk' : k = N := by omega
      subst hk'
      have f1 := p1.at_ (i := 1) rfl
      have h0 := o1.at_ (i := 0) rfl
      have h1 := o1.at_ (i := 1) rfl
      have g0 := o1.free 0 (by simp)
      have g1 := o1.free 1 (by simp)
      have hne : ¬ B0 = B1 := by omega
      go_wp2
      refine bodyPost_ret (v := .agg #[.slice (some ⟨g, 0, none⟩) k cp, .string s]) (by simp [results, Tryz.results45, go_sem, h0, h1]) rfl ?_
      refine ⟨⟨rs, s⟩, _, ⟨by rw [HRL.out]; omega, by rw [HRL.out]; omega, HRB.out, HRF.out⟩, rfl, ?_, ((hr.far (by simp; omega) _).far (by simp; omega) _).more (by omega), (hm.set_ (.inr (by simp; rw [HB0.out]; omega)) _).set_ (.inr (by simp; rw [HB0.out]; omega)) _⟩
      have := World.ownsRow.mono (OwR.far (OwR.far hown (p := ⟨B0, 0, none⟩) (by simp) (.slice (some ⟨g, 0, none⟩) k cp)) (p := ⟨B0, 1, none⟩) (by simp) (.string s)) (base' := w.heap.size) (by rw [HB0.out]; omega)
      rw [show (rs.length : Nat) = k from HRL.out]
      exact this
end Go.Proofs.YtaplndmgbinhcaaGreat
