/- Contracts of the functions that draw any and wrong rotors. -/
import Derived.Test.YtaplndmgbinhcaaGreatDrawT
namespace Go.Proofs.YtaplndmgbinhcaaGreat
open Go.RowKit

theorem perm_simple : ∀ t ∈ ([⟨#[98, 97, 100, 99, 102, 101, 104, 103, 106, 105]⟩, ⟨#[99, 98, 101, 100, 103, 102, 105, 104, 97, 106]⟩, ⟨#[102, 103, 104, 105, 106, 97, 98, 99, 100, 101]⟩, ⟨#[97, 100, 99, 102, 101, 104, 103, 106, 105, 98]⟩] : List ByteArray), permB t = true := by
  intro t ht
  simp only [List.mem_cons, List.not_mem_nil, or_false] at ht
  rcases ht with rfl | rfl | rfl | rfl <;> decide +kernel
theorem perm_half : ∀ t ∈ ([⟨#[97, 98, 99, 100, 101]⟩, ⟨#[98, 97, 99, 100, 101]⟩, ⟨#[98, 99, 100, 101, 97]⟩, ⟨#[101, 100, 99, 98, 97]⟩] : List ByteArray), wordB t = true ∧ t.size = 5 ∧ permB (t ++ shW t 5) = true := by
  intro t ht
  simp only [List.mem_cons, List.not_mem_nil, or_false] at ht
  rcases ht with rfl | rfl | rfl | rfl <;> decide +kernel

set_option maxHeartbeats 1000000 in
theorem l5Any_any (R : Nat) (c : Nat) (w : World) (h : Rd w R c) (hc : c ≤ 8000000) :
    Calls Tryz.prog 68 #[.pointer (some ⟨R, 0, none⟩)] w (RotP R (fun r => rotorB r = true) (c + 20) w) := by
  have o0 := Own.new w [.string ⟨#[]⟩, .string ⟨#[]⟩] 70
  have hr0 := h.alloc (.cells #[.string ⟨#[]⟩, .string ⟨#[]⟩] 70)
  have hm0 := (Moved.refl R w).alloc (.cells #[.string ⟨#[]⟩, .string ⟨#[]⟩] 70)
  have hlt := h.lt
  go_enter Tryz.func68, Tryz.ntmps68
  go_wp2_with fail
  refine (l2Any_any R c _ hr0 (by omega)).mono ?_
  rintro e w1 ⟨s, hs, rfl, hr1, hm1⟩
  have o1 := o0.grown hm1 (by simp; omega)
  have hmw1 := hm0.trans hm1
  have HS := Lib.hid hs
  clear hs o0 hr0 hm0 hm1 h
  go_wp2_with fail
  refine (l5Notches_any R _ _ hr1 (by omega)).mono ?_
  rintro e w2 ⟨t, ht, rfl, hr2, hm2⟩
  have o2 := o1.grown hm2 (by simp; omega)
  have hmw2 := hmw1.trans hm2
  have HT := Lib.hid ht
  have l2 := o2.lt
  clear ht o1 hr1 hmw1 hm2
  have p2 := Own.new w2 [.string s, .string t] 70
  have o2' := o2.alloc (.cells [.string s, .string t].toArray 70)
  have hr2' := hr2.alloc (.cells [.string s, .string t].toArray 70)
  have hm2' := hmw2.alloc (.cells [.string s, .string t].toArray 70)
  go_wp2_with fail
  generalize (w2.alloc (.cells [.string s, .string t].toArray 70)) = W2 at *
  generalize hB1 : w2.heap.size = B1 at *
  generalize hB0 : w.heap.size = B0 at *
  have HB0 := Lib.hid hB0
  clear o2 hr2 hmw2 hB1 hB0
  refine (pick_any R _ _ _ hr2' (by omega) (by omega) (by omega)).mono ?_
  rintro e w3 ⟨v, rfl, hv0, hv1, _, hr3, hm3⟩
  have o3 := o2'.grown hm3 (by simp; omega)
  have p3 := p2.grown hm3 (by simp; omega)
  have hmw3 := hm2'.trans hm3
  clear hv1 o2' p2 hm3 hr2' hm2'
  by_cases e0 : v = 0
  · have t0 : (v == 0) = true := by simp [e0]
    have t1 : (v == 1) = false := by simp [e0]
    clear e0
    have hlt3 := hr3.lt
    go_wp2_with fail
    refine (of_any R _ _ _ [⟨#[98, 97, 100, 99, 102, 101, 104, 103, 106, 105]⟩, ⟨#[99, 98, 101, 100, 103, 102, 105, 104, 97, 106]⟩, ⟨#[102, 103, 104, 105, 106, 97, 98, 99, 100, 101]⟩, ⟨#[97, 100, 99, 102, 101, 104, 103, 106, 105, 98]⟩] _ _ rfl (Own.new _ _ _) (by simp) (by simp; omega) (hr3.alloc _) (by omega) (by simp)).mono ?_
    rintro e w4 ⟨u, hu, rfl, hr4, hm4⟩
    have HU := Lib.hid (perm_simple u hu)
    have o4 := (o3.alloc _).grown hm4 (by simp; omega)
    have p4 := (p3.alloc _).grown hm4 (by simp; omega)
    have hmw4 := (hmw3.alloc _).trans hm4
    clear hu o3 p3 hmw3 hr3 hm4
    have f0 := o4.at_ (i := 0) rfl
    have f1 := o4.at_ (i := 1) rfl
    have g0 := o4.free 0 (by simp)
    have g1 := o4.free 1 (by simp)
    have k0 := p4.at_ (i := 0) rfl
    have k1 := p4.at_ (i := 1) rfl
    have j0 := p4.free 0 (by simp)
    have hne : ¬ B0 = B1 := by omega
    go_wp2
    refine bodyPost_ret (v := .agg #[.string u, .string t]) (by simp [results, Tryz.results68, go_sem, f0, f1]) rfl ?_
    exact ⟨⟨u, t⟩, rotorB_mk HU.out HT.out.1 HT.out.2.1 HT.out.2.2, rfl, (((hr4.far (by simp; omega) _).far (by simp; omega) _).far (by simp; omega) _).more (by omega), ((hmw4.set_ (.inr (by simp; rw [HB0.out]; omega)) _).set_ (.inr (by simp; rw [HB0.out]; omega)) _).set_ (.inr (by simp; rw [HB0.out]; omega)) _⟩
  · have t0 : (v == 0) = false := by simp [e0]
    by_cases e1 : v = 1
    · have t1 : (v == 1) = true := by simp [e1]
      clear e0 e1
      have hlt3 := hr3.lt
      go_wp2_with fail
      refine (of_any R _ _ _ [⟨#[97, 98, 99, 100, 101]⟩, ⟨#[98, 97, 99, 100, 101]⟩, ⟨#[98, 99, 100, 101, 97]⟩, ⟨#[101, 100, 99, 98, 97]⟩] _ _ rfl (Own.new _ _ _) (by simp) (by simp; omega) (hr3.alloc _) (by omega) (by simp)).mono ?_
      rintro e w4 ⟨u, hu, rfl, hr4, hm4⟩
      have HU := Lib.hid (perm_half u hu).2.2
      have hw := (perm_half u hu).1
      have hz : u.size ≤ 5 := by rw [(perm_half u hu).2.1]; omega
      have hz2 : (shW u 5).size ≤ 5 := by rw [size_shW]; exact hz
      have o4 := (o3.alloc _).grown hm4 (by simp; omega)
      have p4 := (p3.alloc _).grown hm4 (by simp; omega)
      have hmw4 := (hmw3.alloc _).trans hm4
      clear hu o3 p3 hmw3 hr3 hm4
      go_wp2_with fail
      refine (specShiftWord_any u 5 _ hw (by omega) (by omega)).mono ?_
      rintro e w5 ⟨rfl, hb5⟩
      have o5 := o4.below hb5 o4.lt
      have p5 := p4.below hb5 p4.lt
      have hmw5 := hmw4.below hb5
      have hr5 := hr4.below hb5 hr4.lt
      clear o4 p4 hmw4 hr4 hb5
      have f0 := o5.at_ (i := 0) rfl
      have f1 := o5.at_ (i := 1) rfl
      have g0 := o5.free 0 (by simp)
      have g1 := o5.free 1 (by simp)
      have k0 := p5.at_ (i := 0) rfl
      have k1 := p5.at_ (i := 1) rfl
      have j0 := p5.free 0 (by simp)
      have hne : ¬ B0 = B1 := by omega
      go_wp2
      refine bodyPost_ret (v := .agg #[.string (u ++ shW u 5), .string t]) (by simp [results, Tryz.results68, go_sem, f0, f1]) rfl ?_
      exact ⟨⟨u ++ shW u 5, t⟩, rotorB_mk HU.out HT.out.1 HT.out.2.1 HT.out.2.2, rfl, (((hr5.far (by simp; omega) _).far (by simp; omega) _).far (by simp; omega) _).more (by omega), ((hmw5.set_ (.inr (by simp; rw [HB0.out]; omega)) _).set_ (.inr (by simp; rw [HB0.out]; omega)) _).set_ (.inr (by simp; rw [HB0.out]; omega)) _⟩
    · have t1 : (v == 1) = false := by simp [e1]
      clear e0 e1
      have f0 := o3.at_ (i := 0) rfl
      have f1 := o3.at_ (i := 1) rfl
      have g0 := o3.free 0 (by simp)
      have g1 := o3.free 1 (by simp)
      have k0 := p3.at_ (i := 0) rfl
      have k1 := p3.at_ (i := 1) rfl
      have hne : ¬ B0 = B1 := by omega
      go_wp2
      refine bodyPost_ret (v := .agg #[.string s, .string t]) (by simp [results, Tryz.results68, go_sem, f0, f1]) rfl ?_
      exact ⟨⟨s, t⟩, rotorB_mk HS.out HT.out.1 HT.out.2.1 HT.out.2.2, rfl, ((hr3.far (by simp; omega) _).far (by simp; omega) _).more (by omega), (hmw3.set_ (.inr (by simp; rw [HB0.out]; omega)) _).set_ (.inr (by simp; rw [HB0.out]; omega)) _⟩
end Go.Proofs.YtaplndmgbinhcaaGreat
