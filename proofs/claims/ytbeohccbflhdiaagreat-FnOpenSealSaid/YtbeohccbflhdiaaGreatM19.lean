/- Several of my texts in one: DrawMsg. -/
import Derived.Test.YtbeohccbflhdiaaGreatM17
import Derived.Test.YtbeohccbflhdiaaGreatM16
/- The draws of messages. -/
namespace Go.Proofs.YtbeohccbflhdiaaGreat
open Go.RowKit

/-- Three stores into one block. -/
def set3 (w : World) (b : Nat) (v0 v1 v2 : Value) : World := ((w.setCell ⟨b, 0, none⟩ v0).setCell ⟨b, 1, none⟩ v1).setCell ⟨b, 2, none⟩ v2
theorem size_set3 (w : World) (b : Nat) (v0 v1 v2 : Value) : (set3 w b v0 v1 v2).heap.size = w.heap.size := by simp [set3, World.setCell]
theorem blk_set3 (w : World) (b : Nat) (v0 v1 v2 : Value) {k : Nat} (h : k ≠ b) : (set3 w b v0 v1 v2).heap[k]? = w.heap[k]? := by
  unfold set3
  rw [Below.heap_setCell _ _ _ _ (by simpa using h), Below.heap_setCell _ _ _ _ (by simpa using h), Below.heap_setCell _ _ _ _ (by simpa using h)]
theorem Rd.set3 {w : World} {R c b : Nat} (h : Rd w R c) (hb : R < b) (v0 v1 v2 : Value) : Rd (set3 w b v0 v1 v2) R c := h.keep fun k hk => blk_set3 _ _ _ _ _ (by omega)
theorem Moved.set3 {R b : Nat} {a w : World} (h : Moved R a w) (hb : a.heap.size ≤ b) (v0 v1 v2 : Value) : Moved R a (set3 w b v0 v1 v2) :=
  ((h.set_ (p := ⟨b, 0, none⟩) (.inr hb) v0).set_ (p := ⟨b, 1, none⟩) (.inr hb) v1).set_ (p := ⟨b, 2, none⟩) (.inr hb) v2
theorem bel_set3 {B b : Nat} {a w : World} (h : Below B a w) (hb : B ≤ b) (v0 v1 v2 : Value) : Below B a (set3 w b v0 v1 v2) :=
  ((h.setCell (p := ⟨b, 0, none⟩) hb v0).setCell (p := ⟨b, 1, none⟩) hb v1).setCell (p := ⟨b, 2, none⟩) hb v2
theorem Own.set3 {w : World} {b : Nat} {u0 u1 u2 : Value} (h : Own w b [u0, u1, u2]) (v0 v1 v2 : Value) : Own (set3 w b v0 v1 v2) b [v0, v1, v2] :=
  ((h.set_ (i := 0) (by simp) v0).set_ (i := 1) (by simp) v1).set_ (i := 2) (by simp) v2
theorem Reads.set3 {w : World} {B b : Nat} {a : Option Addr} {xs : List Value} (h : Reads w B a xs) (hb : ∀ ad, a = some ad → ad.block ≠ b) (v0 v1 v2 : Value) : Reads (set3 w b v0 v1 v2) B a xs :=
  ((h.setOff (p := ⟨b, 0, none⟩) hb v0).setOff (p := ⟨b, 1, none⟩) hb v1).setOff (p := ⟨b, 2, none⟩) hb v2

/-- A message is drawn. -/
def MsgP (R c : Nat) (w : World) (e : Ending) (w' : World) : Prop :=
  ∃ x : Msg, x.start.size ≤ 300 ∧ x.ind.size ≤ 300 ∧ x.body.size ≤ 300 ∧ e = .returned (.agg #[.string x.start, .string x.ind, .string x.body]) ∧ Rd w' R c ∧ Moved R w w'
set_option maxRecDepth 100000 in
set_option maxHeartbeats 2000000 in
theorem l9Message_any (R c : Nat) (w : World) (hr : Rd w R c) (hc : c ≤ 100000) :
    Calls Tryz.prog 90 #[.pointer (some ⟨R, 0, none⟩)] w (MsgP R (c + 100) w) := by
  have o1 := Own.new w [.string ⟨#[]⟩, .string ⟨#[]⟩, .string ⟨#[]⟩] 48
  have hr1 := hr.alloc (.cells #[.string ⟨#[]⟩, .string ⟨#[]⟩, .string ⟨#[]⟩] 48)
  have hm1 := (Moved.refl R w).alloc (.cells #[.string ⟨#[]⟩, .string ⟨#[]⟩, .string ⟨#[]⟩] 48)
  have hR := hr.lt
  clear hr
  go_enter Tryz.func90, Tryz.ntmps90
  go_wp2_with fail
  refine (pick_any R _ _ _ hr1 (by omega) (by omega) (by omega)).mono ?_
  rintro e w2 ⟨v, rfl, hv0, hv1, _, hr2, hq⟩
  have o2 := o1.grown hq (by simp; omega)
  have hm2 := hm1.trans hq
  obtain ⟨n, rfl⟩ := Int.eq_ofNat_of_zero_le hv0
  have hn : n ≤ 2 := by have := hv1 (by omega); omega
  clear o1 hr1 hm1 hq hv1 hv0
  generalize hB0 : w.heap.size = B0 at *
  have HB0 := Lib.hid hB0
  clear hB0
  obtain ⟨q, hq⟩ : ∃ q : Nat, q = n + 1 := ⟨_, rfl⟩
  have hq3 : (1 : Int) + (n : Int) = (q : Int) := by omega
  have hq1 : q ≤ 3 := by omega
  have HQ := Lib.hid hq
  have hadd : IntKind.i64.wrap (1 + (n : Int)) = (q : Int) := by rw [hq3]; exact IntWalk.i64_in _ (by omega)
  clear hq hq3
  go_wp2_with fail
  refine (l1Some_any R q _ _ hr2 (by omega) (by omega)).mono ?_
  rintro e w3 ⟨s0, ⟨-, hs0⟩, rfl, hr3, hq⟩
  have o3 := o2.grown hq (by simp; omega)
  have hm3 := hm2.trans hq
  have hz0 : s0.size ≤ 3 := by omega
  clear o2 hr2 hm2 hq hs0
  go_wp2_with fail
  refine (l1Some_any R q _ _ hr3 (by omega) (by omega)).mono ?_
  rintro e w4 ⟨s1, ⟨-, hs1⟩, rfl, hr4, hq⟩
  have o4 := o3.grown hq (by simp; omega)
  have hm4 := hm3.trans hq
  have hz1 : s1.size ≤ 3 := by omega
  clear o3 hr3 hm3 hq hs1
  go_wp2_with fail
  refine (l1Word_any R 16 _ _ hr4 (by omega) (by omega)).mono ?_
  rintro e w5 ⟨s2, ⟨-, hz2⟩, rfl, hr5, hq⟩
  have o5 := (o4.grown hq (by simp; omega)).alloc (.cells [.string s0, .string s1, .string s2].toArray 48)
  have p5 := Own.new w5 [.string s0, .string s1, .string s2] 48
  have hm5 := (hm4.trans hq).alloc (.cells [.string s0, .string s1, .string s2].toArray 48)
  have hr5' := hr5.alloc (.cells [.string s0, .string s1, .string s2].toArray 48)
  have l5 := (o4.grown hq (by simp; omega)).lt
  have z5 := hr5.lt
  clear o4 hr4 hm4 hq hr5
  go_wp2_with fail
  generalize (w5.alloc (.cells [.string s0, .string s1, .string s2].toArray 48)) = W5 at *
  generalize w5.heap.size = B5 at *
  refine (pick_any R _ _ _ hr5' (by omega) (by omega) (by omega)).mono ?_
  rintro e w6 ⟨y, rfl, hy0, _, _, hr6, hq⟩
  have o6 := o5.grown hq (by simp; omega)
  have p6 := p5.grown hq (by simp; omega)
  have hm6 := hm5.trans hq
  clear o5 p5 hm5 hr5' hq
  have f0 := p6.at_ (i := 0) rfl
  have f1 := p6.at_ (i := 1) rfl
  have f2 := p6.at_ (i := 2) rfl
  have e0 := p6.free 0 (by simp)
  have e1 := p6.free 1 (by simp)
  have e2 := p6.free 2 (by simp)
  obtain ⟨x0, c0⟩ := o6.some_ (i := 0) (by simp)
  obtain ⟨x1, c1⟩ := o6.some_ (i := 1) (by simp)
  obtain ⟨x2, c2⟩ := o6.some_ (i := 2) (by simp)
  have b0 := o6.free 0 (by simp)
  have b1 := o6.free 1 (by simp)
  have b2 := o6.free 2 (by simp)
  have nq : ¬ B5 = B0 := by omega
  have nq2 : ¬ B0 = B5 := by omega
  by_cases y0 : y = 0
  · subst y0
    have hle : s0.size ≤ 300 := by omega
    have hz : (s0 ++ (⟨#[97]⟩ : ByteArray)).size ≤ 300 := by
      have := @ByteArray.size_append s0 (⟨#[97]⟩ : ByteArray)
      have h1 : (⟨#[97]⟩ : ByteArray).size = 1 := rfl
      omega
    have HZ := Lib.hid hz
    clear hz
    go_wp2_with fail
    have hz := HZ.out
    clear HZ
    generalize (s0 ++ (⟨#[97]⟩ : ByteArray)) = z at *
    have oz := (o6.far (p := ⟨B5, 0, none⟩) (by simp; omega) (.string (z))).set3 (.string (z)) (.string (s1)) (.string (s2))
    have k0 := oz.at_ (i := 0) rfl
    have k1 := oz.at_ (i := 1) rfl
    have k2 := oz.at_ (i := 2) rfl
    refine bodyPost_ret (v := .agg #[.string (z), .string (s1), .string (s2)]) (by unfold set3 at *; simp [results, Tryz.results90, go_sem, k0, k1, k2]) rfl ?_
    refine ⟨⟨z, s1, s2⟩, by simp only; omega, by simp only; omega, by simp only; omega, rfl, (Rd.set3 (hr6.far (p := ⟨B5, 0, none⟩) (by simp; omega) (.string (z))) (by omega) _ _ _).more (by omega), Moved.set3 (hm6.set_ (p := ⟨B5, 0, none⟩) (.inr (by have := HB0.out; simp; omega)) (.string (z))) (by rw [HB0.out]; exact Nat.le_refl _) _ _ _⟩
  · by_cases y1 : y = 1
    · subst y1
      go_wp2_with fail
      refine (l1Bad_any R s2 _ _ hr6 (by omega) (by omega)).mono ?_
      rintro e w7 ⟨u7, hu7, rfl, hr7, hq⟩
      have o7 := o6.grown hq (by simp; omega)
      have p7 := p6.grown hq (by simp; omega)
      have hm7 := hm6.trans hq
      clear o6 p6 hm6 hr6 hq f0 f1 f2 e0 e1 e2 c0 c1 c2 b0 b1 b2
      have f0 := p7.at_ (i := 0) rfl
      have f1 := p7.at_ (i := 1) rfl
      have f2 := p7.at_ (i := 2) rfl
      have e0 := p7.free 0 (by simp)
      have e1 := p7.free 1 (by simp)
      have e2 := p7.free 2 (by simp)
      obtain ⟨x0, c0⟩ := o7.some_ (i := 0) (by simp)
      obtain ⟨x1, c1⟩ := o7.some_ (i := 1) (by simp)
      obtain ⟨x2, c2⟩ := o7.some_ (i := 2) (by simp)
      have b0 := o7.free 0 (by simp)
      have b1 := o7.free 1 (by simp)
      have b2 := o7.free 2 (by simp)
      unfold Sh at hu7
      go_wp2
      have oz := (o7.far (p := ⟨B5, 2, none⟩) (by simp; omega) (.string u7)).set3 (.string (s0)) (.string (s1)) (.string (u7))
      have k0 := oz.at_ (i := 0) rfl
      have k1 := oz.at_ (i := 1) rfl
      have k2 := oz.at_ (i := 2) rfl
      refine bodyPost_ret (v := .agg #[.string (s0), .string (s1), .string (u7)]) (by unfold set3 at *; simp [results, Tryz.results90, go_sem, k0, k1, k2]) rfl ?_
      refine ⟨⟨s0, s1, u7⟩, by simp only; omega, by simp only; omega, by simp only; omega, rfl, (Rd.set3 (hr7.far (p := ⟨B5, 2, none⟩) (by simp; omega) (.string u7)) (by omega) _ _ _).more (by omega), Moved.set3 (hm7.set_ (p := ⟨B5, 2, none⟩) (.inr (by have := HB0.out; simp; omega)) (.string u7)) (by rw [HB0.out]; exact Nat.le_refl _) _ _ _⟩
    · by_cases y2 : y = 2
      · subst y2
        go_wp2_with fail
        have oz := (o6.far (p := ⟨B5, 1, none⟩) (by simp; omega) (.string ⟨#[]⟩)).set3 (.string (s0)) (.string (⟨#[]⟩)) (.string (s2))
        have k0 := oz.at_ (i := 0) rfl
        have k1 := oz.at_ (i := 1) rfl
        have k2 := oz.at_ (i := 2) rfl
        refine bodyPost_ret (v := .agg #[.string (s0), .string (⟨#[]⟩), .string (s2)]) (by unfold set3 at *; simp [results, Tryz.results90, go_sem, k0, k1, k2]) rfl ?_
        refine ⟨⟨s0, ⟨#[]⟩, s2⟩, by simp only; omega, by simp only; rw [size_nil]; omega, by simp only; omega, rfl, (Rd.set3 (hr6.far (p := ⟨B5, 1, none⟩) (by simp; omega) (.string ⟨#[]⟩)) (by omega) _ _ _).more (by omega), Moved.set3 (hm6.set_ (p := ⟨B5, 1, none⟩) (.inr (by have := HB0.out; simp; omega)) (.string ⟨#[]⟩)) (by rw [HB0.out]; exact Nat.le_refl _) _ _ _⟩
      · have t0 : (y == 0) = false := by simp [y0]
        have t1 : (y == 1) = false := by simp [y1]
        have t2 : (y == 2) = false := by simp [y2]
        clear y0 y1 y2
        go_wp2_with fail
        have oz := (o6).set3 (.string (s0)) (.string (s1)) (.string (s2))
        have k0 := oz.at_ (i := 0) rfl
        have k1 := oz.at_ (i := 1) rfl
        have k2 := oz.at_ (i := 2) rfl
        refine bodyPost_ret (v := .agg #[.string (s0), .string (s1), .string (s2)]) (by unfold set3 at *; simp [results, Tryz.results90, go_sem, k0, k1, k2]) rfl ?_
        refine ⟨⟨s0, s1, s2⟩, by simp only; omega, by simp only; omega, by simp only; omega, rfl, (Rd.set3 hr6 (by omega) _ _ _).more (by omega), Moved.set3 hm6 (by rw [HB0.out]; exact Nat.le_refl _) _ _ _⟩
end Go.Proofs.YtbeohccbflhdiaaGreat
