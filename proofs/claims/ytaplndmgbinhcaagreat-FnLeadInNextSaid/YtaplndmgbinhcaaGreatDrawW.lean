/- Contracts of the functions that draw wheels. -/
import Derived.Test.YtaplndmgbinhcaaGreatDrawV
namespace Go.Proofs.YtaplndmgbinhcaaGreat
open Go.RowKit

theorem inf_rotor : (Tryz.prog.info? 70).map (fun i => (i.zero, i.size, i.bytes)) = some (some (.agg #[.string ⟨#[]⟩, .string ⟨#[]⟩]), 2, 32) := by kernel_rfl
theorem Moved.low {R B : Nat} {a b c : World} (h : Moved R a b) (k : Below B b c) (hB : a.heap.size ≤ B) : Moved R a c :=
  ⟨k.os.trans h.os, k.tape.trans h.tape, k.output.trans h.output, Nat.le_trans h.size k.size, fun i hi hne => (k.block i (by omega)).trans (h.block i hi hne)⟩
/-- What the drawing of wheels leaves: wheels with P, whose rotors lie in new memory. -/
def WhlP (R : Nat) (P : Whl → Prop) (c : Nat) (w : World) (e : Ending) (w' : World) : Prop :=
  ∃ (x : Whl) (v : Value), P x ∧ e = .returned (.agg #[v, .string x.refl]) ∧ OwR w' w.heap.size 70 2 v x.rotors.length (rvs x.rotors) ∧ Rd w' R c ∧ Moved R w w'
/-- Good wheels with n rotors. -/
def GoodW (n : Nat) (x : Whl) : Prop := x.rotors.length = n ∧ (∀ r ∈ x.rotors, rotorB r = true) ∧ reflB x.refl = true

set_option maxRecDepth 100000 in
set_option maxHeartbeats 1000000 in
theorem l6Some_any (R n : Nat) (c : Nat) (w : World) (h : Rd w R c) (hc : c ≤ 8000000) (hn : n ≤ 3) :
    Calls Tryz.prog 43 #[.pointer (some ⟨R, 0, none⟩), .int .i64 (n : Int)] w (WhlP R (GoodW n) (c + 50) w) := by
  have o0 := Own.new w [.slice none 0 0, .string ⟨#[]⟩] 25
  have hr0 := h.alloc (.cells #[.slice none 0 0, .string ⟨#[]⟩] 25)
  have hm0 := (Moved.refl R w).alloc (.cells #[.slice none 0 0, .string ⟨#[]⟩] 25)
  have hlt := h.lt
  go_enter Tryz.func43, Tryz.ntmps43
  go_wp2_with fail
  refine (l4Board_any R 5 c _ hr0 (by omega) (by omega)).mono ?_
  rintro e w1 ⟨s, hs, rfl, hr1, hm1⟩
  have o1 := o0.grown hm1 (by simp; omega)
  have hmw1 := hm0.trans hm1
  have HS := Lib.hid hs.refl
  clear hs o0 hr0 hm0 hm1 h
  have l1 := o1.lt
  have p1 := Own.new w1 [.slice none 0 0, .string s] 25
  have o1' := o1.alloc (.cells [.slice none 0 0, .string s].toArray 25)
  have hr1' := hr1.alloc (.cells [.slice none 0 0, .string s].toArray 25)
  have hm1' := hmw1.alloc (.cells [.slice none 0 0, .string s].toArray 25)
  go_wp2_with fail
  generalize (w1.alloc (.cells [.slice none 0 0, .string s].toArray 25)) = W1 at *
  generalize hB1 : w1.heap.size = B1 at *
  generalize hB0 : w.heap.size = B0 at *
  have HB0 := Lib.hid hB0
  clear o1 hr1 hmw1 hB1 hB0
  go_loopw [6] (fun i wr => ∃ (k : Nat) (v : Value) (rs : List Rot), k ≤ n ∧ i = .int .i64 k ∧ rs.length = k ∧ (∀ r ∈ rs, rotorB r = true) ∧ Own wr B1 [v, .string s] ∧ Own wr B0 [.slice none 0 0, .string ⟨#[]⟩] ∧ OwR wr (B1 + 1) 70 2 v k (rvs rs) ∧ Rd wr R (c + 10 + 11 * k) ∧ Moved R w wr) (fun i _ => n - (intOf i).toNat)
  case atStart => exact ⟨0, _, [], by omega, rfl, rfl, by simp, p1, o1', World.ownsRow_nil _ _ _ _, hr1', hm1'⟩
  case round =>
    clear p1 o1' hr1' hm1'
    obtain ⟨k, v, rs, hk, rfl, hrl, hrb, p1, o1, hown, hr, hm⟩ := hrel
    have HRL := Lib.hid hrl
    have HRB := Lib.hid hrb
    clear hrl hrb
    have f0 := p1.at_ (i := 0) rfl
    have lt1 := p1.lt
    by_cases hlt2 : k < n
    · go_wp2_with fail
      go_region_law (first | (go_simp; go_at_call 67; refine (l5Some_any R _ _ hr.drew (by omega)).mono ?_; rintro e w2 ⟨r, hrB, rfl, hr2, hm2⟩; have q2 := OwR.moved (w := wr.drew) hown hm2 (by omega); have p2 := p1.drew.grown hm2 (by simp; omega); have o2 := o1.drew.grown hm2 (by simp; omega); have f2 := p2.at_ (i := 0) rfl; have p3 := p2.alloc (.cells [.string r.wiring, .string r.notches].toArray 70); have f3 := p3.at_ (i := 0) rfl; have l2 := p2.lt) | (refine st_push 23 70 inf_rotor Tryz.underlying23 rfl (by omega) (by rfl) (by rfl) q2 (by omega) rfl (by simp [Value.oneCell']) (by omega) (by omega) (by rfl) (by rfl) ?_; intro g cap w4 q4 b4 s4; have p4 := p2.below b4 (by omega); have o4 := o2.below b4 (by omega); have f4 := p4.at_ (i := 0) rfl; have g4 := p4.free 0 (by simp)))
      all_goals
       go_wp2
       go_roundw
       case rel =>
        have hr4 := hr2.below b4 (by omega)
        have hm4 : Moved R w w4 := (hm.drew.trans hm2).low b4 (by rw [HB0.out]; omega)
        refine ⟨k + 1, _, rs ++ [r], by omega, by go_num, by simp [HRL.out], ?_, p4.set_ (i := 0) (by simp) _, o4.far (by simp; omega) _, ?_, (hr4.far (by simp; omega) _).more (by omega), hm4.set_ (.inr (by simp; rw [HB0.out]; omega)) _⟩
        · intro r' h'
          simp at h'
          rcases h' with h' | rfl
          · exact HRB.out r' h'
          · exact hrB
        · rw [rvs_append]; exact OwR.far q4 (by simp) _
       case measure => simp [intOf]; omega
    · have hk' : k = n := by omega
      subst hk'
      have f1 := p1.at_ (i := 1) rfl
      have h0 := o1.at_ (i := 0) rfl
      have h1 := o1.at_ (i := 1) rfl
      have g0 := o1.free 0 (by simp)
      have g1 := o1.free 1 (by simp)
      have hne : ¬ B0 = B1 := by omega
      obtain ⟨va, vc, rfl, -, -, -⟩ := OwR.val hown
      go_wp2
      refine bodyPost_ret (v := .agg #[.slice va k vc, .string s]) (by simp [results, Tryz.results43, go_sem, h0, h1]) rfl ?_
      refine ⟨⟨rs, s⟩, .slice va k vc, ⟨HRL.out, HRB.out, HS.out⟩, rfl, ?_, ((hr.far (by simp; omega) _).far (by simp; omega) _).more (by omega), (hm.set_ (.inr (by simp; rw [HB0.out]; omega)) _).set_ (.inr (by simp; rw [HB0.out]; omega)) _⟩
      have := World.ownsRow.mono (OwR.far (OwR.far hown (p := ⟨B0, 0, none⟩) (by simp; omega) (.slice va k vc)) (p := ⟨B0, 1, none⟩) (by simp; omega) (.string s)) (base' := w.heap.size) (by rw [HB0.out]; omega)
      rw [show (rs.length : Nat) = k from HRL.out]
      exact this
end Go.Proofs.YtaplndmgbinhcaaGreat
