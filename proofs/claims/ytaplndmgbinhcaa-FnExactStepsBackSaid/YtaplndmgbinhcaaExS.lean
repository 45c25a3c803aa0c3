/- The walk of the law that both StepsBack answer alike. -/
import Derived.Test.YtaplndmgbinhcaaExT
import Derived.Test.YtaplndmgbinhcaaBackI
namespace Go.Proofs.Ytaplndmgbinhcaa
open Go.RowKit

theorem drewN_below {B : Nat} {w : World} (n : Nat) : Below B w (w.drewN n) := ⟨rfl, rfl, rfl, Nat.le_refl _, fun _ _ => rfl⟩
theorem Reads.up {w w' : World} {B : Nat} {a : Option Addr} {xs : List Value} (h : Reads w B a xs) (hb : Below B w w') : Reads w' B a xs := h.below hb (Nat.le_refl _)
theorem keep4 {w6 w7 : World} {B0 B5 : Nat} {x0 x1 y0 y1 : Value} (f0 : w6.cell? ⟨B0, 0, none⟩ = some x0) (f1 : w6.cell? ⟨B0, 1, none⟩ = some x1) (g0 : w6.cell? ⟨B5, 0, none⟩ = some y0) (g1 : w6.cell? ⟨B5, 1, none⟩ = some y1)
    (lt0 : B0 < w6.heap.size) (lt5 : B5 < w6.heap.size) (hb : Below w6.drew.heap.size w6.drew w7) :
    w7.cell? ⟨B0, 0, none⟩ = some x0 ∧ w7.cell? ⟨B0, 1, none⟩ = some x1 ∧ w7.cell? ⟨B5, 0, none⟩ = some y0 ∧ w7.cell? ⟨B5, 1, none⟩ = some y1 :=
  ⟨(hb.cell (p := ⟨B0, 0, none⟩) lt0).trans f0, (hb.cell (p := ⟨B0, 1, none⟩) lt0).trans f1, (hb.cell (p := ⟨B5, 0, none⟩) lt5).trans g0, (hb.cell (p := ⟨B5, 1, none⟩) lt5).trans g1⟩

set_option maxHeartbeats 1000000 in
theorem exactStepsBack_walk (a : Option Addr) (c : Nat) (x : Whl) (v : ByteArray) (w : World) (h : Reads w w.heap.size a (rvs x.rotors)) (hz : BigR x.rotors) (hrf : x.refl.size ≤ 9223372036854775807) (hv : v.size ≤ 9223372036854775807) :
    Calls Try.prog 3 #[.agg #[.slice a x.rotors.length c, .string x.refl], .string v] w fun e w' => e = .returned (.bool true) ∧ Below w.heap.size w w' := by
  have o0 := Own.new w [.slice a x.rotors.length c, .string x.refl] 24
  have hb0 := (Below.refl w.heap.size w).alloc (Nat.le_refl _) (.cells [.slice a x.rotors.length c, .string x.refl].toArray 24)
  have H := Lib.hid h
  clear h
  by_cases hvl : 1048576 < v.size
  · go_enter Try.func3, Try.ntmps3
    go_wp2
    go_ret
    exact ⟨rfl, hb0⟩
  · go_enter Try.func3, Try.ntmps3
    go_wp2_with fail
    generalize (w.alloc (.cells [.slice a x.rotors.length c, .string x.refl].toArray 24)) = W at *
    have hRW : Reads W w.heap.size a (rvs x.rotors) := H.out.up hb0
    refine (szWheels_any a c x 1048576 W (hRW.more hb0.size) hz hrf (by omega) (by omega)).mono ?_
    rintro e w1 ⟨q, rfl, hb1, hq⟩
    have hbw1 := bt hb0 hb1
    have o1 := o0.below hb1 o0.lt
    clear o0 hb0 hb1 hRW
    rcases hq with rfl | ⟨q0, q1, hsm⟩
    · go_wp2
      go_ret
      exact ⟨rfl, hbw1⟩
    · have f0 := o1.at_ (i := 0) rfl
      have f1 := o1.at_ (i := 1) rfl
      go_wp2_with fail
      refine (toWheels_any a c x w1 ((H.out.up hbw1).more hbw1.size) hsm).mono ?_
      rintro e w2 ⟨g2, hg2, rfl, og2, hb2⟩
      have hbw2 := bt hbw1 hb2
      have o2 := o1.below hb2 o1.lt
      clear o1 hb2 hbw1 f0 f1
      have hfew := backS_few x v
      have hat2 := hsm.at_ (Reads.of_own og2 og2.lt)
      go_wp2_with fail
      refine (specStepsBack_any _ _ _ x v w2 hat2 (by omega)).mono ?_
      rintro e w3 ⟨v6, rfl, hown6, hb3⟩
      have hbw3 := bt hbw2 hb3
      have o3 := o2.below hb3 o2.lt
      obtain ⟨a6, c6, rfl, -, hr6, -⟩ := OwR.val hown6
      clear hown6 og2 hat2 o2 hbw2 hb3
      have f0 := o3.at_ (i := 0) rfl
      have f1 := o3.at_ (i := 1) rfl
      go_wp2_with fail
      refine (toWheels_any a c x w3 ((H.out.up hbw3).more hbw3.size) hsm).mono ?_
      rintro e w4 ⟨g4, hg4, rfl, og4, hb4⟩
      have hbw4 := bt hbw3 hb4
      have o4 := o3.below hb4 o3.lt
      have hr6' := hr6.up hb4
      have l3 := o3.lt
      clear o3 hbw3 f0 f1 hr6 hb4
      go_wp2_with fail
      have n5 := Own.new w4 [.slice (some ⟨g4, 0, none⟩) x.rotors.length x.rotors.length, .string x.refl] 30
      have b5 := (Below.refl w4.heap.size w4).alloc (Nat.le_refl _) (.cells [.slice (some ⟨g4, 0, none⟩) x.rotors.length x.rotors.length, .string x.refl].toArray 30)
      have s5 : (w4.alloc (.cells [.slice (some ⟨g4, 0, none⟩) x.rotors.length x.rotors.length, .string x.refl].toArray 30)).heap.size = w4.heap.size + 1 := by simp
      generalize (w4.alloc (.cells [.slice (some ⟨g4, 0, none⟩) x.rotors.length x.rotors.length, .string x.refl].toArray 30)) = w5 at *
      have l4 := og4.lt
      have hbw5 := bt hbw4 b5
      have o5 := o4.below b5 o4.lt
      have og5 := og4.below b5 og4.lt
      have hr65 := hr6'.below b5 (by omega)
      have l34 : w3.heap.size ≤ w4.heap.size := by omega
      generalize hB5 : w4.heap.size = B5 at *
      clear b5 o4 og4 hr6' hbw4
      have hat5 := hsm.at_ (Reads.of_own og5 og5.lt)
      refine (implStepsBack_any _ _ _ x v w5 hat5 (by omega)).mono ?_
      rintro e w6 ⟨v8, rfl, hown8, hb6⟩
      have hbw6 := bt hbw5 hb6
      have o6 := o5.below hb6 o5.lt
      have n6 := n5.below hb6 n5.lt
      have og6 := og5.below hb6 og5.lt
      have hr66 := hr65.below hb6 (by omega)
      have z6 := hb6.size
      clear hbw5 o5 n5 og5 hr65 hat5 hb6
      have HSM := Lib.hid hsm
      clear hsm
      generalize hss : backS x v = ss at *
      have HSS := Lib.hid hss
      clear hss
      obtain ⟨hf1, hf2⟩ := hfew
      clear hf2
      obtain ⟨a8, c8, rfl, -, hr8, -⟩ := OwR.val hown8
      go_wp2_with fail
      refine (eqStringS_any a8 a6 c8 c6 ss ss w6 hr8 (hr66.more (by omega)) (by omega)).mono ?_
      rintro e w7 ⟨rfl, n7, rfl⟩
      simp only [decide_true]
      generalize hw7 : w6.drewN n7 = w7
      have b7 : Below w6.heap.size w6 w7 := hw7 ▸ drewN_below n7
      have s7 : w7.heap.size = w6.heap.size := by rw [← hw7]; rfl
      clear hw7
      have hbw7 := bt hbw6 b7
      have o7 := o6.below b7 o6.lt
      have n7 := n6.below b7 n6.lt
      have og7 := og6.below b7 og6.lt
      have hr67 := hr66.below b7 (by omega)
      have hown7 := OwR.below hown8 b7 (Nat.le_refl _)
      clear hbw6 o6 n6 og6 hr66 hown8 b7 hr8
      have f0 := o7.at_ (i := 0) rfl
      have f1 := o7.at_ (i := 1) rfl
      have k0 := n7.at_ (i := 0) rfl
      have k1 := n7.at_ (i := 1) rfl
      have lt0 := o7.lt
      have lt5 := n7.lt
      go_wp2_with fail
      have hRd : Reads w7.drew w7.drew.heap.size a (rvs x.rotors) := (H.out.up hbw7.drew).more hbw7.size
      have hRy : Reads w7.drew w7.drew.heap.size (some ⟨g4, 0, none⟩) (rvs x.rotors) := Reads.of_own og7.drew og7.lt
      go_region_held3 (fun w' => w'.cell? ⟨w.heap.size, 0, none⟩ = some (Value.slice a x.rotors.length c) ∧ w'.cell? ⟨w.heap.size, 1, none⟩ = some (Value.string x.refl) ∧ w'.cell? ⟨B5, 0, none⟩ = some (Value.slice (some ⟨g4, 0, none⟩) x.rotors.length x.rotors.length) ∧ w'.cell? ⟨B5, 1, none⟩ = some (Value.string x.refl))
        (first | go_keep | exact keep4 f0 f1 k0 k1 lt0 lt5 (bt hb8 hb9) | exact keep4 f0 f1 k0 k1 lt0 lt5 hb8)
        (first | (go_at_call 8; refine (toWheels_any a c x _ hRd HSM.out).mono ?_; rintro e w8 ⟨g8, hg8, rfl, og8, hb8⟩) | (go_at_call 11; refine (eqWheels_any (some ⟨g4, 0, none⟩) (some ⟨g8, 0, none⟩) _ _ x _ ((hRy.below hb8 (Nat.le_refl _)).more hb8.size) (Reads.of_own og8 og8.lt) HSM.out.few).mono ?_; rintro e w9 ⟨rfl, hb9⟩))
      have b9 : Below w7.heap.size w7 w9 := bt (a := w7) (b := w8) ⟨hb8.os, hb8.tape, hb8.output, hb8.size, hb8.block⟩ hb9
      have hbw9 := bt hbw7 b9
      have o9 := o7.below b9 o7.lt
      have n9 := n7.below b9 n7.lt
      have og9 := og7.below b9 og7.lt
      have hr69 := hr67.below b9 (by omega)
      have hown9 := OwR.below hown7 b9 (Nat.le_refl _)
      have z9 := b9.size
      clear hbw7 o7 n7 og7 hr67 hown7 b9 hb8 hb9 f0 f1 k0 k1 hRd hRy og8 hg8
      have k0 := n9.at_ (i := 0) rfl
      have k1 := n9.at_ (i := 1) rfl
      go_wp2_with fail
      refine (markWheels_any g4 _ x 1 w9 og9 HSM.out.few (by omega) (by omega)).mono ?_
      rintro e w10 ⟨r, rfl, gr⟩
      have b10 : Below w.heap.size w w10 := hbw9.grown gr (by omega) (fun k hk => by cases hk; omega)
      have o10 := o9.grown gr (by simp; omega)
      have hr610 : Reads w10 w3.heap.size a6 (sv ss) := hr69.keep fun p hp => World.cell?_of_block (gr.block p.block (by omega) (by simp; omega))
      have hown10 : OwR w10 w5.heap.size 9 1 (.slice a8 ss.length c8) ss.length (sv ss) := World.ownsRow.kept hown9 gr (by
        cases e' : (Value.slice a8 ss.length c8).ownBlock with
        | none => exact .inl rfl
        | some k => have := (World.ownsRow.lt hown9 k e').1; exact .inr (by simp; omega))
      have z10 := gr.size
      clear hbw9 o9 n9 og9 hr69 hown9 gr k0 k1
      obtain ⟨a8', c8', he8, -, hr8, -⟩ := OwR.val hown10
      injection he8 with ea _ ec
      subst ea
      clear ec
      have tr : decide ((r : Int) < 0) = false := by simp
      go_wp2_with fail
      refine (eqStringS_any a8 a6 c8 c6 ss ss w10 hr8 (hr610.more (by omega)) (by omega)).mono ?_
      rintro e w11 ⟨rfl, n11, rfl⟩
      simp only [decide_true]
      generalize hw11 : w10.drewN n11 = w11
      have b11 : Below w10.heap.size w10 w11 := hw11 ▸ drewN_below n11
      clear hw11
      have bw11 := bt b10 b11
      have o11 := o10.below b11 o10.lt
      have hr611 := hr610.below b11 (by omega)
      have hown11 := OwR.below hown10 b11 (Nat.le_refl _)
      have z11 := b11.size
      clear b10 o10 hr610 hown10 hr8 b11
      go_wp2_with fail
      refine (markStringS_any _ ss _ 1 w11 hown11 (by omega) (by omega) (by omega)).mono ?_
      rintro e w12 ⟨rfl, hown12, b12⟩
      have bw12 : Below w.heap.size w w12 := bw11.trans (b12.mono (by omega))
      have o12 := o11.below b12 (by omega)
      have hr612 := hr611.below b12 (by omega)
      obtain ⟨a8', c8', he8, -, hr8, -⟩ := OwR.val hown12
      injection he8 with ea _ ec
      subst ea
      clear ec
      have z12 := b12.size
      clear bw11 o11 hr611 hown11 b12 hown12
      generalize hMN : (1 + ss.length : Nat) = MN
      have hMNb : MN ≤ 5 := by omega
      have HMN := Lib.hid hMN
      clear hMN
      have hh12 := heldStringS_any a8 c8 1 ss.length w12 hr8 (by omega) (by omega) (by omega)
      rw [HMN.out] at hh12
      go_wp2_with fail
      refine hh12.mono ?_
      rintro e w13 ⟨rfl, b13⟩
      have bw13 := bt bw12 b13
      have o13 := o12.below b13 o12.lt
      have hr613 := hr612.below b13 (by omega)
      have hr813 := (hr8.below b13 (Nat.le_refl _)).more b13.size
      have z13 := b13.size
      clear bw12 o12 hr612 hr8 b13 hh12
      have f0 := o13.at_ (i := 0) rfl
      have f1 := o13.at_ (i := 1) rfl
      go_wp2_with fail
      refine (toWheels_any a c x w13 ((H.out.up bw13).more bw13.size) HSM.out).mono ?_
      rintro e w14 ⟨g14, hg14, rfl, og14, b14⟩
      have bw14 := bt bw13 b14
      have hr614 := hr613.below b14 (by omega)
      have hr814 := (hr813.below b14 (Nat.le_refl _)).more b14.size
      have z14 := b14.size
      clear bw13 o13 hr613 hr813 b14 f0 f1
      have hI := implStepsBack_any _ _ x.rotors.length x v w14 (HSM.out.at_ (Reads.of_own og14 og14.lt)) (by omega)
      rw [HSS.out] at hI
      go_wp2_with fail
      refine hI.mono ?_
      rintro e w15 ⟨v12, rfl, hown15, b15⟩
      obtain ⟨a12, c12, rfl, -, hr12, -⟩ := OwR.val hown15
      have bw15 := bt bw14 b15
      have hr615 := hr614.below b15 (by omega)
      have hr815 := (hr814.below b15 (Nat.le_refl _)).more b15.size
      have z15 := b15.size
      clear bw14 hr614 hr814 b15 hown15 og14 hI
      go_wp2_with fail
      refine (eqStringS_any a12 a6 c12 c6 ss ss w15 hr12 (hr615.more (by omega)) (by omega)).mono ?_
      rintro e w16 ⟨rfl, n16, rfl⟩
      simp only [decide_true]
      generalize hw16 : w15.drewN n16 = w16
      have b16 : Below w15.heap.size w15 w16 := hw16 ▸ drewN_below n16
      clear hw16
      have bw16 := bt bw15 b16
      have hr816 := (hr815.below b16 (Nat.le_refl _)).more b16.size
      clear bw15 hr815 b16 hr12 hr615
      have hh16 := heldStringS_any a8 c8 1 ss.length w16 hr816 (by omega) (by omega) (by omega)
      rw [HMN.out] at hh16
      go_wp2_with fail
      refine hh16.mono ?_
      rintro e w17 ⟨rfl, b17⟩
      have bw17 := bt bw16 b17
      clear hh16 bw16 b17
      go_wp2
      go_ret
      exact ⟨rfl, bw17⟩
end Go.Proofs.Ytaplndmgbinhcaa
