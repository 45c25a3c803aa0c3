/- Several of my texts in one: DrawO, DrawSeal. -/
import Derived.Test.YtbeohccbflhdiaaGreatM10
/- The draw of a machine and two windows of it. -/
namespace Go.Proofs.YtbeohccbflhdiaaGreat
open Go.RowKit

theorem Tu.toMoved {R g : Nat} {a b : World} (h : Tu R g a b) (hg : a.heap.size ≤ g) : Moved R a b :=
  ⟨h.os, h.tape, h.output, h.size, fun k hk hne => h.block k hk (fun e => hne (by rw [e])) (by omega)⟩
/-- What lies apart from the reader stays when the reader moves. -/
theorem Reads.moved {R B : Nat} {w w' : World} {a : Option Addr} {xs : List Value} (h : Reads w w.heap.size a xs) (hm : Moved R w w') (ha : ∀ ad, a = some ad → ad.block ≠ R) (hB : w'.heap.size ≤ B) : Reads w' B a xs := by
  rcases h with h | ⟨b, off, he, hb, hc⟩
  · exact .inl h
  · refine .inr ⟨b, off, he, Nat.lt_of_lt_of_le (Nat.lt_of_lt_of_le hb hm.size) hB, fun i hi => ?_⟩
    rw [← hc i hi]
    exact World.cell?_of_block (w := w) (hm.block b hb (by
      have := ha _ he
      simp only at this
      simp; omega))
/-- A machine and two windows are drawn. -/
def Open9 (R c : Nat) (w : World) (e : Ending) (w' : World) : Prop :=
  ∃ (m : Mach) (s k : ByteArray) (a : Option Addr) (cap : Nat), SmallM m ∧ s.size ≤ 300 ∧ k.size ≤ 300 ∧
    e = .returned (.tuple #[.agg #[.slice a m.wheels.rotors.length cap, .string m.wheels.refl, .string m.rings, .string m.plugs], .string s, .string k]) ∧
    Reads w' w'.heap.size a (rvs m.wheels.rotors) ∧ (∀ ad, a = some ad → w.heap.size ≤ ad.block) ∧ Rd w' R c ∧ Moved R w w'
set_option maxRecDepth 100000 in
set_option maxHeartbeats 2000000 in
theorem l9Open_any (R c : Nat) (w : World) (hr : Rd w R c) (hc : c ≤ 1000) :
    Calls Tryz.prog 87 #[.pointer (some ⟨R, 0, none⟩)] w (Open9 R (c + 1000) w) := by
  have o1 := Own.new w [.slice none 0 0, .string ⟨#[]⟩, .string ⟨#[]⟩, .string ⟨#[]⟩] 27
  have hr1 := hr.alloc (.cells #[.slice none 0 0, .string ⟨#[]⟩, .string ⟨#[]⟩, .string ⟨#[]⟩] 27)
  have hmv1 := (Moved.refl R w).alloc (.cells #[.slice none 0 0, .string ⟨#[]⟩, .string ⟨#[]⟩, .string ⟨#[]⟩] 27)
  have hR := hr.lt
  clear hr
  go_enter Tryz.func87, Tryz.ntmps87
  go_wp2_with fail
  refine (l8Any_any R c _ hr1 (by omega)).mono ?_
  rintro e w2 ⟨m, v, g, cp, hx, hset, rfl, hown2, hg, hr2, hm2⟩
  rw [World.size_alloc] at hg hown2
  generalize hB0 : w.heap.size = B0 at *
  have HB0 := Lib.hid hB0
  clear hB0
  have o2 := o1.grown hm2 (by simp; omega)
  have hmv2 := hmv1.trans hm2
  have hv3 : v.size ≤ 3 := by rw [setB_len hset]; exact hx.2.1
  have hv1 : 1 ≤ v.size := by rw [setB_len hset]; exact hx.1
  clear o1 hr1 hmv1 hm2
  have p2 := Own.new w2 [.slice (some ⟨g, 0, none⟩) m.wheels.rotors.length cp, .string m.wheels.refl, .string m.rings, .string m.plugs] 27
  have o2' := o2.alloc (.cells [.slice (some ⟨g, 0, none⟩) m.wheels.rotors.length cp, .string m.wheels.refl, .string m.rings, .string m.plugs].toArray 27)
  have hr2' := hr2.alloc (.cells [.slice (some ⟨g, 0, none⟩) m.wheels.rotors.length cp, .string m.wheels.refl, .string m.rings, .string m.plugs].toArray 27)
  have hown2' := World.ownsRow.alloc hown2 (.cells [.slice (some ⟨g, 0, none⟩) m.wheels.rotors.length cp, .string m.wheels.refl, .string m.rings, .string m.plugs].toArray 27)
  have hmv2' := hmv2.alloc (.cells [.slice (some ⟨g, 0, none⟩) m.wheels.rotors.length cp, .string m.wheels.refl, .string m.rings, .string m.plugs].toArray 27)
  have l2 := o2.lt
  have lr2 := hr2.lt
  have lg := (World.ownsRow.lt hown2 g rfl).2
  have hz2 : (w2.alloc (.cells [.slice (some ⟨g, 0, none⟩) m.wheels.rotors.length cp, .string m.wheels.refl, .string m.rings, .string m.plugs].toArray 27)).heap.size = w2.heap.size + 1 := by simp
  have HZ2 := Lib.hid hz2
  clear hz2
  go_wp2_with fail
  generalize (w2.alloc (.cells [.slice (some ⟨g, 0, none⟩) m.wheels.rotors.length cp, .string m.wheels.refl, .string m.rings, .string m.plugs].toArray 27)) = W2 at *
  generalize w2.heap.size = B2 at *
  clear o2 hr2 hown2 hmv2
  have f0 := p2.at_ (i := 0) rfl
  have f1 := p2.at_ (i := 1) rfl
  have f2 := p2.at_ (i := 2) rfl
  have f3 := p2.at_ (i := 3) rfl
  go_wp2_with fail
  refine (l8Bad_any R g cp _ m v _ _ hr2' (by omega) hx hset hown2' (by omega)).mono ?_
  rintro e w6 ⟨m6, a6, cap6, hm6, rfl, hrd6, hbl6, hr6, ht6⟩
  have o6 := o2'.tu ht6 (by omega) (by omega)
  have hmv6 : Moved R w w6 := by
    have hsz := HB0.out
    refine ⟨ht6.os.trans hmv2'.os, ht6.tape.trans hmv2'.tape, ht6.output.trans hmv2'.output, Nat.le_trans hmv2'.size ht6.size, fun j hj hne => ?_⟩
    exact (ht6.block j (Nat.lt_of_lt_of_le hj hmv2'.size) (fun e => hne (by rw [e])) (by omega)).trans (hmv2'.block j hj hne)
  have hbl : ∀ ad, a6 = some ad → B0 < ad.block := fun ad h => by
    have h1 := hbl6 ad h
    have h2 := HZ2.out
    omega
  have HBL := Lib.hid hbl
  have HM := Lib.hid hm6
  clear f0 f1 f2 f3 p2 o2' hr2' hown2' hmv2' ht6 hm6 hbl6 hbl HZ2
  go_wp2_with fail
  refine (l8Off_any R v _ _ hr6 (by omega) hv1 (by omega)).mono ?_
  rintro e w7 ⟨v7, hv7, rfl, hr7, hm7⟩
  have o7 := o6.grown hm7 (by simp; omega)
  have hmv7 := hmv6.trans hm7
  have hrd7 := Reads.moved hrd6 hm7 (fun ad h => by have := HBL.out ad h; omega) (Nat.le_refl _)
  clear o6 hrd6 hr6 hmv6 hm7
  go_wp2_with fail
  refine (l1Some_any R v.size _ _ hr7 (by omega) (by omega)).mono ?_
  rintro e w8 ⟨k8, ⟨hk8, hk8s⟩, rfl, hr8, hm8⟩
  have hk1 : 1 ≤ k8.size := by omega
  have hk3 : k8.size ≤ 3 := by omega
  have o8 := o7.grown hm8 (by simp; omega)
  have hmv8 := hmv7.trans hm8
  have hrd8 := Reads.moved hrd7 hm8 (fun ad h => by have := HBL.out ad h; omega) (Nat.le_refl _)
  clear o7 hrd7 hr7 hmv7 hm8 hk8s
  go_wp2_with fail
  refine (l8Off_any R k8 _ _ hr8 (by omega) hk1 (by omega)).mono ?_
  rintro e w9 ⟨v9, hv9, rfl, hr9, hm9⟩
  have o9 := o8.grown hm9 (by simp; omega)
  have hmv9 := hmv8.trans hm9
  have hrd9 := Reads.moved hrd8 hm9 (fun ad h => by have := HBL.out ad h; omega) (Nat.le_refl _)
  clear o8 hrd8 hr8 hmv8 hm9
  have HRD := Lib.hid hrd9
  clear hrd9
  have c0 := o9.at_ (i := 0) rfl
  have c1 := o9.at_ (i := 1) rfl
  have c2 := o9.at_ (i := 2) rfl
  have c3 := o9.at_ (i := 3) rfl
  have b0 := o9.free 0 (by simp)
  have b1 := o9.free 1 (by simp)
  have b2 := o9.free 2 (by simp)
  have b3 := o9.free 3 (by simp)
  go_wp2
  have oz := o9.set4 (.slice a6 m6.wheels.rotors.length cap6) (.string m6.wheels.refl) (.string m6.rings) (.string m6.plugs)
  have k0 := oz.at_ (i := 0) rfl
  have k1 := oz.at_ (i := 1) rfl
  have k2 := oz.at_ (i := 2) rfl
  have k3 := oz.at_ (i := 3) rfl
  refine bodyPost_ret (v := .tuple #[.agg #[.slice a6 m6.wheels.rotors.length cap6, .string m6.wheels.refl, .string m6.rings, .string m6.plugs], .string v7, .string v9]) (by unfold set4 at *; simp [results, Tryz.results87, go_sem, k0, k1, k2, k3]) rfl ?_
  refine ⟨m6, v7, v9, a6, cap6, HM.out, hv7, hv9, rfl, ?_, ?_, ?_, ?_⟩
  · show Reads (set4 w9 B0 _ _ _ _) (set4 w9 B0 _ _ _ _).heap.size _ _
    rw [size_set4]
    exact HRD.out.set4 (fun ad h => by have := HBL.out ad h; omega) _ _ _ _
  · intro ad h
    rw [HB0.out]
    have := HBL.out ad h; omega
  · exact Rd.more (hr9.set4 (by omega) _ _ _ _) (by omega)
  · exact hmv9.set4 (by rw [HB0.out]; exact Nat.le_refl _) _ _ _ _
end Go.Proofs.YtbeohccbflhdiaaGreat

/- The contract of DrawSealMessage. -/
namespace Go.Proofs.YtbeohccbflhdiaaGreat
open Go.RowKit

def DrawnS (w : World) (e : Ending) (w' : World) : Prop :=
  ∃ (m : Mach) (s k u : ByteArray) (a : Option Addr) (cap : Nat), DrawnM w m a w' ∧ s.size ≤ 300 ∧ k.size ≤ 300 ∧ u.size ≤ 300 ∧
    e = .returned (.tuple #[.agg #[.slice a m.wheels.rotors.length cap, .string m.wheels.refl, .string m.rings, .string m.plugs], .string s, .string k, .string u])
set_option maxRecDepth 100000 in
set_option maxHeartbeats 2000000 in
theorem DrawSealMessage_any (a0 : Option Addr) (len cap : Nat) (zs : List Int) (w : World) (h : IsRow .u8 w a0 len cap zs) (hl : len ≤ 1048576) :
    Calls Tryz.prog 32 #[.slice a0 len cap] w (DrawnS w) := by
  have o0 := Own.new w [.slice none 0 0, .string ⟨#[]⟩, .string ⟨#[]⟩, .string ⟨#[]⟩] 27
  have hb0 := (Below.refl w.heap.size w).alloc (Nat.le_refl _) (.cells #[.slice none 0 0, .string ⟨#[]⟩, .string ⟨#[]⟩, .string ⟨#[]⟩] 27)
  go_enter Tryz.func32, Tryz.ntmps32
  go_wp2_with fail
  refine (l21Open_any a0 len cap zs _ (h.alloc_ _) hl).mono ?_
  rintro e w1 ⟨rfl, hr1, hb1⟩
  have o1 := o0.below hb1 o0.lt
  have hbw1 := bt hb0 hb1
  rw [World.size_alloc] at hr1
  clear o0 hb0 hb1 h
  go_wp2_with fail
  generalize hB0 : w.heap.size = B0 at *
  have HB0 := Lib.hid hB0
  clear hB0
  refine (l9Open_any (B0 + 1) 0 _ hr1 (by omega)).mono ?_
  rintro e w2 ⟨m, s, k, a, cp, hsm, hs, hk, rfl, hrd2, hbl2, hr2, hm2⟩
  have l1 := hr1.lt
  have o2 := o1.grown hm2 (by simp)
  have hbw2 : Below B0 w w2 := hbw1.trans (hm2.toBelow (by omega) (by omega))
  have hbl : ∀ ad, a = some ad → B0 + 1 < ad.block := fun ad h => by have := hbl2 ad h; omega
  have HBL := Lib.hid hbl
  have HM := Lib.hid hsm
  clear o1 hr1 hbw1 hm2 hbl2 hbl hsm
  have p2 := Own.new w2 [.slice a m.wheels.rotors.length cp, .string m.wheels.refl, .string m.rings, .string m.plugs] 27
  have o2' := o2.alloc (.cells [.slice a m.wheels.rotors.length cp, .string m.wheels.refl, .string m.rings, .string m.plugs].toArray 27)
  have hr2' := hr2.alloc (.cells [.slice a m.wheels.rotors.length cp, .string m.wheels.refl, .string m.rings, .string m.plugs].toArray 27)
  have hrd2' : Reads (w2.alloc (.cells [.slice a m.wheels.rotors.length cp, .string m.wheels.refl, .string m.rings, .string m.plugs].toArray 27)) (w2.alloc (.cells [.slice a m.wheels.rotors.length cp, .string m.wheels.refl, .string m.rings, .string m.plugs].toArray 27)).heap.size a (rvs m.wheels.rotors) :=
    (hrd2.below ((Below.refl w2.heap.size w2).alloc (Nat.le_refl _) _) (Nat.le_refl _)).more (by simp)
  have hbw2' := hbw2.alloc (by have := o2.lt; omega) (.cells [.slice a m.wheels.rotors.length cp, .string m.wheels.refl, .string m.rings, .string m.plugs].toArray 27)
  have l2 := o2.lt
  have lr2 := hr2.lt
  go_wp2_with fail
  generalize (w2.alloc (.cells [.slice a m.wheels.rotors.length cp, .string m.wheels.refl, .string m.rings, .string m.plugs].toArray 27)) = W2 at *
  generalize w2.heap.size = B2 at *
  clear o2 hr2 hrd2 hbw2
  refine (l1Word_any (B0 + 1) 10 _ _ hr2' (by omega) (by omega)).mono ?_
  rintro e w3 ⟨u, ⟨hu1, hu2⟩, rfl, hr3, hm3⟩
  have p3 := p2.grown hm3 (by simp; omega)
  have o3 := o2'.grown hm3 (by simp)
  have hrd3 := Reads.moved hrd2' hm3 (fun ad h => by have := HBL.out ad h; omega) (Nat.le_refl _)
  have hbw3 := hbw2'.trans (hm3.toBelow (by omega) (by have := o2'.lt; omega))
  clear p2 o2' hr2' hrd2' hbw2' hm3 hu1
  go_wp2_with fail
  refine (pick_any (B0 + 1) _ _ _ hr3 (by omega) (by omega) (by omega)).mono ?_
  rintro e w4 ⟨y, rfl, hk0, hk1, _, hr4, hm4⟩
  have p4 := p3.grown hm4 (by simp; omega)
  have o4 := o3.grown hm4 (by simp)
  have hrd4 := Reads.moved hrd3 hm4 (fun ad h => by have := HBL.out ad h; omega) (Nat.le_refl _)
  have hbw4 := hbw3.trans (hm4.toBelow (by omega) (by have := o3.lt; omega))
  clear p3 o3 hr3 hrd3 hbw3 hm4 hk1
  have hcase : (y = 0) ∨ (y ≠ 0) := by omega
  rcases hcase with hy | hy
  · have t0 : (y == 0) = true := by simp [hy]
    clear hy hk0
    go_wp2_with fail
    refine (l1Bad_any (B0 + 1) u _ _ hr4 (by omega) (by omega)).mono ?_
    rintro e w5 ⟨u5, hu5, rfl, hr5, hm5⟩
    have p5 := p4.grown hm5 (by simp; omega)
    have o5 := o4.grown hm5 (by simp)
    have hrd5 := Reads.moved hrd4 hm5 (fun ad h => by have := HBL.out ad h; omega) (Nat.le_refl _)
    have hbw5 := hbw4.trans (hm5.toBelow (by omega) (by have := o4.lt; omega))
    clear p4 o4 hr4 hrd4 hbw4 hm5
    have f0 := p5.at_ (i := 0) rfl
    have f1 := p5.at_ (i := 1) rfl
    have f2 := p5.at_ (i := 2) rfl
    have f3 := p5.at_ (i := 3) rfl
    have c0 := o5.at_ (i := 0) rfl
    have c1 := o5.at_ (i := 1) rfl
    have c2 := o5.at_ (i := 2) rfl
    have c3 := o5.at_ (i := 3) rfl
    have b0 := o5.free 0 (by simp)
    have b1 := o5.free 1 (by simp)
    have b2 := o5.free 2 (by simp)
    have b3 := o5.free 3 (by simp)
    have HRD := Lib.hid hrd5
    clear hrd5
    go_wp2
    have oz := o5.set4 (.slice a m.wheels.rotors.length cp) (.string m.wheels.refl) (.string m.rings) (.string m.plugs)
    have k0 := oz.at_ (i := 0) rfl
    have k1 := oz.at_ (i := 1) rfl
    have k2 := oz.at_ (i := 2) rfl
    have k3 := oz.at_ (i := 3) rfl
    refine bodyPost_ret (v := .tuple #[.agg #[.slice a m.wheels.rotors.length cp, .string m.wheels.refl, .string m.rings, .string m.plugs], .string s, .string k, .string u5]) (by unfold set4 at *; simp [results, Tryz.results32, go_sem, k0, k1, k2, k3]) rfl ?_
    refine ⟨m, s, k, u5, a, cp, ⟨HM.out, ?_, ?_, ?_⟩, hs, hk, hu5, rfl⟩
    · show Reads (set4 w5 B0 _ _ _ _) (set4 w5 B0 _ _ _ _).heap.size _ _
      rw [size_set4]
      exact HRD.out.set4 (fun ad h => by have := HBL.out ad h; omega) _ _ _ _
    · intro ad h
      rw [HB0.out]
      have := HBL.out ad h; omega
    · rw [HB0.out]
      exact bel_set4 hbw5 (Nat.le_refl _) _ _ _ _
  · have t0 : (y == 0) = false := by simp [hy]
    clear hy hk0
    generalize hu' : u = u5 at *
    have hu5 : u5.size ≤ 300 := by omega
    clear hu'
    have hr5 := hr4
    have p5 := p4
    have o5 := o4
    have hrd5 := hrd4
    have hbw5 := hbw4
    clear p4 o4 hr4 hrd4 hbw4
    have f0 := p5.at_ (i := 0) rfl
    have f1 := p5.at_ (i := 1) rfl
    have f2 := p5.at_ (i := 2) rfl
    have f3 := p5.at_ (i := 3) rfl
    have c0 := o5.at_ (i := 0) rfl
    have c1 := o5.at_ (i := 1) rfl
    have c2 := o5.at_ (i := 2) rfl
    have c3 := o5.at_ (i := 3) rfl
    have b0 := o5.free 0 (by simp)
    have b1 := o5.free 1 (by simp)
    have b2 := o5.free 2 (by simp)
    have b3 := o5.free 3 (by simp)
    have HRD := Lib.hid hrd5
    clear hrd5
    go_wp2
    have oz := o5.set4 (.slice a m.wheels.rotors.length cp) (.string m.wheels.refl) (.string m.rings) (.string m.plugs)
    have k0 := oz.at_ (i := 0) rfl
    have k1 := oz.at_ (i := 1) rfl
    have k2 := oz.at_ (i := 2) rfl
    have k3 := oz.at_ (i := 3) rfl
    refine bodyPost_ret (v := .tuple #[.agg #[.slice a m.wheels.rotors.length cp, .string m.wheels.refl, .string m.rings, .string m.plugs], .string s, .string k, .string u5]) (by unfold set4 at *; simp [results, Tryz.results32, go_sem, k0, k1, k2, k3]) rfl ?_
    refine ⟨m, s, k, u5, a, cp, ⟨HM.out, ?_, ?_, ?_⟩, hs, hk, hu5, rfl⟩
    · show Reads (set4 w4 B0 _ _ _ _) (set4 w4 B0 _ _ _ _).heap.size _ _
      rw [size_set4]
      exact HRD.out.set4 (fun ad h => by have := HBL.out ad h; omega) _ _ _ _
    · intro ad h
      rw [HB0.out]
      have := HBL.out ad h; omega
    · rw [HB0.out]
      exact bel_set4 hbw5 (Nat.le_refl _) _ _ _ _
end Go.Proofs.YtbeohccbflhdiaaGreat
