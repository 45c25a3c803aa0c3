/- Several of my texts in one: DrawV2. -/
import Derived.Test.YtbeohccbflhdiaaGreatM17
/- The contracts of DrawMachineOffsets and DrawDayProducts. -/
namespace Go.Proofs.YtbeohccbflhdiaaGreat
open Go.RowKit

def DrawnV (w : World) (e : Ending) (w' : World) : Prop :=
  ∃ (m : Mach) (v : ByteArray) (a : Option Addr) (cap : Nat), DrawnM w m a w' ∧ v.size ≤ 300 ∧
    e = .returned (.tuple #[.agg #[.slice a m.wheels.rotors.length cap, .string m.wheels.refl, .string m.rings, .string m.plugs], .string v])
set_option maxRecDepth 100000 in
set_option maxHeartbeats 2000000 in
theorem DrawMachineOffsets_any (a0 : Option Addr) (len cap : Nat) (zs : List Int) (w : World) (h : IsRow .u8 w a0 len cap zs) (hl : len ≤ 1048576) :
    Calls Tryz.prog 81 #[.slice a0 len cap] w (DrawnV w) := by
  have o0 := Own.new w [.slice none 0 0, .string ⟨#[]⟩, .string ⟨#[]⟩, .string ⟨#[]⟩] 27
  have hb0 := (Below.refl w.heap.size w).alloc (Nat.le_refl _) (.cells #[.slice none 0 0, .string ⟨#[]⟩, .string ⟨#[]⟩, .string ⟨#[]⟩] 27)
  go_enter Tryz.func81, Tryz.ntmps81
  go_wp2_with fail
  refine (l21Open_any a0 len cap zs _ (h.alloc_ _) hl).mono ?_
  rintro e w1 ⟨rfl, hr1, hb1⟩
  have o1 := o0.below hb1 o0.lt
  have hbw1 := bt hb0 hb1
  rw [World.size_alloc] at hr1
  clear o0 hb0 hb1 h
  go_wp2_with fail
  generalize hB0 : w.heap.size = B0 at *
  have HB0 := Lib.hid hB0
  clear hB0
  refine (l8Any_any (B0 + 1) 0 _ hr1 (by omega)).mono ?_
  rintro e w2 ⟨m, v, g, cp, hx, hset, rfl, hown2, hg, hr2, hm2⟩
  have l1 := hr1.lt
  have o2 := o1.grown hm2 (by simp)
  have hbw2 : Below B0 w w2 := hbw1.trans (hm2.toBelow (by omega) (by omega))
  have hv3 : v.size ≤ 3 := by rw [setB_len hset]; exact hx.2.1
  have hv1 : 1 ≤ v.size := by rw [setB_len hset]; exact hx.1
  clear o1 hr1 hbw1 hm2
  have p2 := Own.new w2 [.slice (some ⟨g, 0, none⟩) m.wheels.rotors.length cp, .string m.wheels.refl, .string m.rings, .string m.plugs] 27
  have o2' := o2.alloc (.cells [.slice (some ⟨g, 0, none⟩) m.wheels.rotors.length cp, .string m.wheels.refl, .string m.rings, .string m.plugs].toArray 27)
  have hr2' := hr2.alloc (.cells [.slice (some ⟨g, 0, none⟩) m.wheels.rotors.length cp, .string m.wheels.refl, .string m.rings, .string m.plugs].toArray 27)
  have hown2' := World.ownsRow.alloc hown2 (.cells [.slice (some ⟨g, 0, none⟩) m.wheels.rotors.length cp, .string m.wheels.refl, .string m.rings, .string m.plugs].toArray 27)
  have hbw2' := hbw2.alloc (by have := o2.lt; omega) (.cells [.slice (some ⟨g, 0, none⟩) m.wheels.rotors.length cp, .string m.wheels.refl, .string m.rings, .string m.plugs].toArray 27)
  have l2 := o2.lt
  have lr2 := hr2.lt
  have lg := (World.ownsRow.lt hown2 g rfl).2
  have hz2 : (w2.alloc (.cells [.slice (some ⟨g, 0, none⟩) m.wheels.rotors.length cp, .string m.wheels.refl, .string m.rings, .string m.plugs].toArray 27)).heap.size = w2.heap.size + 1 := by simp
  have HZ2 := Lib.hid hz2
  clear hz2
  have f0 := p2.at_ (i := 0) rfl
  have f1 := p2.at_ (i := 1) rfl
  have f2 := p2.at_ (i := 2) rfl
  have f3 := p2.at_ (i := 3) rfl
  go_wp2_with fail
  generalize (w2.alloc (.cells [.slice (some ⟨g, 0, none⟩) m.wheels.rotors.length cp, .string m.wheels.refl, .string m.rings, .string m.plugs].toArray 27)) = W2 at *
  generalize w2.heap.size = B2 at *
  clear o2 hr2 hown2 hbw2
  refine (l8Bad_any (B0 + 1) g cp _ m v _ _ hr2' (by omega) hx hset hown2' (by omega)).mono ?_
  rintro e w6 ⟨m6, a6, cap6, hm6, rfl, hrd6, hbl6, hr6, ht6⟩
  have o6 := o2'.tu ht6 (by omega) (by omega)
  have z2 := HZ2.out
  have hbw6 := hbw2'.trans (ht6.toBelow (by omega) (by omega) (by omega))
  have hbl : ∀ ad, a6 = some ad → B0 + 1 < ad.block := fun ad h => by
    have h1 := hbl6 ad h
    omega
  have HBL := Lib.hid hbl
  have HM := Lib.hid hm6
  clear f0 f1 f2 f3 p2 o2' hr2' hown2' hbw2' ht6 hm6 hbl6 hbl HZ2 z2
  go_wp2_with fail
  refine (l8Off_any (B0 + 1) v _ _ hr6 (by omega) hv1 (by omega)).mono ?_
  rintro e w9 ⟨v9, hv9, rfl, hr9, hm9⟩
  have z6 := o6.lt
  have o9 := o6.grown hm9 (by simp)
  have hbw9 := hbw6.trans (hm9.toBelow (by omega) (by omega))
  have hrd9 := Reads.moved hrd6 hm9 (fun ad h => by have := HBL.out ad h; omega) (Nat.le_refl _)
  clear o6 hrd6 hr6 hbw6 hm9
  have HRD := Lib.hid hrd9
  clear hrd9
  have c0 := o9.at_ (i := 0) rfl
  have c1 := o9.at_ (i := 1) rfl
  have c2 := o9.at_ (i := 2) rfl
  have c3 := o9.at_ (i := 3) rfl
  have b0 := o9.free 0 (by simp)
  have b1 := o9.free 1 (by simp)
  have b2 := o9.free 2 (by simp)
  have b3 := o9.free 3 (by simp)
  go_wp2
  have oz := o9.set4 (.slice a6 m6.wheels.rotors.length cap6) (.string m6.wheels.refl) (.string m6.rings) (.string m6.plugs)
  have k0 := oz.at_ (i := 0) rfl
  have k1 := oz.at_ (i := 1) rfl
  have k2 := oz.at_ (i := 2) rfl
  have k3 := oz.at_ (i := 3) rfl
  refine bodyPost_ret (v := .tuple #[.agg #[.slice a6 m6.wheels.rotors.length cap6, .string m6.wheels.refl, .string m6.rings, .string m6.plugs], .string v9]) (by unfold set4 at *; simp [results, Tryz.results81, go_sem, k0, k1, k2, k3]) rfl ?_
  refine ⟨m6, v9, a6, cap6, ⟨HM.out, ?_, ?_, ?_⟩, hv9, rfl⟩
  · show Reads (set4 w9 B0 _ _ _ _) (set4 w9 B0 _ _ _ _).heap.size _ _
    rw [size_set4]
    exact HRD.out.set4 (fun ad h => by have := HBL.out ad h; omega) _ _ _ _
  · intro ad h
    rw [HB0.out]
    have := HBL.out ad h; omega
  · rw [HB0.out]
    exact bel_set4 hbw9 (Nat.le_refl _) _ _ _ _
set_option maxRecDepth 100000 in
theorem DrawDayProducts_any (a0 : Option Addr) (len cap : Nat) (zs : List Int) (w : World) (h : IsRow .u8 w a0 len cap zs) (hl : len ≤ 1048576) :
    Calls Tryz.prog 25 #[.slice a0 len cap] w (DrawnV w) := by
  have o0 := Own.new w [.slice none 0 0, .string ⟨#[]⟩, .string ⟨#[]⟩, .string ⟨#[]⟩] 27
  have hb0 := (Below.refl w.heap.size w).alloc (Nat.le_refl _) (.cells #[.slice none 0 0, .string ⟨#[]⟩, .string ⟨#[]⟩, .string ⟨#[]⟩] 27)
  go_enter Tryz.func25, Tryz.ntmps25
  go_wp2_with fail
  refine (DrawMachineOffsets_any a0 len cap zs _ (h.alloc_ _) hl).mono ?_
  rintro e w9 ⟨m6, v9, a6, cap6, ⟨hm, hrd, hbl, hb9⟩, hv9, rfl⟩
  have o9 := o0.below hb9 o0.lt
  have hbw9 := bt hb0 hb9
  simp only [World.size_alloc] at hbl
  generalize hB0 : w.heap.size = B0 at *
  have HB0 := Lib.hid hB0
  clear hB0 o0 hb0 hb9 h
  have HRD := Lib.hid hrd
  have HBL := Lib.hid hbl
  clear hrd hbl
  have c0 := o9.at_ (i := 0) rfl
  have c1 := o9.at_ (i := 1) rfl
  have c2 := o9.at_ (i := 2) rfl
  have c3 := o9.at_ (i := 3) rfl
  have b0 := o9.free 0 (by simp)
  have b1 := o9.free 1 (by simp)
  have b2 := o9.free 2 (by simp)
  have b3 := o9.free 3 (by simp)
  go_wp2
  have oz := o9.set4 (.slice a6 m6.wheels.rotors.length cap6) (.string m6.wheels.refl) (.string m6.rings) (.string m6.plugs)
  have k0 := oz.at_ (i := 0) rfl
  have k1 := oz.at_ (i := 1) rfl
  have k2 := oz.at_ (i := 2) rfl
  have k3 := oz.at_ (i := 3) rfl
  refine bodyPost_ret (v := .tuple #[.agg #[.slice a6 m6.wheels.rotors.length cap6, .string m6.wheels.refl, .string m6.rings, .string m6.plugs], .string v9]) (by unfold set4 at *; simp [results, Tryz.results25, go_sem, k0, k1, k2, k3]) rfl ?_
  refine ⟨m6, v9, a6, cap6, ⟨hm, ?_, ?_, ?_⟩, hv9, rfl⟩
  · show Reads (set4 w9 B0 _ _ _ _) (set4 w9 B0 _ _ _ _).heap.size _ _
    rw [size_set4]
    exact HRD.out.set4 (fun ad h => by have := HBL.out ad h; omega) _ _ _ _
  · intro ad h
    rw [HB0.out]
    have := HBL.out ad h; omega
  · rw [HB0.out]
    exact bel_set4 hbw9 (Nat.le_refl _) _ _ _ _
end Go.Proofs.YtbeohccbflhdiaaGreat
