/- Contracts of the functions that draw wheels and windows from an input. -/
import Derived.Test.YtaplndmgbinhcaaGreatDraw7
namespace Go.Proofs.YtaplndmgbinhcaaGreat
open Go.RowKit

/-- Wheels and windows, drawn from an input. -/
def DrawnW (w : World) (e : Ending) (w' : World) : Prop :=
  ∃ (x : Whl) (u : ByteArray) (a : Option Addr) (cap : Nat), SmallW x ∧ u.size ≤ 300 ∧ e = .returned (.tuple #[.agg #[.slice a x.rotors.length cap, .string x.refl], .string u]) ∧ Reads w' w'.heap.size a (rvs x.rotors) ∧ (∀ ad, a = some ad → w.heap.size ≤ ad.block) ∧ Below w.heap.size w w'

set_option maxRecDepth 100000 in
set_option maxHeartbeats 1000000 in
theorem DrawStepMoves_any (a : Option Addr) (len cap : Nat) (zs : List Int) (w : World) (h : IsRow .u8 w a len cap zs) (hl : len ≤ 1048576) :
    Calls Tryz.prog 15 #[.slice a len cap] w (DrawnW w) := by
  have o0 := Own.new w [.slice none 0 0, .string ⟨#[]⟩] 25
  have hb0 := (Below.refl w.heap.size w).alloc (Nat.le_refl _) (.cells #[.slice none 0 0, .string ⟨#[]⟩] 25)
  go_enter Tryz.func15, Tryz.ntmps15
  go_wp2_with fail
  refine (l21Open_any a len cap zs _ (h.alloc_ _) hl).mono ?_
  rintro e w1 ⟨rfl, hr1, hb1⟩
  have hsz : (w.alloc (.cells #[.slice none 0 0, .string ⟨#[]⟩] 25)).heap.size = w.heap.size + 1 := by simp
  rw [hsz] at hr1
  have o1 := o0.below hb1 o0.lt
  have hbw1 := bt hb0 hb1
  clear o0 hb0 hb1 h hsz
  go_wp2_with fail
  generalize hB0 : w.heap.size = B0 at *
  have HB0 := Lib.hid hB0
  clear hB0
  refine (l7Some_any (B0 + 1) 0 _ hr1 (by omega)).mono ?_
  rintro e w2 ⟨x, u, g, cp, hx, hu, rfl, hown2, hg, hr2, hm2⟩
  have l1 := hr1.lt
  have o2 := o1.grown hm2 (by simp)
  have hbw2 : Below B0 w w2 := hbw1.trans (hm2.toBelow (by omega) (by omega))
  have hu1 : 1 ≤ u.size := by rw [hu.2]; exact hx.1
  have hu3 : u.size ≤ 200 := by rw [hu.2]; have := hx.2.1; omega
  clear hu o1 hr1 hbw1 hm2
  have p2 := Own.new w2 [.slice (some ⟨g, 0, none⟩) x.rotors.length cp, .string x.refl] 25
  have o2' := o2.alloc (.cells [.slice (some ⟨g, 0, none⟩) x.rotors.length cp, .string x.refl].toArray 25)
  have hr2' := hr2.alloc (.cells [.slice (some ⟨g, 0, none⟩) x.rotors.length cp, .string x.refl].toArray 25)
  have hown2' := World.ownsRow.alloc hown2 (.cells [.slice (some ⟨g, 0, none⟩) x.rotors.length cp, .string x.refl].toArray 25)
  have hbw2' := hbw2.alloc (by have := o2.lt; omega) (.cells [.slice (some ⟨g, 0, none⟩) x.rotors.length cp, .string x.refl].toArray 25)
  have l2 := o2.lt
  go_wp2_with fail
  generalize (w2.alloc (.cells [.slice (some ⟨g, 0, none⟩) x.rotors.length cp, .string x.refl].toArray 25)) = W2 at *
  have z2 := o2'.lt
  clear o2 hr2 hown2 hbw2 p2
  refine (l7Bad_any (B0 + 1) g cp _ x u _ _ hr2' (by omega) hx hown2' (by omega) hu1 hu3).mono ?_
  rintro e w3 ⟨x3, u3, a3, cap3, hx3, hu3, rfl, hrd3, hbl3, hr3, hm3⟩
  have o3 := o2'.tu hm3 (by omega) (by omega)
  have hbw3 : Below B0 w w3 := hbw2'.trans (hm3.toBelow (by omega) (by omega) (by omega))
  have HX := Lib.hid hx3
  clear hx3 o2' hr2' hown2' hbw2' hm3
  have f0 := o3.at_ (i := 0) rfl
  have f1 := o3.at_ (i := 1) rfl
  have g0 := o3.free 0 (by simp)
  have g1 := o3.free 1 (by simp)
  go_wp2
  refine bodyPost_ret (v := .tuple #[.agg #[.slice a3 x3.rotors.length cap3, .string x3.refl], .string u3]) (by simp [results, Tryz.results15, go_sem, f0, f1]) rfl ?_
  refine ⟨x3, u3, a3, cap3, HX.out, hu3, rfl, ?_, ?_, ?_⟩
  · refine Reads.more (B := w3.heap.size) ((Reads.setOff hrd3 (p := ⟨B0, 0, none⟩) (fun ad h => ?_) _).setOff (p := ⟨B0, 1, none⟩) (fun ad h => ?_) _) (by simp [World.setCell])
    · rcases hbl3 ad h with h | h
      · simp; omega
      · simp; omega
    · rcases hbl3 ad h with h | h
      · simp; omega
      · simp; omega
  · intro ad h
    rw [HB0.out]
    rcases hbl3 ad h with h | h
    · omega
    · omega
  · rw [HB0.out]
    exact (hbw3.setCell (by simp) _).setCell (by simp) _
end Go.Proofs.YtaplndmgbinhcaaGreat
