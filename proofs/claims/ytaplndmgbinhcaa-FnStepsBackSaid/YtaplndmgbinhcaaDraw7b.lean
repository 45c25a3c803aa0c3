/- Contracts of the functions that draw wheels and windows from an input. -/
import Derived.Test.YtaplndmgbinhcaaDraw7
namespace Go.Proofs.Ytaplndmgbinhcaa
open Go.RowKit

/-- Wheels and windows, drawn from an input. -/
def DrawnW (w : World) (e : Ending) (w' : World) : Prop :=
  ∃ (x : Whl) (u : ByteArray) (a : Option Addr) (cap : Nat), SmallW x ∧ u.size ≤ 300 ∧ e = .returned (.tuple #[.agg #[.slice a x.rotors.length cap, .string x.refl], .string u]) ∧ Reads w' w'.heap.size a (rvs x.rotors) ∧ (∀ ad, a = some ad → w.heap.size ≤ ad.block) ∧ Below w.heap.size w w'

set_option maxRecDepth 100000 in
set_option maxHeartbeats 1000000 in
theorem DrawStepMoves_any (a : Option Addr) (len cap : Nat) (zs : List Int) (w : World) (h : IsRow .u8 w a len cap zs) (hl : len ≤ 1048576) :
    Calls Try.prog 34 #[.slice a len cap] w (DrawnW w) := by
  have o0 := Own.new w [.slice none 0 0, .string ⟨#[]⟩] 30
  have hb0 := (Below.refl w.heap.size w).alloc (Nat.le_refl _) (.cells #[.slice none 0 0, .string ⟨#[]⟩] 30)
  go_enter Try.func34, Try.ntmps34
  go_wp2_with fail
  refine (l21Open_any a len cap zs _ (h.alloc_ _) hl).mono ?_
  rintro e w1 ⟨rfl, hr1, hb1⟩
  have hsz : (w.alloc (.cells #[.slice none 0 0, .string ⟨#[]⟩] 30)).heap.size = w.heap.size + 1 := by simp
  rw [hsz] at hr1
  have o1 := o0.below hb1 o0.lt
  have hbw1 := bt hb0 hb1
  clear o0 hb0 hb1 h hsz
  go_wp2_with fail
  generalize hB0 : w.heap.size = B0 at *
  have HB0 := Lib.hid hB0
  clear hB0
  refine (l7Some_any (B0 + 1) 0 _ hr1 (by omega)).mono ?_
  rintro e w2 ⟨x, u, g, cp, hx, hu, rfl, hown2, hg, hr2, hm2⟩
  have l1 := hr1.lt
  have o2 := o1.grown hm2 (by simp)
  have hbw2 : Below B0 w w2 := hbw1.trans (hm2.toBelow (by omega) (by omega))
  have hu1 : 1 ≤ u.size := by rw [hu.2]; exact hx.1
  have hu3 : u.size ≤ 200 := by rw [hu.2]; have := hx.2.1; omega
  clear hu o1 hr1 hbw1 hm2
  have p2 := Own.new w2 [.slice (some ⟨g, 0, none⟩) x.rotors.length cp, .string x.refl] 30
  have o2' := o2.alloc (.cells [.slice (some ⟨g, 0, none⟩) x.rotors.length cp, .string x.refl].toArray 30)
  have hr2' := hr2.alloc (.cells [.slice (some ⟨g, 0, none⟩) x.rotors.length cp, .string x.refl].toArray 30)
  have hown2' := World.ownsRow.alloc hown2 (.cells [.slice (some ⟨g, 0, none⟩) x.rotors.length cp, .string x.refl].toArray 30)
  have hbw2' := hbw2.alloc (by have := o2.lt; omega) (.cells [.slice (some ⟨g, 0, none⟩) x.rotors.length cp, .string x.refl].toArray 30)
  have l2 := o2.lt
  go_wp2_with fail
  generalize (w2.alloc (.cells [.slice (some ⟨g, 0, none⟩) x.rotors.length cp, .string x.refl].toArray 30)) = W2 at *
  have z2 := o2'.lt
  clear o2 hr2 hown2 hbw2 p2
  refine (l7Bad_any (B0 + 1) g cp _ x u _ _ hr2' (by omega) hx hown2' (by omega) hu1 hu3).mono ?_
  rintro e w3 ⟨x3, u3, a3, cap3, hx3, hu3, rfl, hrd3, hbl3, hr3, hm3⟩
  have o3 := o2'.tu hm3 (by omega) (by omega)
  have hbw3 : Below B0 w w3 := hbw2'.trans (hm3.toBelow (by omega) (by omega) (by omega))
  have HX := Lib.hid hx3
  clear hx3 o2' hr2' hown2' hbw2' hm3
  have f0 := o3.at_ (i := 0) rfl
  have f1 := o3.at_ (i := 1) rfl
  have g0 := o3.free 0 (by simp)
  have g1 := o3.free 1 (by simp)
  go_wp2
  refine bodyPost_ret (v := .tuple #[.agg #[.slice a3 x3.rotors.length cap3, .string x3.refl], .string u3]) (by simp [results, Try.results34, go_sem, f0, f1]) rfl ?_
  refine ⟨x3, u3, a3, cap3, HX.out, hu3, rfl, ?_, ?_, ?_⟩
  · refine Reads.more (B := w3.heap.size) ((Reads.setOff hrd3 (p := ⟨B0, 0, none⟩) (fun ad h => ?_) _).setOff (p := ⟨B0, 1, none⟩) (fun ad h => ?_) _) (by simp [World.setCell])
    · rcases hbl3 ad h with h | h
      · simp; omega
      · simp; omega
    · rcases hbl3 ad h with h | h
      · simp; omega
      · simp; omega
  · intro ad h
    rw [HB0.out]
    rcases hbl3 ad h with h | h
    · omega
    · omega
  · rw [HB0.out]
    exact (hbw3.setCell (by simp) _).setCell (by simp) _
theorem DrawStepWindows_any (a : Option Addr) (len cap : Nat) (zs : List Int) (w : World) (h : IsRow .u8 w a len cap zs) (hl : len ≤ 1048576) :
    Calls Try.prog 15 #[.slice a len cap] w (DrawnW w) := by
  have o0 := Own.new w [.slice none 0 0, .string ⟨#[]⟩] 30
  have hb0 := (Below.refl w.heap.size w).alloc (Nat.le_refl _) (.cells #[.slice none 0 0, .string ⟨#[]⟩] 30)
  go_enter Try.func15, Try.ntmps15
  go_wp2_with fail
  refine (DrawStepMoves_any a len cap zs _ (h.alloc_ _) hl).mono ?_
  rintro e w3 ⟨x3, u3, a3, cap3, hx3, hu3, rfl, hrd3, hbl3, hb3⟩
  have o3 := o0.below hb3 o0.lt
  have hbw3 := bt hb0 hb3
  rw [World.size_alloc] at hbl3
  have HX := Lib.hid hx3
  have HBL := Lib.hid hbl3
  clear hx3 o0 hb0 hb3 h hbl3
  have f0 := o3.at_ (i := 0) rfl
  have f1 := o3.at_ (i := 1) rfl
  have g0 := o3.free 0 (by simp)
  have g1 := o3.free 1 (by simp)
  go_wp2
  refine bodyPost_ret (v := .tuple #[.agg #[.slice a3 x3.rotors.length cap3, .string x3.refl], .string u3]) (by simp [results, Try.results15, go_sem, f0, f1]) rfl ?_
  refine ⟨x3, u3, a3, cap3, HX.out, hu3, rfl, ?_, ?_, ?_⟩
  · refine Reads.more (B := w3.heap.size) ((Reads.setOff hrd3 (p := ⟨w.heap.size, 0, none⟩) (fun ad h => ?_) _).setOff (p := ⟨w.heap.size, 1, none⟩) (fun ad h => ?_) _) (by simp [World.setCell])
    · have := HBL.out ad h; simp; omega
    · have := HBL.out ad h; simp; omega
  · intro ad h
    have := HBL.out ad h; omega
  · exact (hbw3.setCell (by simp) _).setCell (by simp) _
set_option maxRecDepth 100000 in
set_option maxHeartbeats 1000000 in
theorem DrawStepsBack_any (a : Option Addr) (len cap : Nat) (zs : List Int) (w : World) (h : IsRow .u8 w a len cap zs) (hl : len ≤ 1048576) :
    Calls Try.prog 18 #[.slice a len cap] w (DrawnW w) := by
  have o0 := Own.new w [.slice none 0 0, .string ⟨#[]⟩] 30
  have hb0 := (Below.refl w.heap.size w).alloc (Nat.le_refl _) (.cells #[.slice none 0 0, .string ⟨#[]⟩] 30)
  go_enter Try.func18, Try.ntmps18
  go_wp2_with fail
  refine (l21Open_any a len cap zs _ (h.alloc_ _) hl).mono ?_
  rintro e w1 ⟨rfl, hr1, hb1⟩
  have hsz : (w.alloc (.cells #[.slice none 0 0, .string ⟨#[]⟩] 30)).heap.size = w.heap.size + 1 := by simp
  rw [hsz] at hr1
  have o1 := o0.below hb1 o0.lt
  have hbw1 := bt hb0 hb1
  clear o0 hb0 hb1 h hsz
  go_wp2_with fail
  generalize hB0 : w.heap.size = B0 at *
  have HB0 := Lib.hid hB0
  clear hB0
  refine (l7Some_any (B0 + 1) 0 _ hr1 (by omega)).mono ?_
  rintro e w2 ⟨x, u, g, cp, hx, hu, rfl, hown2, hg, hr2, hm2⟩
  have l1 := hr1.lt
  have o2 := o1.grown hm2 (by simp)
  have hbw2 : Below B0 w w2 := hbw1.trans (hm2.toBelow (by omega) (by omega))
  have hu1 : 1 ≤ u.size := by rw [hu.2]; exact hx.1
  have hu3 : u.size ≤ 200 := by rw [hu.2]; have := hx.2.1; omega
  have hfit := hx.fit hu
  clear hu o1 hr1 hbw1 hm2
  have p2 := Own.new w2 [.slice (some ⟨g, 0, none⟩) x.rotors.length cp, .string x.refl] 30
  have o2' := o2.alloc (.cells [.slice (some ⟨g, 0, none⟩) x.rotors.length cp, .string x.refl].toArray 30)
  have hr2' := hr2.alloc (.cells [.slice (some ⟨g, 0, none⟩) x.rotors.length cp, .string x.refl].toArray 30)
  have hown2' := World.ownsRow.alloc hown2 (.cells [.slice (some ⟨g, 0, none⟩) x.rotors.length cp, .string x.refl].toArray 30)
  have hbw2' := hbw2.alloc (by have := o2.lt; omega) (.cells [.slice (some ⟨g, 0, none⟩) x.rotors.length cp, .string x.refl].toArray 30)
  have l2 := o2.lt
  have l3 := (World.ownsRow.lt hown2 g rfl).2
  go_wp2_with fail
  generalize (w2.alloc (.cells [.slice (some ⟨g, 0, none⟩) x.rotors.length cp, .string x.refl].toArray 30)) = W2 at *
  generalize hB2 : w2.heap.size = B2 at *
  have z2 := o2'.lt
  have z3 := p2.lt
  clear o2 hr2 hown2 hbw2 hB2
  have f0 := p2.at_ (i := 0) rfl
  have f1 := p2.at_ (i := 1) rfl
  go_upto_region 3 with (fail)
  go_cut [6] (fun y wx => ∃ u' : ByteArray, 1 ≤ u'.size ∧ u'.size ≤ 200 ∧ y = .string u' ∧ Own wx B2 [.slice (some ⟨g, 0, none⟩) x.rotors.length cp, .string x.refl] ∧ Own wx B0 [.slice none 0 0, .string ⟨#[]⟩] ∧ OwR wx w1.heap.size 69 2 (.slice (some ⟨g, 0, none⟩) x.rotors.length cp) x.rotors.length (rvs x.rotors) ∧ Rd wx (B0 + 1) 301 ∧ Below B0 w wx)
  case first =>
    have hat : WhlAt W2.drew W2.drew.heap.size (some ⟨g, 0, none⟩) x.rotors.length x := hx.small.at_ (Reads.of_own (OwR.own hown2').drew (OwR.own hown2').lt)
    go_region_held3 (fun w' => w'.cell? ⟨B2, 0, none⟩ = some (.slice (some ⟨g, 0, none⟩) x.rotors.length cp) ∧ w'.cell? ⟨B2, 1, none⟩ = some (.string x.refl)) (first | go_keep | exact ⟨k0, k1⟩ | exact ⟨i0, i1⟩)
      (first | (go_at_call 39; refine (pick_any (B0 + 1) _ _ _ hr2'.drew (by omega) (by omega) (by omega)).mono ?_; rintro e w3 ⟨v, rfl, hv0, hv1, _, hr3, hm3⟩; have p3 := p2.drew.grown hm3 (by simp; omega); have o3 := o2'.drew.grown hm3 (by simp); have q3 := OwR.moved (w := W2.drew) hown2' hm3 (by omega); have hb3 := hbw2'.drew.trans (hm3.toBelow (by omega) (by simp; omega)); have k0 := p3.at_ (i := 0) rfl; have k1 := p3.at_ (i := 1) rfl; obtain ⟨n3, rfl⟩ := Int.eq_ofNat_of_zero_le hv0; have hn3 : n3 ≤ 3 := (by have := hv1 (by omega); omega); clear hv1) | (go_at_call 38; refine (l7Walk_any (some ⟨g, 0, none⟩) x.rotors.length cp x u n3 _ (hx.small.at_ (Reads.of_own (OwR.own q3) (OwR.own q3).lt)) hfit (by omega)).mono ?_; rintro e w4 ⟨rfl, hb4⟩; have p4 := p3.below hb4 p3.lt; have o4 := o3.below hb4 o3.lt; have q4 := OwR.below q3 hb4 (Nat.le_refl _); have i0 := p4.at_ (i := 0) rfl; have i1 := p4.at_ (i := 1) rfl))
    all_goals go_wp2_with fail
    all_goals go_meet
    all_goals
      have hsz4 := size_stepN x n3 u
      exact ⟨_, by rw [hsz4]; exact hu1, by rw [hsz4]; exact hu3, rfl, p4, o4, q4, hr3.below hb4 hr3.lt, hb3.trans (hb4.mono (by have := hr3.lt; omega))⟩
  case rest =>
    clear p2 o2' hown2' hr2' hbw2' f0 f1 hu1 hu3 hfit
    obtain ⟨u', hu1, hu3, rfl, p4, o4, q4, hr4, hb4⟩ := hcut
    have f0 := p4.at_ (i := 0) rfl
    have f1 := p4.at_ (i := 1) rfl
    have z4 := o4.lt
    go_wp2_with fail
    refine (l7Bad_any (B0 + 1) g cp _ x u' _ _ hr4 (by omega) hx q4 (by omega) hu1 hu3).mono ?_
    rintro e w3 ⟨x3, u3, a3, cap3, hx3, hu3, rfl, hrd3, hbl3, hr3, hm3⟩
    have o3 := o4.tu hm3 (by omega) (by omega)
    have hbw3 : Below B0 w w3 := hb4.trans (hm3.toBelow (by omega) (by omega) (by omega))
    have HX := Lib.hid hx3
    clear hx3 o4 hr4 q4 hb4 hm3 f0 f1 p4
    have f0 := o3.at_ (i := 0) rfl
    have f1 := o3.at_ (i := 1) rfl
    have g0 := o3.free 0 (by simp)
    have g1 := o3.free 1 (by simp)
    go_wp2
    refine bodyPost_ret (v := .tuple #[.agg #[.slice a3 x3.rotors.length cap3, .string x3.refl], .string u3]) (by simp [results, Try.results18, go_sem, f0, f1]) rfl ?_
    refine ⟨x3, u3, a3, cap3, HX.out, hu3, rfl, ?_, ?_, ?_⟩
    · refine Reads.more (B := w3.heap.size) ((Reads.setOff hrd3 (p := ⟨B0, 0, none⟩) (fun ad h => ?_) _).setOff (p := ⟨B0, 1, none⟩) (fun ad h => ?_) _) (by simp [World.setCell])
      · rcases hbl3 ad h with h | h
        · simp; omega
        · simp; omega
      · rcases hbl3 ad h with h | h
        · simp; omega
        · simp; omega
    · intro ad h
      rw [HB0.out]
      rcases hbl3 ad h with h | h
      · omega
      · omega
    · rw [HB0.out]
      exact (hbw3.setCell (by simp) _).setCell (by simp) _
end Go.Proofs.Ytaplndmgbinhcaa
