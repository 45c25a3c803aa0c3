/- The walk of the law on the way in of the next windows. -/
import Derived.Test.YtaplndmgbinhcaaGreatCycG
import Derived.Test.YtaplndmgbinhcaaGreatDraw7b
import Derived.Test.YtaplndmgbinhcaaGreatBackI
namespace Go.Proofs.YtaplndmgbinhcaaGreat
open Go.RowKit

set_option maxHeartbeats 1000000 in
theorem specLeadIn_any (a : Option Addr) (n c : Nat) (x : Whl) (v : ByteArray) (r : Int) (w : World) (h : WhlAt w w.heap.size a n x) (hv : v.size ≤ 4294967296) (hr : (fitB x v = false ∧ r = -1) ∨ (fitB x v = true ∧ ∃ l p : Nat, Cyc (fun n => stepN x n v) l p ∧ r = l ∧ l ≤ 1000 ∧ p ≤ 1000)) :
    Calls Tryz.prog 7 #[.agg #[.slice a n c, .string x.refl], .string v] w fun e w' => e = .returned (.int .i64 r) ∧ Below w.heap.size w w' := by
  have o0 := Own.new w [.slice a n c, .string x.refl] 25
  have hb0 := (Below.refl w.heap.size w).alloc (Nat.le_refl _) (.cells [.slice a n c, .string x.refl].toArray 25)
  have h' := h.alloc_ (.cells [.slice a n c, .string x.refl].toArray 25)
  have hc := l7Windows_any a n c x v _ h' hv
  rcases hr with ⟨hf, rfl⟩ | ⟨hf, l, p, hC, rfl, hl, hp⟩
  · rw [hf] at hc
    go_enter Tryz.func7, Tryz.ntmps7
    go_wp2_with fail
    refine hc.mono ?_
    rintro e w1 ⟨rfl, hb1⟩
    go_wp2
    go_ret
    exact ⟨rfl, bt hb0 hb1⟩
  · rw [hf] at hc
    have hF := fitB_iff.1 hf
    clear hf
    have hpr := fun (W : World) (hb : Below w.heap.size w W) (cc : Cls W.heap.size W) => l7Period_any a n c x v l p cc.w (((h.below hb (Nat.le_refl _)).below (C := w.heap.size) (cc.bel.mono hb.size) (Nat.le_refl _)).more (Nat.le_trans hb.size cc.bel.size)) hF hC hp
    have hwk := fun (W : World) (hb : Below w.heap.size w W) (cc : Cls W.heap.size W) => l7Walk_any a n c x v p cc.w (((h.below hb (Nat.le_refl _)).below (C := w.heap.size) (cc.bel.mono hb.size) (Nat.le_refl _)).more (Nat.le_trans hb.size cc.bel.size)) hF (by omega)
    have hs1 := Lib.hid (fun (W : World) (hb : Below w.heap.size w W) (m : Nat) => l7Step_any a n c x (stepN x m v) W ((h.below hb (Nat.le_refl _)).more hb.size) (hF.stepN_ m))
    have HC := Lib.hid hC
    clear hC
    go_enter Tryz.func7, Tryz.ntmps7
    go_wp2_with fail
    refine hc.mono ?_
    rintro e w1 ⟨rfl, hb1⟩
    have o1 := o0.below hb1 o0.lt
    have hbw1 := bt hb0 hb1
    have c0 := o1.at_ (i := 0) rfl
    have c1 := o1.at_ (i := 1) rfl
    have l0 := o1.lt
    have g1 := hpr _ hbw1
    have g2 := hwk _ hbw1
    have d0 := fun (cc : Cls w1.heap.size w1) => (cc.cell w.heap.size 0 l0).trans c0
    have d1 := fun (cc : Cls w1.heap.size w1) => (cc.cell w.heap.size 1 l0).trans c1
    have hP : stepN x p v = stepN x (p + 0) v := rfl
    rw [hP] at g2
    clear hc h' hpr hwk o0 hb0 hb1 hP
    obtain ⟨A, hA⟩ : ∃ A, A = stepN x (p + 0) v := ⟨_, rfl⟩
    rw [← hA] at g2
    have H1 := Lib.hid hA
    clear hA
    go_wp2_with fail
    refine wp_region_cls (by kernel_rfl) (by kernel_rfl) ?_
    repeat (go_big_quiet_step (first | (go_at_call 20; with_reducible exact cls_of (Nat.le_refl _) (g1 _)) | (go_at_call 19; with_reducible exact cls_of (Nat.le_refl _) (g2 _))))
    refine wpQuiet_nil ?_
    intro wc hbc
    have o2 := o1.below hbc o1.lt
    have hbw2 := bt hbw1 hbc
    clear o1 hbw1 hbc c0 c1 l0 g1 g2 d0 d1
    go_wp2_with fail
    go_loopg [1, 5, 6] l (fun g s i f wr => ∃ k : Nat, k ≤ l ∧ g = l - k ∧ s = .string (stepN x k v) ∧ f = .string (stepN x (p + k) v) ∧ i = .int .i64 k ∧ Own wr w.heap.size [.slice a n c, .string x.refl] ∧ Below w.heap.size w wr)
    case atStart => exact ⟨0, Nat.zero_le _, rfl, rfl, by rw [H1.out], rfl, o2, hbw2⟩
    case round =>
      clear o2 hbw2
      obtain ⟨k, hk, hg, rfl, rfl, rfl, o2, hb⟩ := hrel
      have HG := Lib.hid hg
      clear hg
      have c0 := o2.at_ (i := 0) rfl
      have c1 := o2.at_ (i := 1) rfl
      by_cases he : k = l
      · subst he
        have te := bne_no (show stepN x (p + k) v = stepN x k v by rw [Nat.add_comm]; exact HC.out.back)
        go_wp2
        go_ret
        exact ⟨rfl, hb⟩
      · have te := bne_of (show stepN x (p + k) v ≠ stepN x k v by rw [Nat.add_comm]; exact HC.out.first k p (by omega) HC.out.pos)
        have g1 := hs1.out _ hb (p + k)
        rw [← stepN_succ] at g1
        have g2 := Lib.hid (fun W hW => hs1.out W hW k)
        obtain ⟨F, hF⟩ : ∃ F, F = stepN x (p + k) v := ⟨_, rfl⟩
        obtain ⟨F1, hF1⟩ : ∃ F1, F1 = stepN x (p + k + 1) v := ⟨_, rfl⟩
        rw [← hF1] at g1
        rw [← hF] at g1 te ⊢
        have K2 := Lib.hid hF1
        clear hF hF1
        go_wp2_with fail
        refine g1.mono ?_
        rintro e w3 ⟨rfl, hb3⟩
        have o3 := o2.below hb3 o2.lt
        have hbw3 := bt hb hb3
        have g3 := g2.out _ hbw3
        rw [← stepN_succ] at g3
        clear g1 g2 c0 c1 o2 hb hb3
        have c0 := o3.at_ (i := 0) rfl
        have c1 := o3.at_ (i := 1) rfl
        go_wp2_with fail
        refine g3.mono ?_
        rintro e w4 ⟨rfl, hb4⟩
        have o4 := o3.below hb4 o3.lt
        go_wp2
        go_roundg (l - (k + 1))
        case measure => rw [HG.out]; omega
        case rel => exact ⟨k + 1, by omega, rfl, rfl, by rw [K2.out]; rfl, by go_num, o4, bt hbw3 hb4⟩
theorem rcSteps_any (a : Option Addr) (n c : Nat) (x : Whl) (u : ByteArray) (N : Int) (w : World) (h : WhlAt w w.heap.size a n x) (hu : u.size ≤ 4294967296) :
    Calls Tryz.prog 8 #[.agg #[.slice a n c, .string x.refl], .string u, .int .i64 N] w fun e w' => e = .returned (.string (stepT x u N).1) ∧ Below w.heap.size w w' := by
  have hb0 := (Below.refl w.heap.size w).alloc (Nat.le_refl _) (.cells [.slice a n c, .string x.refl].toArray 25)
  have h' := h.alloc_ (.cells [.slice a n c, .string x.refl].toArray 25)
  go_enter Tryz.func8, Tryz.ntmps8
  go_wp2_with fail
  refine (implStepMany_any a n c x u N _ h' hu).mono ?_
  rintro e w1 ⟨rfl, hb1⟩
  go_wp2
  go_ret
  exact ⟨rfl, bt hb0 hb1⟩
theorem DrawLeadIn_any (a : Option Addr) (len cap : Nat) (zs : List Int) (w : World) (h : IsRow .u8 w a len cap zs) (hl : len ≤ 1048576) :
    Calls Tryz.prog 5 #[.slice a len cap] w (DrawnW w) := by
  have o0 := Own.new w [.slice none 0 0, .string ⟨#[]⟩] 25
  have hb0 := (Below.refl w.heap.size w).alloc (Nat.le_refl _) (.cells #[.slice none 0 0, .string ⟨#[]⟩] 25)
  go_enter Tryz.func5, Tryz.ntmps5
  go_wp2_with fail
  refine (DrawStepMoves_any a len cap zs _ (h.alloc_ _) hl).mono ?_
  rintro e w3 ⟨x3, u3, a3, cap3, hx3, hu3, rfl, hrd3, hbl3, hb3⟩
  have o3 := o0.below hb3 o0.lt
  have hbw3 := bt hb0 hb3
  rw [World.size_alloc] at hbl3
  have HX := Lib.hid hx3
  have HBL := Lib.hid hbl3
  clear hx3 o0 hb0 hb3 h hbl3
  have f0 := o3.at_ (i := 0) rfl
  have f1 := o3.at_ (i := 1) rfl
  have g0 := o3.free 0 (by simp)
  have g1 := o3.free 1 (by simp)
  go_wp2
  refine bodyPost_ret (v := .tuple #[.agg #[.slice a3 x3.rotors.length cap3, .string x3.refl], .string u3]) (by simp [results, Tryz.results5, go_sem, f0, f1]) rfl ?_
  refine ⟨x3, u3, a3, cap3, HX.out, hu3, rfl, ?_, ?_, ?_⟩
  · refine Reads.more (B := w3.heap.size) ((Reads.setOff hrd3 (p := ⟨w.heap.size, 0, none⟩) (fun ad h => ?_) _).setOff (p := ⟨w.heap.size, 1, none⟩) (fun ad h => ?_) _) (by simp [World.setCell])
    · have := HBL.out ad h; simp; omega
    · have := HBL.out ad h; simp; omega
  · intro ad h
    have := HBL.out ad h; omega
  · exact (hbw3.setCell (by simp) _).setCell (by simp) _
end Go.Proofs.YtaplndmgbinhcaaGreat
