/- The walk of the law on the way in of the next windows. -/
import Derived.Test.YtaplndmgbinhcaaGreatLdLaws
namespace Go.Proofs.YtaplndmgbinhcaaGreat
open Go.RowKit

theorem back_some {x : Whl} {u : ByteArray} (hf : fitB x u = true) {p : Nat} (hC : Cyc (fun n => stepN x n u) 0 p) : 0 < (backS x u).length := by
  have hF := fitB_iff.1 hf
  have hb := hC.back
  have hp := hC.pos
  have h1 : stepW x (stepN x (p - 1) u) = u := by
    rw [← stepN_succ, show p - 1 + 1 = 0 + p by omega]; exact hb
  have hm : stepN x (p - 1) u ∈ backS x u := by
    unfold backS
    rw [if_pos hf]
    exact (mem_backTo (wordB_size hF.word)).2 ⟨word_stepN _ hF.word, size_stepN _ _ _, h1⟩
  exact List.length_pos_of_mem hm

set_option maxHeartbeats 2000000 in
theorem leadInNext_walk (a : Option Addr) (len cap : Nat) (zs : List Int) (w : World) (h : IsRow .u8 w a len cap zs) :
    Calls Tryz.prog 3 #[.slice a len cap] w fun e w' => e = .returned (.bool true) ∧ Below w.heap.size w w' := by
  have hlen : len ≤ 9223372036854775807 := by
    rcases h with ⟨_, rfl, _⟩ | ⟨x, _, hl, hm, _⟩
    · omega
    · unfold maxLen at hm; omega
  by_cases hl : 1048576 < len
  · go_enter Tryz.func3, Tryz.ntmps3
    go_wp2
    go_ret
    exact ⟨rfl, Below.refl _ _⟩
  · go_enter Tryz.func3, Tryz.ntmps3
    go_wp2_with fail
    refine (DrawLeadIn_any a len cap zs _ h (by omega)).mono ?_
    rintro e w1 ⟨x, u, a1, cap1, hx, hu, rfl, hrd, -, hb1⟩
    have o1 := Own.new w1 [.slice a1 x.rotors.length cap1, .string x.refl] 25
    have hb1' := hb1.alloc hb1.size (.cells [.slice a1 x.rotors.length cap1, .string x.refl].toArray 25)
    have hat := (hx.at_ hrd).alloc_ (.cells [.slice a1 x.rotors.length cap1, .string x.refl].toArray 25)
    clear hrd hb1 h
    go_wp2_with fail
    generalize (w1.alloc (.cells [.slice a1 x.rotors.length cap1, .string x.refl].toArray 25)) = W1 at *
    generalize w1.heap.size = B1 at *
    cases hf : fitB x u with
    | false =>
      refine (implLeadIn_any a1 _ cap1 x u (-1) _ hat (by omega) (.inl ⟨hf, rfl⟩)).mono ?_
      rintro e w2 ⟨rfl, hb2⟩
      have o2 := o1.below hb2 o1.lt
      have hbw2 := bt hb1' hb2
      have hat2 := (hat.below hb2 (Nat.le_refl _)).more hb2.size
      clear o1 hb1' hat hb2
      have f0 := o2.at_ (i := 0) rfl
      have f1 := o2.at_ (i := 1) rfl
      go_wp2_with fail
      refine (specLeadIn_any a1 _ cap1 x u (-1) _ hat2 (by omega) (.inl ⟨hf, rfl⟩)).mono ?_
      rintro e w3 ⟨rfl, hb3⟩
      have o3 := o2.below hb3 o2.lt
      have hbw3 := bt hbw2 hb3
      have hat3 := (hat2.below hb3 (Nat.le_refl _)).more hb3.size
      clear o2 hbw2 hat2 hb3 f0 f1
      have f0 := o3.at_ (i := 0) rfl
      have f1 := o3.at_ (i := 1) rfl
      go_wp2_with fail
      refine (specLeadIn_any a1 _ cap1 x u (-1) _ hat3 (by omega) (.inl ⟨hf, rfl⟩)).mono ?_
      rintro e w4 ⟨rfl, hb4⟩
      go_wp2
      go_ret
      exact ⟨rfl, bt hbw3 hb4⟩
    | true =>
      have hF := fitB_iff.1 hf
      obtain ⟨l, p, hC, hl1, hp1⟩ := exists_cyc hF
      have hCn : Cyc (fun n => stepN x n (stepW x u)) (l - 1) p := hC.next (seqs_step x u)
      have hfn : fitB x (stepW x u) = true := fitB_iff.2 hF.step_
      have hT : stepT x u 1 = (stepW x u, true) := stepT_yes (n := 1) hf (by omega)
      have hun : (stepW x u).size ≤ 300 := by rw [size_stepW]; exact hu
      have HB : Hid (l = 0 → 0 < (backS x u).length) := fun h0 => back_some hf (h0 ▸ hC)
      have hfew := (backS_few x u).1
      have HL := Lib.hid (fun (W : World) (hW : WhlAt W W.heap.size a1 x.rotors.length x) => implLeadIn_any a1 _ cap1 x u (l : Int) W hW (by omega) (.inr ⟨hf, l, p, hC, rfl⟩))
      have HLS := Lib.hid (fun (W : World) (hW : WhlAt W W.heap.size a1 x.rotors.length x) => specLeadIn_any a1 _ cap1 x u (l : Int) W hW (by omega) (.inr ⟨hf, l, p, hC, rfl, hl1, hp1⟩))
      have HLN := Lib.hid (fun (W : World) (hW : WhlAt W W.heap.size a1 x.rotors.length x) => implLeadIn_any a1 _ cap1 x (stepW x u) ((l - 1 : Nat) : Int) W hW (by omega) (.inr ⟨hfn, l - 1, p, hCn, rfl⟩))
      have HP1 := Lib.hid (fun (W : World) (hW : WhlAt W W.heap.size a1 x.rotors.length x) (cc : Cls W.heap.size W) => implPeriodOf_any a1 _ cap1 x (stepW x u) (l - 1) p cc.w ((hW.below cc.bel (Nat.le_refl _)).more cc.bel.size) (by omega) hfn hCn)
      have HP2 := Lib.hid (fun (W : World) (hW : WhlAt W W.heap.size a1 x.rotors.length x) (cc : Cls W.heap.size W) => implPeriodOf_any a1 _ cap1 x u l p cc.w ((hW.below cc.bel (Nat.le_refl _)).more cc.bel.size) (by omega) hf hC)
      have HSB := Lib.hid (fun (W : World) (hW : WhlAt W W.heap.size a1 x.rotors.length x) => implStepsBack_any a1 _ cap1 x u W hW (by omega))
      have HST := Lib.hid (fun (W : World) (hW : WhlAt W W.heap.size a1 x.rotors.length x) => hT ▸ rcSteps_any a1 _ cap1 x u 1 W hW (by omega))
      clear hC hCn hfn hT hF hf
      generalize backS x u = ss at *
      generalize stepW x u = u2 at *
      refine (HL.out _ hat).mono ?_
      rintro e w2 ⟨rfl, hb2⟩
      have o2 := o1.below hb2 o1.lt
      have hbw2 := bt hb1' hb2
      have hat2 := (hat.below hb2 (Nat.le_refl _)).more hb2.size
      clear o1 hb1' hat hb2
      have f0 := o2.at_ (i := 0) rfl
      have f1 := o2.at_ (i := 1) rfl
      go_wp2_with fail
      refine (HLS.out _ hat2).mono ?_
      rintro e w3 ⟨rfl, hb3⟩
      have o3 := o2.below hb3 o2.lt
      have hbw3 := bt hbw2 hb3
      have hat3 := (hat2.below hb3 (Nat.le_refl _)).more hb3.size
      clear o2 hbw2 hat2 hb3 f0 f1
      have f0 := o3.at_ (i := 0) rfl
      have f1 := o3.at_ (i := 1) rfl
      have tl : decide ((l : Int) < 0) = false := decide_eq_false (by omega)
      go_wp2_with fail
      refine (HST.out _ hat3).mono ?_
      rintro e w4 ⟨rfl, hb4⟩
      have o4 := o3.below hb4 o3.lt
      have hbw4 := bt hbw3 hb4
      have hat4 := (hat3.below hb4 (Nat.le_refl _)).more hb4.size
      clear o3 hbw3 hat3 hb4 f0 f1
      have f0 := o4.at_ (i := 0) rfl
      have f1 := o4.at_ (i := 1) rfl
      go_wp2_with fail
      refine (HLN.out _ hat4).mono ?_
      rintro e w5 ⟨rfl, hb5⟩
      have o5 := o4.below hb5 o4.lt
      have hbw5 := bt hbw4 hb5
      have hat5 := (hat4.below hb5 (Nat.le_refl _)).more hb5.size
      clear o4 hbw4 hat4 hb5 f0 f1
      have f0 := o5.at_ (i := 0) rfl
      have f1 := o5.at_ (i := 1) rfl
      go_wp2_with fail
      refine (HSB.out _ hat5).mono ?_
      rintro e w6 ⟨v6, rfl, hown6, hb6⟩
      obtain ⟨a6, c6, rfl, -, -, -⟩ := OwR.val hown6
      have o6 := o5.below hb6 o5.lt
      have hbw6 := bt hbw5 hb6
      have hat6 := (hat5.below hb6 (Nat.le_refl _)).more hb6.size
      clear o5 hbw5 hat5 hb6 f0 f1 hown6
      have f0 := o6.at_ (i := 0) rfl
      have f1 := o6.at_ (i := 1) rfl
      have l6 := o6.lt
      have p1 := HP1.out _ hat6
      have p2 := HP2.out _ hat6
      have d0 := fun (cc : Cls w6.heap.size w6) => (cc.cell B1 0 l6).trans f0
      have d1 := fun (cc : Cls w6.heap.size w6) => (cc.cell B1 1 l6).trans f1
      go_wp2_with fail
      clear tl
      rcases Nat.eq_zero_or_pos l with h0 | h0
      · subst h0
        have hss := HB.out rfl
        have ts : decide ((0 : Int) < (ss.length : Int)) = true := decide_eq_true (by omega)
        refine wp_region_cls (by kernel_rfl) (by kernel_rfl) ?_
        repeat (go_big_quiet_step (first | (go_at_call 10; with_reducible exact cls_of (Nat.le_refl _) (p1 _)) | (go_at_call 10; with_reducible exact cls_of (Nat.le_refl _) (p2 _))))
        refine wpQuiet_nil ?_
        intro wc hbc
        go_wp2
        go_ret
        exact ⟨rfl, bt hbw6 hbc⟩
      · obtain ⟨m, rfl⟩ : ∃ m, l = m + 1 := ⟨l - 1, by omega⟩
        have hw1 : IntKind.i64.wrap (m : Int) = (m : Int) := IntWalk.i64_in _ (by omega)
        have t1 : decide ((0 : Int) < (m : Int) + 1) = true := decide_eq_true (by omega)
        have t2 : (0 : Int) < (m : Int) + 1 := by omega
        refine wp_region_cls (by kernel_rfl) (by kernel_rfl) ?_
        repeat (go_big_quiet_step (first | (go_at_call 10; with_reducible exact cls_of (Nat.le_refl _) (p1 _)) | (go_at_call 10; with_reducible exact cls_of (Nat.le_refl _) (p2 _))))
        refine wpQuiet_nil ?_
        intro wc hbc
        go_wp2
        go_ret
        exact ⟨rfl, bt hbw6 hbc⟩
end Go.Proofs.YtaplndmgbinhcaaGreat
