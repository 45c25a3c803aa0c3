/- The walk of the law on StepsBack itself. -/
import Derived.Test.YtaplndmgbinhcaaSBLaws
import Derived.Sort.Walk0
namespace Go.Proofs.Ytaplndmgbinhcaa
open Go.RowKit

/-- Some strings ascend. -/
def AscS (ss : List ByteArray) : Prop := ∀ i j (hi : i < ss.length) (hj : j < ss.length), i < j → L ss[i] < L ss[j]
theorem backS_asc (x : Whl) (v : ByteArray) : AscS (backS x v) := by
  have h : (backS x v).Pairwise fun a b => L a < L b := by
    unfold backS
    split
    · exact backTo_asc x v
    · exact List.Pairwise.nil
  intro i j hi hj hij
  exact List.pairwise_iff_getElem.1 h i j hi hj hij
theorem backS_mem {x : Whl} {v s : ByteArray} (h : s ∈ backS x v) : fitB x s = true ∧ stepW x s = v ∧ s.size ≤ 200 := by
  unfold backS at h
  split at h
  · rename_i hf
    have hF := fitB_iff.1 hf
    have := (mem_backTo (wordB_size hF.word)).1 h
    exact ⟨fitB_iff.2 ⟨hF.one, hF.three, hF.rot, hF.refl, by rw [this.2.1]; exact hF.size, this.1⟩, this.2.2, wordB_size this.1⟩
  · simp at h
theorem less_no {a b : ByteArray} (h : L b < L a) : Op.bytesLess a.toList b.toList = false ∧ (a.toList == b.toList) = false := by
  rw [toList_L, toList_L, Go.Proofs.bytesLess_eq, decide_eq_false_iff_not, beq_eq_false_iff_ne]
  refine ⟨fun k => ?_, fun e => ?_⟩
  · exact absurd (List.lt_of_le_of_lt (List.le_of_lt k) h) (List.lt_irrefl _)
  · rw [e] at h; exact absurd h (List.lt_irrefl _)

set_option maxHeartbeats 2000000 in
theorem stepsBack_walk (a : Option Addr) (len cap : Nat) (zs : List Int) (w : World) (h : IsRow .u8 w a len cap zs) :
    Calls Try.prog 5 #[.slice a len cap] w fun e w' => e = .returned (.bool true) ∧ Below w.heap.size w w' := by
  have hlen : len ≤ 9223372036854775807 := by
    rcases h with ⟨_, rfl, _⟩ | ⟨x, _, hl, hm, _⟩
    · omega
    · unfold maxLen at hm; omega
  by_cases hl : 1048576 < len
  · go_enter Try.func5, Try.ntmps5
    go_wp2
    go_ret
    exact ⟨rfl, Below.refl _ _⟩
  · go_enter Try.func5, Try.ntmps5
    go_wp2_with fail
    refine (DrawStepsBack_any a len cap zs _ h (by omega)).mono ?_
    rintro e w1 ⟨x, u, a1, cap1, hx, hu, rfl, hrd, -, hb1⟩
    have o1 := Own.new w1 [.slice a1 x.rotors.length cap1, .string x.refl] 30
    have hb1' := hb1.alloc hb1.size (.cells [.slice a1 x.rotors.length cap1, .string x.refl].toArray 30)
    have hat := (hx.at_ hrd).alloc_ (.cells [.slice a1 x.rotors.length cap1, .string x.refl].toArray 30)
    clear hrd hb1 h
    go_wp2_with fail
    generalize (w1.alloc (.cells [.slice a1 x.rotors.length cap1, .string x.refl].toArray 30)) = W1 at *
    generalize w1.heap.size = B1 at *
    have hsi := fun W hW => implStepsBack_any a1 x.rotors.length cap1 x u W hW (by omega)
    have hss := fun W hW => specStepsBack_any a1 x.rotors.length cap1 x u W hW (by omega)
    have hfew := (backS_few x u).1
    have HA := Lib.hid (backS_asc x u)
    have HM := Lib.hid (fun s => backS_mem (x := x) (v := u) (s := s))
    have HN : Hid (fitB x u = false → backS x u = []) := fun h => by simp [backS, h]
    generalize backS x u = ss at *
    refine (hsi _ hat).mono ?_
    rintro e w2 ⟨v2, rfl, hown2, hb2⟩
    obtain ⟨a2, c2, rfl, -, hr2, -⟩ := OwR.val hown2
    have o2 := o1.below hb2 o1.lt
    have hbw2 := bt hb1' hb2
    have hat2 := (hat.below hb2 (Nat.le_refl _)).more hb2.size
    clear o1 hb1' hat hb2 hown2 hsi
    have f0 := o2.at_ (i := 0) rfl
    have f1 := o2.at_ (i := 1) rfl
    go_wp2_with fail
    refine (hss _ hat2).mono ?_
    rintro e w3 ⟨v3, rfl, hown3, hb3⟩
    obtain ⟨a3, c3, rfl, -, hr3, -⟩ := OwR.val hown3
    have o3 := o2.below hb3 o2.lt
    have hbw3 := bt hbw2 hb3
    have hat3 := (hat2.below hb3 (Nat.le_refl _)).more hb3.size
    have hr23 := (hr2.below hb3 (Nat.le_refl _)).more hb3.size
    clear o2 hbw2 hat2 hb3 hown3 f0 f1 hr2
    go_wp2_with fail
    refine (rcTexts_any a2 a3 c2 c3 ss ss w3 hr23 hr3 (by omega)).mono ?_
    rintro e w4 ⟨rfl, n4, rfl⟩
    simp only [decide_true]
    generalize hw4 : w3.drewN n4 = w4
    have b4 : Below w3.heap.size w3 w4 := hw4 ▸ ⟨rfl, rfl, rfl, Nat.le_refl _, fun _ _ => rfl⟩
    clear hw4 hr3
    have o4 := o3.below b4 o3.lt
    have hbw4 := bt hbw3 b4
    have hat4 := (hat3.below b4 (Nat.le_refl _)).more b4.size
    have hr24 := (hr23.below b4 (Nat.le_refl _)).more b4.size
    clear o3 hbw3 hat3 b4 hr23
    have f0 := o4.at_ (i := 0) rfl
    have f1 := o4.at_ (i := 1) rfl
    go_wp2_with fail
    refine (rcFit_any a1 _ cap1 x u _ hat4 (by omega)).mono ?_
    rintro e w5 ⟨rfl, hb5⟩
    have o5 := o4.below hb5 o4.lt
    have hbw5 := bt hbw4 hb5
    have hat5 := (hat4.below hb5 (Nat.le_refl _)).more hb5.size
    have hr25 := (hr24.below hb5 (Nat.le_refl _)).more hb5.size
    clear o4 hbw4 hat4 hb5 hr24 f0 f1
    cases hf : fitB x u with
    | false =>
      have h0 := HN.out hf
      subst h0
      have f0 := o5.at_ (i := 0) rfl
      have f1 := o5.at_ (i := 1) rfl
      go_wp2_with fail
      refine (hss _ hat5).mono ?_
      rintro e w6 ⟨v6, rfl, hown6, hb6⟩
      obtain ⟨a6, c6, rfl, -, hr6, -⟩ := OwR.val hown6
      have o6 := o5.below hb6 o5.lt
      have hbw6 := bt hbw5 hb6
      have hat6 := (hat5.below hb6 (Nat.le_refl _)).more hb6.size
      have hr26 := (hr25.below hb6 (Nat.le_refl _)).more hb6.size
      clear o5 hbw5 hat5 hb6 hown6 f0 f1 hr25
      go_wp2_with fail
      refine (rcTexts_any a2 a6 c2 c6 [] [] w6 hr26 hr6 (by simp)).mono ?_
      rintro e w7 ⟨rfl, n7, rfl⟩
      simp only [decide_true]
      generalize hw7 : w6.drewN n7 = w7
      have b7 : Below w6.heap.size w6 w7 := hw7 ▸ ⟨rfl, rfl, rfl, Nat.le_refl _, fun _ _ => rfl⟩
      clear hw7 hr6
      have o7 := o6.below b7 o6.lt
      have hbw7 := bt hbw6 b7
      have hat7 := (hat6.below b7 (Nat.le_refl _)).more b7.size
      clear o6 hbw6 hat6 b7 hr26
      have f0 := o7.at_ (i := 0) rfl
      have f1 := o7.at_ (i := 1) rfl
      have hfc := rcFit_any a1 _ cap1 x u _ hat7 (by omega)
      rw [hf] at hfc
      go_wp2_with fail
      refine hfc.mono ?_
      rintro e w8 ⟨rfl, hb8⟩
      go_wp2
      go_ret
      exact ⟨rfl, bt hbw7 hb8⟩
    | true =>
      clear hf hss
      have HR := Lib.hid hr25
      have HAT := Lib.hid hat5
      clear hr25 hat5
      go_wp2_with fail
      have z5 := o5.lt
      go_loopw [6, 7, 8] (fun i _ _ wr => ∃ k : Nat, k ≤ ss.length ∧ i = .int .i64 k ∧ Below w5.heap.size w5 wr) (fun i _ _ _ => ss.length - (intOf i).toNat)
      case atStart => exact ⟨0, Nat.zero_le _, rfl, Below.refl _ _⟩
      case round =>
        obtain ⟨k, hk, rfl, hb⟩ := hrel
        by_cases hlt : k < ss.length
        · have zb := hb.size
          have o6 := o5.below hb o5.lt
          have f0 := o6.at_ (i := 0) rfl
          have f1 := o6.at_ (i := 1) rfl
          obtain ⟨b, off, rfl, hbl, hc⟩ := HR.out.open_ (by rw [length_sv]; omega)
          have d0 := hc k (by rw [length_sv]; exact hlt)
          rw [sv_at hlt] at d0
          have d1 := (hb.cell (p := ⟨b, off + k, none⟩) hbl).trans d0
          obtain ⟨m1, m2, m3⟩ := HM.out _ (List.getElem_mem hlt)
          have hT : stepT x ss[k] 1 = (u, true) := by rw [← m2]; exact stepT_yes (n := 1) m1 (by omega)
          have hatr : WhlAt wr wr.heap.size a1 x.rotors.length x := (HAT.out.below hb (Nat.le_refl _)).more hb.size
          have hsw := fun (c : Cls wr.heap.size wr) => implStepWindows_any a1 x.rotors.length cap1 x ss[k] c.w ((hatr.below c.bel (Nat.le_refl _)).more c.bel.size) (by omega)
          rw [hT] at hsw
          have q1 : (k : Int) < (ss.length : Int) := by omega
          have q2 : B1 < wr.heap.size := by omega
          have q3 : b < wr.heap.size := by omega
          have e0 := fun (cc : Cls wr.heap.size wr) => (cc.cell B1 0 q2).trans f0
          have e1 := fun (cc : Cls wr.heap.size wr) => (cc.cell B1 1 q2).trans f1
          have e2 := fun (cc : Cls wr.heap.size wr) => (cc.cell b (off + k) q3).trans d1
          have HC := Lib.hid hc
          clear hc d0 m1 m2 hT hatr
          go_wp2_with fail
          refine wp_region_cls (by kernel_rfl) (by kernel_rfl) ?_
          repeat (go_big_quiet_step (first | (go_at_call 16; with_reducible exact cls_of (Nat.le_refl _) (hsw _))))
          refine wpQuiet_nil ?_
          intro wc hbc
          have hbw := hb.trans (hbc.mono zb)
          have d1c := (hbw.cell (p := ⟨b, off + k, none⟩) hbl).trans (show w5.cell? ⟨b, off + k, none⟩ = some (.string ss[k]) by
            have := HC.out k (by rw [length_sv]; exact hlt); rw [sv_at hlt] at this; exact this)
          clear hsw e0 e1 e2 f0 f1 d1 o6 hb hbc
          go_wp2_with fail
          by_cases hk0 : k = 0
          · subst hk0
            go_quiet (fail)
            go_wp2
            go_roundw
            case rel => exact ⟨1, by omega, rfl, ⟨hbw.os, hbw.tape, hbw.output, hbw.size, hbw.block⟩⟩
            case measure => simp [intOf]; omega
          · obtain ⟨j, rfl⟩ : ∃ j, k = j + 1 := ⟨k - 1, by omega⟩
            have hj : j < ss.length := by omega
            have d2c := (hbw.cell (p := ⟨b, off + j, none⟩) hbl).trans (show w5.cell? ⟨b, off + j, none⟩ = some (.string ss[j]) by
              have := HC.out j (by rw [length_sv]; exact hj); rw [sv_at hj] at this; exact this)
            obtain ⟨l1, l2⟩ := less_no (HA.out j (j + 1) hj hlt (by omega))
            have p1 : (0 : Int) < (j : Int) + 1 := by omega
            have p2 : (j : Int) + 1 < (ss.length : Int) := by omega
            have p3 : (j : Int) < (ss.length : Int) := by omega
            have hw1 : IntKind.i64.wrap (j : Int) = (j : Int) := IntWalk.i64_in _ (by omega)
            have hw2 : (0 : Int) ≤ (j : Int) + 1 := by omega
            have hw3 : ((j : Int) + 1).toNat = j + 1 := by omega
            have t0 : decide ((0 : Int) < (j : Int) + 1) = true := decide_eq_true (by omega)
            go_quiet (fail)
            clear hw1
            go_wp2
            go_roundw
            case rel => exact ⟨j + 1 + 1, by omega, by go_num, ⟨hbw.os, hbw.tape, hbw.output, hbw.size, hbw.block⟩⟩
            case measure => simp [intOf]; omega
        · go_wp2
          go_ret
          exact ⟨ret_bool (by simp; omega), bt hbw5 hb⟩
end Go.Proofs.Ytaplndmgbinhcaa
