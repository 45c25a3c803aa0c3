/- The walks of the laws on StepsBack that draw their input. -/
import Derived.Test.YtaplndmgbinhcaaDraw7b
import Derived.Test.YtaplndmgbinhcaaStepT
import Derived.Test.YtaplndmgbinhcaaBackI
import Derived.WalkLawsBesides
namespace Go.Proofs.Ytaplndmgbinhcaa
open Go.RowKit

/-- A string is among some strings. -/
def inB (ss : List ByteArray) (u : ByteArray) : Bool := ss.any fun s => decide (s = u)
theorem inB_mem {ss : List ByteArray} {u : ByteArray} (h : u ∈ ss) : inB ss u = true := by
  simp only [inB, List.any_eq_true, decide_eq_true_eq]
  exact ⟨u, h, rfl⟩
theorem inB_snoc (ss : List ByteArray) (s u : ByteArray) : inB (ss ++ [s]) u = (inB ss u || decide (s = u)) := by simp [inB]
theorem inB_succ {ss : List ByteArray} {k : Nat} (h : k < ss.length) (u : ByteArray) : inB (ss.take (k + 1)) u = (inB (ss.take k) u || decide (ss[k] = u)) := by rw [List.take_succ_eq_append_getElem h, inB_snoc]
theorem mem_backS {x : Whl} {u : ByteArray} (h : fitB x u = true) : u ∈ backS x (stepW x u) := by
  have hF := fitB_iff.1 h
  have h2 : fitB x (stepW x u) = true := fitB_iff.2 hF.step_
  unfold backS
  rw [if_pos h2]
  exact (mem_backTo (wordB_size (word_stepW hF.word))).2 ⟨hF.word, by rw [size_stepW], rfl⟩

set_option maxHeartbeats 1000000 in
theorem stepsBackOf_walk (a : Option Addr) (len cap : Nat) (zs : List Int) (w : World) (h : IsRow .u8 w a len cap zs) :
    Calls Try.prog 4 #[.slice a len cap] w fun e w' => e = .returned (.bool true) ∧ Below w.heap.size w w' := by
  have hlen : len ≤ 9223372036854775807 := by
    rcases h with ⟨_, rfl, _⟩ | ⟨x, _, hl, hm, _⟩
    · omega
    · unfold maxLen at hm; omega
  by_cases hl : 1048576 < len
  · go_enter Try.func4, Try.ntmps4
    go_wp2
    go_ret
    exact ⟨rfl, Below.refl _ _⟩
  · go_enter Try.func4, Try.ntmps4
    go_wp2_with fail
    refine (DrawStepWindows_any a len cap zs _ h (by omega)).mono ?_
    rintro e w1 ⟨x, u, a1, cap1, hx, hu, rfl, hrd, -, hb1⟩
    have o1 := Own.new w1 [.slice a1 x.rotors.length cap1, .string x.refl] 30
    have hb1' := hb1.alloc hb1.size (.cells [.slice a1 x.rotors.length cap1, .string x.refl].toArray 30)
    have hat := (hx.at_ hrd).alloc_ (.cells [.slice a1 x.rotors.length cap1, .string x.refl].toArray 30)
    clear hrd hb1 h
    go_wp2_with fail
    generalize (w1.alloc (.cells [.slice a1 x.rotors.length cap1, .string x.refl].toArray 30)) = W1 at *
    generalize w1.heap.size = B1 at *
    refine (implStepWindows_any a1 _ cap1 x u _ hat (by omega)).mono ?_
    rintro e w2 ⟨rfl, hb2⟩
    have o2 := o1.below hb2 o1.lt
    have hbw2 := bt hb1' hb2
    have hat2 := (hat.below hb2 (Nat.le_refl _)).more hb2.size
    clear o1 hb1' hat hb2
    have f0 := o2.at_ (i := 0) rfl
    have f1 := o2.at_ (i := 1) rfl
    go_wp2_with fail
    refine (specStepWindows_any a1 _ cap1 x u _ hat2 (by omega)).mono ?_
    rintro e w3 ⟨rfl, hb3⟩
    have o3 := o2.below hb3 o2.lt
    have hbw3 := bt hbw2 hb3
    have hat3 := (hat2.below hb3 (Nat.le_refl _)).more hb3.size
    clear o2 hbw2 hat2 hb3 f0 f1
    cases hf : fitB x u with
    | false =>
      have hT : stepT x u 1 = (S [], false) := stepT_no (by simp [hf])
      rw [hT]
      clear hT hf
      go_wp2
      go_ret
      exact ⟨rfl, hbw3⟩
    | true =>
      have hT : stepT x u 1 = (stepW x u, true) := stepT_yes (n := 1) hf (by omega)
      have HM := Lib.hid (mem_backS hf)
      have hus : (stepW x u).size ≤ 300 := by rw [size_stepW]; exact hu
      rw [hT]
      clear hT hf
      have f0 := o3.at_ (i := 0) rfl
      have f1 := o3.at_ (i := 1) rfl
      have hsb := implStepsBack_any a1 _ cap1 x (stepW x u) _ hat3 (by omega)
      have hfew := (backS_few x (stepW x u)).1
      generalize backS x (stepW x u) = ss at *
      generalize stepW x u = u2 at *
      go_wp2_with fail
      refine hsb.mono ?_
      rintro e w4 ⟨v4, rfl, hown4, hb4⟩
      obtain ⟨a4, c4, rfl, -, hr4, -⟩ := OwR.val hown4
      have hbw4 := bt hbw3 hb4
      have HR := Lib.hid hr4
      clear hown4 hr4 hbw3 hb4 hsb hat3 o3 f0 f1
      go_wp2_with fail
      go_loop [10, 11] (fun b i => ∃ k : Nat, k ≤ ss.length ∧ i = .int .i64 k ∧ b = .bool (inB (ss.take k) u)) (fun _ i => ss.length - (intOf i).toNat)
      case atStart => exact ⟨0, Nat.zero_le _, rfl, rfl⟩
      case round =>
        obtain ⟨k, hk, rfl, rfl⟩ := hrel
        by_cases hlt : k < ss.length
        · obtain ⟨b, off, rfl, hb, hc⟩ := HR.out.open_ (by rw [length_sv]; omega)
          have d1 := hc k (by rw [length_sv]; exact hlt)
          rw [sv_at hlt] at d1
          clear hc
          have ht := inB_succ hlt u
          have q1 : (k : Int) < (ss.length : Int) := by omega
          cases hm : inB (ss.take k) u
          · rw [hm] at ht
            by_cases he : ss[k] = u
            · have HT := Lib.hid (show inB (ss.take (k + 1)) u = true by rw [ht]; simp [he])
              have te : (ss[k].toList == u.toList) = true := by rw [he]; simp
              clear hm ht he
              go_wp2
              go_round
              case rel => exact ⟨k + 1, by omega, by go_num, by rw [HT.out]⟩
              case measure => simp [intOf]; omega
            · have HT := Lib.hid (show inB (ss.take (k + 1)) u = false by rw [ht]; simp [he])
              have te : (ss[k].toList == u.toList) = false := by
                rw [toList_L, toList_L, beq_eq_false_iff_ne]
                exact fun h => he (L_inj h)
              clear hm ht he
              go_wp2
              go_round
              case rel => exact ⟨k + 1, by omega, by go_num, by rw [HT.out]⟩
              case measure => simp [intOf]; omega
          · rw [hm] at ht
            have HT := Lib.hid (show inB (ss.take (k + 1)) u = true by rw [ht]; simp)
            clear hm ht
            go_wp2
            go_round
            case rel => exact ⟨k + 1, by omega, by go_num, by rw [HT.out]⟩
            case measure => simp [intOf]; omega
        · have HT := Lib.hid (show inB (ss.take k) u = true by rw [List.take_of_length_le (by omega)]; exact inB_mem HM.out)
          go_wp2
          go_ret
          exact ⟨by rw [HT.out]; rfl, hbw4⟩
end Go.Proofs.Ytaplndmgbinhcaa
