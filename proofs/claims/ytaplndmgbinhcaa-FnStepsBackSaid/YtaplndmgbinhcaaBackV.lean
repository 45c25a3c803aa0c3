/- Contracts of both StepsBack. -/
import Derived.Test.YtaplndmgbinhcaaSpecS
import Derived.Test.YtaplndmgbinhcaaBack
import Derived.Test.YtaplndmgbinhcaaSortS
namespace Go.Proofs.Ytaplndmgbinhcaa
open Go.RowKit

theorem ten_le {n : Nat} (h : n ≤ 3) : 10 ^ n ≤ 1000 := Nat.pow_le_pow_right (n := 10) (by omega) h
theorem l7Size_any (n : Nat) (w : World) (hn : n ≤ 3) :
    Calls Try.prog 23 #[.int .i64 (n : Int)] w fun e w' => e = .returned (.int .i64 ((10 ^ n : Nat) : Int)) ∧ w = w' := by
  go_enter Try.func23, Try.ntmps23
  go_wp2
  go_loop [0, 3] (fun i o => ∃ j t : Nat, j ≤ n ∧ i = .int .i64 j ∧ o = .int .i64 t ∧ t = 10 ^ (n - j)) (fun i _ => (intOf i).toNat)
  case atStart => exact ⟨n, 1, Nat.le_refl _, rfl, rfl, by rw [Nat.sub_self]⟩
  case round =>
    obtain ⟨j, t, hj, rfl, rfl, ht⟩ := hrel
    have htl : t ≤ 1000 := by rw [ht]; exact ten_le (by omega)
    have HT := Lib.hid ht
    clear ht
    by_cases hlt : 0 < j
    · go_wp2
      go_round
      case rel =>
        refine ⟨j - 1, t * 10, by omega, ?_, by go_num, ?_⟩
        · congr 1; omega
        · rw [HT.out, show n - (j - 1) = (n - j) + 1 by omega, Nat.pow_succ]
      case measure => simp [intOf]; omega
    · go_wp2
      go_ret
      exact ⟨ret_int (by rw [HT.out, show n - j = n by omega]; simp), rfl⟩

theorem wd_cons (n : Nat) (l : List Nat) : wd (n :: l) = S [letr (n : Int)] ++ wd l := by unfold wd; rw [S_append]; simp
theorem specValueWord_any (N k : Nat) (w : World) (hk : k ≤ 9) (hN : N < 10 ^ k) (hb : N ≤ 1000000000) :
    Calls Try.prog 24 #[.int .i64 (N : Int), .int .i64 (k : Int)] w fun e w' => e = .returned (.tuple #[.string (wd (vwL k N)), .bool true]) ∧ Below w.heap.size w w' := by
  have hin := fun W => l1In_any (k : Int) 0 9 W
  have e1 : (decide ((0 : Int) ≤ (k : Int)) && decide ((k : Int) ≤ 9)) = true := by simp; omega
  rw [e1] at hin
  clear e1
  have HN := Lib.hid hN
  clear hN
  go_enter Try.func24, Try.ntmps24
  go_wp2_with (go_at_call 46; ((with_reducible refine (hin _).mono ?_); rintro e w' ⟨rfl, rfl⟩))
  go_loopw [0, 6, 7] (fun m o i wr => ∃ (j q : Nat) (t : List Nat), j ≤ k ∧ i = .int .i64 j ∧ q ≤ 1000000000 ∧ m = .int .i64 q ∧ o = .string (wd t) ∧ t.length = j ∧ q = N / 10 ^ j ∧ vwL (k - j) q ++ t = vwL k N ∧ Below w.heap.size w wr) (fun _ _ i _ => k - (intOf i).toNat)
  case atStart => exact ⟨0, N, [], Nat.zero_le _, rfl, hb, rfl, rfl, rfl, by simp, by simp, Below.refl _ _⟩
  case round =>
    obtain ⟨j, q, t, hj, rfl, hqb, rfl, rfl, htl, hq, hv, hbel⟩ := hrel
    have hsz : (wd t).size ≤ 9 := by rw [size_wd]; omega
    have HL := Lib.hid htl
    have HQ := Lib.hid hq
    have HV := Lib.hid hv
    clear htl hq hv
    by_cases hlt : j < k
    · have hs1 : (S [letr (((q % 10 : Nat)) : Int)]).size ≤ 1 := by rw [size_S]; simp
      have hc := fun W => l1Letter_any ((q % 10 : Nat) : Int) W
      rw [show ((q % 10 : Nat) : Int) = (q : Int) % 10 by omega] at hc hs1
      go_wp2_with (go_at_call 47; ((with_reducible refine (hc _).mono ?_); rintro e w1 ⟨rfl, hb1⟩))
      go_roundw
      case rel =>
        refine ⟨j + 1, q / 10, (q % 10) :: t, by omega, by go_num, by omega, by go_num, ?_, by simp [HL.out], ?_, ?_, bt hbel hb1⟩
        · rw [wd_cons]
          congr 2
        · rw [HQ.out, Nat.div_div_eq_div_mul, ← Nat.pow_succ]
        · rw [← HV.out, show k - j = (k - (j + 1)) + 1 by omega]
          simp [vwL]
      case measure => simp [intOf]; omega
    · have hq0 : q = 0 := by
        rw [HQ.out, show j = k by omega]
        exact Nat.div_eq_of_lt HN.out
      have HR := Lib.hid (show t = vwL k N by
        have := HV.out
        rw [show k - j = 0 by omega] at this
        simpa [vwL] using this)
      subst hq0
      go_wp2
      go_ret2
      exact ⟨by rw [HR.out]; rfl, hbel⟩

set_option maxHeartbeats 400000 in
theorem specStepsBack_any (a : Option Addr) (n c : Nat) (x : Whl) (v : ByteArray) (w : World) (h : WhlAt w w.heap.size a n x) (hvs : v.size ≤ 4294967296) :
    Calls Try.prog 7 #[.agg #[.slice a n c, .string x.refl], .string v] w (StrsPost (backS x v) w) := by
  have o0 := fun o => (Own.new w [.slice a n c, .string x.refl] 30).alloc o
  have hb0 := ((Below.refl w.heap.size w).alloc (Nat.le_refl _) (.cells [.slice a n c, .string x.refl].toArray 30)).alloc (by simp) (.cells #[] 9)
  have h' := (h.alloc_ (.cells [.slice a n c, .string x.refl].toArray 30)).alloc_ (.cells #[] 9)
  have r0 : OwR ((w.alloc (.cells [.slice a n c, .string x.refl].toArray 30)).alloc (.cells #[] 9)) (w.heap.size + 1) 9 1 (.slice (some ⟨w.heap.size + 1, 0, none⟩) 0 0) 0 [] := by
    have := World.ownsRow_lit (base := w.heap.size + 1) (e := 9) (size := 1) (w.alloc (.cells [.slice a n c, .string x.refl].toArray 30)) #[] 0 (by simp) (by unfold maxLen; omega) rfl
    simpa using this
  have hc := l7Windows_any a n c x v _ h' hvs
  cases hf : fitB x v with
  | false =>
    have hst : backS x v = [] := by simp [backS, hf]
    rw [hf] at hc
    rw [hst]
    go_enter Try.func7, Try.ntmps7
    go_wp2_with fail
    refine hc.mono ?_
    rintro e w1 ⟨rfl, hb1⟩
    go_wp2
    go_ret
    exact ⟨_, rfl, World.ownsRow.mono (OwR.below r0 hb1 (Nat.le_refl _)) (by omega), bt hb0 hb1⟩
  | true =>
    have hF := fitB_iff.1 hf
    have h3 : v.size ≤ 3 := by rw [hF.size]; exact hF.three
    have hst := Lib.hid (show backS x v = backTo x v (10 ^ v.size) by simp [backS, hf])
    have hten := ten_le h3
    rw [hf] at hc
    go_enter Try.func7, Try.ntmps7
    go_wp2_with fail
    refine hc.mono ?_
    rintro e w1 ⟨rfl, hb1⟩
    have r1 := OwR.below r0 hb1 (Nat.le_refl _)
    have o1 := (o0 _).below hb1 (o0 _).lt
    have hbw := bt hb0 hb1
    clear r0 hb0 hb1 hc o0 h' hf
    go_wp2_with fail
    go_loopw [5, 6, 7, 8] (fun l i _ _ wr => ∃ k : Nat, k ≤ 10 ^ v.size ∧ i = .int .i64 k ∧ OwR wr (w.heap.size + 1) 9 1 l (backTo x v k).length (sv (backTo x v k)) ∧ Own wr w.heap.size [.slice a n c, .string x.refl] ∧ Below w.heap.size w wr) (fun _ i _ _ _ => 10 ^ v.size - (intOf i).toNat)
    case atStart => exact ⟨0, Nat.zero_le _, rfl, r1, o1, hbw⟩
    case round =>
      clear r1 hbw o1
      obtain ⟨k, hk, rfl, hown, o1, hb⟩ := hrel
      have hsz := fun W => l7Size_any v.size W h3
      by_cases hlt : k < 10 ^ v.size
      · have c0 := o1.at_ (i := 0) rfl
        have c1 := o1.at_ (i := 1) rfl
        have hln := backTo_len x v k
        have hlt0 := o1.lt
        have hvw := fun W => specValueWord_any k v.size W (by omega) hlt (by omega)
        have hyes := Lib.hid (backTo_yes (x := x) (v := v) (k := k))
        have hno := Lib.hid (backTo_no (x := x) (v := v) (k := k))
        have hFu : FitB x (wd (vwL v.size k)) := ⟨hF.one, hF.three, hF.rot, hF.refl, by rw [size_wd, len_vwL]; exact hF.size, word_wd (by rw [len_vwL]; omega)⟩
        have hst7 := fun W hW => l7Step_any a n c x (wd (vwL v.size k)) W hW hFu
        have hus : (wd (vwL v.size k)).size ≤ 3 := by rw [size_wd, len_vwL]; exact h3
        generalize hG : wd (vwL v.size k) = u at *
        generalize hN : (backTo x v k).length = N at hown hln
        generalize hT : 10 ^ v.size = T at *
        go_wp2_with (go_at_call 23; ((with_reducible refine (hsz _).mono ?_); rintro e w' ⟨rfl, rfl⟩))
        refine (hvw _).mono ?_
        rintro e w1 ⟨rfl, hb1⟩
        have o2 := o1.below hb1 o1.lt
        have c0' := o2.at_ (i := 0) rfl
        have c1' := o2.at_ (i := 1) rfl
        have hw1 : Below w.heap.size w w1 := bt hb hb1
        have hown1 := OwR.below hown hb1 (Nat.le_refl _)
        have hW1 : WhlAt w1 w1.heap.size a n x := (h.below hw1 (Nat.le_refl _)).more hw1.size
        clear c0 c1 o1 hb hb1 hown hvw
        go_wp2_with fail
        refine (hst7 _ hW1).mono ?_
        rintro e w2 ⟨rfl, hb2⟩
        have o3 := o2.below hb2 o2.lt
        have hw2 : Below w.heap.size w w2 := bt hw1 hb2
        have hown2 := OwR.below hown1 hb2 (Nat.le_refl _)
        have hlt2 := o3.lt
        clear c0' c1' o2 hw1 hb2 hown1 hW1 hst7
        by_cases he : stepW x u = v
        · have te : ((stepW x u).toList == v.toList) = true := by rw [he]; simp
          have HY := Lib.hid (hyes.out he)
          clear he
          go_wp2_with (at_builtin; ((with_reducible refine wl_push 26 9 inf_str Try.underlying26 rfl (by omega) hown2 (by omega) rfl (by simp [Value.oneCell']) (by omega) (by omega) rfl rfl ?_); intro g cap w4 o4 b4 s4))
          go_roundw
          case rel =>
            refine ⟨k + 1, by omega, by go_num, ?_, o3.below b4 (by omega), hw2.trans (b4.mono (by omega))⟩
            rw [HY.out, List.length_append, hN, sv_append]; exact o4
          case measure => simp [intOf]; omega
        · have te : ((stepW x u).toList == v.toList) = false := by
            rw [toList_L, toList_L, beq_eq_false_iff_ne]
            exact fun h => he (L_inj h)
          have HY := Lib.hid (hno.out he)
          clear he
          go_wp2
          go_roundw
          case rel =>
            refine ⟨k + 1, by omega, by go_num, ?_, o3, hw2⟩
            rw [HY.out, hN]; exact hown2
          case measure => simp [intOf]; omega
      · have hk' : k = 10 ^ v.size := by omega
        subst hk'
        generalize hT : 10 ^ v.size = T at *
        go_wp2_with (go_at_call 23; ((with_reducible refine (hsz _).mono ?_); rintro e w' ⟨rfl, rfl⟩))
        go_ret
        refine ⟨_, rfl, ?_, hb⟩
        rw [hst.out]
        exact World.ownsRow.mono hown (by omega)
end Go.Proofs.Ytaplndmgbinhcaa
