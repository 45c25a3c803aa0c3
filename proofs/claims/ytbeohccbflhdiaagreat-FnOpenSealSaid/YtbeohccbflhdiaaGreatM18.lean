/- Several of my texts in one: SealW. -/
import Derived.Test.YtbeohccbflhdiaaGreatM16
import Derived.Test.YtbeohccbflhdiaaGreatM17
/- The walk of the law that a sealed message is opened. -/
namespace Go.Proofs.YtbeohccbflhdiaaGreat
open Go.RowKit

theorem encD_back {m : Mach} {v u : ByteArray} (h : machB m = true) (hw : wordB u = true) : wd (encD m v (dg (wd (encD m v (dg u))))) = u := by
  rw [dg_wd (encD_lt h v (word_dg_lt hw)), encD_twice h v (word_dg_lt hw), wd_dg hw]
theorem seal_msg {m : Mach} {s k u : ByteArray} (h1 : setB m s = true) (h2 : setB m k = true) (h3 : wordB u = true) : msgB ⟨s, wd (encD m s (dg k)), wd (encD m k (dg u))⟩ = true := by
  have hf := machB_fit (setB_mach h1)
  have e1 := setB_size h1
  have e2 := setB_size h2
  have e3 := hf.size
  have e4 := hf.one
  have e5 := hf.three
  have z : (wd (encD m s (dg k))).size = s.size := by rw [size_wd, len_encD, len_dg]; omega
  simp only [msgB, Bool.and_eq_true, decide_eq_true_eq]
  exact ⟨⟨⟨⟨⟨by omega, by omega⟩, setB_word h1⟩, z⟩, word_wd (by rw [len_encD, len_dg]; exact wordB_size (setB_word h2))⟩, word_wd (by rw [len_encD, len_dg]; exact wordB_size h3)⟩
theorem open_seal {m : Mach} {s k u : ByteArray} (h1 : setB m s = true) (h2 : setB m k = true) (h3 : wordB u = true) : openT m ⟨s, wd (encD m s (dg k)), wd (encD m k (dg u))⟩ = (k, u, true) := by
  have hm := setB_mach h1
  have hk : keyM m ⟨s, wd (encD m s (dg k)), wd (encD m k (dg u))⟩ = k := encD_back hm (setB_word h2)
  rw [openT_yes (x := ⟨s, wd (encD m s (dg k)), wd (encD m k (dg u))⟩) h1 (seal_msg h1 h2 h3), hk, encD_back hm h3]

set_option maxRecDepth 100000 in
set_option maxHeartbeats 4000000 in
theorem sealOpen_walk (a : Option Addr) (len cap : Nat) (zs : List Int) (w : World) (h : IsRow .u8 w a len cap zs) :
    Calls Tryz.prog 5 #[.slice a len cap] w fun e w' => e = .returned (.bool true) ∧ Below w.heap.size w w' := by
  have hlen : len ≤ 9223372036854775807 := by
    rcases h with ⟨_, rfl, _⟩ | ⟨x, _, hl, hm, _⟩
    · omega
    · unfold maxLen at hm; omega
  by_cases hl : 1048576 < len
  · go_enter Tryz.func5, Tryz.ntmps5
    go_wp2
    go_ret
    exact ⟨rfl, Below.refl _ _⟩
  · go_enter Tryz.func5, Tryz.ntmps5
    go_wp2_with fail
    refine (DrawSealMessage_any a len cap zs _ h (by omega)).mono ?_
    rintro e w1 ⟨m, s, k, u, a1, cap1, ⟨hsm, hrd, -, hb1⟩, hs, hk, hu, rfl⟩
    have o1 := Own.new w1 [.slice a1 m.wheels.rotors.length cap1, .string m.wheels.refl, .string m.rings, .string m.plugs] 27
    have hb1' := hb1.alloc hb1.size (.cells [.slice a1 m.wheels.rotors.length cap1, .string m.wheels.refl, .string m.rings, .string m.plugs].toArray 27)
    have hat := (hsm.at_ hrd).alloc_ (.cells [.slice a1 m.wheels.rotors.length cap1, .string m.wheels.refl, .string m.rings, .string m.plugs].toArray 27)
    clear hrd hb1 h
    go_wp2_with fail
    generalize (w1.alloc (.cells [.slice a1 m.wheels.rotors.length cap1, .string m.wheels.refl, .string m.rings, .string m.plugs].toArray 27)) = W1 at *
    generalize w1.heap.size = B1 at *
    have HT := Lib.hid (fun h1 h2 h3 => sealT_yes (m := m) (s := s) (k := k) (u := u) h1 h2 h3)
    have HF := Lib.hid (fun h => sealT_no (m := m) (s := s) (k := k) (u := u) h)
    refine (implSealMessage_any a1 _ cap1 m s k u _ hat (by omega) (by omega) (by omega)).mono ?_
    rintro e w2 ⟨rfl, hb2⟩
    have o2 := (o1.below hb2 o1.lt).alloc (.cells [.string (sealT m s k u).1.start, .string (sealT m s k u).1.ind, .string (sealT m s k u).1.body].toArray 48)
    have x2 := Own.new w2 [.string (sealT m s k u).1.start, .string (sealT m s k u).1.ind, .string (sealT m s k u).1.body] 48
    have hbw2 := (bt hb1' hb2).alloc (bt hb1' hb2).size (.cells [.string (sealT m s k u).1.start, .string (sealT m s k u).1.ind, .string (sealT m s k u).1.body].toArray 48)
    have hat2 := ((hat.below hb2 (Nat.le_refl _)).more hb2.size).alloc_ (.cells [.string (sealT m s k u).1.start, .string (sealT m s k u).1.ind, .string (sealT m s k u).1.body].toArray 48)
    clear o1 hb1' hat hb2
    have f0 := o2.at_ (i := 0) rfl
    have f1 := o2.at_ (i := 1) rfl
    have f2 := o2.at_ (i := 2) rfl
    have f3 := o2.at_ (i := 3) rfl
    go_wp2_with fail
    generalize (w2.alloc (.cells [.string (sealT m s k u).1.start, .string (sealT m s k u).1.ind, .string (sealT m s k u).1.body].toArray 48)) = W2 at *
    generalize w2.heap.size = B2 at *
    refine (specSealMessage_any a1 _ cap1 m s k u _ hat2 (by omega) (by omega) (by omega)).mono ?_
    rintro e w3 ⟨rfl, hb3⟩
    have o3 := (o2.below hb3 o2.lt).alloc (.cells [.string (sealT m s k u).1.start, .string (sealT m s k u).1.ind, .string (sealT m s k u).1.body].toArray 48)
    have x3 := (x2.below hb3 x2.lt).alloc (.cells [.string (sealT m s k u).1.start, .string (sealT m s k u).1.ind, .string (sealT m s k u).1.body].toArray 48)
    have y3 := Own.new w3 [.string (sealT m s k u).1.start, .string (sealT m s k u).1.ind, .string (sealT m s k u).1.body] 48
    have hbw3 := (bt hbw2 hb3).alloc (bt hbw2 hb3).size (.cells [.string (sealT m s k u).1.start, .string (sealT m s k u).1.ind, .string (sealT m s k u).1.body].toArray 48)
    have hat3 := ((hat2.below hb3 (Nat.le_refl _)).more hb3.size).alloc_ (.cells [.string (sealT m s k u).1.start, .string (sealT m s k u).1.ind, .string (sealT m s k u).1.body].toArray 48)
    clear o2 x2 hbw2 hat2 hb3 f0 f1 f2 f3
    have f0 := o3.at_ (i := 0) rfl
    have f1 := o3.at_ (i := 1) rfl
    have f2 := o3.at_ (i := 2) rfl
    have f3 := o3.at_ (i := 3) rfl
    have f4 := x3.at_ (i := 0) rfl
    have f5 := x3.at_ (i := 1) rfl
    have f6 := x3.at_ (i := 2) rfl
    have f7 := y3.at_ (i := 0) rfl
    have f8 := y3.at_ (i := 1) rfl
    have f9 := y3.at_ (i := 2) rfl
    go_wp2_with fail
    generalize (w3.alloc (.cells [.string (sealT m s k u).1.start, .string (sealT m s k u).1.ind, .string (sealT m s k u).1.body].toArray 48)) = W3 at *
    generalize w3.heap.size = B3 at *
    generalize sealT m s k u = T at *
    by_cases hyes : setB m s = true ∧ setB m k = true ∧ wordB u = true
    · obtain ⟨h1, h2, h3⟩ := hyes
      have HE := HT.out h1 h2 h3
      subst HE
      clear HT HF
      go_wp2_with fail
      refine (rcFits_any a1 _ cap1 m s _ hat3 (by omega)).mono ?_
      rintro e w4 ⟨rfl, hb4⟩
      have o4 := o3.below hb4 o3.lt
      have x4 := x3.below hb4 x3.lt
      have y4 := y3.below hb4 y3.lt
      have hbw4 := bt hbw3 hb4
      have hat4 := (hat3.below hb4 (Nat.le_refl _)).more hb4.size
      clear f0 f1 f2 f3 f4 f5 f6 f7 f8 f9
      clear o3 x3 y3 hbw3 hat3 hb4
      rw [h1]
      have f0 := o4.at_ (i := 0) rfl
      have f1 := o4.at_ (i := 1) rfl
      have f2 := o4.at_ (i := 2) rfl
      have f3 := o4.at_ (i := 3) rfl
      have f4 := x4.at_ (i := 0) rfl
      have f5 := x4.at_ (i := 1) rfl
      have f6 := x4.at_ (i := 2) rfl
      have f7 := y4.at_ (i := 0) rfl
      have f8 := y4.at_ (i := 1) rfl
      have f9 := y4.at_ (i := 2) rfl
      go_wp2_with fail
      refine (rcFits_any a1 _ cap1 m k _ hat4 (by omega)).mono ?_
      rintro e w5 ⟨rfl, hb5⟩
      have o5 := o4.below hb5 o4.lt
      have x5 := x4.below hb5 x4.lt
      have y5 := y4.below hb5 y4.lt
      have hbw5 := bt hbw4 hb5
      have hat5 := (hat4.below hb5 (Nat.le_refl _)).more hb5.size
      clear f0 f1 f2 f3 f4 f5 f6 f7 f8 f9
      clear o4 x4 y4 hbw4 hat4 hb5
      rw [h2]
      have f0 := o5.at_ (i := 0) rfl
      have f1 := o5.at_ (i := 1) rfl
      have f2 := o5.at_ (i := 2) rfl
      have f3 := o5.at_ (i := 3) rfl
      have f4 := x5.at_ (i := 0) rfl
      have f5 := x5.at_ (i := 1) rfl
      have f6 := x5.at_ (i := 2) rfl
      have f7 := y5.at_ (i := 0) rfl
      have f8 := y5.at_ (i := 1) rfl
      have f9 := y5.at_ (i := 2) rfl
      go_wp2_with fail
      refine (implWordValid_any u _ (by omega)).mono ?_
      rintro e w' ⟨rfl, rfl⟩
      rw [h3]
      go_wp2_with fail
      refine (implOpenMessage_any a1 _ cap1 m ⟨s, wd (encD m s (dg k)), wd (encD m k (dg u))⟩ _ hat5 (by simp only; omega) (by simp only; rw [size_wd, len_encD, len_dg]; omega) (by simp only; rw [size_wd, len_encD, len_dg]; omega)).mono ?_
      rintro e w6 ⟨rfl, hb6⟩
      have o6 := o5.below hb6 o5.lt
      have x6 := x5.below hb6 x5.lt
      have y6 := y5.below hb6 y5.lt
      have hbw6 := bt hbw5 hb6
      have hat6 := (hat5.below hb6 (Nat.le_refl _)).more hb6.size
      clear f0 f1 f2 f3 f4 f5 f6 f7 f8 f9
      clear o5 x5 y5 hbw5 hat5 hb6
      rw [open_seal h1 h2 h3]
      have f0 := o6.at_ (i := 0) rfl
      have f1 := o6.at_ (i := 1) rfl
      have f2 := o6.at_ (i := 2) rfl
      have f3 := o6.at_ (i := 3) rfl
      have f4 := x6.at_ (i := 0) rfl
      have f5 := x6.at_ (i := 1) rfl
      have f6 := x6.at_ (i := 2) rfl
      have f7 := y6.at_ (i := 0) rfl
      have f8 := y6.at_ (i := 1) rfl
      have f9 := y6.at_ (i := 2) rfl
      go_wp2_with fail
      refine (implMessageValid_any ⟨s, wd (encD m s (dg k)), wd (encD m k (dg u))⟩ _ (by simp only; omega) (by simp only; rw [size_wd, len_encD, len_dg]; omega) (by simp only; rw [size_wd, len_encD, len_dg]; omega)).mono ?_
      rintro e w7 ⟨rfl, hb7⟩
      have o7 := o6.below hb7 o6.lt
      have x7 := x6.below hb7 x6.lt
      have y7 := y6.below hb7 y6.lt
      have hbw7 := bt hbw6 hb7
      have hat7 := (hat6.below hb7 (Nat.le_refl _)).more hb7.size
      clear f0 f1 f2 f3 f4 f5 f6 f7 f8 f9
      clear o6 x6 y6 hbw6 hat6 hb7
      rw [seal_msg h1 h2 h3]
      have f0 := o7.at_ (i := 0) rfl
      have f1 := o7.at_ (i := 1) rfl
      have f2 := o7.at_ (i := 2) rfl
      have f3 := o7.at_ (i := 3) rfl
      have f4 := x7.at_ (i := 0) rfl
      have f5 := x7.at_ (i := 1) rfl
      have f6 := x7.at_ (i := 2) rfl
      have f7 := y7.at_ (i := 0) rfl
      have f8 := y7.at_ (i := 1) rfl
      have f9 := y7.at_ (i := 2) rfl
      have te : (((wd (encD m k (dg u))).size : Int) == (u.size : Int)) = true := by rw [size_wd, len_encD, len_dg]; simp
      go_wp2_with fail
      go_ret
      exact ⟨by simp, hbw7⟩
    · have HE := HF.out hyes
      subst HE
      clear HT HF
      cases h1 : setB m s
      · clear hyes
        go_wp2_with fail
        refine (rcFits_any a1 _ cap1 m s _ hat3 (by omega)).mono ?_
        rintro e w4 ⟨rfl, hb4⟩
        have o4 := o3.below hb4 o3.lt
        have x4 := x3.below hb4 x3.lt
        have y4 := y3.below hb4 y3.lt
        have hbw4 := bt hbw3 hb4
        have hat4 := (hat3.below hb4 (Nat.le_refl _)).more hb4.size
        clear f0 f1 f2 f3 f4 f5 f6 f7 f8 f9
        clear o3 x3 y3 hbw3 hat3 hb4
        rw [h1]
        have f0 := o4.at_ (i := 0) rfl
        have f1 := o4.at_ (i := 1) rfl
        have f2 := o4.at_ (i := 2) rfl
        have f3 := o4.at_ (i := 3) rfl
        have f4 := x4.at_ (i := 0) rfl
        have f5 := x4.at_ (i := 1) rfl
        have f6 := x4.at_ (i := 2) rfl
        have f7 := y4.at_ (i := 0) rfl
        have f8 := y4.at_ (i := 1) rfl
        have f9 := y4.at_ (i := 2) rfl
        go_wp2_with fail
        refine (rcFits_any a1 _ cap1 m s _ hat4 (by omega)).mono ?_
        rintro e w5 ⟨rfl, hb5⟩
        have o5 := o4.below hb5 o4.lt
        have x5 := x4.below hb5 x4.lt
        have y5 := y4.below hb5 y4.lt
        have hbw5 := bt hbw4 hb5
        have hat5 := (hat4.below hb5 (Nat.le_refl _)).more hb5.size
        clear f0 f1 f2 f3 f4 f5 f6 f7 f8 f9
        clear o4 x4 y4 hbw4 hat4 hb5
        rw [h1]
        have f0 := o5.at_ (i := 0) rfl
        have f1 := o5.at_ (i := 1) rfl
        have f2 := o5.at_ (i := 2) rfl
        have f3 := o5.at_ (i := 3) rfl
        have f4 := x5.at_ (i := 0) rfl
        have f5 := x5.at_ (i := 1) rfl
        have f6 := x5.at_ (i := 2) rfl
        have f7 := y5.at_ (i := 0) rfl
        have f8 := y5.at_ (i := 1) rfl
        have f9 := y5.at_ (i := 2) rfl
        go_wp2_with fail
        go_ret
        exact ⟨by simp, hbw5⟩
      cases h2 : setB m k
      · clear hyes
        go_wp2_with fail
        refine (rcFits_any a1 _ cap1 m s _ hat3 (by omega)).mono ?_
        rintro e w4 ⟨rfl, hb4⟩
        have o4 := o3.below hb4 o3.lt
        have x4 := x3.below hb4 x3.lt
        have y4 := y3.below hb4 y3.lt
        have hbw4 := bt hbw3 hb4
        have hat4 := (hat3.below hb4 (Nat.le_refl _)).more hb4.size
        clear f0 f1 f2 f3 f4 f5 f6 f7 f8 f9
        clear o3 x3 y3 hbw3 hat3 hb4
        rw [h1]
        have f0 := o4.at_ (i := 0) rfl
        have f1 := o4.at_ (i := 1) rfl
        have f2 := o4.at_ (i := 2) rfl
        have f3 := o4.at_ (i := 3) rfl
        have f4 := x4.at_ (i := 0) rfl
        have f5 := x4.at_ (i := 1) rfl
        have f6 := x4.at_ (i := 2) rfl
        have f7 := y4.at_ (i := 0) rfl
        have f8 := y4.at_ (i := 1) rfl
        have f9 := y4.at_ (i := 2) rfl
        go_wp2_with fail
        refine (rcFits_any a1 _ cap1 m k _ hat4 (by omega)).mono ?_
        rintro e w5 ⟨rfl, hb5⟩
        have o5 := o4.below hb5 o4.lt
        have x5 := x4.below hb5 x4.lt
        have y5 := y4.below hb5 y4.lt
        have hbw5 := bt hbw4 hb5
        have hat5 := (hat4.below hb5 (Nat.le_refl _)).more hb5.size
        clear f0 f1 f2 f3 f4 f5 f6 f7 f8 f9
        clear o4 x4 y4 hbw4 hat4 hb5
        rw [h2]
        have f0 := o5.at_ (i := 0) rfl
        have f1 := o5.at_ (i := 1) rfl
        have f2 := o5.at_ (i := 2) rfl
        have f3 := o5.at_ (i := 3) rfl
        have f4 := x5.at_ (i := 0) rfl
        have f5 := x5.at_ (i := 1) rfl
        have f6 := x5.at_ (i := 2) rfl
        have f7 := y5.at_ (i := 0) rfl
        have f8 := y5.at_ (i := 1) rfl
        have f9 := y5.at_ (i := 2) rfl
        go_wp2_with fail
        refine (rcFits_any a1 _ cap1 m s _ hat5 (by omega)).mono ?_
        rintro e w6 ⟨rfl, hb6⟩
        have o6 := o5.below hb6 o5.lt
        have x6 := x5.below hb6 x5.lt
        have y6 := y5.below hb6 y5.lt
        have hbw6 := bt hbw5 hb6
        have hat6 := (hat5.below hb6 (Nat.le_refl _)).more hb6.size
        clear f0 f1 f2 f3 f4 f5 f6 f7 f8 f9
        clear o5 x5 y5 hbw5 hat5 hb6
        rw [h1]
        have f0 := o6.at_ (i := 0) rfl
        have f1 := o6.at_ (i := 1) rfl
        have f2 := o6.at_ (i := 2) rfl
        have f3 := o6.at_ (i := 3) rfl
        have f4 := x6.at_ (i := 0) rfl
        have f5 := x6.at_ (i := 1) rfl
        have f6 := x6.at_ (i := 2) rfl
        have f7 := y6.at_ (i := 0) rfl
        have f8 := y6.at_ (i := 1) rfl
        have f9 := y6.at_ (i := 2) rfl
        go_wp2_with fail
        refine (rcFits_any a1 _ cap1 m k _ hat6 (by omega)).mono ?_
        rintro e w7 ⟨rfl, hb7⟩
        have o7 := o6.below hb7 o6.lt
        have x7 := x6.below hb7 x6.lt
        have y7 := y6.below hb7 y6.lt
        have hbw7 := bt hbw6 hb7
        have hat7 := (hat6.below hb7 (Nat.le_refl _)).more hb7.size
        clear f0 f1 f2 f3 f4 f5 f6 f7 f8 f9
        clear o6 x6 y6 hbw6 hat6 hb7
        rw [h2]
        have f0 := o7.at_ (i := 0) rfl
        have f1 := o7.at_ (i := 1) rfl
        have f2 := o7.at_ (i := 2) rfl
        have f3 := o7.at_ (i := 3) rfl
        have f4 := x7.at_ (i := 0) rfl
        have f5 := x7.at_ (i := 1) rfl
        have f6 := x7.at_ (i := 2) rfl
        have f7 := y7.at_ (i := 0) rfl
        have f8 := y7.at_ (i := 1) rfl
        have f9 := y7.at_ (i := 2) rfl
        go_wp2_with fail
        go_ret
        exact ⟨by simp, hbw7⟩
      have h3 : wordB u = false := by simpa [h1, h2] using hyes
      clear hyes
      go_wp2_with fail
      refine (rcFits_any a1 _ cap1 m s _ hat3 (by omega)).mono ?_
      rintro e w4 ⟨rfl, hb4⟩
      have o4 := o3.below hb4 o3.lt
      have x4 := x3.below hb4 x3.lt
      have y4 := y3.below hb4 y3.lt
      have hbw4 := bt hbw3 hb4
      have hat4 := (hat3.below hb4 (Nat.le_refl _)).more hb4.size
      clear f0 f1 f2 f3 f4 f5 f6 f7 f8 f9
      clear o3 x3 y3 hbw3 hat3 hb4
      rw [h1]
      have f0 := o4.at_ (i := 0) rfl
      have f1 := o4.at_ (i := 1) rfl
      have f2 := o4.at_ (i := 2) rfl
      have f3 := o4.at_ (i := 3) rfl
      have f4 := x4.at_ (i := 0) rfl
      have f5 := x4.at_ (i := 1) rfl
      have f6 := x4.at_ (i := 2) rfl
      have f7 := y4.at_ (i := 0) rfl
      have f8 := y4.at_ (i := 1) rfl
      have f9 := y4.at_ (i := 2) rfl
      go_wp2_with fail
      refine (rcFits_any a1 _ cap1 m k _ hat4 (by omega)).mono ?_
      rintro e w5 ⟨rfl, hb5⟩
      have o5 := o4.below hb5 o4.lt
      have x5 := x4.below hb5 x4.lt
      have y5 := y4.below hb5 y4.lt
      have hbw5 := bt hbw4 hb5
      have hat5 := (hat4.below hb5 (Nat.le_refl _)).more hb5.size
      clear f0 f1 f2 f3 f4 f5 f6 f7 f8 f9
      clear o4 x4 y4 hbw4 hat4 hb5
      rw [h2]
      have f0 := o5.at_ (i := 0) rfl
      have f1 := o5.at_ (i := 1) rfl
      have f2 := o5.at_ (i := 2) rfl
      have f3 := o5.at_ (i := 3) rfl
      have f4 := x5.at_ (i := 0) rfl
      have f5 := x5.at_ (i := 1) rfl
      have f6 := x5.at_ (i := 2) rfl
      have f7 := y5.at_ (i := 0) rfl
      have f8 := y5.at_ (i := 1) rfl
      have f9 := y5.at_ (i := 2) rfl
      go_wp2_with fail
      refine (implWordValid_any u _ (by omega)).mono ?_
      rintro e w' ⟨rfl, rfl⟩
      rw [h3]
      go_wp2_with fail
      refine (rcFits_any a1 _ cap1 m s _ hat5 (by omega)).mono ?_
      rintro e w6 ⟨rfl, hb6⟩
      have o6 := o5.below hb6 o5.lt
      have x6 := x5.below hb6 x5.lt
      have y6 := y5.below hb6 y5.lt
      have hbw6 := bt hbw5 hb6
      have hat6 := (hat5.below hb6 (Nat.le_refl _)).more hb6.size
      clear f0 f1 f2 f3 f4 f5 f6 f7 f8 f9
      clear o5 x5 y5 hbw5 hat5 hb6
      rw [h1]
      have f0 := o6.at_ (i := 0) rfl
      have f1 := o6.at_ (i := 1) rfl
      have f2 := o6.at_ (i := 2) rfl
      have f3 := o6.at_ (i := 3) rfl
      have f4 := x6.at_ (i := 0) rfl
      have f5 := x6.at_ (i := 1) rfl
      have f6 := x6.at_ (i := 2) rfl
      have f7 := y6.at_ (i := 0) rfl
      have f8 := y6.at_ (i := 1) rfl
      have f9 := y6.at_ (i := 2) rfl
      go_wp2_with fail
      refine (rcFits_any a1 _ cap1 m k _ hat6 (by omega)).mono ?_
      rintro e w7 ⟨rfl, hb7⟩
      have o7 := o6.below hb7 o6.lt
      have x7 := x6.below hb7 x6.lt
      have y7 := y6.below hb7 y6.lt
      have hbw7 := bt hbw6 hb7
      have hat7 := (hat6.below hb7 (Nat.le_refl _)).more hb7.size
      clear f0 f1 f2 f3 f4 f5 f6 f7 f8 f9
      clear o6 x6 y6 hbw6 hat6 hb7
      rw [h2]
      have f0 := o7.at_ (i := 0) rfl
      have f1 := o7.at_ (i := 1) rfl
      have f2 := o7.at_ (i := 2) rfl
      have f3 := o7.at_ (i := 3) rfl
      have f4 := x7.at_ (i := 0) rfl
      have f5 := x7.at_ (i := 1) rfl
      have f6 := x7.at_ (i := 2) rfl
      have f7 := y7.at_ (i := 0) rfl
      have f8 := y7.at_ (i := 1) rfl
      have f9 := y7.at_ (i := 2) rfl
      go_wp2_with fail
      refine (implWordValid_any u _ (by omega)).mono ?_
      rintro e w' ⟨rfl, rfl⟩
      rw [h3]
      go_wp2_with fail
      go_ret
      exact ⟨by simp, hbw7⟩
end Go.Proofs.YtbeohccbflhdiaaGreat
