/- Several of my texts in one: OpenW. -/
import Derived.Test.YtbeohccbflhdiaaGreatM18
import Derived.Test.YtbeohccbflhdiaaGreatM20
/- The walk of the law that an opened message is sealed again. -/
namespace Go.Proofs.YtbeohccbflhdiaaGreat
open Go.RowKit

theorem seal_open {m : Mach} {x : Msg} (h1 : setB m x.start = true) (h2 : msgB x = true) : sealT m x.start (keyM m x) (wd (encD m (keyM m x) (dg x.body))) = (x, true) := by
  have hm := setB_mach h1
  have hw := msgB_word h2
  rw [sealT_yes h1 (setB_keyM h1 h2) (word_wd (by rw [len_encD, len_dg]; exact wordB_size hw.2.1))]
  rw [encD_back hm hw.2.1]
  show ((⟨x.start, wd (encD m x.start (dg (wd (encD m x.start (dg x.ind))))), x.body⟩ : Msg), true) = _
  rw [encD_back hm hw.1]

set_option maxRecDepth 100000 in
set_option maxHeartbeats 4000000 in
theorem openSeal_walk (a : Option Addr) (len cap : Nat) (zs : List Int) (w : World) (h : IsRow .u8 w a len cap zs) :
    Calls Tryz.prog 6 #[.slice a len cap] w fun e w' => e = .returned (.bool true) ∧ Below w.heap.size w w' := by
  have hlen : len ≤ 9223372036854775807 := by
    rcases h with ⟨_, rfl, _⟩ | ⟨x, _, hl, hm, _⟩
    · omega
    · unfold maxLen at hm; omega
  by_cases hl : 1048576 < len
  · go_enter Tryz.func6, Tryz.ntmps6
    go_wp2
    go_ret
    exact ⟨rfl, Below.refl _ _⟩
  · go_enter Tryz.func6, Tryz.ntmps6
    go_wp2_with fail
    refine (DrawOpenMessage_any a len cap zs _ h (by omega)).mono ?_
    rintro e w1 ⟨m, x, a1, cap1, ⟨hsm, hrd, -, hb1⟩, hz0, hz1, hz2, rfl⟩
    have o3 := (Own.new w1 [.slice a1 m.wheels.rotors.length cap1, .string m.wheels.refl, .string m.rings, .string m.plugs] 27).alloc (.cells [.string x.start, .string x.ind, .string x.body].toArray 48)
    have x3 := Own.new (w1.alloc (.cells [.slice a1 m.wheels.rotors.length cap1, .string m.wheels.refl, .string m.rings, .string m.plugs].toArray 27)) [.string x.start, .string x.ind, .string x.body] 48
    have hbw3 := (hb1.alloc hb1.size (.cells [.slice a1 m.wheels.rotors.length cap1, .string m.wheels.refl, .string m.rings, .string m.plugs].toArray 27)).alloc (by have := hb1.size; simp; omega) (.cells [.string x.start, .string x.ind, .string x.body].toArray 48)
    have hat3 := ((hsm.at_ hrd).alloc_ (.cells [.slice a1 m.wheels.rotors.length cap1, .string m.wheels.refl, .string m.rings, .string m.plugs].toArray 27)).alloc_ (.cells [.string x.start, .string x.ind, .string x.body].toArray 48)
    rw [World.size_alloc] at x3
    clear hrd hb1 h
    go_upto_region 4 with (fail)
    generalize ((w1.alloc (.cells [.slice a1 m.wheels.rotors.length cap1, .string m.wheels.refl, .string m.rings, .string m.plugs].toArray 27)).alloc (.cells [.string x.start, .string x.ind, .string x.body].toArray 48)) = W3 at *
    generalize w1.heap.size = B1 at *
    have HT := Lib.hid (fun h1 h2 => openT_yes (m := m) (x := x) h1 h2)
    have HF := Lib.hid (fun h => openT_no (m := m) (x := x) h)
    have f0 := o3.at_ (i := 0) rfl
    have f1 := o3.at_ (i := 1) rfl
    have f2 := o3.at_ (i := 2) rfl
    have f3 := o3.at_ (i := 3) rfl
    have f4 := x3.at_ (i := 0) rfl
    have f5 := x3.at_ (i := 1) rfl
    have f6 := x3.at_ (i := 2) rfl
    go_wp2_with fail
    refine (implOpenMessage_any a1 _ cap1 m x _ hat3 (by omega) (by omega) (by omega)).mono ?_
    rintro e w4 ⟨rfl, hb4⟩
    have o4 := o3.below hb4 o3.lt
    have x4 := x3.below hb4 x3.lt
    have hbw4 := bt hbw3 hb4
    have hat4 := (hat3.below hb4 (Nat.le_refl _)).more hb4.size
    clear f0 f1 f2 f3 f4 f5 f6
    clear o3 x3 hbw3 hat3 hb4
    have f0 := o4.at_ (i := 0) rfl
    have f1 := o4.at_ (i := 1) rfl
    have f2 := o4.at_ (i := 2) rfl
    have f3 := o4.at_ (i := 3) rfl
    have f4 := x4.at_ (i := 0) rfl
    have f5 := x4.at_ (i := 1) rfl
    have f6 := x4.at_ (i := 2) rfl
    go_wp2_with fail
    refine (specOpenMessage_any a1 _ cap1 m x _ hat4 (by omega) (by omega) (by omega)).mono ?_
    rintro e w5 ⟨rfl, hb5⟩
    have o5 := o4.below hb5 o4.lt
    have x5 := x4.below hb5 x4.lt
    have hbw5 := bt hbw4 hb5
    have hat5 := (hat4.below hb5 (Nat.le_refl _)).more hb5.size
    clear f0 f1 f2 f3 f4 f5 f6
    clear o4 x4 hbw4 hat4 hb5
    have f0 := o5.at_ (i := 0) rfl
    have f1 := o5.at_ (i := 1) rfl
    have f2 := o5.at_ (i := 2) rfl
    have f3 := o5.at_ (i := 3) rfl
    have f4 := x5.at_ (i := 0) rfl
    have f5 := x5.at_ (i := 1) rfl
    have f6 := x5.at_ (i := 2) rfl
    generalize openT m x = T at *
    by_cases hyes : setB m x.start = true ∧ msgB x = true
    · skip
      obtain ⟨h1, h2⟩ := hyes
      have HE := HT.out h1 h2
      subst HE
      clear HT HF
      have hkz : (keyM m x).size ≤ 200 := wordB_size (setB_word (setB_keyM h1 h2))
      have hbz : (wd (encD m (keyM m x) (dg x.body))).size ≤ 300 := by rw [size_wd, len_encD, len_dg]; omega
      have HSO := Lib.hid (seal_open h1 h2)
      go_wp2_with fail
      refine (implMessageValid_any x _ (by omega) (by omega) (by omega)).mono ?_
      rintro e w6 ⟨rfl, hb6⟩
      have o6 := o5.below hb6 o5.lt
      have x6 := x5.below hb6 x5.lt
      have hbw6 := bt hbw5 hb6
      have hat6 := (hat5.below hb6 (Nat.le_refl _)).more hb6.size
      clear f0 f1 f2 f3 f4 f5 f6
      clear o5 x5 hbw5 hat5 hb6
      rw [h2]
      have f0 := o6.at_ (i := 0) rfl
      have f1 := o6.at_ (i := 1) rfl
      have f2 := o6.at_ (i := 2) rfl
      have f3 := o6.at_ (i := 3) rfl
      have f4 := x6.at_ (i := 0) rfl
      have f5 := x6.at_ (i := 1) rfl
      have f6 := x6.at_ (i := 2) rfl
      go_wp2_with fail
      refine (rcFits_any a1 _ cap1 m x.start _ hat6 (by omega)).mono ?_
      rintro e w7 ⟨rfl, hb7⟩
      have o7 := o6.below hb7 o6.lt
      have x7 := x6.below hb7 x6.lt
      have hbw7 := bt hbw6 hb7
      have hat7 := (hat6.below hb7 (Nat.le_refl _)).more hb7.size
      clear f0 f1 f2 f3 f4 f5 f6
      clear o6 x6 hbw6 hat6 hb7
      rw [h1]
      have f0 := o7.at_ (i := 0) rfl
      have f1 := o7.at_ (i := 1) rfl
      have f2 := o7.at_ (i := 2) rfl
      have f3 := o7.at_ (i := 3) rfl
      have f4 := x7.at_ (i := 0) rfl
      have f5 := x7.at_ (i := 1) rfl
      have f6 := x7.at_ (i := 2) rfl
      go_wp2_with fail
      refine (implSealMessage_any a1 _ cap1 m x.start (keyM m x) (wd (encD m (keyM m x) (dg x.body))) _ hat7 (by omega) (by omega) (by omega)).mono ?_
      rintro e w8 ⟨rfl, hb8⟩
      rw [HSO.out]
      have xz := (x7.below hb8 x7.lt).alloc (.cells [.string x.start, .string x.ind, .string x.body].toArray 48)
      have yz := Own.new w8 [.string x.start, .string x.ind, .string x.body] 48
      have hbz2 := (bt hbw7 hb8).alloc (bt hbw7 hb8).size (.cells [.string x.start, .string x.ind, .string x.body].toArray 48)
      clear f0 f1 f2 f3 f4 f5 f6
      have f0 := xz.at_ (i := 0) rfl
      have f1 := xz.at_ (i := 1) rfl
      have f2 := xz.at_ (i := 2) rfl
      have f3 := yz.at_ (i := 0) rfl
      have f4 := yz.at_ (i := 1) rfl
      have f5 := yz.at_ (i := 2) rfl
      go_wp2_with fail
      go_ret
      exact ⟨by simp, hbz2⟩
    · have HE := HF.out hyes
      subst HE
      clear HT HF
      cases h2 : msgB x
      · clear hyes
        go_wp2_with fail
        refine (implMessageValid_any x _ (by omega) (by omega) (by omega)).mono ?_
        rintro e w6 ⟨rfl, hb6⟩
        have o6 := o5.below hb6 o5.lt
        have x6 := x5.below hb6 x5.lt
        have hbw6 := bt hbw5 hb6
        have hat6 := (hat5.below hb6 (Nat.le_refl _)).more hb6.size
        clear f0 f1 f2 f3 f4 f5 f6
        clear o5 x5 hbw5 hat5 hb6
        rw [h2]
        have f0 := o6.at_ (i := 0) rfl
        have f1 := o6.at_ (i := 1) rfl
        have f2 := o6.at_ (i := 2) rfl
        have f3 := o6.at_ (i := 3) rfl
        have f4 := x6.at_ (i := 0) rfl
        have f5 := x6.at_ (i := 1) rfl
        have f6 := x6.at_ (i := 2) rfl
        go_wp2_with fail
        refine (implMessageValid_any x _ (by omega) (by omega) (by omega)).mono ?_
        rintro e w7 ⟨rfl, hb7⟩
        have o7 := o6.below hb7 o6.lt
        have x7 := x6.below hb7 x6.lt
        have hbw7 := bt hbw6 hb7
        have hat7 := (hat6.below hb7 (Nat.le_refl _)).more hb7.size
        clear f0 f1 f2 f3 f4 f5 f6
        clear o6 x6 hbw6 hat6 hb7
        rw [h2]
        have f0 := o7.at_ (i := 0) rfl
        have f1 := o7.at_ (i := 1) rfl
        have f2 := o7.at_ (i := 2) rfl
        have f3 := o7.at_ (i := 3) rfl
        have f4 := x7.at_ (i := 0) rfl
        have f5 := x7.at_ (i := 1) rfl
        have f6 := x7.at_ (i := 2) rfl
        go_wp2_with fail
        go_ret
        exact ⟨by simp, hbw7⟩
      have h1 : setB m x.start = false := by simpa [h2] using hyes
      clear hyes
      go_wp2_with fail
      refine (implMessageValid_any x _ (by omega) (by omega) (by omega)).mono ?_
      rintro e w6 ⟨rfl, hb6⟩
      have o6 := o5.below hb6 o5.lt
      have x6 := x5.below hb6 x5.lt
      have hbw6 := bt hbw5 hb6
      have hat6 := (hat5.below hb6 (Nat.le_refl _)).more hb6.size
      clear f0 f1 f2 f3 f4 f5 f6
      clear o5 x5 hbw5 hat5 hb6
      rw [h2]
      have f0 := o6.at_ (i := 0) rfl
      have f1 := o6.at_ (i := 1) rfl
      have f2 := o6.at_ (i := 2) rfl
      have f3 := o6.at_ (i := 3) rfl
      have f4 := x6.at_ (i := 0) rfl
      have f5 := x6.at_ (i := 1) rfl
      have f6 := x6.at_ (i := 2) rfl
      go_wp2_with fail
      refine (rcFits_any a1 _ cap1 m x.start _ hat6 (by omega)).mono ?_
      rintro e w7 ⟨rfl, hb7⟩
      have o7 := o6.below hb7 o6.lt
      have x7 := x6.below hb7 x6.lt
      have hbw7 := bt hbw6 hb7
      have hat7 := (hat6.below hb7 (Nat.le_refl _)).more hb7.size
      clear f0 f1 f2 f3 f4 f5 f6
      clear o6 x6 hbw6 hat6 hb7
      rw [h1]
      have f0 := o7.at_ (i := 0) rfl
      have f1 := o7.at_ (i := 1) rfl
      have f2 := o7.at_ (i := 2) rfl
      have f3 := o7.at_ (i := 3) rfl
      have f4 := x7.at_ (i := 0) rfl
      have f5 := x7.at_ (i := 1) rfl
      have f6 := x7.at_ (i := 2) rfl
      go_wp2_with fail
      refine (implMessageValid_any x _ (by omega) (by omega) (by omega)).mono ?_
      rintro e w8 ⟨rfl, hb8⟩
      have o8 := o7.below hb8 o7.lt
      have x8 := x7.below hb8 x7.lt
      have hbw8 := bt hbw7 hb8
      have hat8 := (hat7.below hb8 (Nat.le_refl _)).more hb8.size
      clear f0 f1 f2 f3 f4 f5 f6
      clear o7 x7 hbw7 hat7 hb8
      rw [h2]
      have f0 := o8.at_ (i := 0) rfl
      have f1 := o8.at_ (i := 1) rfl
      have f2 := o8.at_ (i := 2) rfl
      have f3 := o8.at_ (i := 3) rfl
      have f4 := x8.at_ (i := 0) rfl
      have f5 := x8.at_ (i := 1) rfl
      have f6 := x8.at_ (i := 2) rfl
      go_wp2_with fail
      refine (rcFits_any a1 _ cap1 m x.start _ hat8 (by omega)).mono ?_
      rintro e w9 ⟨rfl, hb9⟩
      have o9 := o8.below hb9 o8.lt
      have x9 := x8.below hb9 x8.lt
      have hbw9 := bt hbw8 hb9
      have hat9 := (hat8.below hb9 (Nat.le_refl _)).more hb9.size
      clear f0 f1 f2 f3 f4 f5 f6
      clear o8 x8 hbw8 hat8 hb9
      rw [h1]
      have f0 := o9.at_ (i := 0) rfl
      have f1 := o9.at_ (i := 1) rfl
      have f2 := o9.at_ (i := 2) rfl
      have f3 := o9.at_ (i := 3) rfl
      have f4 := x9.at_ (i := 0) rfl
      have f5 := x9.at_ (i := 1) rfl
      have f6 := x9.at_ (i := 2) rfl
      go_wp2_with fail
      go_ret
      exact ⟨by simp, hbw9⟩
end Go.Proofs.YtbeohccbflhdiaaGreat
