/- Several of my texts in one: ProdW. -/
import Derived.Test.YtbeohccbflhdiaaGreatM25
import Derived.Test.YtbeohccbflhdiaaGreatM23
import Derived.Test.YtbeohccbflhdiaaGreatM24
import Derived.Test.YtbeohccbflhdiaaGreatM16
/- The walk of the law that a product is two keys in sequence. -/
namespace Go.Proofs.YtbeohccbflhdiaaGreat
open Go.RowKit

theorem at_prodS (m : Mach) (v : ByteArray) {n k : Nat} (h : k < n) : (sv (prodS m v n))[k]? = some (.string (wd (prodP m v k))) := by
  simp [sv, prodS, h]
set_option maxRecDepth 100000 in
set_option maxHeartbeats 4000000 in
theorem productsKeys_walk (a : Option Addr) (len cap : Nat) (zs : List Int) (w : World) (h : IsRow .u8 w a len cap zs) :
    Calls Tryz.prog 4 #[.slice a len cap] w fun e w' => e = .returned (.bool true) ∧ Below w.heap.size w w' := by
  have hlen : len ≤ 9223372036854775807 := by
    rcases h with ⟨_, rfl, _⟩ | ⟨x, _, hl, hm, _⟩
    · omega
    · unfold maxLen at hm; omega
  by_cases hl : 1048576 < len
  · go_enter Tryz.func4, Tryz.ntmps4
    go_wp2
    go_ret
    exact ⟨rfl, Below.refl _ _⟩
  · go_enter Tryz.func4, Tryz.ntmps4
    go_wp2_with fail
    refine (DrawDayProducts_any a len cap zs _ h (by omega)).mono ?_
    rintro e w1 ⟨m, v, a1, cap1, ⟨hsm, hrd, -, hb1⟩, hv, rfl⟩
    have o1 := Own.new w1 [.slice a1 m.wheels.rotors.length cap1, .string m.wheels.refl, .string m.rings, .string m.plugs] 27
    have hb1' := hb1.alloc hb1.size (.cells [.slice a1 m.wheels.rotors.length cap1, .string m.wheels.refl, .string m.rings, .string m.plugs].toArray 27)
    have hat := (hsm.at_ hrd).alloc_ (.cells [.slice a1 m.wheels.rotors.length cap1, .string m.wheels.refl, .string m.rings, .string m.plugs].toArray 27)
    clear hrd hb1 h
    go_wp2_with fail
    generalize (w1.alloc (.cells [.slice a1 m.wheels.rotors.length cap1, .string m.wheels.refl, .string m.rings, .string m.plugs].toArray 27)) = W1 at *
    generalize w1.heap.size = B1 at *
    refine (implDayProducts_any a1 _ cap1 m v _ hat (by omega)).mono ?_
    rintro e w2 ⟨lv, rfl, hol, hb2⟩
    have o2 := o1.below hb2 o1.lt
    have hbw2 := bt hb1' hb2
    have hat2 := (hat.below hb2 (Nat.le_refl _)).more hb2.size
    obtain ⟨al, cl, rfl, hlc, hrl, hgl⟩ := hol.val
    clear o1 hb1' hat hb2 hol
    have f0 := o2.at_ (i := 0) rfl
    have f1 := o2.at_ (i := 1) rfl
    have f2 := o2.at_ (i := 2) rfl
    have f3 := o2.at_ (i := 3) rfl
    go_wp2_with fail
    refine (specDayProducts_any a1 _ cap1 m v _ hat2 (by omega)).mono ?_
    rintro e w3 ⟨lv2, rfl, hol2, hb3⟩
    have o3 := o2.below hb3 o2.lt
    have hbw3 := bt hbw2 hb3
    have hat3 := (hat2.below hb3 (Nat.le_refl _)).more hb3.size
    obtain ⟨al2, cl2, rfl, hlc2, hrl2, -⟩ := hol2.val
    have hrl3 := (hrl.below hb3 (Nat.le_refl _)).more hb3.size
    have hpl : (prodT m v).length ≤ 1048576 := by
      unfold prodT; split
      · rw [len_prodS]; omega
      · simp
    have hgl3 : (prodT m v).length = 0 ∨ ∃ g, al = some ⟨g, 0, none⟩ ∧ Own w3 g (sv (prodT m v)) := hgl.imp id fun ⟨g, h1, _, h2⟩ => ⟨g, h1, h2.below hb3 h2.lt⟩
    clear o2 hbw2 hat2 hrl hol2 hgl f0 f1 f2 f3 hb3
    go_wp2_with fail
    refine (rcTexts_any al al2 cl cl2 (prodT m v) (prodT m v) _ hrl3 hrl2 hpl).mono ?_
    rintro e w' ⟨rfl, n4, rfl⟩
    rw [show decide (prodT m v = prodT m v) = true from decide_eq_true rfl]
    have o4 := o3.drewN n4
    have hbw4 := bel_drewN hbw3 n4
    have hat4 : MachAt (w3.drewN n4) (w3.drewN n4).heap.size a1 m.wheels.rotors.length m := hat3.keep (fun _ _ => rfl)
    have hrl4 : Reads (w3.drewN n4) (w3.drewN n4).heap.size al (sv (prodT m v)) := hrl3
    have hgl4 : (prodT m v).length = 0 ∨ ∃ g, al = some ⟨g, 0, none⟩ ∧ Own (w3.drewN n4) g (sv (prodT m v)) := hgl3.imp id fun ⟨g, h1, h2⟩ => ⟨g, h1, h2.drewN n4⟩
    generalize w3.drewN n4 = w4 at *
    clear o3 hbw3 hat3 hrl3 hrl2 hgl3
    have f0 := o4.at_ (i := 0) rfl
    have f1 := o4.at_ (i := 1) rfl
    have f2 := o4.at_ (i := 2) rfl
    have f3 := o4.at_ (i := 3) rfl
    go_wp2_with fail
    refine (rcFits_any a1 _ cap1 m v _ hat4 (by omega)).mono ?_
    rintro e w5 ⟨rfl, hb5⟩
    have o5 := o4.below hb5 o4.lt
    have hbw5 := bt hbw4 hb5
    have hat5 := (hat4.below hb5 (Nat.le_refl _)).more hb5.size
    have hrl5 := (hrl4.below hb5 (Nat.le_refl _)).more hb5.size
    have hgl5 : (prodT m v).length = 0 ∨ ∃ g, al = some ⟨g, 0, none⟩ ∧ Own w5 g (sv (prodT m v)) := hgl4.imp id fun ⟨g, h1, h2⟩ => ⟨g, h1, h2.below hb5 h2.lt⟩
    clear o4 hbw4 hat4 hrl4 hgl4 hb5 f0 f1 f2 f3
    have f0 := o5.at_ (i := 0) rfl
    have f1 := o5.at_ (i := 1) rfl
    have f2 := o5.at_ (i := 2) rfl
    have f3 := o5.at_ (i := 3) rfl
    cases hsb : setB m v with
    | true =>
      have hmb := setB_mach hsb
      have hv3 : v.size ≤ 3 := by rw [setB_len hsb]; exact (machB_fit hmb).three
      have hv1 : 1 ≤ v.size := by rw [setB_len hsb]; exact (machB_fit hmb).one
      have hp1 := prodT_yes hsb
      rw [hp1, len_prodS] at hgl5 hlc ⊢
      obtain ⟨gP, rfl, og5⟩ := hgl5.resolve_left (by omega)
      obtain ⟨q, hq⟩ : ∃ q : Nat, q = 2 * v.size := ⟨_, rfl⟩
      have hmul : IntKind.i64.wrap (2 * (v.size : Int)) = (q : Int) := by rw [hq]; rw [IntWalk.i64_in _ (by omega)]; omega
      have HQ := Lib.hid hq
      have hq6 : q ≤ 60 := by omega
      clear hq hp1 hrl5 hpl hlc2
      have hkp := implKeyPerms_any a1 _ cap1 m v (q : Int) w5 hat5 (by omega)
      rw [keyT_yes hsb hq6] at hkp
      go_wp2_with fail
      refine hkp.mono ?_
      rintro e w6 ⟨lk, rfl, hok, hb6⟩
      rw [len_keyS] at hok
      obtain ⟨ak, ck, rfl, hck, -, hgk⟩ := hok.val
      obtain ⟨gK, rfl, -, ok6⟩ := hgk.resolve_left (by have := HQ.out; omega)
      have og6 := og5.below hb6 og5.lt
      have hbw6 := bt hbw5 hb6
      clear hok hgk hkp o5 hbw5 hat5 og5 hb6 f0 f1 f2 f3 hsm
      go_wp2_with fail
      go_loopw [7] (fun i wr => ∃ k : Nat, k ≤ v.size ∧ i = .int .i64 k ∧ Own wr gP (sv (prodS m v v.size)) ∧ Own wr gK (sv (keyS m v q)) ∧ Below w.heap.size w wr) (fun i _ => v.size - (intOf i).toNat)
      case atStart => exact ⟨0, Nat.zero_le _, rfl, og6, ok6, hbw6⟩
      case round =>
        clear og6 ok6 hbw6
        obtain ⟨k, hk, rfl, og, ok, hb⟩ := hrel
        by_cases hlt : k < v.size
        · have hqq := HQ.out
          obtain ⟨j, hj⟩ : ∃ j : Nat, j = k + v.size := ⟨_, rfl⟩
          have hadd : IntKind.i64.wrap ((k : Int) + (v.size : Int)) = (j : Int) := by rw [IntWalk.i64_in _ (by omega)]; omega
          have lP := og.lt
          have lK := ok.lt
          have d0 := fun (cc : Cls wr.heap.size wr) => (cc.cell gP k lP).trans (og.at_ (at_prodS m v hlt))
          have d1 := fun (cc : Cls wr.heap.size wr) => (cc.cell gK k lK).trans (ok.at_ (at_keyS2 m v (by omega)))
          have d2 := fun (cc : Cls wr.heap.size wr) => (cc.cell gK j lK).trans (ok.at_ (at_keyS2 m v (n := q) (k := j) (by omega)))
          have hp1 := isP_keyN hmb v k
          have hp2 := isP_keyN hmb v j
          have n1 := fun W => rcThen_yes _ _ W hp1 hp2
          have hPP : thenP (keyN m v k) (keyN m v j) = prodP m v k := by rw [hj]; rfl
          rw [hPP] at n1
          have q1 : (0 : Int) ≤ (k : Int) := by omega
          have q2 : (k : Int) < (v.size : Int) := by omega
          have q2b : (k : Int) < (q : Int) := by omega
          have q3 : (0 : Int) ≤ (j : Int) := by omega
          have q4 : (j : Int) < (q : Int) := by omega
          have tne : ((wd (prodP m v k)).toList != (wd (prodP m v k)).toList) = false := by simp
          clear hPP hj hp1 hp2 hqq
          generalize wd (prodP m v k) = y1 at *
          generalize wd (keyN m v k) = y2 at *
          generalize wd (keyN m v j) = y3 at *
          go_wp2_with fail
          refine wp_region_cls (by kernel_rfl) (by kernel_rfl) ?_
          repeat (go_big_quiet_step (first | (go_at_call 31; with_reducible exact cls_of (Nat.le_refl _) (n1 _))))
          refine wpQuiet_nil ?_
          intro wc hbc
          go_wp2
          go_roundw
          case rel => exact ⟨k + 1, by omega, by go_num, og.below hbc lP, ok.below hbc lK, bt hb hbc⟩
          case measure => simp [intOf]; omega
        · go_wp2
          go_ret
          exact ⟨by simp, hb⟩
    | false =>
      have hp0 := prodT_no hsb
      rw [hp0] at hrl5 hgl5 ⊢
      clear hgl5 hpl hlc hlc2
      simp only [List.length_nil]
      have hsp := specDayProducts_any a1 _ cap1 m v w5 hat5 (by omega)
      rw [hp0] at hsp
      simp only [List.length_nil] at hsp
      go_wp2_with fail
      refine hsp.mono ?_
      rintro e w6 ⟨lv3, rfl, hol3, hb6⟩
      have o6 := o5.below hb6 o5.lt
      have hbw6 := bt hbw5 hb6
      have hat6 := (hat5.below hb6 (Nat.le_refl _)).more hb6.size
      obtain ⟨al3, cl3, rfl, -, hrl6, -⟩ := hol3.val
      clear hol3 hsp o5 hbw5 hat5 hb6 f0 f1 f2 f3
      go_wp2_with fail
      have hrt := rcTexts_any al al3 cl cl3 [] [] w6 (.inl rfl) (.inl rfl) (by simp)
      rw [show decide (([] : List ByteArray) = []) = true from decide_eq_true rfl] at hrt
      simp only [List.length_nil] at hrt
      refine hrt.mono ?_
      rintro e w' ⟨rfl, n7, rfl⟩
      have o7 := o6.drewN n7
      have hbw7 := bel_drewN hbw6 n7
      have hat7 : MachAt (w6.drewN n7) (w6.drewN n7).heap.size a1 m.wheels.rotors.length m := hat6.keep (fun _ _ => rfl)
      generalize w6.drewN n7 = w7 at *
      clear o6 hbw6 hat6 hrt hrl6
      have f0 := o7.at_ (i := 0) rfl
      have f1 := o7.at_ (i := 1) rfl
      have f2 := o7.at_ (i := 2) rfl
      have f3 := o7.at_ (i := 3) rfl
      go_wp2_with fail
      refine (rcFits_any a1 _ cap1 m v _ hat7 (by omega)).mono ?_
      rintro e w8 ⟨rfl, hb8⟩
      rw [hsb]
      go_wp2
      go_ret
      exact ⟨by simp, bt hbw7 hb8⟩
end Go.Proofs.YtbeohccbflhdiaaGreat
