/- Several of my texts in one: FkW. -/
import Derived.Test.YtnnblmibonnpcaaGreatM10
import Derived.Test.YtnnblmibonnpcaaGreatM11
import Derived.Test.YtnnblmibonnpcaaGreatM5
import Derived.Test.YtnnblmibonnpcaaGreatM18
import Derived.Test.YtnnblmibonnpcaaGreatM8
/- The walk of the law that the first key is among the factors of the first product. -/
namespace Go.Proofs.YtnnblmibonnpcaaGreat
open Go.RowKit

theorem fk_ok {m : Mach} {v : ByteArray} (h : 0 < (prodT m v).length) : ∃ x a, (sv (prodT m v))[0]? = some (.string (wd a)) ∧ IsP a ∧ (lenD a, facN a) ∈ typ7 ∧ wd x ∈ facL a 945 ∧ ∃ t, keyT m v (v.size : Int) = wd x :: t := by
  have hsb : setB m v = true := by
    by_cases hs : setB m v = true
    · exact hs
    · unfold prodT at h; rw [if_neg hs] at h; simp at h
  have hmb := setB_mach hsb
  have h3 : v.size ≤ 3 := by rw [setB_len hsb]; exact (machB_fit hmb).three
  have hvz : 0 < v.size := by rw [prodT_yes hsb, len_prodS] at h; exact h
  have hx := isP_keyN hmb v 0
  have hy := isP_keyN hmb v (0 + v.size)
  have ix : Inv (keyN m v 0) := inv_key hmb _
  have fx : Free (keyN m v 0) := fun x hx => free_keyN hmb v 0 hx
  have iy : Inv (keyN m v (0 + v.size)) := inv_key hmb _
  have fy : Free (keyN m v (0 + v.size)) := fun x hx => free_keyN hmb v _ hx
  refine ⟨keyN m v 0, prodP m v 0, ?_, isP_prod hmb v 0, fac_law hx ix fx hy iy fy, facL_mem (fac_self hx ix fx hy iy fy), ?_⟩
  · rw [prodT_yes hsb]
    simp [sv, prodS, hvz]
  · rw [keyT_yes hsb (by omega)]
    unfold keyS
    obtain ⟨n, hn⟩ : ∃ n, v.size = n + 1 := ⟨v.size - 1, by omega⟩
    rw [hn, List.range_succ_eq_map]
    exact ⟨_, rfl⟩
/-- Whether s stands among the first k. -/
def hasS (fl : List ByteArray) (s : ByteArray) (k : Nat) : Bool := (fl.take k).any fun y => y.toList == s.toList
theorem hasS_zero (fl : List ByteArray) (s : ByteArray) : hasS fl s 0 = false := by simp [hasS]
theorem hasS_succ {fl : List ByteArray} {s : ByteArray} {k : Nat} (h : k < fl.length) : hasS fl s (k + 1) = (hasS fl s k || (fl[k].toList == s.toList)) := by
  unfold hasS
  rw [List.take_succ_eq_append_getElem h, List.any_append]
  simp
theorem hasS_all {fl : List ByteArray} {s : ByteArray} (h : s ∈ fl) : hasS fl s fl.length = true := by
  unfold hasS
  rw [List.take_length, List.any_eq_true]
  exact ⟨s, h, by simp⟩
set_option maxRecDepth 100000 in
set_option maxHeartbeats 4000000 in
theorem factorsKeys_walk (a : Option Addr) (len cap : Nat) (zs : List Int) (w : World) (h : IsRow .u8 w a len cap zs) :
    Calls Tryz.prog 4 #[.slice a len cap] w fun e w' => e = .returned (.bool true) ∧ Below w.heap.size w w' := by
  have hlen : len ≤ 9223372036854775807 := by
    rcases h with ⟨_, rfl, _⟩ | ⟨x, _, hl, hm, _⟩
    · omega
    · unfold maxLen at hm; omega
  by_cases hl : 1048576 < len
  · go_enter Tryz.func4, Tryz.ntmps4
    go_wp2
    go_ret
    exact ⟨rfl, Below.refl _ _⟩
  · go_enter Tryz.func4, Tryz.ntmps4
    go_wp2_with fail
    refine (DrawDayProducts_any a len cap zs _ h (by omega)).mono ?_
    rintro e w1 ⟨m, v, a1, cap1, ⟨hsm, hrd, -, hb1⟩, hv, rfl⟩
    have o1 := Own.new w1 [.slice a1 m.wheels.rotors.length cap1, .string m.wheels.refl, .string m.rings, .string m.plugs] 27
    have hb1' := hb1.alloc hb1.size (.cells [.slice a1 m.wheels.rotors.length cap1, .string m.wheels.refl, .string m.rings, .string m.plugs].toArray 27)
    have hat := (hsm.at_ hrd).alloc_ (.cells [.slice a1 m.wheels.rotors.length cap1, .string m.wheels.refl, .string m.rings, .string m.plugs].toArray 27)
    clear hrd hb1 h
    go_wp2_with fail
    generalize (w1.alloc (.cells [.slice a1 m.wheels.rotors.length cap1, .string m.wheels.refl, .string m.rings, .string m.plugs].toArray 27)) = W1 at *
    generalize w1.heap.size = B1 at *
    refine (implDayProducts_any a1 _ cap1 m v _ hat (by omega)).mono ?_
    rintro e w2 ⟨lv, rfl, hol, hb2⟩
    have o2 := o1.below hb2 o1.lt
    have hbw2 := bt hb1' hb2
    have hat2 := (hat.below hb2 (Nat.le_refl _)).more hb2.size
    obtain ⟨al, cl, rfl, hlc, hrl, hgl⟩ := hol.val
    clear o1 hb1' hat hb2 hol
    have f0 := o2.at_ (i := 0) rfl
    have f1 := o2.at_ (i := 1) rfl
    have f2 := o2.at_ (i := 2) rfl
    have f3 := o2.at_ (i := 3) rfl
    go_wp2_with fail
    refine (specDayProducts_any a1 _ cap1 m v _ hat2 (by omega)).mono ?_
    rintro e w3 ⟨lv2, rfl, hol2, hb3⟩
    have o3 := o2.below hb3 o2.lt
    have hbw3 := bt hbw2 hb3
    have hat3 := (hat2.below hb3 (Nat.le_refl _)).more hb3.size
    obtain ⟨al2, cl2, rfl, hlc2, hrl2, -⟩ := hol2.val
    have hrl3 := (hrl.below hb3 (Nat.le_refl _)).more hb3.size
    have hpl : (prodT m v).length ≤ 1048576 := by
      unfold prodT; split
      · rw [len_prodS]; omega
      · simp
    have hgl3 : (prodT m v).length = 0 ∨ ∃ g, al = some ⟨g, 0, none⟩ ∧ Own w3 g (sv (prodT m v)) := hgl.imp id fun ⟨g, h1, _, h2⟩ => ⟨g, h1, h2.below hb3 h2.lt⟩
    clear o2 hbw2 hat2 hrl hol2 hgl f0 f1 f2 f3 hb3
    go_wp2_with fail
    refine (rcTexts_any al al2 cl cl2 (prodT m v) (prodT m v) _ hrl3 hrl2 hpl).mono ?_
    rintro e w' ⟨rfl, n4, rfl⟩
    rw [show decide (prodT m v = prodT m v) = true from decide_eq_true rfl]
    have o4 := o3.drewN n4
    have hbw4 := bel_drewN hbw3 n4
    have hat4 : MachAt (w3.drewN n4) (w3.drewN n4).heap.size a1 m.wheels.rotors.length m := hat3.keep (fun _ _ => rfl)
    have hrl4 : Reads (w3.drewN n4) (w3.drewN n4).heap.size al (sv (prodT m v)) := hrl3
    have hgl4 : (prodT m v).length = 0 ∨ ∃ g, al = some ⟨g, 0, none⟩ ∧ Own (w3.drewN n4) g (sv (prodT m v)) := hgl3.imp id fun ⟨g, h1, h2⟩ => ⟨g, h1, h2.drewN n4⟩
    generalize w3.drewN n4 = w4 at *
    clear o3 hbw3 hat3 hrl3 hrl2 hgl3
    by_cases hz : (prodT m v).length = 0
    · have HZ := Lib.hid hz
      have f0 := o4.at_ (i := 0) rfl
      have f1 := o4.at_ (i := 1) rfl
      have f2 := o4.at_ (i := 2) rfl
      have f3 := o4.at_ (i := 3) rfl
      have t0 : ((prodT m v).length == 0) = true := by rw [hz]; rfl
      clear hgl4 hz
      have nsp := fun W h => specDayProducts_any a1 m.wheels.rotors.length cap1 m v W h (by omega)
      generalize prodT m v = ls at *
      go_wp2_with fail
      refine (nsp _ hat4).mono ?_
      rintro e w5 ⟨lv3, rfl, hol5, hb5⟩
      obtain ⟨al5, cl5, rfl, -, hrl5, -⟩ := hol5.val
      have hrl6 := (hrl4.below hb5 (Nat.le_refl _)).more hb5.size
      have hbw5 := bt hbw4 hb5
      clear hol5 f0 f1 f2 f3 hrl4 nsp
      go_wp2_with fail
      refine (rcTexts_any al al5 cl cl5 ls ls _ hrl6 hrl5 hpl).mono ?_
      rintro e w' ⟨rfl, n6, rfl⟩
      rw [show decide (ls = ls) = true from decide_eq_true rfl]
      go_wp2
      go_ret
      exact ⟨rfl, bel_drewN hbw5 _⟩
    · have HOK := Lib.hid (fk_ok (m := m) (v := v) (by omega))
      have HZ := Lib.hid hz
      have t0 : ((prodT m v).length == 0) = false := by rw [beq_eq_false_iff_ne]; exact hz
      have f0 := o4.at_ (i := 0) rfl
      have f1 := o4.at_ (i := 1) rfl
      have f2 := o4.at_ (i := 2) rfl
      have f3 := o4.at_ (i := 3) rfl
      have nkp := fun W h => implKeyPerms_any a1 m.wheels.rotors.length cap1 m v (v.size : Int) W h (by omega)
      generalize keyT m v (v.size : Int) = kt at *
      generalize prodT m v = ls at *
      clear hz
      go_wp2_with fail
      refine (nkp _ hat4).mono ?_
      rintro e w5 ⟨kv, rfl, hok5, hb5⟩
      obtain ⟨x, a, hla, ha, ht, hxf, t, rfl⟩ := HOK.out
      obtain ⟨ak, ck, rfl, -, hrk5, -⟩ := hok5.val
      have hrl5 := (hrl4.below hb5 (Nat.le_refl _)).more hb5.size
      have hbw5 := bt hbw4 hb5
      have HT := Lib.hid ht
      have nfo := fun W => factorsOf_any a W ha (paired_typ ht)
      have nfc := fun W => factorCount_any a (facN a) W ha (paired_typ ht) (facC_typ ht)
      have hfl : (facL a 945).length ≤ 945 := facL_len a 945
      have HFN := Lib.hid (facL_all a)
      have HXF := Lib.hid hxf
      clear hok5 hb5 hbw4 hrl4 f0 f1 f2 f3 hat4 o4 nkp HOK hgl4 ht hxf
      obtain ⟨bl, ofl, rfl, hbl, hcl⟩ := hrl5.open_ (by rw [length_sv]; exact Nat.pos_of_ne_zero HZ.out)
      have c1 := hcl 0 (by rw [length_sv]; exact Nat.pos_of_ne_zero HZ.out)
      rw [hla, Nat.add_zero] at c1
      have q2 : (0 : Int) < (ls.length : Int) := by have := HZ.out; omega
      generalize facN a = fa at *
      generalize facL a 945 = fl at *
      generalize wd a = sa at *
      generalize wd x = sx at *
      clear hcl
      go_wp2_with fail
      refine (nfo _).mono ?_
      rintro e w6 ⟨fv, rfl, hof6, hb6⟩
      obtain ⟨af, cf, rfl, -, hrf6, -⟩ := hof6.val
      have hrl6 := (hrl5.below hb6 (Nat.le_refl _)).more hb6.size
      have hrk6 := (hrk5.below hb6 (Nat.le_refl _)).more hb6.size
      have hbw6 := bt hbw5 hb6
      have HRF := Lib.hid hrf6
      have HRK := Lib.hid hrk6
      have HRL := Lib.hid hrl6
      clear hof6 hb6 hbw5 hrl5 hrk5 hrf6 hrk6 hrl6 c1 nfo hbl
      go_wp2_with fail
      go_loopw [8, 9] (fun sm i wr => ∃ (k q : Nat), k ≤ fl.length ∧ i = .int .i64 (k : Int) ∧ sm = .bool (hasS fl sx k) ∧ wr = w6.drewN q) (fun _ i _ => fl.length - (intOf i).toNat)
      case atStart => exact ⟨0, 0, by omega, rfl, by rw [hasS_zero], rfl⟩
      case round =>
        obtain ⟨k, q, hk, rfl, rfl, rfl⟩ := hrel
        by_cases hlt : k < fl.length
        · obtain ⟨bf, off, rfl, hbf, hcf⟩ := HRF.out.open_ (by rw [length_sv]; omega)
          obtain ⟨bk, ofk, rfl, hbk, hck⟩ := HRK.out.open_ (by rw [length_sv]; simp)
          have d1 := hcf k (by rw [length_sv]; exact hlt)
          have d2 := hck 0 (by rw [length_sv]; simp)
          rw [sv_at hlt] at d1
          rw [sv_at (by simp), Nat.add_zero] at d2
          simp only [List.getElem_cons_zero] at d2
          have q3 : (0 : Int) ≤ (k : Int) := by omega
          have q4 : (k : Int) < (fl.length : Int) := by omega
          have q5 : (0 : Int) < ((t.length + 1 : Nat) : Int) := by omega
          have HS := Lib.hid (hasS_succ (s := sx) hlt)
          clear hcf hck
          generalize fl[k] = fk at *
          generalize hasS fl sx k = sm at *
          generalize htb : (fk.toList == sx.toList) = tb at *
          cases sm with
          | true =>
            go_wp2_with fail
            go_quiet (fail)
            go_wp2
            go_roundw
            case rel => exact ⟨k + 1, _, by omega, by go_num, by simp [HS.out], rfl⟩
            case measure => simp [intOf]; omega
          | false =>
            go_wp2_with fail
            go_quiet (fail)
            go_wp2
            go_roundw
            case rel => exact ⟨k + 1, _, by omega, by go_num, by simp [HS.out], rfl⟩
            case measure => simp [intOf]; omega
        · have hk' : k = fl.length := by omega
          subst hk'
          have ht2 := hasS_all HXF.out
          rw [ht2]
          obtain ⟨bl', ofl', e', hbl, hcl⟩ := HRL.out.open_ (by rw [length_sv]; exact Nat.pos_of_ne_zero HZ.out)
          cases e'
          have c1 := hcl 0 (by rw [length_sv]; exact Nat.pos_of_ne_zero HZ.out)
          rw [hla, Nat.add_zero] at c1
          clear hcl ht2 hk hlt
          go_wp2_with fail
          refine (nfc _).mono ?_
          rintro e w7 ⟨rfl, hb7⟩
          have HE : Hid (((fa : Int) == (fl.length : Int)) = true) := Lib.hid (by rw [HFN.out]; simp)
          go_wp2
          go_ret
          exact ⟨ret_bool HE.out, bt (bel_drewN hbw6 q) hb7⟩
end Go.Proofs.YtnnblmibonnpcaaGreat
