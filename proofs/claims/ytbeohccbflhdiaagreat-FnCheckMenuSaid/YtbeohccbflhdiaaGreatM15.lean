/- Several of my texts in one: KeysW. -/
import Derived.Test.YtbeohccbflhdiaaGreatM11
import Derived.Test.YtbeohccbflhdiaaGreatM13
/- The walk of the law that each letter is enciphered by its own key. -/
namespace Go.Proofs.YtbeohccbflhdiaaGreat
open Go.RowKit

theorem word_isL {s : ByteArray} (h : wordB s = true) {k : Nat} (hk : k < s.size) : isL s[k] = true := by
  simp only [wordB, Bool.and_eq_true, List.all_eq_true] at h
  exact h.2 _ (by rw [getElem_L]; exact List.getElem_mem _)
theorem one_extract {s : ByteArray} {k : Nat} (h : k < s.size) : s.extract k (k + 1) = S [s[k]] := by
  refine L_inj ?_
  rw [L_extract, L_S, List.take_succ_eq_append_getElem (by rw [size_L]; exact h), List.drop_append_of_le_length (by rw [List.length_take, size_L]; omega), List.drop_eq_nil_of_le (by rw [List.length_take]; omega)]
  rfl
theorem app_one {p : List Nat} (hp : IsP p) {c : UInt8} {d : Nat} (hl : isL c = true) (hc : dig c = d) : appV (wd p) (S [c]) = S [letr (pAt p d : Int)] := by
  have hw : wordB (S [c]) = true := by
    simp only [wordB, Bool.and_eq_true, decide_eq_true_eq]
    exact ⟨by rw [size_S]; simp, by rw [L_S]; simp [hl]⟩
  rw [appV_yes (permB_wd hp) hw, dg_wd hp.lt]
  have : dg (S [c]) = [d] := by simp [dg, L_S, hc]
  rw [this]
  rfl
theorem keys_law {m : Mach} {v u : ByteArray} (h : setB m v = true) (hw : wordB u = true) {k : Nat} (hk : k < u.size) :
    appV (wd (keyN m v k)) (u.extract k (k + 1)) = (wd (encD m v (dg u))).extract k (k + 1) := by
  have hd := wordB_at hw k hk
  obtain ⟨d, hdd⟩ := Int.eq_ofNat_of_zero_le hd.1
  have hx : pAt (dg u) k = d := by rw [dg_at hk]; omega
  rw [one_extract hk, one_extract (by rw [size_wd, len_encD, len_dg]; exact hk), enc_at v hk, app_one (isP_keyN (setB_mach h) v k) (word_isL hw hk) hdd, hx]
theorem at_keyS (m : Mach) (v : ByteArray) {n k : Nat} (h : k < n) : (sv (keyS m v n))[k]? = some (.string (wd (keyN m v k))) := by
  simp [sv, keyS, h]

set_option maxRecDepth 100000 in
set_option maxHeartbeats 4000000 in
theorem encipherKeys_walk (a : Option Addr) (len cap : Nat) (zs : List Int) (w : World) (h : IsRow .u8 w a len cap zs) :
    Calls Tryz.prog 8 #[.slice a len cap] w fun e w' => e = .returned (.bool true) ∧ Below w.heap.size w w' := by
  have hlen : len ≤ 9223372036854775807 := by
    rcases h with ⟨_, rfl, _⟩ | ⟨x, _, hl, hm, _⟩
    · omega
    · unfold maxLen at hm; omega
  by_cases hl : 1048576 < len
  · go_enter Tryz.func8, Tryz.ntmps8
    go_wp2
    go_ret
    exact ⟨rfl, Below.refl _ _⟩
  · go_enter Tryz.func8, Tryz.ntmps8
    go_wp2_with fail
    refine (DrawEncipher_any a len cap zs _ h (by omega)).mono ?_
    rintro e w1 ⟨m, v, u, a1, cap1, ⟨hsm, hrd, -, hb1⟩, hv, hu, rfl⟩
    have o1 := Own.new w1 [.slice a1 m.wheels.rotors.length cap1, .string m.wheels.refl, .string m.rings, .string m.plugs] 27
    have hb1' := hb1.alloc hb1.size (.cells [.slice a1 m.wheels.rotors.length cap1, .string m.wheels.refl, .string m.rings, .string m.plugs].toArray 27)
    have hat := (hsm.at_ hrd).alloc_ (.cells [.slice a1 m.wheels.rotors.length cap1, .string m.wheels.refl, .string m.rings, .string m.plugs].toArray 27)
    clear hrd hb1 h
    go_wp2_with fail
    generalize (w1.alloc (.cells [.slice a1 m.wheels.rotors.length cap1, .string m.wheels.refl, .string m.rings, .string m.plugs].toArray 27)) = W1 at *
    generalize w1.heap.size = B1 at *
    refine (implEncipher_any a1 _ cap1 m v u _ hat (by omega) (by omega)).mono ?_
    rintro e w2 ⟨rfl, hb2⟩
    have o2 := o1.below hb2 o1.lt
    have hbw2 := bt hb1' hb2
    have hat2 := (hat.below hb2 (Nat.le_refl _)).more hb2.size
    clear o1 hb1' hat hb2
    have f0 := o2.at_ (i := 0) rfl
    have f1 := o2.at_ (i := 1) rfl
    have f2 := o2.at_ (i := 2) rfl
    have f3 := o2.at_ (i := 3) rfl
    unfold encV
    go_wp2_with fail
    refine (specEncipher_any a1 _ cap1 m v u _ hat2 (by omega) (by omega)).mono ?_
    rintro e w3 ⟨rfl, hb3⟩
    have o3 := o2.below hb3 o2.lt
    have hbw3 := bt hbw2 hb3
    have hat3 := (hat2.below hb3 (Nat.le_refl _)).more hb3.size
    clear o2 hbw2 hat2 hb3 f0 f1 f2 f3
    unfold encV
    by_cases hyes : setB m v = true ∧ wordB u = true
    · obtain ⟨hsb, hwu⟩ := hyes
      have HE := Lib.hid (encT_yes hsb hwu)
      rw [HE.out]
      simp only
      have hmb := setB_mach hsb
      have huw := wordB_size hwu
      have Hsz : Hid ((wd (encD m v (dg u))).size = u.size) := by
        show _ = _
        rw [size_wd, len_encD, len_dg]
      have hsz1 : (wd (encD m v (dg u))).size ≤ u.size := by rw [Hsz.out]; exact Nat.le_refl _
      have hsz2 : u.size ≤ (wd (encD m v (dg u))).size := by rw [Hsz.out]; exact Nat.le_refl _
      by_cases h60 : 60 < u.size
      · go_wp2
        go_ret
        exact ⟨by simp, hbw3⟩
      · have HKL := Lib.hid (fun k (hk : k < u.size) => keys_law hsb hwu hk)
        have f0 := o3.at_ (i := 0) rfl
        have f1 := o3.at_ (i := 1) rfl
        have f2 := o3.at_ (i := 2) rfl
        have f3 := o3.at_ (i := 3) rfl
        go_wp2_with fail
        have hkp := implKeyPerms_any a1 _ cap1 m v (u.size : Int) _ hat3 (by omega)
        rw [keyT_yes hsb (by omega)] at hkp
        refine hkp.mono ?_
        rintro e w4 ⟨lv, rfl, hol, hb4⟩
        clear hkp f0 f1 f2 f3
        rw [len_keyS] at hol
        obtain ⟨al, cl, rfl, hlc, hrl, hg⟩ := hol.val
        have o4 := o3.below hb4 o3.lt
        have hbw4 := bt hbw3 hb4
        clear o3 hbw3 hat3 hb4 hol hrl
        go_wp2_with fail
        go_loopw [13] (fun i wr => ∃ k : Nat, k ≤ u.size ∧ i = .int .i64 k ∧ Below w.heap.size w wr ∧ (u.size = 0 ∨ ∃ g, al = some ⟨g, 0, none⟩ ∧ Own wr g (sv (keyS m v u.size)))) (fun i _ => u.size - (intOf i).toNat)
        case atStart => exact ⟨0, Nat.zero_le _, rfl, hbw4, hg.imp id fun ⟨g, h1, _, h2⟩ => ⟨g, h1, h2⟩⟩
        case round =>
          clear hbw4 hg o4
          obtain ⟨k, hk, rfl, hbw4, hg⟩ := hrel
          by_cases hlt : k < u.size
          · obtain ⟨g, rfl, og⟩ : ∃ g, al = some ⟨g, 0, none⟩ ∧ Own wr g (sv (keyS m v u.size)) := hg.resolve_left (by omega)
            clear hg
            have hkey := HKL.out k hlt
            have hlg := og.lt
            have d0 := fun (cc : Cls wr.heap.size wr) => (cc.cell g k hlg).trans (og.at_ (at_keyS m v hlt))
            have hz1 : (wd (keyN m v k)).size ≤ 10 := by rw [size_wd, (isP_keyN hmb v k).len]; exact Nat.le_refl _
            have n1 := fun W => implApplyPerm_any (wd (keyN m v k)) (u.extract k (k + 1)) W (by omega) (by rw [one_extract hlt, size_S]; simp)
            rw [hkey] at n1
            have q1 : (0 : Int) ≤ (k : Int) := by omega
            have q2 : (k : Int) < (u.size : Int) := by omega
            have q3 : (k : Int) + 1 ≤ (u.size : Int) := by omega
            have q4 : (k : Int) + 1 ≤ ((wd (encD m v (dg u))).size : Int) := by omega
            have q5 : (0 : Int) ≤ (k : Int) + 1 := by omega
            have q6 : (k : Int) ≤ (k : Int) + 1 := by omega
            clear hkey
            generalize wd (keyN m v k) = y1 at *
            have tne : ((ByteArray.extract (wd (encD m v (dg u))) k (k + 1)).toList != (ByteArray.extract (wd (encD m v (dg u))) k (k + 1)).toList) = false := by simp
            generalize hy2 : wd (encD m v (dg u)) = y2 at *
            go_wp2_with fail
            refine wp_region_cls (by kernel_rfl) (by kernel_rfl) ?_
            repeat (go_big_quiet_step (first | (go_at_call 40; with_reducible exact cls_of (Nat.le_refl _) (n1 _))))
            refine wpQuiet_nil ?_
            intro wc hbc
            go_wp2
            go_roundw
            case rel => exact ⟨k + 1, by omega, by go_num, bt hbw4 hbc, .inr ⟨g, rfl, og.below hbc hlg⟩⟩
            case measure => simp [intOf]; omega
          · go_wp2
            go_ret
            exact ⟨by simp, hbw4⟩
    · have HE := Lib.hid (encT_no hyes)
      rw [HE.out]
      simp only
      go_wp2
      go_ret
      exact ⟨rfl, hbw3⟩
end Go.Proofs.YtbeohccbflhdiaaGreat
