/- Several of my texts in one: PlugsW. -/
import Derived.Test.YtbeohccbflhdiaaGreatM11
import Derived.Test.YtbeohccbflhdiaaGreatM13
/- The walk of the law that the plugboard acts before and after. -/
namespace Go.Proofs.YtbeohccbflhdiaaGreat
open Go.RowKit

theorem implIdentityPerm_any (w : World) :
    Calls Tryz.prog 93 #[] w fun e w' => e = .returned (.string (wd idP)) ∧ Below w.heap.size w w' := by
  go_enter Tryz.func93, Tryz.ntmps93
  go_wp2_with (first | (go_at_call 137; ((with_reducible refine (identity_any _).mono ?_); rintro e w1 ⟨rfl, hb1⟩)) | (go_at_call 83; ((with_reducible refine (string_any _ _ isP_id).mono ?_); rintro e w2 ⟨rfl, hb2⟩)))
  go_ret
  exact ⟨rfl, bt hb1 hb2⟩
theorem one_mach (a : Option Addr) (n c : Nat) (r s t : ByteArray) : ∀ v ∈ [Value.slice a n c, .string r, .string s, .string t], v.oneCell' = true := by
  intro v hv
  simp only [List.mem_cons, List.not_mem_nil, or_false] at hv
  rcases hv with rfl | rfl | rfl | rfl <;> rfl
theorem info_mach (a : Option Addr) (n c : Nat) (r s t : ByteArray) : (Tryz.prog.info? 27).map (·.size) = some [Value.slice a n c, .string r, .string s, .string t].length := by kernel_rfl
set_option maxRecDepth 100000 in
theorem rcBare_any (a : Option Addr) (n c : Nat) (m : Mach) (w : World) :
    Calls Tryz.prog 41 #[.agg #[.slice a n c, .string m.wheels.refl, .string m.rings, .string m.plugs]] w fun e w' => e = .returned (.agg #[.slice a n c, .string m.wheels.refl, .string m.rings, .string (wd idP)]) ∧ Below w.heap.size w w' := by
  have o0 := (Own.new w [.slice a n c, .string m.wheels.refl, .string m.rings, .string m.plugs] 27).alloc (.cells #[.slice none 0 0, .string ⟨#[]⟩, .string ⟨#[]⟩, .string ⟨#[]⟩] 27)
  have o1 := Own.new (w.alloc (.cells [.slice a n c, .string m.wheels.refl, .string m.rings, .string m.plugs].toArray 27)) [.slice none 0 0, .string ⟨#[]⟩, .string ⟨#[]⟩, .string ⟨#[]⟩] 27
  have hb0 := ((Below.refl w.heap.size w).alloc (Nat.le_refl _) (.cells [.slice a n c, .string m.wheels.refl, .string m.rings, .string m.plugs].toArray 27)).alloc (by simp) (.cells #[.slice none 0 0, .string ⟨#[]⟩, .string ⟨#[]⟩, .string ⟨#[]⟩] 27)
  rw [World.size_alloc] at o1
  go_enter Tryz.func41, Tryz.ntmps41
  go_wp2_with fail
  generalize hW : (w.alloc (.cells [.slice a n c, .string m.wheels.refl, .string m.rings, .string m.plugs].toArray 27)).alloc (.cells #[.slice none 0 0, .string ⟨#[]⟩, .string ⟨#[]⟩, .string ⟨#[]⟩] 27) = W at *
  have hs : W.heap.size = w.heap.size + 1 + 1 := by rw [← hW]; simp
  clear hW
  have l0 := o0.lt
  have l1 := o1.lt
  have f0 := o0.at_ (i := 0) rfl
  have f1 := o0.at_ (i := 1) rfl
  have f2 := o0.at_ (i := 2) rfl
  have d0 := fun (cc : Cls W.heap.size W) => (cc.cell w.heap.size 0 l0).trans f0
  have d1 := fun (cc : Cls W.heap.size W) => (cc.cell w.heap.size 1 l0).trans f1
  have d2 := fun (cc : Cls W.heap.size W) => (cc.cell w.heap.size 2 l0).trans f2
  clear f0 f1 f2
  have HS := Lib.hid hs
  clear hs
  refine wp_region_cls_tail 5 (by kernel_rfl) (by kernel_rfl) ?_
  simp only [List.take_succ_cons, List.take_zero, List.drop_succ_cons, List.drop_zero]
  repeat (go_big_quiet_step (first | (go_at_call 93; with_reducible exact cls_of (Nat.le_refl _) (implIdentityPerm_any _))))
  refine wpQuiet_nil ?_
  intro wc hbc
  have oc := o1.below hbc l1
  have hs := HS.out
  have hz := hbc.size
  have hbw := bt hb0 hbc
  clear d0 d1 d2 o0 o1 hb0
  go_wp2_with ((with_reducible refine wl_store 27 0 oc (info_mach a n c m.wheels.refl m.rings (wd idP)) (one_mach a n c m.wheels.refl m.rings (wd idP)) (by simp) ?_ ?_ ?_ ?_); (· rfl); (· rfl); (· rfl); intro w5 o5 b5 s5)
  refine bodyPost_ret (results_cell_own Tryz.results41 _ _ _ _ _ (by rfl) o5.cells Tryz.underlying27 rfl (info_mach a n c m.wheels.refl m.rings (wd idP))) rfl ?_
  exact ⟨rfl, bel_store hbw b5 (by omega) (by omega)⟩

theorem wordB_map {q u : ByteArray} (hw : wordB u = true) : wordB (wd ((dg u).map (pAt (dg q)))) = true := word_wd (by rw [List.length_map, len_dg]; exact wordB_size hw)
theorem wordB_enc (m : Mach) (v : ByteArray) {u : ByteArray} (hw : wordB u = true) : wordB (wd (encD m v (dg u))) = true := word_wd (by rw [len_encD, len_dg]; exact wordB_size hw)
theorem plugs_law {m : Mach} {v u : ByteArray} (h : setB m v = true) (hw : wordB u = true) :
    wd (encD m v (dg u)) = wd ((dg (wd (encD (bareM m) v (dg (wd ((dg u).map (pAt (dg m.plugs)))))))).map (pAt (dg m.plugs))) := by
  have hm := setB_mach h
  have hq := machB_plugP hm
  have hqi := plugB_inv (machB_plug hm)
  have hd := word_dg_lt hw
  have hd2 : ∀ x ∈ (dg u).map (pAt (dg m.plugs)), x < 10 := by
    intro x hx
    obtain ⟨y, hy, rfl⟩ := List.mem_map.1 hx
    exact hq.at_lt (hd y hy)
  rw [dg_wd hd2, dg_wd (encD_lt (machB_bare hm) v hd2)]
  congr 1
  refine List.ext_getElem (by simp [len_encD]) fun i h1 h2 => ?_
  have hi : i < (dg u).length := by rw [len_encD] at h1; exact h1
  have hx : pAt (dg u) i < 10 := by rw [pAt_get hi]; exact hd _ (List.getElem_mem _)
  have hi2 : i < ((dg u).map (pAt (dg m.plugs))).length := by rw [List.length_map]; exact hi
  have hi3 : i < (encD (bareM m) v ((dg u).map (pAt (dg m.plugs)))).length := by rw [len_encD]; exact hi2
  rw [List.getElem_map, ← pAt_get h1, ← pAt_get hi3, at_encD m v hi, at_encD (bareM m) v hi2, pAt_get hi2, List.getElem_map, ← pAt_get hi]
  show pAt (keyN m v i) _ = pAt (dg m.plugs) (pAt (keyN (bareM m) v i) _)
  rw [keyN_of_bare hm, at_conj (isP_keyN (machB_bare hm) v i) hq hx, hqi.back hq]
theorem MachAt.bare {w : World} {B : Nat} {a : Option Addr} {n : Nat} {m : Mach} (h : MachAt w B a n m) : MachAt w B a n (bareM m) := ⟨h.whl, h.rings, by show (wd idP).size ≤ _; rw [size_wd]; decide⟩

set_option maxRecDepth 100000 in
set_option maxHeartbeats 4000000 in
theorem encipherPlugs_walk (a : Option Addr) (len cap : Nat) (zs : List Int) (w : World) (h : IsRow .u8 w a len cap zs) :
    Calls Tryz.prog 7 #[.slice a len cap] w fun e w' => e = .returned (.bool true) ∧ Below w.heap.size w w' := by
  have hlen : len ≤ 9223372036854775807 := by
    rcases h with ⟨_, rfl, _⟩ | ⟨x, _, hl, hm, _⟩
    · omega
    · unfold maxLen at hm; omega
  by_cases hl : 1048576 < len
  · go_enter Tryz.func7, Tryz.ntmps7
    go_wp2
    go_ret
    exact ⟨rfl, Below.refl _ _⟩
  · go_enter Tryz.func7, Tryz.ntmps7
    go_wp2_with fail
    refine (DrawEncipher_any a len cap zs _ h (by omega)).mono ?_
    rintro e w1 ⟨m, v, u, a1, cap1, ⟨hsm, hrd, -, hb1⟩, hv, hu, rfl⟩
    have o1 := Own.new w1 [.slice a1 m.wheels.rotors.length cap1, .string m.wheels.refl, .string m.rings, .string m.plugs] 27
    have hb1' := hb1.alloc hb1.size (.cells [.slice a1 m.wheels.rotors.length cap1, .string m.wheels.refl, .string m.rings, .string m.plugs].toArray 27)
    have hat := (hsm.at_ hrd).alloc_ (.cells [.slice a1 m.wheels.rotors.length cap1, .string m.wheels.refl, .string m.rings, .string m.plugs].toArray 27)
    clear hrd hb1 h
    go_wp2_with fail
    generalize (w1.alloc (.cells [.slice a1 m.wheels.rotors.length cap1, .string m.wheels.refl, .string m.rings, .string m.plugs].toArray 27)) = W1 at *
    generalize w1.heap.size = B1 at *
    refine (implEncipher_any a1 _ cap1 m v u _ hat (by omega) (by omega)).mono ?_
    rintro e w2 ⟨rfl, hb2⟩
    have o2 := o1.below hb2 o1.lt
    have hbw2 := bt hb1' hb2
    have hat2 := (hat.below hb2 (Nat.le_refl _)).more hb2.size
    clear o1 hb1' hat hb2
    have f0 := o2.at_ (i := 0) rfl
    have f1 := o2.at_ (i := 1) rfl
    have f2 := o2.at_ (i := 2) rfl
    have f3 := o2.at_ (i := 3) rfl
    unfold encV
    go_wp2_with fail
    refine (specEncipher_any a1 _ cap1 m v u _ hat2 (by omega) (by omega)).mono ?_
    rintro e w3 ⟨rfl, hb3⟩
    have o3 := o2.below hb3 o2.lt
    have hbw3 := bt hbw2 hb3
    have hat3 := (hat2.below hb3 (Nat.le_refl _)).more hb3.size
    clear o2 hbw2 hat2 hb3 f0 f1 f2 f3
    unfold encV
    by_cases hyes : setB m v = true ∧ wordB u = true
    · obtain ⟨hsb, hwu⟩ := hyes
      have HE := Lib.hid (encT_yes hsb hwu)
      rw [HE.out]
      simp only
      have hmb := setB_mach hsb
      have huw := wordB_size hwu
      have Hsz : Hid ((wd (encD m v (dg u))).size = u.size) := by
        show _ = _
        rw [size_wd, len_encD, len_dg]
      have hsz1 : (wd (encD m v (dg u))).size ≤ u.size := by rw [Hsz.out]; exact Nat.le_refl _
      have hsz2 : u.size ≤ (wd (encD m v (dg u))).size := by rw [Hsz.out]; exact Nat.le_refl _
      have hpb := plugB_perm (machB_plug hmb)
      have hsp := permB_size hpb
      have lt3 := o3.lt
      have d0 := fun (cc : Cls w3.heap.size w3) => (cc.cell B1 0 lt3).trans (o3.at_ (i := 0) rfl)
      have d1 := fun (cc : Cls w3.heap.size w3) => (cc.cell B1 1 lt3).trans (o3.at_ (i := 1) rfl)
      have d2 := fun (cc : Cls w3.heap.size w3) => (cc.cell B1 2 lt3).trans (o3.at_ (i := 2) rfl)
      have d3 := fun (cc : Cls w3.heap.size w3) => (cc.cell B1 3 lt3).trans (o3.at_ (i := 3) rfl)
      have n1 := fun W => rcBare_any a1 m.wheels.rotors.length cap1 m W
      have n2 := fun W => implApplyPerm_any m.plugs u W (by omega) (by omega)
      rw [appV_yes hpb hwu] at n2
      have hwu2 := wordB_map (q := m.plugs) hwu
      have n3 := fun (cc : Cls w3.heap.size w3) => rcText_any a1 _ cap1 (bareM m) v (wd ((dg u).map (pAt (dg m.plugs)))) cc.w (((hat3.bare).below cc.bel (Nat.le_refl _)).more cc.bel.size) (by omega) (by have := wordB_size hwu2; omega)
      rw [encT_yes (setB_bare hsb) hwu2] at n3
      have hwe := wordB_enc (bareM m) v hwu2
      have n4 := fun W => implApplyPerm_any m.plugs (wd (encD (bareM m) v (dg (wd ((dg u).map (pAt (dg m.plugs))))))) W (by omega) (by have := wordB_size hwe; omega)
      rw [appV_yes hpb hwe] at n4
      have HEQ := Lib.hid (plugs_law hsb hwu)
      clear hwe hwu2 hsp hpb
      rw [← HEQ.out] at n4
      simp only [bareM] at n3 n4
      generalize wd (encD (bareM m) v (dg (wd ((dg u).map (pAt (dg m.plugs)))))) = y1 at *
      generalize wd ((dg u).map (pAt (dg m.plugs))) = y2 at *
      go_wp2_with fail
      refine wp_region_cls (by kernel_rfl) (by kernel_rfl) ?_
      repeat (go_big_quiet_step (first | (go_at_call 41; with_reducible exact cls_of (Nat.le_refl _) (n1 _)) | (go_at_call 40; with_reducible exact cls_of (Nat.le_refl _) (n2 _)) | (go_at_call 22; with_reducible exact cls_of (Nat.le_refl _) (n3 _)) | (go_at_call 40; with_reducible exact cls_of (Nat.le_refl _) (n4 _))))
      refine wpQuiet_nil ?_
      intro wc hbc
      go_wp2
      go_ret
      exact ⟨by simp, bt hbw3 hbc⟩
    · have HE := Lib.hid (encT_no hyes)
      rw [HE.out]
      simp only
      go_wp2
      go_ret
      exact ⟨rfl, hbw3⟩
end Go.Proofs.YtbeohccbflhdiaaGreat
