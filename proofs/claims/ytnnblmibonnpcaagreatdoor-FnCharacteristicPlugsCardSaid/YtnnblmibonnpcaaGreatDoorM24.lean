/- Several of my texts in one: DrawE, SelfW, PlugsW, GkW. -/
import Derived.Test.YtnnblmibonnpcaaGreatDoorM11
import Derived.Test.YtnnblmibonnpcaaGreatDoorM23
import Derived.Test.YtnnblmibonnpcaaGreatDoorM20
import Derived.Test.YtnnblmibonnpcaaGreatDoorM22
/- The contract of DrawEncipher. -/
namespace Go.Proofs.YtnnblmibonnpcaaGreatDoor
open Go.RowKit

end Go.Proofs.YtnnblmibonnpcaaGreatDoor

/- The walk of the law that no letter is enciphered to itself. -/
namespace Go.Proofs.YtnnblmibonnpcaaGreatDoor
open Go.RowKit

theorem enc_at {m : Mach} (v : ByteArray) {u : ByteArray} {i : Nat} (hi : i < u.size) : (wd (encD m v (dg u)))[i]'(by rw [size_wd, len_encD, len_dg]; exact hi) = letr (pAt (keyN m v i) (pAt (dg u) i) : Int) := by
  rw [getElem_L]
  have hk : i < (encD m v (dg u)).length := by rw [len_encD, len_dg]; exact hi
  have h0 := at_enc m v hi
  rw [pAt_get hk] at h0
  simp only [wd, L_S, List.getElem_map, h0]
theorem enc_ne {m : Mach} (h : machB m = true) (v : ByteArray) {u : ByteArray} (hw : wordB u = true) {i : Nat} (hi : i < u.size) : (wd (encD m v (dg u)))[i]'(by rw [size_wd, len_encD, len_dg]; exact hi) ≠ u[i] := by
  rw [enc_at v hi]
  intro he
  have hd := wordB_at hw i hi
  have hu := dg_at hi
  obtain ⟨d, hdd⟩ := Int.eq_ofNat_of_zero_le hd.1
  have hx : pAt (dg u) i = d := by rw [hu]; omega
  have h1 := congrArg dig he
  rw [dig_letr, hx, hdd] at h1
  have h2 := (isP_keyN h v i).at_lt (i := d) (by omega)
  exact free_keyN h v i (d := d) (by omega) (by omega)
theorem enc_no {m : Mach} (h : machB m = true) (v : ByteArray) {u : ByteArray} (hw : wordB u = true) {c : UInt8} (hc : ∀ x ∈ L u, x = c) : ∀ x ∈ L (wd (encD m v (dg u))), x ≠ c := by
  intro x hx
  obtain ⟨j, hj, rfl⟩ := List.getElem_of_mem hx
  have hju : j < u.size := by rw [size_L, size_wd, len_encD, len_dg] at hj; exact hj
  have := enc_ne h v hw hju
  rw [getElem_L] at this
  rw [← hc u[j] (by rw [getElem_L]; exact List.getElem_mem _)]
  exact this
theorem word_rep (c : UInt8) (hc : isL c = true) (n : Nat) (hn : n ≤ 200) : wordB (S (List.replicate n (L (S [c]))).flatten) = true ∧ ∀ x ∈ L (S (List.replicate n (L (S [c]))).flatten), x = c := by
  have he : (List.replicate n (L (S [c]))).flatten = List.replicate n c := by
    rw [L_S]
    induction n with
    | zero => rfl
    | succ n ih => rw [List.replicate_succ, List.flatten_cons, ih (by omega), List.replicate_succ]; rfl
  rw [he]
  constructor
  · simp only [wordB, Bool.and_eq_true, decide_eq_true_eq]
    refine ⟨by rw [size_S]; simpa using hn, ?_⟩
    rw [L_S, List.all_eq_true]
    intro x hx
    rw [List.eq_of_mem_replicate hx]; exact hc
  · rw [L_S]
    exact fun x hx => List.eq_of_mem_replicate hx
theorem str_eq_self (s : ByteArray) : (s.toList == s.toList) = true := by simp

end Go.Proofs.YtnnblmibonnpcaaGreatDoor

/- The walk of the law that the plugboard acts before and after. -/
namespace Go.Proofs.YtnnblmibonnpcaaGreatDoor
open Go.RowKit

theorem implIdentityPerm_any (w : World) :
    Calls Tryz.prog 55 #[] w fun e w' => e = .returned (.string (wd idP)) ∧ Below w.heap.size w w' := by
  go_enter Tryz.func55, Tryz.ntmps55
  go_wp2_with (first | (go_at_call 76; ((with_reducible refine (identity_any _).mono ?_); rintro e w1 ⟨rfl, hb1⟩)) | (go_at_call 62; ((with_reducible refine (string_any _ _ isP_id).mono ?_); rintro e w2 ⟨rfl, hb2⟩)))
  go_ret
  exact ⟨rfl, bt hb1 hb2⟩
theorem one_mach (a : Option Addr) (n c : Nat) (r s t : ByteArray) : ∀ v ∈ [Value.slice a n c, .string r, .string s, .string t], v.oneCell' = true := by
  intro v hv
  simp only [List.mem_cons, List.not_mem_nil, or_false] at hv
  rcases hv with rfl | rfl | rfl | rfl <;> rfl
theorem info_mach (a : Option Addr) (n c : Nat) (r s t : ByteArray) : (Tryz.prog.info? 27).map (·.size) = some [Value.slice a n c, .string r, .string s, .string t].length := by kernel_rfl
set_option maxRecDepth 100000 in
theorem rcBare_any (a : Option Addr) (n c : Nat) (m : Mach) (w : World) :
    Calls Tryz.prog 29 #[.agg #[.slice a n c, .string m.wheels.refl, .string m.rings, .string m.plugs]] w fun e w' => e = .returned (.agg #[.slice a n c, .string m.wheels.refl, .string m.rings, .string (wd idP)]) ∧ Below w.heap.size w w' := by
  have o0 := (Own.new w [.slice a n c, .string m.wheels.refl, .string m.rings, .string m.plugs] 27).alloc (.cells #[.slice none 0 0, .string ⟨#[]⟩, .string ⟨#[]⟩, .string ⟨#[]⟩] 27)
  have o1 := Own.new (w.alloc (.cells [.slice a n c, .string m.wheels.refl, .string m.rings, .string m.plugs].toArray 27)) [.slice none 0 0, .string ⟨#[]⟩, .string ⟨#[]⟩, .string ⟨#[]⟩] 27
  have hb0 := ((Below.refl w.heap.size w).alloc (Nat.le_refl _) (.cells [.slice a n c, .string m.wheels.refl, .string m.rings, .string m.plugs].toArray 27)).alloc (by simp) (.cells #[.slice none 0 0, .string ⟨#[]⟩, .string ⟨#[]⟩, .string ⟨#[]⟩] 27)
  rw [World.size_alloc] at o1
  go_enter Tryz.func29, Tryz.ntmps29
  go_wp2_with fail
  generalize hW : (w.alloc (.cells [.slice a n c, .string m.wheels.refl, .string m.rings, .string m.plugs].toArray 27)).alloc (.cells #[.slice none 0 0, .string ⟨#[]⟩, .string ⟨#[]⟩, .string ⟨#[]⟩] 27) = W at *
  have hs : W.heap.size = w.heap.size + 1 + 1 := by rw [← hW]; simp
  clear hW
  have l0 := o0.lt
  have l1 := o1.lt
  have f0 := o0.at_ (i := 0) rfl
  have f1 := o0.at_ (i := 1) rfl
  have f2 := o0.at_ (i := 2) rfl
  have d0 := fun (cc : Cls W.heap.size W) => (cc.cell w.heap.size 0 l0).trans f0
  have d1 := fun (cc : Cls W.heap.size W) => (cc.cell w.heap.size 1 l0).trans f1
  have d2 := fun (cc : Cls W.heap.size W) => (cc.cell w.heap.size 2 l0).trans f2
  clear f0 f1 f2
  have HS := Lib.hid hs
  clear hs
  refine wp_region_cls_tail 5 (by kernel_rfl) (by kernel_rfl) ?_
  simp only [List.take_succ_cons, List.take_zero, List.drop_succ_cons, List.drop_zero]
  repeat (go_big_quiet_step (first | (go_at_call 55; with_reducible exact cls_of (Nat.le_refl _) (implIdentityPerm_any _))))
  refine wpQuiet_nil ?_
  intro wc hbc
  have oc := o1.below hbc l1
  have hs := HS.out
  have hz := hbc.size
  have hbw := bt hb0 hbc
  clear d0 d1 d2 o0 o1 hb0
  go_wp2_with ((with_reducible refine wl_store 27 0 oc (info_mach a n c m.wheels.refl m.rings (wd idP)) (one_mach a n c m.wheels.refl m.rings (wd idP)) (by simp) ?_ ?_ ?_ ?_); (· rfl); (· rfl); (· rfl); intro w5 o5 b5 s5)
  refine bodyPost_ret (results_cell_own Tryz.results29 _ _ _ _ _ (by rfl) o5.cells Tryz.underlying27 rfl (info_mach a n c m.wheels.refl m.rings (wd idP))) rfl ?_
  exact ⟨rfl, bel_store hbw b5 (by omega) (by omega)⟩

theorem wordB_map {q u : ByteArray} (hw : wordB u = true) : wordB (wd ((dg u).map (pAt (dg q)))) = true := word_wd (by rw [List.length_map, len_dg]; exact wordB_size hw)
theorem wordB_enc (m : Mach) (v : ByteArray) {u : ByteArray} (hw : wordB u = true) : wordB (wd (encD m v (dg u))) = true := word_wd (by rw [len_encD, len_dg]; exact wordB_size hw)
theorem plugs_law {m : Mach} {v u : ByteArray} (h : setB m v = true) (hw : wordB u = true) :
    wd (encD m v (dg u)) = wd ((dg (wd (encD (bareM m) v (dg (wd ((dg u).map (pAt (dg m.plugs)))))))).map (pAt (dg m.plugs))) := by
  have hm := setB_mach h
  have hq := machB_plugP hm
  have hqi := plugB_inv (machB_plug hm)
  have hd := word_dg_lt hw
  have hd2 : ∀ x ∈ (dg u).map (pAt (dg m.plugs)), x < 10 := by
    intro x hx
    obtain ⟨y, hy, rfl⟩ := List.mem_map.1 hx
    exact hq.at_lt (hd y hy)
  rw [dg_wd hd2, dg_wd (encD_lt (machB_bare hm) v hd2)]
  congr 1
  refine List.ext_getElem (by simp [len_encD]) fun i h1 h2 => ?_
  have hi : i < (dg u).length := by rw [len_encD] at h1; exact h1
  have hx : pAt (dg u) i < 10 := by rw [pAt_get hi]; exact hd _ (List.getElem_mem _)
  have hi2 : i < ((dg u).map (pAt (dg m.plugs))).length := by rw [List.length_map]; exact hi
  have hi3 : i < (encD (bareM m) v ((dg u).map (pAt (dg m.plugs)))).length := by rw [len_encD]; exact hi2
  rw [List.getElem_map, ← pAt_get h1, ← pAt_get hi3, at_encD m v hi, at_encD (bareM m) v hi2, pAt_get hi2, List.getElem_map, ← pAt_get hi]
  show pAt (keyN m v i) _ = pAt (dg m.plugs) (pAt (keyN (bareM m) v i) _)
  rw [keyN_of_bare hm, at_conj (isP_keyN (machB_bare hm) v i) hq hx, hqi.back hq]
theorem MachAt.bare {w : World} {B : Nat} {a : Option Addr} {n : Nat} {m : Mach} (h : MachAt w B a n m) : MachAt w B a n (bareM m) := ⟨h.whl, h.rings, by show (wd idP).size ≤ _; rw [size_wd]; decide⟩

end Go.Proofs.YtnnblmibonnpcaaGreatDoor

/- The walk of the law that the grounds with a characteristic are those at which the machine without pairs has it. -/
namespace Go.Proofs.YtnnblmibonnpcaaGreatDoor
open Go.RowKit
attribute [local go_sem] Oper.semAt_some

theorem filter_at {P : ByteArray → Bool} {vs : List ByteArray} {k : Nat} (h : k < vs.length) (hp : P vs[k] = true) :
    ∃ hj : ((vs.take k).filter P).length < (vs.filter P).length, (vs.filter P)[((vs.take k).filter P).length]'hj = vs[k] := by
  have e : vs.filter P = (vs.take k).filter P ++ vs[k] :: (vs.drop (k + 1)).filter P := by
    have e0 : vs = vs.take k ++ vs[k] :: vs.drop (k + 1) := by
      rw [← List.drop_eq_getElem_cons h]
      exact (List.take_append_drop k vs).symm
    have e1 := congrArg (List.filter P) e0
    rw [List.filter_append, List.filter_cons, if_pos hp] at e1
    exact e1
  refine ⟨by rw [e, List.length_append, List.length_cons]; omega, ?_⟩
  have : (vs.filter P)[((vs.take k).filter P).length]? = some vs[k] := by
    rw [e, List.getElem?_append_right (Nat.le_refl _), Nat.sub_self]; rfl
  exact (List.getElem?_eq_some_iff.1 this).2
theorem take_all {P : ByteArray → Bool} {vs : List ByteArray} {k : Nat} (h : k < vs.length) : (vs.take (k + 1)).all P = ((vs.take k).all P && P vs[k]) := by
  rw [List.take_succ_eq_append_getElem h, List.all_append]; simp
theorem bel_drewM (w : World) (n : Nat) : Below w.heap.size w (w.drewN n) := bel_drewN (Below.refl _ _) n
theorem filter_next {P : ByteArray → Bool} {vs : List ByteArray} {k : Nat} (h : k < vs.length) : (vs.take (k + 1)).filter P = (vs.take k).filter P ++ if P vs[k] = true then [vs[k]] else [] := by
  rw [List.take_succ_eq_append_getElem h, List.filter_append]
  congr 1
  by_cases e : P vs[k] = true <;> simp [e]
/-- Machine, grounds, characteristic and answer in memory. -/
structure GkAt (w0 w : World) (B : Nat) (a1 : Option Addr) (cap1 : Nat) (m : Mach) (av : Option Addr) (vs : List ByteArray) (aw : Option Addr) (ws : List ByteArray) (al : Option Addr) (ls : List ByteArray) : Prop where
  box : Own w B [.slice a1 m.wheels.rotors.length cap1, .string m.wheels.refl, .string m.rings, .string m.plugs]
  mach : MachAt w w.heap.size a1 m.wheels.rotors.length m
  rv : Reads w w.heap.size av (sv vs)
  rw_ : Reads w w.heap.size aw (sv ws)
  rl : Reads w w.heap.size al (sv ls)
  bel : Below w0.heap.size w0 w
theorem GkAt.below {w0 w w' : World} {B : Nat} {a1 : Option Addr} {cap1 : Nat} {m : Mach} {av : Option Addr} {vs : List ByteArray} {aw : Option Addr} {ws : List ByteArray} {al : Option Addr} {ls : List ByteArray} (h : GkAt w0 w B a1 cap1 m av vs aw ws al ls) (hb : Below w.heap.size w w') : GkAt w0 w' B a1 cap1 m av vs aw ws al ls :=
  ⟨h.box.below hb h.box.lt, (h.mach.below hb (Nat.le_refl _)).more hb.size, (h.rv.below hb (Nat.le_refl _)).more hb.size, (h.rw_.below hb (Nat.le_refl _)).more hb.size, (h.rl.below hb (Nat.le_refl _)).more hb.size, bt h.bel hb⟩
set_option maxRecDepth 100000 in
set_option maxHeartbeats 4000000 in
theorem groundsKept_walk (a : Option Addr) (len cap : Nat) (zs : List Int) (w : World) (h : IsRow .u8 w a len cap zs) :
    Calls Tryz.prog 5 #[.slice a len cap] w fun e w' => e = .returned (.bool true) ∧ Below w.heap.size w w' := by
  have hlen : len ≤ 9223372036854775807 := by
    rcases h with ⟨_, rfl, _⟩ | ⟨x, _, hl, hm, _⟩
    · omega
    · unfold maxLen at hm; omega
  by_cases hl : 1048576 < len
  · go_enter Tryz.func5, Tryz.ntmps5
    go_wp2
    go_ret
    exact ⟨rfl, Below.refl _ _⟩
  · go_enter Tryz.func5, Tryz.ntmps5
    go_wp2_with fail
    refine (DrawGroundsWith_any a len cap zs _ h (by omega)).mono ?_
    rintro e w1 ⟨m, vs, ws, a1, cap1, g, gc, aw, cw, ⟨hsm, hrd, -, hb1⟩, hv, hv13, hw3, hrv, hrw, rfl⟩
    have o1 := Own.new w1 [.slice a1 m.wheels.rotors.length cap1, .string m.wheels.refl, .string m.rings, .string m.plugs] 27
    have hba : Below w1.heap.size w1 (w1.alloc (.cells [.slice a1 m.wheels.rotors.length cap1, .string m.wheels.refl, .string m.rings, .string m.plugs].toArray 27)) := (Below.refl _ _).alloc (Nat.le_refl _) _
    have hbw1 := hb1.alloc hb1.size (.cells [.slice a1 m.wheels.rotors.length cap1, .string m.wheels.refl, .string m.rings, .string m.plugs].toArray 27)
    have A1 : GkAt w (w1.alloc (.cells [.slice a1 m.wheels.rotors.length cap1, .string m.wheels.refl, .string m.rings, .string m.plugs].toArray 27)) w1.heap.size a1 cap1 m (some ⟨g, 0, none⟩) vs aw ws none [] := ⟨o1, (hsm.at_ hrd).alloc_ _, (hrv.below hba (Nat.le_refl _)).more hba.size, (hrw.below hba (Nat.le_refl _)).more hba.size, Reads.nil_, hbw1⟩
    have HV := Lib.hid hv
    have hv2 : ∀ s ∈ vs, s.size ≤ 4294967296 := fun s hs => by have := hv s hs; omega
    clear hrd hb1 h hsm hrw hba o1 hrv hbw1 hv
    go_wp2_with fail
    generalize (w1.alloc (.cells [.slice a1 m.wheels.rotors.length cap1, .string m.wheels.refl, .string m.rings, .string m.plugs].toArray 27)) = W1 at *
    generalize w1.heap.size = B1 at *
    have f0 := A1.box.at_ (i := 0) rfl
    have f1 := A1.box.at_ (i := 1) rfl
    have f2 := A1.box.at_ (i := 2) rfl
    have f3 := A1.box.at_ (i := 3) rfl
    have nsp := fun W h1 h2 h3 => specGroundsWith_any a1 m.wheels.rotors.length cap1 m (some ⟨g, 0, none⟩) gc vs aw cw ws W h1 h2 h3 hv2 (by omega) (by omega)
    have hl12 : (gwG m vs ws).length ≤ 13 := by
      have := gwN_len m vs ws vs.length
      unfold gwG
      split
      · omega
      · simp
    have HNO := Lib.hid (fun h => @gwG_no m vs h ws)
    have HYES := Lib.hid (fun h => @gwG_yes m vs h ws)
    refine (implGroundsWith_any a1 m.wheels.rotors.length cap1 m (some ⟨g, 0, none⟩) gc vs aw cw ws _ A1.mach A1.rv A1.rw_ hv2 (by omega) (by omega)).mono ?_
    rintro e w2 ⟨lv, rfl, ol, hb2⟩
    obtain ⟨al, cl, rfl, hlc, hrl2, -⟩ := OwR.val ol
    have A2' := A1.below hb2
    have A2 : GkAt w w2 B1 a1 cap1 m (some ⟨g, 0, none⟩) vs aw ws al (gwG m vs ws) := ⟨A2'.box, A2'.mach, A2'.rv, A2'.rw_, hrl2, A2'.bel⟩
    clear A1 A2' ol hlc hb2 hrl2 f0 f1 f2 f3
    have f0 := A2.box.at_ (i := 0) rfl
    have f1 := A2.box.at_ (i := 1) rfl
    have f2 := A2.box.at_ (i := 2) rfl
    have f3 := A2.box.at_ (i := 3) rfl
    generalize hgl : gwG m vs ws = ls at *
    clear hgl
    go_wp2_with fail
    refine (nsp _ A2.mach A2.rv A2.rw_).mono ?_
    rintro e w3 ⟨lv, rfl, ol, hb3⟩
    obtain ⟨al3, cl3, rfl, hlc, hrl3, -⟩ := OwR.val ol
    have A3 := A2.below hb3
    clear A2 ol hlc hb3 nsp f0 f1 f2 f3
    go_wp2_with fail
    have hrt := rcTexts_any al al3 cl cl3 ls ls w3 A3.rl hrl3 (by omega)
    rw [decide_eq_true rfl] at hrt
    refine hrt.mono ?_
    rintro e w' ⟨rfl, n4, rfl⟩
    have hb4 := bel_drewM w3 n4
    generalize w3.drewN n4 = w4 at *
    have A4 := A3.below hb4
    clear A3 hrl3 hrt hb4 n4
    have f0 := A4.box.at_ (i := 0) rfl
    have f1 := A4.box.at_ (i := 1) rfl
    have f2 := A4.box.at_ (i := 2) rfl
    have f3 := A4.box.at_ (i := 3) rfl
    go_upto_region 7 with (fail)
    go_cut [7] (fun o wr => o = .bool (machB m && decide (vs.length ≤ 12)) ∧ GkAt w wr B1 a1 cap1 m (some ⟨g, 0, none⟩) vs aw ws al ls)
    case first =>
      go_wp2_with fail
      refine (implMachineValid_any a1 m.wheels.rotors.length cap1 m _ A4.mach).mono ?_
      rintro e w5 ⟨rfl, hb5⟩
      have A5 := A4.below hb5
      clear A4 hb5 f0 f1 f2 f3
      cases h2 : machB m with
      | false =>
        have H2 := Lib.hid h2
        clear h2
        go_wp2_with fail
        go_meet
        exact ⟨by rw [H2.out]; rfl, A5⟩
      | true =>
        have H2 := Lib.hid h2
        clear h2
        by_cases h12 : vs.length ≤ 12
        · have t12 : decide ((vs.length : Int) ≤ 12) = true := decide_eq_true (by omega)
          have e12 := decide_eq_true h12
          clear h12
          go_wp2_with fail
          go_meet
          exact ⟨by rw [H2.out, e12]; rfl, A5⟩
        · have t12 : decide ((vs.length : Int) ≤ 12) = false := decide_eq_false (by omega)
          have e12 := decide_eq_false h12
          clear h12
          go_wp2_with fail
          go_meet
          exact ⟨by rw [H2.out, e12]; rfl, A5⟩
    case rest =>
      clear A4 f0 f1 f2 f3
      obtain ⟨rfl, A4⟩ := hcut
      have HG0 : Hid (((machB m && decide (vs.length ≤ 12)) && vs.all (setB m)) = goodG m vs) := Lib.hid (by unfold goodG; rw [Bool.and_assoc])
      generalize hc0 : (machB m && decide (vs.length ≤ 12)) = c0 at *
      clear hc0
      go_wp2_with fail
      go_loopw [7, 8] (fun o i wr => ∃ k : Nat, k ≤ vs.length ∧ i = .int .i64 k ∧ o = .bool (c0 && (vs.take k).all (setB m)) ∧ GkAt w wr B1 a1 cap1 m (some ⟨g, 0, none⟩) vs aw ws al ls) (fun _ i _ => vs.length - (intOf i).toNat)
      case atStart => exact ⟨0, Nat.zero_le _, rfl, by simp, A4⟩
      case round =>
        clear A4
        obtain ⟨k, hk, rfl, rfl, A4⟩ := hrel
        by_cases hlt : k < vs.length
        · have HTA := Lib.hid (take_all (P := setB m) hlt)
          generalize (vs.take k).all (setB m) = ck at *
          obtain ⟨b, off, he, hbl, hcl⟩ := A4.rv.open_ (by rw [length_sv]; omega)
          cases he
          have c1 := hcl k (by rw [length_sv]; exact hlt)
          rw [sv_at hlt, Nat.zero_add] at c1
          clear hcl
          have q1 : (0 : Int) ≤ (k : Int) := by omega
          have q2 : (k : Int) < (vs.length : Int) := by omega
          have hsz := HV.out vs[k] (List.getElem_mem hlt)
          generalize vs[k] = v at *
          have l1 := A4.box.lt
          cases hc : (c0 && ck) with
          | false =>
            have HE : Hid ((c0 && (ck && setB m v)) = false) := Lib.hid (by rw [← Bool.and_assoc, hc]; rfl)
            clear hc c1
            go_wp2_with fail
            go_quiet (fail)
            have hbq := bel_drewM wr nq
            have A5 := A4.below hbq
            clear A4 hbq
            generalize wr.drewN nq = w5 at *
            go_wp2
            go_roundw
            case rel => exact ⟨k + 1, by omega, by go_num, by rw [HTA.out, HE.out], A5⟩
            case measure => simp [intOf]; omega
          | true =>
            have HE : Hid ((c0 && (ck && setB m v)) = setB m v) := Lib.hid (by rw [← Bool.and_assoc, hc]; rfl)
            clear hc
            have HL := Lib.hid (fun (cc : Cls wr.heap.size wr) => rcFits_any a1 m.wheels.rotors.length cap1 m v cc.w (A4.below cc.bel).mach (by omega))
            have d0 := fun (cc : Cls wr.heap.size wr) => (cc.cell B1 0 l1).trans (A4.box.at_ (i := 0) rfl)
            have d1 := fun (cc : Cls wr.heap.size wr) => (cc.cell B1 1 l1).trans (A4.box.at_ (i := 1) rfl)
            have d2 := fun (cc : Cls wr.heap.size wr) => (cc.cell B1 2 l1).trans (A4.box.at_ (i := 2) rfl)
            have d3 := fun (cc : Cls wr.heap.size wr) => (cc.cell B1 3 l1).trans (A4.box.at_ (i := 3) rfl)
            have d4 := fun (cc : Cls wr.heap.size wr) => (cc.cell g k (by omega)).trans c1
            clear c1
            generalize setB m v = sb at *
            go_wp2_with fail
            refine wp_region_cls (by kernel_rfl) (by kernel_rfl) ?_
            repeat (go_big_quiet_step (first | (go_at_call 28; with_reducible exact cls_of (Nat.le_refl _) (HL.out _))))
            refine wpQuiet_nil ?_
            intro wc hbc
            have A5 := A4.below hbc
            clear A4 d0 d1 d2 d3 d4 HL
            go_wp2
            go_roundw
            case rel => exact ⟨k + 1, by omega, by go_num, by rw [HTA.out, HE.out], A5⟩
            case measure => simp [intOf]; omega
        · have hk' : k = vs.length := by omega
          subst hk'
          rw [List.take_length]
          go_wp2_with fail
          cases hc : (c0 && vs.all (setB m)) with
          | false =>
            have hnil : ls = [] := HNO.out (by rw [← HG0.out]; exact hc)
            subst hnil
            clear hc
            go_wp2_with fail
            go_loopw [9, 10] (fun q i wr => q = .int .i64 0 ∧ i = .int .i64 0 ∧ GkAt w wr B1 a1 cap1 m (some ⟨g, 0, none⟩) vs aw ws al []) (fun _ _ _ => 0)
            case atStart => exact ⟨rfl, rfl, A4⟩
            case round =>
              clear A4
              obtain ⟨rfl, rfl, A4⟩ := hrel
              by_cases h0 : (0 : Int) < (vs.length : Int)
              · go_wp2
                go_ret
                exact ⟨rfl, A4.bel⟩
              · go_wp2
                go_ret
                exact ⟨rfl, A4.bel⟩
          | true =>
            have hfil : ls = vs.filter fun g => gwB m g ws := by
              rw [HYES.out (by rw [← HG0.out]; exact hc)]
              unfold gwN
              rw [List.take_length]
            have HSB : Hid (∀ j (h : j < vs.length), setB m vs[j] = true) := Lib.hid (fun j h => by
              simp only [Bool.and_eq_true] at hc
              exact List.all_eq_true.1 hc.2 _ (List.getElem_mem h))
            have HAT : Hid (∀ j (h : j < vs.length), gwB m vs[j] ws = true → ∃ hj : ((vs.take j).filter fun g => gwB m g ws).length < ls.length, ls[((vs.take j).filter fun g => gwB m g ws).length]'hj = vs[j]) := Lib.hid (fun j h hp => by subst hfil; exact filter_at h hp)
            have HFIL := Lib.hid hfil
            clear hc hfil
            go_wp2_with fail
            go_loopw [9, 10] (fun q i wr => ∃ k : Nat, k ≤ vs.length ∧ i = .int .i64 k ∧ q = .int .i64 (((vs.take k).filter fun g => gwB m g ws).length : Int) ∧ GkAt w wr B1 a1 cap1 m (some ⟨g, 0, none⟩) vs aw ws al ls) (fun _ i _ => vs.length - (intOf i).toNat)
            case atStart => exact ⟨0, Nat.zero_le _, rfl, rfl, A4⟩
            case round =>
              clear A4 hk hlt
              obtain ⟨k, hk, rfl, rfl, A4⟩ := hrel
              by_cases hlt : k < vs.length
              · obtain ⟨b, off, he, hbl, hcl⟩ := A4.rv.open_ (by rw [length_sv]; omega)
                cases he
                have c1 := hcl k (by rw [length_sv]; exact hlt)
                rw [sv_at hlt, Nat.zero_add] at c1
                clear hcl
                have q1 : (0 : Int) ≤ (k : Int) := by omega
                have q2 : (k : Int) < (vs.length : Int) := by omega
                have hsz := HV.out vs[k] (List.getElem_mem hlt)
                have HF := Lib.hid (filter_next (P := fun g => gwB m g ws) hlt)
                have hat := HAT.out k hlt
                have HCB := Lib.hid (chT_bare (HSB.out k hlt))
                generalize vs[k] = v at *
                generalize hfl : ((vs.take k).filter fun g => gwB m g ws).length = j at *
                have HFL := Lib.hid hfl
                clear hfl
                have l1 := A4.box.lt
                have HGB : Hid (decide (chT (bareM m) v = ws) = gwB m v ws) := Lib.hid (by rw [HCB.out]; rfl)
                have hc3 := chT_le (bareM m) v
                have hc4 : (chT (bareM m) v).length ≤ 1048576 := by
                  rw [HCB.out]
                  unfold chT chP
                  rw [List.length_map]
                  split
                  · simp [prods]; omega
                  · simp
                have HSS := Lib.hid (fun (W' : World) (hb : Below wr.heap.size wr W') => (show W'.rangeAt B1 0 [.slice a1 m.wheels.rotors.length cap1, .string m.wheels.refl, .string m.rings, .string m.plugs] ∧ W'.cell? ⟨g, k, none⟩ = some (.string v) from ⟨by simpa using ((A4.below hb).box.cells.sub 0 4 (by simp)).range, (hb.cell (p := ⟨g, k, none⟩) hbl).trans c1⟩))
                by_cases hy : gwB m v ws = true
                · obtain ⟨hj, hjv⟩ := hat hy
                  simp only [hy, if_true] at HF
                  have HFN := Lib.hid (show ((vs.take (k + 1)).filter fun g => gwB m g ws).length = j + 1 from by rw [HF.out, List.length_append, HFL.out]; rfl)
                  rw [hy] at HGB
                  clear hy HF hat
                  go_wp2_with fail
                  refine wp_onlyN ?_
                  refine wp_region_any (by kernel_rfl) ?_
                  refine wpAny_of_K (S := fun w' => w'.rangeAt B1 0 [.slice a1 m.wheels.rotors.length cap1, .string m.wheels.refl, .string m.rings, .string m.plugs] ∧ w'.cell? ⟨g, k, none⟩ = some (.string v)) (kp := fun _ => true) _ _ _ _ ?_
                  have hbd : Below wr.heap.size wr wr.drew := (Below.refl _ _).drew
                  have hS := HSS.out wr.drew hbd
                  refine kr_take 0 62 (v := .agg #[.slice a1 m.wheels.rotors.length cap1, .string m.wheels.refl, .string m.rings, .string m.plugs]) rfl (by kernel_rfl) (by kernel_rfl) (by kernel_rfl) (by kernel_rfl) (fun _ _ _ h => by cases h.1) rfl hS (yieldsIf_load_mid (by rfl) _ _ rfl _ _ rfl _ _ (fun _ h => h.1) Tryz.underlying27 rfl (by kernel_rfl)) ?_; simp only [Act.put, List.setIfInBounds_toArray, List.set_cons_succ, List.set_cons_zero]
                  refine kr_take 2 64 (v := .slice (some ⟨g, 0, none⟩) vs.length gc) rfl (by kernel_rfl) (by kernel_rfl) (by kernel_rfl) (by kernel_rfl) (fun _ _ _ h => by cases h.1) rfl hS (Or.inl ⟨by rfl, fun _ _ => rfl⟩) ?_; simp only [Act.put, List.setIfInBounds_toArray, List.set_cons_succ, List.set_cons_zero]
                  refine kr_take 3 65 (v := .int .i64 (k : Int)) rfl (by kernel_rfl) (by kernel_rfl) (by kernel_rfl) (by kernel_rfl) (fun _ _ _ h => by cases h.1) rfl hS (Or.inl ⟨by rfl, fun _ _ => rfl⟩) ?_; simp only [Act.put, List.setIfInBounds_toArray, List.set_cons_succ, List.set_cons_zero]
                  refine kr_take 4 66 (v := .pointer (some ⟨g, k, none⟩)) rfl (by kernel_rfl) (by kernel_rfl) (by kernel_rfl) (by kernel_rfl) (fun _ _ _ h => by cases h.1) rfl hS (Or.inl ⟨by rfl, fun w' hw' => by simp [go_sem, q1, q2]⟩) ?_; simp only [Act.put, List.setIfInBounds_toArray, List.set_cons_succ, List.set_cons_zero]
                  refine kr_take 5 67 (v := .string v) rfl (by kernel_rfl) (by kernel_rfl) (by kernel_rfl) (by kernel_rfl) (fun _ _ _ h => by cases h.1) rfl hS (Or.inl ⟨by rfl, fun w' hw' => by have hw1 := hw'.2; simp [go_sem, hw1]⟩) ?_; simp only [Act.put, List.setIfInBounds_toArray, List.set_cons_succ, List.set_cons_zero]
                  refine kr_take 7 69 (v := .slice aw ws.length cw) rfl (by kernel_rfl) (by kernel_rfl) (by kernel_rfl) (by kernel_rfl) (fun _ _ _ h => by cases h.1) rfl hS (Or.inl ⟨by rfl, fun _ _ => rfl⟩) ?_; simp only [Act.put, List.setIfInBounds_toArray, List.set_cons_succ, List.set_cons_zero]
                  refine kr_callQ 1 63 (by kernel_rfl) rfl (by rfl) rfl (fun w => by simp [go_sem]) (rcBare_any a1 m.wheels.rotors.length cap1 m wr.drew) (fun e w4 hT => ?_)
                  obtain ⟨rfl, hb4⟩ := hT
                  have hb34 := hbd.trans (hb4.mono hbd.size)
                  refine ⟨_, rfl, HSS.out _ hb34, ?_⟩
                  simp only [Act.put, List.setIfInBounds_toArray, List.set_cons_succ, List.set_cons_zero]
                  refine kr_callQ 6 68 (by kernel_rfl) rfl (by rfl) rfl (fun w => by simp [go_sem, bareM]) (implCharacteristic_any a1 m.wheels.rotors.length cap1 (bareM m) v w4 (A4.below hb34).mach.bare (by omega)) (fun e w5 hT => ?_)
                  obtain ⟨lv, rfl, hol, hb5⟩ := hT
                  obtain ⟨la, lc, rfl, -, hrl, -⟩ := OwR.val hol
                  have hb35 := hb34.trans (hb5.mono hb34.size)
                  refine ⟨_, rfl, HSS.out _ hb35, ?_⟩
                  simp only [Act.put, List.setIfInBounds_toArray, List.set_cons_succ, List.set_cons_zero]
                  have hsm := rcTexts_any la aw lc cw (chT (bareM m) v) ws w5 hrl (A4.below hb35).rw_ hc4
                  rw [HGB.out] at hsm
                  refine kr_callQ 8 70 (by kernel_rfl) rfl (by rfl) rfl (fun w => by simp [go_sem]) hsm (fun e w6 hT => ?_)
                  obtain ⟨rfl, nq, rfl⟩ := hT
                  have hbc : Below wr.heap.size wr (w5.drewN nq) := bel_drewN hb35 nq
                  refine ⟨_, rfl, HSS.out _ hbc, ?_⟩
                  simp only [Act.put, List.setIfInBounds_toArray, List.set_cons_succ, List.set_cons_zero]
                  generalize w5.drewN nq = wc at *
                  refine ⟨by kernel_rfl, onlyN_mk ?_⟩
                  have A5 := A4.below hbc
                  obtain ⟨b2, off2, rfl, hbl2, hcl2⟩ := A5.rl.open_ (by rw [length_sv]; omega)
                  have c2 := (HSS.out _ hbc).2
                  have c3 := hcl2 j (by rw [length_sv]; exact hj)
                  rw [sv_at hj, hjv] at c3
                  have q3 : (0 : Int) ≤ (j : Int) := by omega
                  have q4 : (j : Int) < (ls.length : Int) := by omega
                  have t5 : decide ((ls.length : Int) ≤ (j : Int)) = false := decide_eq_false (by omega)
                  have t6 : decide (ls.length ≤ j) = false := decide_eq_false (by omega)
                  have te : (v.toList == v.toList) = true := by simp
                  clear A4 c1 hjv hcl2
                  go_wp2_with fail
                  go_quiet (fail)
                  have hbq := bel_drewM wc nq
                  have A6 := A5.below hbq
                  clear A5 hbq c2 c3
                  generalize wc.drewN nq = w6 at *
                  go_wp2
                  go_roundw
                  case rel => exact ⟨k + 1, by omega, by go_num, by rw [HFN.out]; go_num, A6⟩
                  case measure => simp [intOf]; omega
                · have hn : gwB m v ws = false := by simpa using hy
                  simp only [hn, Bool.false_eq_true, if_false, List.append_nil] at HF
                  have HFN := Lib.hid (show ((vs.take (k + 1)).filter fun g => gwB m g ws).length = j from by rw [HF.out, HFL.out])
                  rw [hn] at HGB
                  clear hy hn HF hat
                  go_wp2_with fail
                  refine wp_onlyN ?_
                  refine wp_region_any (by kernel_rfl) ?_
                  refine wpAny_of_K (S := fun w' => w'.rangeAt B1 0 [.slice a1 m.wheels.rotors.length cap1, .string m.wheels.refl, .string m.rings, .string m.plugs] ∧ w'.cell? ⟨g, k, none⟩ = some (.string v)) (kp := fun _ => true) _ _ _ _ ?_
                  have hbd : Below wr.heap.size wr wr.drew := (Below.refl _ _).drew
                  have hS := HSS.out wr.drew hbd
                  refine kr_take 0 62 (v := .agg #[.slice a1 m.wheels.rotors.length cap1, .string m.wheels.refl, .string m.rings, .string m.plugs]) rfl (by kernel_rfl) (by kernel_rfl) (by kernel_rfl) (by kernel_rfl) (fun _ _ _ h => by cases h.1) rfl hS (yieldsIf_load_mid (by rfl) _ _ rfl _ _ rfl _ _ (fun _ h => h.1) Tryz.underlying27 rfl (by kernel_rfl)) ?_; simp only [Act.put, List.setIfInBounds_toArray, List.set_cons_succ, List.set_cons_zero]
                  refine kr_take 2 64 (v := .slice (some ⟨g, 0, none⟩) vs.length gc) rfl (by kernel_rfl) (by kernel_rfl) (by kernel_rfl) (by kernel_rfl) (fun _ _ _ h => by cases h.1) rfl hS (Or.inl ⟨by rfl, fun _ _ => rfl⟩) ?_; simp only [Act.put, List.setIfInBounds_toArray, List.set_cons_succ, List.set_cons_zero]
                  refine kr_take 3 65 (v := .int .i64 (k : Int)) rfl (by kernel_rfl) (by kernel_rfl) (by kernel_rfl) (by kernel_rfl) (fun _ _ _ h => by cases h.1) rfl hS (Or.inl ⟨by rfl, fun _ _ => rfl⟩) ?_; simp only [Act.put, List.setIfInBounds_toArray, List.set_cons_succ, List.set_cons_zero]
                  refine kr_take 4 66 (v := .pointer (some ⟨g, k, none⟩)) rfl (by kernel_rfl) (by kernel_rfl) (by kernel_rfl) (by kernel_rfl) (fun _ _ _ h => by cases h.1) rfl hS (Or.inl ⟨by rfl, fun w' hw' => by simp [go_sem, q1, q2]⟩) ?_; simp only [Act.put, List.setIfInBounds_toArray, List.set_cons_succ, List.set_cons_zero]
                  refine kr_take 5 67 (v := .string v) rfl (by kernel_rfl) (by kernel_rfl) (by kernel_rfl) (by kernel_rfl) (fun _ _ _ h => by cases h.1) rfl hS (Or.inl ⟨by rfl, fun w' hw' => by have hw1 := hw'.2; simp [go_sem, hw1]⟩) ?_; simp only [Act.put, List.setIfInBounds_toArray, List.set_cons_succ, List.set_cons_zero]
                  refine kr_take 7 69 (v := .slice aw ws.length cw) rfl (by kernel_rfl) (by kernel_rfl) (by kernel_rfl) (by kernel_rfl) (fun _ _ _ h => by cases h.1) rfl hS (Or.inl ⟨by rfl, fun _ _ => rfl⟩) ?_; simp only [Act.put, List.setIfInBounds_toArray, List.set_cons_succ, List.set_cons_zero]
                  refine kr_callQ 1 63 (by kernel_rfl) rfl (by rfl) rfl (fun w => by simp [go_sem]) (rcBare_any a1 m.wheels.rotors.length cap1 m wr.drew) (fun e w4 hT => ?_)
                  obtain ⟨rfl, hb4⟩ := hT
                  have hb34 := hbd.trans (hb4.mono hbd.size)
                  refine ⟨_, rfl, HSS.out _ hb34, ?_⟩
                  simp only [Act.put, List.setIfInBounds_toArray, List.set_cons_succ, List.set_cons_zero]
                  refine kr_callQ 6 68 (by kernel_rfl) rfl (by rfl) rfl (fun w => by simp [go_sem, bareM]) (implCharacteristic_any a1 m.wheels.rotors.length cap1 (bareM m) v w4 (A4.below hb34).mach.bare (by omega)) (fun e w5 hT => ?_)
                  obtain ⟨lv, rfl, hol, hb5⟩ := hT
                  obtain ⟨la, lc, rfl, -, hrl, -⟩ := OwR.val hol
                  have hb35 := hb34.trans (hb5.mono hb34.size)
                  refine ⟨_, rfl, HSS.out _ hb35, ?_⟩
                  simp only [Act.put, List.setIfInBounds_toArray, List.set_cons_succ, List.set_cons_zero]
                  have hsm := rcTexts_any la aw lc cw (chT (bareM m) v) ws w5 hrl (A4.below hb35).rw_ hc4
                  rw [HGB.out] at hsm
                  refine kr_callQ 8 70 (by kernel_rfl) rfl (by rfl) rfl (fun w => by simp [go_sem]) hsm (fun e w6 hT => ?_)
                  obtain ⟨rfl, nq, rfl⟩ := hT
                  have hbc : Below wr.heap.size wr (w5.drewN nq) := bel_drewN hb35 nq
                  refine ⟨_, rfl, HSS.out _ hbc, ?_⟩
                  simp only [Act.put, List.setIfInBounds_toArray, List.set_cons_succ, List.set_cons_zero]
                  generalize w5.drewN nq = wc at *
                  refine ⟨by kernel_rfl, onlyN_mk ?_⟩
                  have A5 := A4.below hbc
                  clear A4 c1
                  go_wp2
                  go_roundw
                  case rel => exact ⟨k + 1, by omega, by go_num, by rw [HFN.out], A5⟩
                  case measure => simp [intOf]; omega
              · have hk' : k = vs.length := by omega
                subst hk'
                rw [List.take_length, ← HFIL.out]
                go_wp2
                go_ret
                exact ⟨rfl, A4.bel⟩
end Go.Proofs.YtnnblmibonnpcaaGreatDoor
