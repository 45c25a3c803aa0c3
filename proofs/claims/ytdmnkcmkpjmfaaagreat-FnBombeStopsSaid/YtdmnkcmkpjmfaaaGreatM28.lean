/- Several of my texts in one: CkW, HtW. -/
import Derived.Test.YtdmnkcmkpjmfaaaGreatM16
import Derived.Test.YtdmnkcmkpjmfaaaGreatM13
import Derived.Test.YtdmnkcmkpjmfaaaGreatM15
import Derived.Test.YtdmnkcmkpjmfaaaGreatM11
import Derived.Test.YtdmnkcmkpjmfaaaGreatM27
import Derived.Test.YtdmnkcmkpjmfaaaGreatM10
/- The walk of the law that a menu is kept exactly if each key makes its letters. -/
namespace Go.Proofs.YtdmnkcmkpjmfaaaGreat
open Go.RowKit

theorem SmT.smL {ms : List Lnk} (h : SmT ms) : SmL ms := fun x hx => by have := h x hx; omega
theorem one_S {s : ByteArray} (h : s.size = 1) : s = S [s[0]'(by omega)] := by
  refine L_inj ?_
  rw [L_S]
  refine List.ext_getElem (by rw [size_L]; simpa using h) fun i h1 h2 => ?_
  have : i = 0 := by simp at h2; omega
  subst this
  rw [← getElem_L]; rfl
/-- What ApplyPerm makes of a link's first letter. -/
theorem app_chk {m : Mach} {v : ByteArray} {x : Lnk} {k : Nat} (h : machB m = true) (h1 : x.p.size = 1) (h2 : x.c.size = 1) (hw : wordB (x.p ++ x.c) = true) (hk : x.k.toNat - 1 = k) :
    ((appV (wd (keyN m v k)) x.p).toList == x.c.toList) = chk1 m v x := by
  have hwt := word_two hw
  obtain ⟨e1, e2, -⟩ := lk_letter h1 hwt.1
  obtain ⟨e4, e5, -⟩ := lk_letter h2 hwt.2
  have hp := isP_keyN h v k
  have hl := hp.at_lt e2
  have ha : appV (wd (keyN m v k)) x.p = S [letr (pAt (keyN m v k) (lkA x.p) : Int)] := by
    rw [one_S h1]
    have hi : isL (x.p[0]'(by omega)) = true := hwt.1 _ (by rw [getElem_L]; exact List.getElem_mem _)
    rw [app_one hp hi e1, ← one_S h1]
  have hc : x.c = S [letr (lkA x.c : Int)] := by
    have h3 := one_S h2
    have hi : isL (x.c[0]'(by omega)) = true := hwt.2 _ (by rw [getElem_L]; exact List.getElem_mem _)
    have h5 := (isL_iff _).1 hi
    have h6 : letr (dig (x.c[0]'(by omega))) = x.c[0]'(by omega) := letr_dig ⟨h5.1, h5.2⟩
    rw [e4] at h6
    rw [h6]; exact h3
  unfold chk1
  rw [hk, ha, Bool.eq_iff_iff, beq_iff_eq, beq_iff_eq, toList_L, toList_L]
  constructor
  · intro e
    have e6 := L_inj e
    rw [hc] at e6
    have e7 := congrArg L e6
    rw [L_S, L_S] at e7
    have e8 := congrArg dig (List.cons.inj e7).1
    rw [dig_letr, dig_letr] at e8
    omega
  · intro e
    rw [e, ← hc]
theorem all_takeL {P : Lnk → Bool} {gs : List Lnk} {k : Nat} (h : k < gs.length) : (gs.take (k + 1)).all P = ((gs.take k).all P && P gs[k]) := by
  rw [List.take_succ_eq_append_getElem h, List.all_append]; simp
/-- What the laws of menus are drawn, at a world. -/
structure LAt (w : World) (B : Nat) (a1 : Option Addr) (cap1 : Nat) (m : Mach) (am : Option Addr) (ms : List Lnk) : Prop where
  box : Own w B [.slice a1 m.wheels.rotors.length cap1, .string m.wheels.refl, .string m.rings, .string m.plugs]
  mach : MachAt w w.heap.size a1 m.wheels.rotors.length m
  menu : Reads w w.heap.size am (lks ms)
theorem LAt.below {w w' : World} {B : Nat} {a1 : Option Addr} {cap1 : Nat} {m : Mach} {am : Option Addr} {ms : List Lnk} (h : LAt w B a1 cap1 m am ms) (hb : Below w.heap.size w w') : LAt w' B a1 cap1 m am ms :=
  ⟨h.box.below hb h.box.lt, (h.mach.below hb (Nat.le_refl _)).more hb.size, (h.menu.below hb (Nat.le_refl _)).more hb.size⟩
end Go.Proofs.YtdmnkcmkpjmfaaaGreat

/- The walk of the law that the letter of the central letter is a hypothesis. -/
namespace Go.Proofs.YtdmnkcmkpjmfaaaGreat
open Go.RowKit
attribute [local go_sem] Oper.semAt_some

section
variable {m : Mach} {v : ByteArray} {ms : List Lnk}
/-- Only pairs of the plugboard follow from a pair of the plugboard. -/
theorem keep_imp (h : machB m = true) (hm : menuB ms = true) (hk : ms.all (chk1 m v) = true) {x : Nat} (hx : x < 10) {a b : Nat} (hi : impG m v ms x (pAt (dg m.plugs) x) a b = true) : b = pAt (dg m.plugs) a := by
  have hq := machB_plugP h
  have hqi := plugB_inv (machB_plug h)
  exact Imp.true_ (menG_ok h hm) (fun a ha => hq.at_lt ha) (fun a ha => hqi.at hq ha) (menG_keep h hm hk) hx (impB_iff.1 hi)
theorem keep_one (h : machB m = true) (hm : menuB ms = true) (hk : ms.all (chk1 m v) = true) {x : Nat} (hx : x < 10) : oneB (impG m v ms x (pAt (dg m.plugs) x)) = true :=
  oneB_iff.2 fun a b c _ _ _ h1 h2 => by rw [keep_imp h hm hk hx h1, keep_imp h hm hk hx h2]
theorem keep_hyp (h : machB m = true) (hm : menuB ms = true) (hk : ms.all (chk1 m v) = true) : pAt (dg m.plugs) (cenN ms) ∈ hypL m v ms :=
  List.mem_filter.2 ⟨by simpa using (machB_plugP h).at_lt (cenN_lt ms), keep_one h hm hk (cenN_lt ms)⟩
end
/-- ApplyPerm of a plugboard at a letter. -/
theorem app_plug {m : Mach} (h : machB m = true) {x : Nat} (hx : x < 10) : appV m.plugs (wd [x]) = wd [pAt (dg m.plugs) x] := by
  have hw : wd (dg m.plugs) = m.plugs := wd_dg (permB_word (plugB_perm (machB_plug h)))
  have := app_one (machB_plugP h) (c := letr (x : Int)) (d := x) (isL_letr _) (by rw [dig_letr]; omega)
  rw [hw] at this
  exact this
theorem find_wd {l : List Nat} {x : Nat} (h : x ∈ l) : 0 ≤ Lib.indexByte (L (wd l)) (letr (x : Int)) := by
  have e := Lib.contains_iff_indexByte (L (wd l)) (letr (x : Int))
  have hm : letr (x : Int) ∈ L (wd l) := by
    have : L (wd l) = l.map fun n : Nat => letr (n : Int) := L_S _
    rw [this]
    exact List.mem_map.2 ⟨x, h, rfl⟩
  rw [List.contains_iff_mem.2 hm] at e
  exact of_decide_eq_true e.symm
set_option maxRecDepth 100000 in
set_option maxHeartbeats 4000000 in
theorem hypothesesTrue_walk (a : Option Addr) (len cap : Nat) (zs : List Int) (w : World) (h : IsRow .u8 w a len cap zs) :
    Calls Tryz.prog 17 #[.slice a len cap] w fun e w' => e = .returned (.bool true) ∧ Below w.heap.size w w' := by
  have hlen : len ≤ 9223372036854775807 := by
    rcases h with ⟨_, rfl, _⟩ | ⟨x, _, hl, hm, _⟩
    · omega
    · unfold maxLen at hm; omega
  by_cases hl : 1048576 < len
  · go_enter Tryz.func17, Tryz.ntmps17
    go_wp2
    go_ret
    exact ⟨rfl, Below.refl _ _⟩
  · go_enter Tryz.func17, Tryz.ntmps17
    go_wp2_with fail
    refine (DrawCheckMenu_any a len cap zs _ h (by omega)).mono ?_
    rintro e w1 ⟨m, v, ms, a1, am, cap1, cm, ⟨hsm, hrd, -, hb1⟩, hv, hst, hl24, hrm, rfl⟩
    have o1 := Own.new w1 [.slice a1 m.wheels.rotors.length cap1, .string m.wheels.refl, .string m.rings, .string m.plugs] 36
    have hba : Below w1.heap.size w1 (w1.alloc (.cells [.slice a1 m.wheels.rotors.length cap1, .string m.wheels.refl, .string m.rings, .string m.plugs].toArray 36)) := (Below.refl _ _).alloc (Nat.le_refl _) _
    have hb1' := hb1.alloc hb1.size (.cells [.slice a1 m.wheels.rotors.length cap1, .string m.wheels.refl, .string m.rings, .string m.plugs].toArray 36)
    have A1 : LAt (w1.alloc (.cells [.slice a1 m.wheels.rotors.length cap1, .string m.wheels.refl, .string m.rings, .string m.plugs].toArray 36)) w1.heap.size a1 cap1 m am ms := ⟨o1, (hsm.at_ hrd).alloc_ _, (hrm.below hba (Nat.le_refl _)).more hba.size⟩
    have hsl := hst.smL
    clear hrd hb1 h hsm hrm hba o1
    go_wp2_with fail
    generalize (w1.alloc (.cells [.slice a1 m.wheels.rotors.length cap1, .string m.wheels.refl, .string m.rings, .string m.plugs].toArray 36)) = W1 at *
    generalize w1.heap.size = B1 at *
    refine (implCheckMenu_any a1 _ cap1 m v am cm ms _ A1.mach (by omega) A1.menu hsl (by omega)).mono ?_
    rintro e w2 ⟨rfl, hb2⟩
    have A2 := A1.below hb2
    have hbw2 := bt hb1' hb2
    clear A1 hb1' hb2
    have nsp := fun W h1 h2 => specCheckMenu_any a1 m.wheels.rotors.length cap1 m v am cm ms W h1 (by omega) h2 (by omega)
    have HT : Hid (chkT m v ms = (setB m v && (menuB ms && ms.all (chk1 m v)))) := Lib.hid rfl
    generalize chkT m v ms = T at *
    have f0 := A2.box.at_ (i := 0) rfl
    have f1 := A2.box.at_ (i := 1) rfl
    have f2 := A2.box.at_ (i := 2) rfl
    have f3 := A2.box.at_ (i := 3) rfl
    cases T with
    | false =>
      go_wp2_with fail
      refine (nsp _ A2.mach A2.menu).mono ?_
      rintro e w3 ⟨rfl, hb3⟩
      have A3 := A2.below hb3
      have hbw3 := bt hbw2 hb3
      clear A2 hbw2 hb3 f0 f1 f2 f3
      have f0 := A3.box.at_ (i := 0) rfl
      have f1 := A3.box.at_ (i := 1) rfl
      have f2 := A3.box.at_ (i := 2) rfl
      have f3 := A3.box.at_ (i := 3) rfl
      go_wp2_with fail
      refine (nsp _ A3.mach A3.menu).mono ?_
      rintro e w4 ⟨rfl, hb4⟩
      go_wp2
      go_ret
      exact ⟨rfl, bt hbw3 hb4⟩
    | true =>
      have hT := HT.out.symm
      simp only [Bool.and_eq_true] at hT
      obtain ⟨h1, h2, hall⟩ := hT
      have H1 := Lib.hid h1
      have H2 := Lib.hid h2
      have HALL := Lib.hid hall
      have hmb := setB_mach h1
      clear HT h1 h2 hall
      go_wp2_with fail
      refine (nsp _ A2.mach A2.menu).mono ?_
      rintro e w3 ⟨rfl, hb3⟩
      have A3 := A2.below hb3
      have hbw3 := bt hbw2 hb3
      clear A2 hbw2 hb3 f0 f1 f2 f3 nsp
      have f0 := A3.box.at_ (i := 0) rfl
      have f1 := A3.box.at_ (i := 1) rfl
      have f2 := A3.box.at_ (i := 2) rfl
      have f3 := A3.box.at_ (i := 3) rfl
      go_wp2_with fail
      have hq := machB_plugP hmb
      have hpl : m.plugs.size = 10 := permB_size (plugB_perm (machB_plug hmb))
      have hce := cenN_lt ms
      have HA := Lib.hid (app_plug hmb hce)
      have HH : Hid (hypT m v ms = wd (hypL m v ms)) := Lib.hid (by unfold hypT; rw [if_pos (by rw [H1.out, H2.out]; rfl)])
      have HK : Hid (0 ≤ Lib.indexByte (L (hypT m v ms)) (letr (pAt (dg m.plugs) (cenN ms) : Int))) := Lib.hid (by rw [HH.out]; exact find_wd (keep_hyp hmb H2.out HALL.out))
      have lt3 := A3.box.lt
      have d3 := fun (cc : Cls w3.heap.size w3) => (cc.cell B1 3 lt3).trans f3
      have n1 := fun (cc : Cls w3.heap.size w3) => implCentralLetter_yes am cm ms cc.w ((A3.menu.below cc.bel (Nat.le_refl _)).more cc.bel.size) hsl (by omega) H2.out
      have n2 := fun W => implApplyPerm_any m.plugs (wd [cenN ms]) W (by omega) (by rw [size_wd]; simp)
      rw [HA.out] at n2
      have hx1 : (wd [pAt (dg m.plugs) (cenN ms)]).size = 1 := size_wd _
      have hx2 : ∀ h : 0 < (wd [pAt (dg m.plugs) (cenN ms)]).size, (wd [pAt (dg m.plugs) (cenN ms)])[0]'h = letr (pAt (dg m.plugs) (cenN ms) : Int) := fun _ => letr_one _
      have hsz : (hypT m v ms).size ≤ 4294967296 := by
        rw [HH.out, size_wd]; exact Nat.le_trans (List.length_filter_le _ _) (by simp)
      have nf := fun W => rcFind_any (hypT m v ms) (letr (pAt (dg m.plugs) (cenN ms) : Int)) W hsz
      clear f0 f1 f2 f3 HH HA hq
      generalize letr (pAt (dg m.plugs) (cenN ms) : Int) = ch at *
      generalize wd [pAt (dg m.plugs) (cenN ms)] = X at *
      have hx3 := hx2 (by omega)
      clear hx2
      refine wp_region_cls (by kernel_rfl) (by kernel_rfl) ?_
      repeat (go_big_quiet_step (first | (go_at_call 47; with_reducible exact cls_of (Nat.le_refl _) (n1 _)) | (go_at_call 38; with_reducible exact cls_of (Nat.le_refl _) (n2 _))))
      refine wpQuiet_nil ?_
      intro wc hbc
      have A4 := A3.below hbc
      have hbw4 := bt hbw3 hbc
      clear A3 hbc hbw3 n1 n2 d3 lt3
      have f0 := A4.box.at_ (i := 0) rfl
      have f1 := A4.box.at_ (i := 1) rfl
      have f2 := A4.box.at_ (i := 2) rfl
      have f3 := A4.box.at_ (i := 3) rfl
      go_wp2_with fail
      refine (implHypotheses_any a1 cap1 m v am cm ms _ A4.mach (by omega) A4.menu hsl (by omega)).mono ?_
      rintro e w5 ⟨rfl, hb5⟩
      have A5 := A4.below hb5
      have hbw5 := bt hbw4 hb5
      clear A4 hb5 hbw4 f0 f1 f2 f3
      have f0 := A5.box.at_ (i := 0) rfl
      have f1 := A5.box.at_ (i := 1) rfl
      have f2 := A5.box.at_ (i := 2) rfl
      have f3 := A5.box.at_ (i := 3) rfl
      have nsp := fun W h1 h2 => specHypotheses_any a1 cap1 m v am cm ms W h1 (by omega) h2 (by omega)
      generalize hypT m v ms = T at *
      have te : decide ((0 : Int) ≤ Lib.indexByte (L T) ch) = true := decide_eq_true HK.out
      clear HK
      go_wp2_with fail
      refine (nf _).mono ?_
      rintro e w6 ⟨rfl, rfl⟩
      go_wp2_with fail
      refine (nsp _ A5.mach A5.menu).mono ?_
      rintro e w6 ⟨rfl, hb6⟩
      go_wp2
      go_ret
      exact ⟨rfl, bt hbw5 hb6⟩
end Go.Proofs.YtdmnkcmkpjmfaaaGreat
