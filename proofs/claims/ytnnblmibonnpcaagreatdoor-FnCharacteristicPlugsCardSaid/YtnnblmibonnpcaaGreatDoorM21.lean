/- Several of my texts in one: Ints, Grd, GwI, GrdS. -/
import Derived.Test.YtnnblmibonnpcaaGreatDoorM5
import Derived.Test.YtnnblmibonnpcaaGreatDoorM3
import Derived.Test.YtnnblmibonnpcaaGreatDoorM20
import Derived.Test.YtnnblmibonnpcaaGreatDoorM17
import Derived.Test.YtnnblmibonnpcaaGreatDoorM4
import Derived.Test.YtnnblmibonnpcaaGreatDoorM10
/- Lists of numbers compared (for seats without the tapes). -/
namespace Go.Proofs.YtnnblmibonnpcaaGreatDoor
open Go.RowKit

end Go.Proofs.YtnnblmibonnpcaaGreatDoor

/- The grounds with repeats in given places, of the program. -/
namespace Go.Proofs.YtnnblmibonnpcaaGreatDoor
open Go.RowKit

theorem Reads.alc {w : World} {a : Option Addr} {xs : List Value} (h : Reads w w.heap.size a xs) (o : Obj) : Reads (w.alloc o) (w.alloc o).heap.size a xs :=
  (h.below ((Below.refl w.heap.size w).alloc (Nat.le_refl _) o) (Nat.le_refl _)).more (by simp)
/-- Whether there are not too many grounds, all of them windows of a valid machine. -/
def goodG (m : Mach) (gs : List ByteArray) : Bool := machB m && (decide (gs.length ≤ 12) && gs.all (setB m))
/-- Whether a ground has repeats in all of some places. -/
def allP (m : Mach) (g : ByteArray) (ps : List Int) : Bool := ps.all (hasB m g)
/-- The first k grounds that have repeats in all of some places. -/
def keepN (m : Mach) (gs : List ByteArray) (ps : List Int) (k : Nat) : List ByteArray := (gs.take k).filter fun g => allP m g ps
/-- What GroundsWithRepeats answers. -/
def keepG (m : Mach) (gs : List ByteArray) (ps : List Int) : List ByteArray := if goodG m gs = true then keepN m gs ps gs.length else []
theorem keepN_snoc {m : Mach} {gs : List ByteArray} {ps : List Int} {k : Nat} (h : k < gs.length) : keepN m gs ps (k + 1) = keepN m gs ps k ++ (if allP m gs[k] ps = true then [gs[k]] else []) := by
  simp only [keepN]
  rw [List.take_succ_eq_append_getElem h, List.filter_append]
  congr 1
  by_cases e : allP m gs[k] ps = true <;> simp [e]
theorem keepN_zero (m : Mach) (gs : List ByteArray) (ps : List Int) : keepN m gs ps 0 = [] := rfl
theorem keepN_len (m : Mach) (gs : List ByteArray) (ps : List Int) (k : Nat) : (keepN m gs ps k).length ≤ k := by
  have h := List.length_filter_le (fun g => allP m g ps) (gs.take k)
  rw [List.length_take] at h
  unfold keepN
  omega
theorem keepG_yes {m : Mach} {gs : List ByteArray} (h : goodG m gs = true) (ps : List Int) : keepG m gs ps = keepN m gs ps gs.length := by simp [keepG, h]
theorem keepG_no {m : Mach} {gs : List ByteArray} (h : goodG m gs = false) (ps : List Int) : keepG m gs ps = [] := by simp [keepG, h]
theorem goodG_len {m : Mach} {gs : List ByteArray} (h : goodG m gs = true) : gs.length ≤ 12 := by
  simp only [goodG, Bool.and_eq_true, decide_eq_true_eq] at h; exact h.2.1
theorem goodG_set {m : Mach} {gs : List ByteArray} (h : goodG m gs = true) : ∀ g ∈ gs, setB m g = true := by
  simp only [goodG, Bool.and_eq_true, List.all_eq_true] at h; exact h.2.2
theorem hasB_in {m : Mach} {g : ByteArray} {p : Nat} (h : setB m g = true) (hp : p < g.size) : hasB m g p = fixB (prodP m g p) := by
  have t0 : decide ((0 : Int) ≤ (p : Int)) = true := decide_eq_true (by omega)
  have t1 : decide ((p : Int) < (g.size : Int)) = true := decide_eq_true (by omega)
  simp only [hasB, h, t0, t1, Bool.true_and, Int.toNat_natCast]
theorem hasB_out {m : Mach} {g : ByteArray} {p : Int} (h : ¬ (0 ≤ p ∧ p < g.size)) : hasB m g p = false := by
  by_cases h0 : 0 ≤ p
  · have t1 : decide (p < (g.size : Int)) = false := decide_eq_false (by omega)
    simp only [hasB, t1, Bool.false_and, Bool.and_false]
  · have t0 : decide ((0 : Int) ≤ p) = false := decide_eq_false h0
    simp only [hasB, t0, Bool.false_and, Bool.and_false]
theorem allP_yes {m : Mach} {g : ByteArray} {ps : List Int} (h : ∀ j (hj : j < ps.length), hasB m g ps[j] = true) : allP m g ps = true := by
  simp only [allP, List.all_eq_true]
  intro x hx
  obtain ⟨j, hj, rfl⟩ := List.getElem_of_mem hx
  exact h j hj
theorem allP_no {m : Mach} {g : ByteArray} {ps : List Int} {j : Nat} (hj : j < ps.length) (h : hasB m g ps[j] = false) : allP m g ps = false := by
  rw [Bool.eq_false_iff]
  intro e
  simp only [allP, List.all_eq_true] at e
  rw [e _ (List.getElem_mem hj)] at h
  cases h
theorem at_iv {ps : List Int} {k : Nat} (h : k < ps.length) : (iv ps)[k]? = some (.int .i64 ps[k]) := by simp [iv, h]
theorem at_sv {gs : List ByteArray} {k : Nat} (h : k < gs.length) : (sv gs)[k]? = some (.string gs[k]) := by simp [sv, h]

set_option maxRecDepth 100000 in
set_option maxHeartbeats 1000000 in
theorem groundsValid_any (a : Option Addr) (n c : Nat) (m : Mach) (ag : Option Addr) (cg : Nat) (gs : List ByteArray) (w : World) (h : MachAt w w.heap.size a n m) (hr : Reads w w.heap.size ag (sv gs)) (hs : ∀ g ∈ gs, g.size ≤ 4294967296) (hl : gs.length ≤ 4294967296) :
    Calls Tryz.prog 47 #[.agg #[.slice a n c, .string m.wheels.refl, .string m.rings, .string m.plugs], .slice ag gs.length cg] w fun e w' => e = .returned (.bool (goodG m gs)) ∧ Below w.heap.size w w' := by
  have o0 := Own.new w [.slice a n c, .string m.wheels.refl, .string m.rings, .string m.plugs] 27
  have hb0 := (Below.refl w.heap.size w).alloc (Nat.le_refl _) (.cells [.slice a n c, .string m.wheels.refl, .string m.rings, .string m.plugs].toArray 27)
  have h' := h.alloc_ (.cells [.slice a n c, .string m.wheels.refl, .string m.rings, .string m.plugs].toArray 27)
  have hr' := hr.alc (.cells [.slice a n c, .string m.wheels.refl, .string m.rings, .string m.plugs].toArray 27)
  have HS := Lib.hid hs
  clear hs
  go_enter Tryz.func47, Tryz.ntmps47
  go_wp2_with fail
  refine (implMachineValid_any _ _ _ _ _ h').mono ?_
  rintro e w1 ⟨rfl, hb1⟩
  have o1 := o0.below hb1 o0.lt
  have hM := (h'.below hb1 (Nat.le_refl _)).more hb1.size
  have hr1 := (hr'.below hb1 (Nat.le_refl _)).more hb1.size
  have hb := bt hb0 hb1
  clear o0 h' hr' hb0 hb1
  cases h1 : machB m with
  | false =>
    have HM : Hid (goodG m gs = false) := by show _ = _; simp [goodG, h1]
    clear h1
    go_wp2
    go_ret
    exact ⟨ret_bool HM.out.symm, hb⟩
  | true =>
    by_cases hgl : gs.length ≤ 12
    · have t1 : decide ((12 : Int) < (gs.length : Int)) = false := decide_eq_false (by omega)
      go_wp2_with fail
      go_loopw [6, 17] (fun _ i wr => ∃ k : Nat, k ≤ gs.length ∧ i = .int .i64 k ∧ (∀ j (hj : j < gs.length), j < k → setB m gs[j] = true) ∧ Own wr w.heap.size [.slice a n c, .string m.wheels.refl, .string m.rings, .string m.plugs] ∧ MachAt wr wr.heap.size a n m ∧ Reads wr wr.heap.size ag (sv gs) ∧ Below w.heap.size w wr) (fun _ i _ => gs.length - (intOf i).toNat)
      case atStart => exact ⟨0, Nat.zero_le _, rfl, fun _ _ h => absurd h (by omega), o1, hM, hr1, hb⟩
      case round =>
        clear o1 hM hr1 hb
        obtain ⟨k, hk, rfl, ha, o1, hM, hr1, hb⟩ := hrel
        have HA := Lib.hid ha
        clear ha
        by_cases hlt : k < gs.length
        · obtain ⟨b, off, rfl, hbl, hcl⟩ := hr1.open_ (by rw [length_sv]; omega)
          have c0 := hcl k (by rw [length_sv]; exact hlt)
          rw [at_sv hlt] at c0
          clear hcl
          have q1 : (0 : Int) ≤ (k : Int) := by omega
          have q2 : (k : Int) < (gs.length : Int) := by omega
          have f0 := o1.at_ (i := 0) rfl
          have f1 := o1.at_ (i := 1) rfl
          have f2 := o1.at_ (i := 2) rfl
          have f3 := o1.at_ (i := 3) rfl
          have hgz := HS.out gs[k] (List.getElem_mem hlt)
          have HF : Hid (setB m gs[k] = false → goodG m gs = false) := Lib.hid (fun e => by
            rw [Bool.eq_false_iff]
            intro e2
            rw [goodG_set e2 _ (List.getElem_mem hlt)] at e
            cases e)
          have HK := Lib.hid (fun (h : setB m gs[k] = true) j (hj : j < gs.length) (hj2 : j < k + 1) => show setB m gs[j] = true from by
            by_cases e : j = k
            · subst e; exact h
            · exact HA.out j hj (by omega))
          generalize hp : gs[k] = g at *
          clear hp
          go_wp2_with fail
          refine (settingValid_any _ _ _ _ _ _ hM hgz).mono ?_
          rintro e w3 ⟨rfl, hb3⟩
          have o3 := o1.below hb3 o1.lt
          have hM3 := (hM.below hb3 (Nat.le_refl _)).more hb3.size
          have hr3 := (hr1.below hb3 (Nat.le_refl _)).more hb3.size
          have hbw3 := bt hb hb3
          clear o1 hM hr1 hb f0 f1 f2 f3 hb3
          cases h2 : setB m g with
          | false =>
            have HM := Lib.hid (HF.out h2)
            clear h2 HF HK
            go_wp2
            go_ret
            exact ⟨ret_bool HM.out.symm, hbw3⟩
          | true =>
            have HM := Lib.hid (HK.out h2)
            clear h2 HF HK
            go_wp2
            go_roundw
            case rel => exact ⟨k + 1, by omega, by go_num, HM.out, o3, hM3, hr3, hbw3⟩
            case measure => simp [intOf]; omega
        · have HM : Hid (goodG m gs = true) := by
            show _ = _
            simp only [goodG, h1, Bool.true_and, Bool.and_eq_true, decide_eq_true_eq, List.all_eq_true]
            refine ⟨hgl, fun x hx => ?_⟩
            obtain ⟨j, hj, rfl⟩ := List.getElem_of_mem hx
            exact HA.out j hj (by omega)
          go_wp2
          go_ret
          exact ⟨ret_bool HM.out.symm, hb⟩
    · have t1 : decide ((12 : Int) < (gs.length : Int)) = true := decide_eq_true (by omega)
      have HM : Hid (goodG m gs = false) := by show _ = _; simp [goodG, hgl]
      clear h1
      go_wp2
      go_ret
      exact ⟨ret_bool HM.out.symm, hb⟩
end Go.Proofs.YtnnblmibonnpcaaGreatDoor

/- The grounds with a characteristic, in the program. -/
namespace Go.Proofs.YtnnblmibonnpcaaGreatDoor
open Go.RowKit

/-- Whether a ground's characteristic is a given one. -/
def gwB (m : Mach) (g : ByteArray) (ps : List ByteArray) : Bool := decide (chT m g = ps)
/-- The first k grounds with a characteristic. -/
def gwN (m : Mach) (gs : List ByteArray) (ps : List ByteArray) (k : Nat) : List ByteArray := (gs.take k).filter fun g => gwB m g ps
/-- What GroundsWith answers. -/
def gwG (m : Mach) (gs : List ByteArray) (ps : List ByteArray) : List ByteArray := if goodG m gs = true then gwN m gs ps gs.length else []
theorem gwN_snoc {m : Mach} {gs : List ByteArray} {ps : List ByteArray} {k : Nat} (h : k < gs.length) : gwN m gs ps (k + 1) = gwN m gs ps k ++ (if gwB m gs[k] ps = true then [gs[k]] else []) := by
  simp only [gwN]
  rw [List.take_succ_eq_append_getElem h, List.filter_append]
  congr 1
  by_cases e : gwB m gs[k] ps = true <;> simp [e]
theorem gwN_len (m : Mach) (gs : List ByteArray) (ps : List ByteArray) (k : Nat) : (gwN m gs ps k).length ≤ k := by
  have h := List.length_filter_le (fun g => gwB m g ps) (gs.take k)
  rw [List.length_take] at h
  unfold gwN
  omega
theorem gwG_yes {m : Mach} {gs : List ByteArray} (h : goodG m gs = true) (ps : List ByteArray) : gwG m gs ps = gwN m gs ps gs.length := by simp [gwG, h]
theorem gwG_no {m : Mach} {gs : List ByteArray} (h : goodG m gs = false) (ps : List ByteArray) : gwG m gs ps = [] := by simp [gwG, h]
theorem chT_le (m : Mach) (v : ByteArray) : (chT m v).length ≤ 4294967296 := by
  unfold chT chP
  rw [List.length_map]
  split
  · rename_i h
    have h1 := setB_len h
    have h2 := (machB_fit (setB_mach h)).three
    simp only [prods, List.length_map, List.length_range]
    omega
  · simp
set_option maxRecDepth 100000 in
theorem slicesEqual_any (a : Option Addr) (c : Nat) (xs : List ByteArray) (b : Option Addr) (d : Nat) (ys : List ByteArray) (w : World) (h1 : Reads w w.heap.size a (sv xs)) (h2 : Reads w w.heap.size b (sv ys)) (l1 : xs.length ≤ 4294967296) (l2 : ys.length ≤ 4294967296) :
    Calls Tryz.prog 48 #[.slice a xs.length c, .slice b ys.length d] w fun e w' => e = .returned (.bool (decide (xs = ys))) ∧ ∃ q, w' = w.drewN q := by
  by_cases hl : xs.length = ys.length
  · rcases Nat.eq_zero_or_pos xs.length with h0 | h0
    · have e1 := List.eq_nil_of_length_eq_zero h0
      have e2 := List.eq_nil_of_length_eq_zero (hl ▸ h0)
      subst e1; subst e2
      refine (Tryz.slices_Equal_string_empty a b c 0 d w (by omega)).mono ?_
      rintro e w' ⟨rfl, rfl⟩
      exact ⟨rfl, 0, rfl⟩
    · obtain ⟨b1, o1, rfl, -, c1⟩ := h1.open_ (by rw [length_sv]; omega)
      obtain ⟨b2, o2, rfl, -, c2⟩ := h2.open_ (by rw [length_sv]; omega)
      have := Tryz.slices_Equal_string b1 o1 xs.length c b2 o2 ys.length d xs ys w (Nat.le_refl _) (Nat.le_refl _) (by omega) (by omega) (fun j hj => by
        rw [c1 j (by rw [length_sv]; exact hj), sv_at hj, List.getD_eq_getElem?_getD, List.getElem?_eq_getElem hj]; rfl) (fun j hj => by
        rw [c2 j (by rw [length_sv]; exact hj), sv_at hj, List.getD_eq_getElem?_getD, List.getElem?_eq_getElem hj]; rfl)
      rw [List.take_length, List.take_length] at this
      exact this
  · have t0 : ((xs.length : Int) != (ys.length : Int)) = true := by rw [bne_iff_ne]; omega
    have HF : Hid (decide (xs = ys) = false) := Lib.hid (decide_eq_false fun e => hl (by rw [e]))
    go_enter Tryz.func48, Tryz.ntmps48
    go_wp2
    go_ret
    exact ⟨ret_bool HF.out.symm, 0, rfl⟩
set_option maxRecDepth 100000 in
set_option maxHeartbeats 1000000 in
theorem implGroundsWith_any (a : Option Addr) (n c : Nat) (m : Mach) (ag : Option Addr) (cg : Nat) (gs : List ByteArray) (ap : Option Addr) (cp : Nat) (ps : List ByteArray) (w : World) (h : MachAt w w.heap.size a n m) (hr : Reads w w.heap.size ag (sv gs)) (hp : Reads w w.heap.size ap (sv ps)) (hs : ∀ g ∈ gs, g.size ≤ 4294967296) (hl : gs.length ≤ 4294967296) (hl2 : ps.length ≤ 4294967296) :
    Calls Tryz.prog 20 #[.agg #[.slice a n c, .string m.wheels.refl, .string m.rings, .string m.plugs], .slice ag gs.length cg, .slice ap ps.length cp] w (RowPost 9 1 (gwG m gs ps).length (sv (gwG m gs ps)) w) := by
  have o0 := Own.new w [.slice a n c, .string m.wheels.refl, .string m.rings, .string m.plugs] 27
  have hb0 := (Below.refl w.heap.size w).alloc (Nat.le_refl _) (.cells [.slice a n c, .string m.wheels.refl, .string m.rings, .string m.plugs].toArray 27)
  have h' := h.alloc_ (.cells [.slice a n c, .string m.wheels.refl, .string m.rings, .string m.plugs].toArray 27)
  have hr' := hr.alc (.cells [.slice a n c, .string m.wheels.refl, .string m.rings, .string m.plugs].toArray 27)
  have hp' := hp.alc (.cells [.slice a n c, .string m.wheels.refl, .string m.rings, .string m.plugs].toArray 27)
  go_enter Tryz.func20, Tryz.ntmps20
  go_wp2_with fail
  refine (groundsValid_any _ _ _ _ _ _ _ _ h' hr' hs hl).mono ?_
  rintro e w1 ⟨rfl, hb1⟩
  have o1 := o0.below hb1 o0.lt
  have hM := (h'.below hb1 (Nat.le_refl _)).more hb1.size
  have hr1 := (hr'.below hb1 (Nat.le_refl _)).more hb1.size
  have hp1 := (hp'.below hb1 (Nat.le_refl _)).more hb1.size
  have hb := bt hb0 hb1
  clear o0 h' hr' hp' hb0 hb1 hs h hr hp
  cases h1 : goodG m gs with
  | false =>
    have HG := Lib.hid (gwG_no h1 ps)
    clear h1
    go_wp2
    go_ret
    refine ⟨_, rfl, ?_, hb⟩
    rw [HG.out]
    exact World.ownsRow_nil _ _ _ _
  | true =>
    have HG := Lib.hid (gwG_yes h1 ps)
    have h12 := goodG_len h1
    have HS := Lib.hid (goodG_set h1)
    clear h1
    go_wp2_with fail
    go_loopw [7, 9, 16] (fun u _ i wr => ∃ k : Nat, k ≤ gs.length ∧ i = .int .i64 k ∧ OwR wr w1.heap.size 9 1 u (gwN m gs ps k).length (sv (gwN m gs ps k)) ∧ Own wr w.heap.size [.slice a n c, .string m.wheels.refl, .string m.rings, .string m.plugs] ∧ MachAt wr w1.heap.size a n m ∧ Reads wr w1.heap.size ag (sv gs) ∧ Reads wr w1.heap.size ap (sv ps) ∧ Below w.heap.size w wr ∧ Below w1.heap.size w1 wr) (fun _ _ i _ => gs.length - (intOf i).toNat)
    case atStart => exact ⟨0, Nat.zero_le _, rfl, World.ownsRow_nil _ _ _ _, o1, hM, hr1, hp1, hb, Below.refl _ _⟩
    case round =>
      have l1 := o1.lt
      clear o1 hM hr1 hp1 hb
      obtain ⟨k, hk, rfl, hown, o1, hM, hr1, hp1, hb, hb1⟩ := hrel
      by_cases hlt : k < gs.length
      · obtain ⟨b, off, rfl, hbl, hcl⟩ := hr1.open_ (by rw [length_sv]; omega)
        have c0 := hcl k (by rw [length_sv]; exact hlt)
        rw [at_sv hlt] at c0
        clear hcl
        have q1 : (0 : Int) ≤ (k : Int) := by omega
        have q2 : (k : Int) < (gs.length : Int) := by omega
        have f0 := o1.at_ (i := 0) rfl
        have f1 := o1.at_ (i := 1) rfl
        have f2 := o1.at_ (i := 2) rfl
        have f3 := o1.at_ (i := 3) rfl
        have hset := HS.out gs[k] (List.getElem_mem hlt)
        have hz := hb1.size
        have HK := Lib.hid (gwN_snoc (m := m) (ps := ps) hlt)
        have hlen := gwN_len m gs ps k
        generalize hg : gs[k] = g at *
        clear hg
        generalize hL : gwN m gs ps k = ls at *
        clear hL
        go_wp2_with fail
        refine (implCharacteristic_any _ _ _ _ _ _ (hM.more hz) (by rw [setB_len hset]; have := (machB_fit (setB_mach hset)).three; omega)).mono ?_
        rintro e w2 ⟨lv, rfl, hol, hb2⟩
        obtain ⟨la, lc, rfl, -, hrl, -⟩ := OwR.val hol
        have o3 := o1.below hb2 o1.lt
        have hM3 := hM.below hb2 hz
        have hr3 := hr1.below hb2 hz
        have hp3 := hp1.below hb2 hz
        have own3 := OwR.below hown hb2 (Nat.le_refl _)
        have hbw3 := bt hb hb2
        have hb13 := bt hb1 hb2
        have hz3 := hb13.size
        have HGB : Hid (gwB m g ps = decide (chT m g = ps)) := Lib.hid rfl
        clear o1 hM hr1 hp1 hown hb hb1 f0 f1 f2 f3 hb2 hz c0 hol
        have heq := slicesEqual_any la lc (chT m g) ap cp ps w2 hrl (hp3.more hz3) (chT_le m g) hl2
        rw [← HGB.out] at heq
        go_wp2_with fail
        refine heq.mono ?_
        rintro e w3 ⟨rfl, q, rfl⟩
        have hbq : Below w2.heap.size w2 (w2.drewN q) := bel_drewN (Below.refl _ _) q
        have o3 := o3.below hbq o3.lt
        have hM3 := hM3.below hbq hz3
        have hr3 := hr3.below hbq hz3
        have hp3 := hp3.below hbq hz3
        have own3 := OwR.below own3 hbq (Nat.le_refl _)
        have hbw3 := bt hbw3 hbq
        have hb13 := bt hb13 hbq
        have hz3 := hb13.size
        clear hbq heq hrl HGB
        generalize w2.drewN q = w3 at *
        cases h2 : gwB m g ps with
        | true =>
          rw [h2, if_pos rfl] at HK
          clear h2
          go_wp2_with (at_builtin; ((with_reducible refine wl_push 30 9 inf_str Tryz.underlying30 rfl (by omega) own3 (by omega) rfl (by simp [Value.oneCell']) (by omega) (by omega) rfl rfl ?_); intro g4 cap w4 o4 b4 s4))
          go_roundw
          case rel =>
            refine ⟨k + 1, by omega, by go_num, ?_, o3.below b4 l1, hM3.below b4 (Nat.le_refl _), hr3.below b4 (Nat.le_refl _), hp3.below b4 (Nat.le_refl _), hbw3.trans (b4.mono (by omega)), hb13.trans b4⟩
            rw [HK.out, List.length_append, sv_append]
            exact o4
          case measure => simp [intOf]; omega
        | false =>
          rw [h2, if_neg (by simp)] at HK
          clear h2
          go_wp2
          go_roundw
          case rel =>
            refine ⟨k + 1, by omega, by go_num, ?_, o3, hM3, hr3, hp3, hbw3, hb13⟩
            rw [HK.out, List.append_nil]
            exact own3
          case measure => simp [intOf]; omega
      · have hk' : k = gs.length := by omega
        subst hk'
        go_wp2
        go_ret
        refine ⟨_, rfl, ?_, hb⟩
        rw [HG.out]
        exact World.ownsRow.mono hown (Nat.le_of_lt l1)
end Go.Proofs.YtnnblmibonnpcaaGreatDoor

/- The grounds with repeats in given places, of the reference. -/
namespace Go.Proofs.YtnnblmibonnpcaaGreatDoor
open Go.RowKit

theorem fixS_yes {p : List Nat} (hp : IsP p) (h : fixB p = true) : (fixS (wd p)).size ≠ 0 := by
  unfold fixS
  rw [if_pos (permB_wd hp), dg_wd hp.lt, size_wd]
  intro e
  have h0 := (fixL_nil_iff p).1 (List.eq_nil_of_length_eq_zero e)
  obtain ⟨i, hi, he⟩ := fixB_iff.1 h
  exact h0 i hi he
theorem fixS_no {p : List Nat} (hp : IsP p) (h : fixB p = false) : fixS (wd p) = S [] := by
  unfold fixS
  rw [if_pos (permB_wd hp), dg_wd hp.lt]
  have h0 : fixL p = [] := (fixL_nil_iff p).2 fun i hi he => by
    rw [Bool.eq_false_iff] at h
    exact h (fixB_iff.2 ⟨i, hi, he⟩)
  rw [h0]; rfl
theorem at_prodG (m : Mach) (v : ByteArray) {n k : Nat} (h : k < n) : (sv (prodS m v n))[k]? = some (.string (wd (prodP m v k))) := by
  simp [sv, prodS, h]
set_option maxRecDepth 100000 in
set_option maxHeartbeats 1000000 in
theorem l10Grounds_any (a : Option Addr) (n c : Nat) (m : Mach) (ag : Option Addr) (cg : Nat) (gs : List ByteArray) (w : World) (h : MachAt w w.heap.size a n m) (hr : Reads w w.heap.size ag (sv gs)) (hs : ∀ g ∈ gs, g.size ≤ 4294967296) (hl : gs.length ≤ 4294967296) :
    Calls Tryz.prog 44 #[.agg #[.slice a n c, .string m.wheels.refl, .string m.rings, .string m.plugs], .slice ag gs.length cg] w fun e w' => e = .returned (.bool (goodG m gs)) ∧ Below w.heap.size w w' := by
  have o0 := Own.new w [.slice a n c, .string m.wheels.refl, .string m.rings, .string m.plugs] 27
  have hb0 := (Below.refl w.heap.size w).alloc (Nat.le_refl _) (.cells [.slice a n c, .string m.wheels.refl, .string m.rings, .string m.plugs].toArray 27)
  have h' := h.alloc_ (.cells [.slice a n c, .string m.wheels.refl, .string m.rings, .string m.plugs].toArray 27)
  have hr' := hr.alc (.cells [.slice a n c, .string m.wheels.refl, .string m.rings, .string m.plugs].toArray 27)
  have HS := Lib.hid hs
  clear hs
  go_enter Tryz.func44, Tryz.ntmps44
  go_wp2_with fail
  generalize (w.alloc (.cells [.slice a n c, .string m.wheels.refl, .string m.rings, .string m.plugs].toArray 27)) = W0 at *
  go_loopw [5] (fun i wr => ∃ k : Nat, k ≤ gs.length ∧ i = .int .i64 k ∧ (∀ j (hj : j < gs.length), j < k → setB m gs[j] = true) ∧ Own wr w.heap.size [.slice a n c, .string m.wheels.refl, .string m.rings, .string m.plugs] ∧ MachAt wr wr.heap.size a n m ∧ Reads wr wr.heap.size ag (sv gs) ∧ Below w.heap.size w wr) (fun i _ => gs.length - (intOf i).toNat)
  case atStart => exact ⟨0, Nat.zero_le _, rfl, fun _ _ h => absurd h (by omega), o0, h', hr', hb0⟩
  case round =>
    clear o0 h' hr' hb0 h hr
    obtain ⟨k, hk, rfl, ha, o0, h', hr', hb0⟩ := hrel
    have HA := Lib.hid ha
    clear ha
    by_cases hlt : k < gs.length
    · obtain ⟨b, off, rfl, hbl, hcl⟩ := hr'.open_ (by rw [length_sv]; omega)
      have c0 := hcl k (by rw [length_sv]; exact hlt)
      rw [at_sv hlt] at c0
      clear hcl
      have q1 : (0 : Int) ≤ (k : Int) := by omega
      have q2 : (k : Int) < (gs.length : Int) := by omega
      have hgz := HS.out gs[k] (List.getElem_mem hlt)
      have HF : Hid (setB m gs[k] = false → goodG m gs = false) := Lib.hid (fun e => by
        rw [Bool.eq_false_iff]
        intro e2
        rw [goodG_set e2 _ (List.getElem_mem hlt)] at e
        cases e)
      have HK := Lib.hid (fun (h : setB m gs[k] = true) j (hj : j < gs.length) (hj2 : j < k + 1) => show setB m gs[j] = true from by
        by_cases e : j = k
        · subst e; exact h
        · exact HA.out j hj (by omega))
      generalize hp : gs[k] = g at *
      clear hp
      have lo := o0.lt
      have d0 := fun (cc : Cls wr.heap.size wr) => (cc.cell w.heap.size 0 lo).trans (o0.at_ (i := 0) rfl)
      have d1 := fun (cc : Cls wr.heap.size wr) => (cc.cell w.heap.size 1 lo).trans (o0.at_ (i := 1) rfl)
      have d2 := fun (cc : Cls wr.heap.size wr) => (cc.cell w.heap.size 2 lo).trans (o0.at_ (i := 2) rfl)
      have d3 := fun (cc : Cls wr.heap.size wr) => (cc.cell w.heap.size 3 lo).trans (o0.at_ (i := 3) rfl)
      have d4 := fun (cc : Cls wr.heap.size wr) => (cc.cell b (off + k) hbl).trans c0
      have n1 := fun (cc : Cls wr.heap.size wr) => l8Fits_any a n c m g cc.w ((h'.below cc.bel (Nat.le_refl _)).more cc.bel.size) hgz
      clear c0 hgz
      cases hf : setB m g with
      | true =>
        rw [hf] at n1
        have HK2 := Lib.hid (HK.out hf)
        clear hf HF HK
        go_wp2_with fail
        refine wp_region_cls (by kernel_rfl) (by kernel_rfl) ?_
        repeat (go_big_quiet_step (first | (go_at_call 63; with_reducible exact cls_of (Nat.le_refl _) (n1 _))))
        refine wpQuiet_nil ?_
        intro wc hbc
        go_wp2
        go_roundw
        case rel => exact ⟨k + 1, by omega, by go_num, HK2.out, o0.below hbc lo, (h'.below hbc (Nat.le_refl _)).more hbc.size, (hr'.below hbc (Nat.le_refl _)).more hbc.size, bt hb0 hbc⟩
        case measure => simp [intOf]; omega
      | false =>
        rw [hf] at n1
        have HM := Lib.hid (HF.out hf)
        clear hf HF HK
        go_wp2_with fail
        refine wp_region_cls (by kernel_rfl) (by kernel_rfl) ?_
        repeat (go_big_quiet_step (first | (go_at_call 63; with_reducible exact cls_of (Nat.le_refl _) (n1 _))))
        refine wpQuiet_nil ?_
        intro wc hbc
        go_wp2
        go_ret
        exact ⟨ret_bool HM.out.symm, bt hb0 hbc⟩
    · have HM : Hid (goodG m gs = (machB m && decide (gs.length ≤ 12))) := by
        show _ = _
        have : gs.all (setB m) = true := by
          rw [List.all_eq_true]
          intro x hx
          obtain ⟨j, hj, rfl⟩ := List.getElem_of_mem hx
          exact HA.out j hj (by omega)
        simp only [goodG, this, Bool.and_true]
      have f0 := o0.at_ (i := 0) rfl
      have f1 := o0.at_ (i := 1) rfl
      have f2 := o0.at_ (i := 2) rfl
      have f3 := o0.at_ (i := 3) rfl
      go_wp2_with fail
      refine (specMachineValid_any _ _ _ _ _ h').mono ?_
      rintro e w3 ⟨rfl, hb3⟩
      cases hm : machB m with
      | true =>
        have HM2 := HM.out
        rw [hm, Bool.true_and] at HM2
        have HM3 := Lib.hid HM2
        clear HM2 hm
        go_wp2
        go_ret
        exact ⟨ret_bool (by rw [HM3.out]; rw [Bool.eq_iff_iff, decide_eq_true_eq, decide_eq_true_eq]; omega), bt hb0 hb3⟩
      | false =>
        have HM2 := HM.out
        rw [hm, Bool.false_and] at HM2
        have HM3 := Lib.hid HM2
        clear HM2 hm
        go_wp2
        go_ret
        exact ⟨ret_bool HM3.out.symm, bt hb0 hb3⟩
end Go.Proofs.YtnnblmibonnpcaaGreatDoor
