/- Several of my texts in one: ExCharacteristic, OpenR, OpenM. -/
import Derived.Test.YtnnblmibonnpcaaGreatDoorM18
import Derived.Test.YtnnblmibonnpcaaGreatDoorM17
import Derived.OpenShut
import Derived.Deep.Slices
import Derived.Deep.Fields
import Derived.ChangeSame
import Derived.Lib.SmallJoins
import Derived.ChangeSlices
import Derived.SliceStrings
import Derived.Deep.Strs
/- The walk of the law that both Characteristic answer alike (printed by wip/genexact.py). -/
namespace Go.Proofs.YtnnblmibonnpcaaGreatDoor
open Go.RowKit

theorem chT_len (m : Mach) (v : ByteArray) : (chT m v).length ≤ 3 := by
  unfold chT chP
  rw [List.length_map]
  split
  · rename_i h
    have h1 := setB_len h
    have h2 := (machB_fit (setB_mach h)).three
    simp only [prods, List.length_map, List.length_range]
    omega
  · simp
set_option maxRecDepth 100000 in
set_option maxHeartbeats 4000000 in
theorem exactCharacteristic_walk (am : Option Addr) (cm : Nat) (m : Mach) (v : ByteArray) (w : World) (hm : Reads w w.heap.size am (rvs m.wheels.rotors)) (hz : BigR m.wheels.rotors) (hrf : m.wheels.refl.size ≤ 9223372036854775807) (hrg : m.rings.size ≤ 9223372036854775807) (hpl : m.plugs.size ≤ 9223372036854775807) (zv : v.size ≤ 9223372036854775807) :
    Calls Tryz.prog 6 #[.agg #[.slice am m.wheels.rotors.length cm, .string m.wheels.refl, .string m.rings, .string m.plugs], .string v] w fun e w' => e = .returned (.bool true) ∧ Below w.heap.size w w' := by
  have o0 := Own.new w [.slice am m.wheels.rotors.length cm, .string m.wheels.refl, .string m.rings, .string m.plugs] 41
  have hb0 := (Below.refl w.heap.size w).alloc (Nat.le_refl _) (.cells [.slice am m.wheels.rotors.length cm, .string m.wheels.refl, .string m.rings, .string m.plugs].toArray 41)
  by_cases hvv : 1048576 < v.size
  · go_enter Tryz.func6, Tryz.ntmps6
    go_wp2
    go_ret
    exact ⟨rfl, hb0⟩
  · skip
    go_enter Tryz.func6, Tryz.ntmps6
    go_wp2_with fail
    generalize (w.alloc (.cells [.slice am m.wheels.rotors.length cm, .string m.wheels.refl, .string m.rings, .string m.plugs].toArray 41)) = W at *
    have K0 := ((⟨hb0, by simp, by simp⟩ : Kept w W [] []).addR (hm.below hb0 (Nat.le_refl _)) hb0.size).addO o0
    clear o0 hb0 hm
    refine (szMachine_any am cm m 1048576 W (K0.r0) hz hrf hrg hpl (by omega) (by omega)).mono ?_
    rintro e w2 ⟨q1, rfl, hb, hq⟩
    have K1 := K0.below hb
    clear K0 hb
    rcases hq with rfl | ⟨q1a, q1b, hsm⟩
    · go_wp2
      go_ret
      exact ⟨rfl, K1.bel⟩
    have HSM := Lib.hid hsm
    clear hsm hz hrf hrg hpl
    have hbig : (chT m v).length ≤ 3 := chT_len m v
    have f0 : w2.cell? ⟨w.heap.size, 0, none⟩ = some (.slice am m.wheels.rotors.length cm) := (K1.o0).at_ (i := 0) rfl
    have f1 : w2.cell? ⟨w.heap.size, 1, none⟩ = some (.string m.wheels.refl) := (K1.o0).at_ (i := 1) rfl
    have f2 : w2.cell? ⟨w.heap.size, 2, none⟩ = some (.string m.rings) := (K1.o0).at_ (i := 2) rfl
    have f3 : w2.cell? ⟨w.heap.size, 3, none⟩ = some (.string m.plugs) := (K1.o0).at_ (i := 3) rfl
    go_wp2_with fail
    refine (toMachine_any am cm m w2 (K1.r0) HSM.out).mono ?_
    rintro e w3 ⟨g4, hg4, rfl, og, hb⟩
    have K2 := (K1.below hb).addO og
    clear K1 hb og f0 f1 f2 f3
    go_wp2_with fail
    refine (specCharacteristic_any _ _ _ m v w3 (HSM.out.at_ (Reads.of_own K2.o0 K2.o0.lt)) (by omega)).mono ?_
    rintro e w5 ⟨v5, rfl, hown5, hb⟩
    obtain ⟨a5, c5, rfl, -, hr5, -⟩ := OwR.val hown5
    have K3 := ((K2.below hb).tailO).addR hr5 (Nat.le_refl _)
    clear K2 hb hr5 hown5
    have nn0 := K3.o0.lt
    have f0 : w5.cell? ⟨w.heap.size, 0, none⟩ = some (.slice am m.wheels.rotors.length cm) := (K3.o0).at_ (i := 0) rfl
    have f1 : w5.cell? ⟨w.heap.size, 1, none⟩ = some (.string m.wheels.refl) := (K3.o0).at_ (i := 1) rfl
    have f2 : w5.cell? ⟨w.heap.size, 2, none⟩ = some (.string m.rings) := (K3.o0).at_ (i := 2) rfl
    have f3 : w5.cell? ⟨w.heap.size, 3, none⟩ = some (.string m.plugs) := (K3.o0).at_ (i := 3) rfl
    go_wp2_with fail
    refine (toMachine_any am cm m w5 (K3.r1) HSM.out).mono ?_
    rintro e w6 ⟨g7, hg7, rfl, og, hb⟩
    have K4 := (K3.below hb).addO og
    clear K3 hb og f0 f1 f2 f3
    have ng7 := K4.o0.lt
    go_wp2_with fail
    have nw := Own.new w6 [.slice (some ⟨g7, 0, none⟩) m.wheels.rotors.length m.wheels.rotors.length, .string m.wheels.refl, .string m.rings, .string m.plugs] 27
    have bw := (Below.refl w6.heap.size w6).alloc (Nat.le_refl _) (.cells [.slice (some ⟨g7, 0, none⟩) m.wheels.rotors.length m.wheels.rotors.length, .string m.wheels.refl, .string m.rings, .string m.plugs].toArray 27)
    have sw : (w6.alloc (.cells [.slice (some ⟨g7, 0, none⟩) m.wheels.rotors.length m.wheels.rotors.length, .string m.wheels.refl, .string m.rings, .string m.plugs].toArray 27)).heap.size = w6.heap.size + 1 := by simp
    generalize (w6.alloc (.cells [.slice (some ⟨g7, 0, none⟩) m.wheels.rotors.length m.wheels.rotors.length, .string m.wheels.refl, .string m.rings, .string m.plugs].toArray 27)) = w8 at *
    have K5 := (K4.below bw).addO nw
    clear K4 bw nw
    generalize hBX : w6.heap.size = BX at *
    have nBX := K5.o0.lt
    have k0 : w8.cell? ⟨BX, 0, none⟩ = some (.slice (some ⟨g7, 0, none⟩) m.wheels.rotors.length m.wheels.rotors.length) := (K5.o0).at_ (i := 0) rfl
    have k1 : w8.cell? ⟨BX, 1, none⟩ = some (.string m.wheels.refl) := (K5.o0).at_ (i := 1) rfl
    have k2 : w8.cell? ⟨BX, 2, none⟩ = some (.string m.rings) := (K5.o0).at_ (i := 2) rfl
    have k3 : w8.cell? ⟨BX, 3, none⟩ = some (.string m.plugs) := (K5.o0).at_ (i := 3) rfl
    go_wp2_with fail
    refine (implCharacteristic_any _ _ _ m v w8 (HSM.out.at_ (Reads.of_own K5.o1 K5.o1.lt)) (by omega)).mono ?_
    rintro e w9 ⟨v6, rfl, hown, hb⟩
    obtain ⟨a6, c6, rfl, -, hr6, -⟩ := OwR.val hown
    have K6 := K5.below hb
    clear K5 hb k0 k1 k2 k3
    generalize hss : chT m v = ss at *
    have HSS := Lib.hid hss
    clear hss
    go_wp2_with fail
    refine (eqStringS_any a6 a5 c6 c5 ss ss w9 hr6 K6.r0 (by omega)).mono ?_
    rintro e w10 ⟨rfl, n11, rfl⟩
    simp only [decide_true]
    generalize hw : w9.drewN n11 = w12
    have hb : Below w9.heap.size w9 w12 := hw ▸ drewN_below n11
    clear hw
    have hown1 := OwR.below hown hb (Nat.le_refl _)
    have K7 := K6.below hb
    clear K6 hb hr6 hown
    have f0 : w12.cell? ⟨w.heap.size, 0, none⟩ = some (.slice am m.wheels.rotors.length cm) := (K7.o2).at_ (i := 0) rfl
    have f1 : w12.cell? ⟨w.heap.size, 1, none⟩ = some (.string m.wheels.refl) := (K7.o2).at_ (i := 1) rfl
    have f2 : w12.cell? ⟨w.heap.size, 2, none⟩ = some (.string m.rings) := (K7.o2).at_ (i := 2) rfl
    have f3 : w12.cell? ⟨w.heap.size, 3, none⟩ = some (.string m.plugs) := (K7.o2).at_ (i := 3) rfl
    have k0 : w12.cell? ⟨BX, 0, none⟩ = some (.slice (some ⟨g7, 0, none⟩) m.wheels.rotors.length m.wheels.rotors.length) := (K7.o0).at_ (i := 0) rfl
    have k1 : w12.cell? ⟨BX, 1, none⟩ = some (.string m.wheels.refl) := (K7.o0).at_ (i := 1) rfl
    have k2 : w12.cell? ⟨BX, 2, none⟩ = some (.string m.rings) := (K7.o0).at_ (i := 2) rfl
    have k3 : w12.cell? ⟨BX, 3, none⟩ = some (.string m.plugs) := (K7.o0).at_ (i := 3) rfl
    have lt0 := (K7.o2).lt
    have lt5 := (K7.o0).lt
    go_wp2_with fail
    have hRd : Reads w12.drew w12.drew.heap.size am (rvs m.wheels.rotors) := K7.r1
    have hRy : Reads w12.drew w12.drew.heap.size (some ⟨g7, 0, none⟩) (rvs m.wheels.rotors) := Reads.of_own (K7.o1).drew (K7.o1).lt
    go_region_held3 (fun w' => w'.cell? ⟨w.heap.size, 0, none⟩ = some (Value.slice am m.wheels.rotors.length cm) ∧ w'.cell? ⟨w.heap.size, 1, none⟩ = some (Value.string m.wheels.refl) ∧ w'.cell? ⟨w.heap.size, 2, none⟩ = some (Value.string m.rings) ∧ w'.cell? ⟨w.heap.size, 3, none⟩ = some (Value.string m.plugs) ∧ w'.cell? ⟨BX, 0, none⟩ = some (Value.slice (some ⟨g7, 0, none⟩) m.wheels.rotors.length m.wheels.rotors.length) ∧ w'.cell? ⟨BX, 1, none⟩ = some (Value.string m.wheels.refl) ∧ w'.cell? ⟨BX, 2, none⟩ = some (Value.string m.rings) ∧ w'.cell? ⟨BX, 3, none⟩ = some (Value.string m.plugs))
      (first | go_keep | exact keep8 f0 f1 f2 f3 k0 k1 k2 k3 lt0 lt5 (bt hb8 hb9) | exact keep8 f0 f1 f2 f3 k0 k1 k2 k3 lt0 lt5 hb8)
      (first | (go_at_call 18; refine (toMachine_any am cm m _ hRd HSM.out).mono ?_; rintro e wy8 ⟨g8, hg8, rfl, og8, hb8⟩) | (go_at_call 22; refine (eqMachine_any (some ⟨g7, 0, none⟩) (some ⟨g8, 0, none⟩) _ _ m _ ((hRy.below hb8 (Nat.le_refl _)).more hb8.size) (Reads.of_own og8 og8.lt) HSM.out.whl.few).mono ?_; rintro e wy9 ⟨rfl, hb9⟩))
    have hb : Below w12.heap.size w12 wy9 := bt (a := w12) (b := wy8) ⟨hb8.os, hb8.tape, hb8.output, hb8.size, hb8.block⟩ hb9
    have hown1' := OwR.below hown1 hb (Nat.le_refl _)
    have K8 := K7.below hb
    clear K7 hb hb8 hb9 f0 f1 f2 f3 k0 k1 k2 k3 lt0 lt5 hRd hRy og8 hg8 hown1
    have base0 : OwR wy9 _ 9 1 (.slice a6 ss.length c6) ss.length (sv ss) := hown1'
    clear hown1'
    have k0 : wy9.cell? ⟨BX, 0, none⟩ = some (.slice (some ⟨g7, 0, none⟩) m.wheels.rotors.length m.wheels.rotors.length) := (K8.o0).at_ (i := 0) rfl
    have k1 : wy9.cell? ⟨BX, 1, none⟩ = some (.string m.wheels.refl) := (K8.o0).at_ (i := 1) rfl
    have k2 : wy9.cell? ⟨BX, 2, none⟩ = some (.string m.rings) := (K8.o0).at_ (i := 2) rfl
    have k3 : wy9.cell? ⟨BX, 3, none⟩ = some (.string m.plugs) := (K8.o0).at_ (i := 3) rfl
    go_wp2_with fail
    refine (markMachine_to g7 _ m 1 wy9 (K8.o1) HSM.out.whl.few (by omega) (by omega)).mono ?_
    rintro e w13 ⟨rfl, gr⟩
    have R14_b : 1 + 2 * m.wheels.rotors.length ≤ 3145731 := by have := HSM.out.whl.few; omega
    have R14_c : 1 ≤ 1 + 2 * m.wheels.rotors.length := by omega
    generalize 1 + 2 * m.wheels.rotors.length = R14 at *
    have base1 := base0.moved gr (by omega)
    have K9 := (K8.subO (ows' := [(w.heap.size, [.slice am m.wheels.rotors.length cm, .string m.wheels.refl, .string m.rings, .string m.plugs])]) (by simp)).grown gr (by omega) (by simp; omega) (by simp; omega)
    clear K8 gr base0 k0 k1 k2 k3
    have tr : decide (((R14 : Nat) : Int) < 0) = false := by simp
    obtain ⟨a7, c7, he, -, hr6, -⟩ := OwR.val base1
    injection he with ea _ ec
    subst ea
    clear ec
    go_wp2_with fail
    refine (eqStringS_any a6 a5 c6 c5 ss ss w13 hr6 K9.r0 (by omega)).mono ?_
    rintro e w15 ⟨rfl, n16, rfl⟩
    simp only [decide_true]
    generalize hw : w13.drewN n16 = w17
    have hb : Below w13.heap.size w13 w17 := hw ▸ drewN_below n16
    clear hw
    have base2 := OwR.below base1 hb (Nat.le_refl _)
    have K10 := K9.below hb
    clear K9 hb hr6 base1
    go_wp2_with fail
    refine (markStringS_any _ ss _ 1 w17 base2 (by omega) (by omega) (by omega)).mono ?_
    rintro e w18 ⟨rfl, hown12, hb⟩
    obtain ⟨a7, c7, he, -, hr8, -⟩ := OwR.val hown12
    injection he with ea _ ec
    subst ea
    clear ec
    have KM : Kept w w18 [(w.heap.size, [.slice am m.wheels.rotors.length cm, .string m.wheels.refl, .string m.rings, .string m.plugs])] [(w5.heap.size, a5, sv ss), (w.heap.size, am, rvs m.wheels.rotors)] := K10.low hb (by simp; omega) (by simp; omega) (by omega)
    have K11 := KM.addR hr8 (Nat.le_refl _)
    clear K10 KM hb hr8 hown12 base2
    generalize hMN : (1 + ss.length : Nat) = MN
    have hMNb : MN ≤ 4 := by omega
    have HMN := Lib.hid hMN
    clear hMN
    have hh := heldStringS_any a6 c6 1 ss.length w18 K11.r0 (by omega) (by omega) (by omega)
    rw [HMN.out] at hh
    go_wp2_with fail
    refine hh.mono ?_
    rintro e w19 ⟨rfl, hb⟩
    have K12 := K11.below hb
    clear K11 hb hh
    have f0 : w19.cell? ⟨w.heap.size, 0, none⟩ = some (.slice am m.wheels.rotors.length cm) := (K12.o0).at_ (i := 0) rfl
    have f1 : w19.cell? ⟨w.heap.size, 1, none⟩ = some (.string m.wheels.refl) := (K12.o0).at_ (i := 1) rfl
    have f2 : w19.cell? ⟨w.heap.size, 2, none⟩ = some (.string m.rings) := (K12.o0).at_ (i := 2) rfl
    have f3 : w19.cell? ⟨w.heap.size, 3, none⟩ = some (.string m.plugs) := (K12.o0).at_ (i := 3) rfl
    go_wp2_with fail
    refine (toMachine_any am cm m w19 (K12.r2) HSM.out).mono ?_
    rintro e w20 ⟨g21, hg21, rfl, og, hb⟩
    have K13 := (K12.below hb).addO og
    clear K12 hb og f0 f1 f2 f3
    go_wp2_with fail
    refine (implCharacteristic_any _ _ _ m v w20 (HSM.out.at_ (Reads.of_own K13.o0 K13.o0.lt)) (by omega)).mono ?_
    rintro e w22 ⟨v12, rfl, hown15, hb⟩
    rw [HSS.out] at hown15
    obtain ⟨a12, c12, rfl, -, hr6, -⟩ := OwR.val hown15
    have K14 := K13.below hb
    clear K13 hb hown15
    go_wp2_with fail
    refine (eqStringS_any a12 a5 c12 c5 ss ss w22 hr6 K14.r1 (by omega)).mono ?_
    rintro e w23 ⟨rfl, n24, rfl⟩
    simp only [decide_true]
    generalize hw : w22.drewN n24 = w25
    have hb : Below w22.heap.size w22 w25 := hw ▸ drewN_below n24
    clear hw
    have K15 := K14.below hb
    clear K14 hb hr6
    have hh := heldStringS_any a6 c6 1 ss.length w25 K15.r0 (by omega) (by omega) (by omega)
    rw [HMN.out] at hh
    go_wp2_with fail
    refine hh.mono ?_
    rintro e w26 ⟨rfl, hb⟩
    have K16 := K15.below hb
    clear K15 hb hh
    go_wp2
    go_ret
    exact ⟨rfl, K16.bel⟩
end Go.Proofs.YtnnblmibonnpcaaGreatDoor

/- Arguments that are slices of rotors, as the walks want them. -/
namespace Go.Proofs.YtnnblmibonnpcaaGreatDoor
open Go.ChangeShapes Go.WideShapes Go.Deep Go.RowKit

section
variable {H : Type} {enc : TypeId × Value → H} {P : Program} {w : World} {base : Nat} {spare : Nat → Bool} {held : Bool}
theorem open_slice_fields {t e : TypeId} {fs : Array Field} {fuel : Nat} {cs : List Value} {x : DataW H × List MemPlace} (ht : P.underlying t = some (.slice e)) (he : P.underlying e = some (.struct fs))
    (hone : oneCellFields P fs = true) (hC : P.cellsOf e = fs.size) (h : DataW.trod enc P w base spare held fuel t cs = some x) :
    (cs = [.slice none 0 0] ∧ x = (.nil, [])) ∨
    ∃ (a : Addr) (len cap m : Nat), cs = [.slice (some a) len cap] ∧ len ≤ cap ∧ cap ≤ maxLen ∧ m = (if spare a.block then cap else len) ∧
      ∀ i, i < m → ∀ (j : Nat) (f : Field), fs[j]? = some f → ∃ (v : Value) (y : DataW H × List MemPlace) (n : Nat), w.cell? (a.add (i * fs.size + j)) = some v ∧ DataW.trod enc P w base spare held n f.type [v] = some y := by
  rcases open_slice ht h with h0 | ⟨a, len, cap, m, n, D, Pl, hcs, hb, hl, hm, hmm, hx, hi⟩
  · exact .inl h0
  · refine .inr ⟨a, len, cap, m, hcs, hl, hm, hmm, fun i him j f hj => ?_⟩
    obtain ⟨cs', hc, ht'⟩ := hi i him
    rw [hC] at hc
    obtain ⟨ys, n', hn', hy, hlen, hyl, hf⟩ := DataW.trod_struct he ht'
    obtain ⟨_, hcl, hat⟩ := World.cells?_some hc
    obtain ⟨ho, hk⟩ := hone_of hone j f hj
    have hjl : j < fs.size := (Array.getElem?_eq_some_iff.1 hj).1
    have hcell := hat j hjl
    have hv : cs'[j]? = some (cs'[j]'(by omega)) := List.getElem?_eq_getElem (by omega)
    have h1 := hf j f hj
    rw [ho, hk] at h1
    have hone' : (cs'.drop j).take 1 = [cs'[j]'(by omega)] := by
      rw [List.drop_eq_getElem_cons (by omega)]
      rfl
    rw [hone'] at h1
    have hys : ys[j]? = some (ys[j]'(by omega)) := List.getElem?_eq_getElem (by omega)
    refine ⟨_, _, n', ?_, h1.trans hys⟩
    rw [← Go.Deep.add_add, hcell, hv]
end
theorem choose_list {α : Type} {Q : Nat → α → Prop} : ∀ n : Nat, (∀ i, i < n → ∃ r, Q i r) → ∃ rs : List α, rs.length = n ∧ ∀ i (h : i < rs.length), Q i rs[i]
  | 0, _ => ⟨[], rfl, fun i h => absurd h (by simp)⟩
  | n + 1, h => by
    obtain ⟨rs, hl, hr⟩ := choose_list n fun i hi => h i (by omega)
    obtain ⟨r, hq⟩ := h n (by omega)
    refine ⟨rs ++ [r], by simp [hl], fun i hi => ?_⟩
    by_cases e : i < rs.length
    · rw [List.getElem_append_left e]; exact hr i e
    · have : i = rs.length := by simp at hi; omega
      subst this
      simp [hl, hq]
theorem rots_open {H : Type} {enc : TypeId × Value → H} {w : World} {fuel : Nat} {v : Value} {x : DataW H × List MemPlace}
    (h : DataW.trod enc Tryz.prog w 0 (fun _ => true) true fuel 37 [v] = some x) :
    ∃ (a : Option Addr) (cap : Nat) (rs : List Rot), v = .slice a rs.length cap ∧ Reads w w.heap.size a (rvs rs) ∧ BigR rs := by
  rcases open_slice_fields Tryz.underlying37 Tryz.underlying128 (by kernel_rfl) (by kernel_rfl) h with ⟨hcs, _⟩ | ⟨a, len, cap, m, hcs, hl, hm, hmm, hf⟩
  · simp at hcs
    exact ⟨none, 0, [], by rw [hcs]; rfl, Reads.nil_, ⟨by simp, by simp⟩⟩
  · simp at hcs
    simp at hmm
    unfold maxLen at hm
    obtain ⟨rs, hrl, hr⟩ := choose_list (Q := fun i (r : Rot) => w.cell? (a.add (i * 2)) = some (.string r.wiring) ∧ w.cell? (a.add (i * 2 + 1)) = some (.string r.notches) ∧ r.wiring.size ≤ 9223372036854775807 ∧ r.notches.size ≤ 9223372036854775807) len fun i hi => by
      obtain ⟨v0, y0, n0, c0, t0⟩ := hf i (by omega) 0 _ rfl
      obtain ⟨v1, y1, n1, c1, t1⟩ := hf i (by omega) 1 _ rfl
      obtain ⟨s0, e0, _, hs0⟩ := DataW.trod_string Tryz.underlying9 t0
      obtain ⟨s1, e1, _, hs1⟩ := DataW.trod_string Tryz.underlying9 t1
      simp at e0 e1
      subst e0
      subst e1
      exact ⟨⟨s0, s1⟩, c0, c1, hs0, hs1⟩
    refine ⟨some a, cap, rs, by rw [hrl]; exact hcs, ?_, fun r hm => ?_, by omega⟩
    · by_cases h0 : len = 0
      · left
        rw [List.eq_nil_of_length_eq_zero (hrl.trans h0)]; rfl
      · obtain ⟨b, off, sp⟩ := a
        have h1 := (hr 0 (by omega)).1
        have hsp : sp = none := by simpa [Addr.add] using World.cell?_spot h1
        subst hsp
        have hb : b < w.heap.size := by
          rcases Nat.lt_or_ge b w.heap.size with hlt | hge
          · exact hlt
          · simp [Addr.add, World.cell?, Array.getElem?_eq_none hge] at h1
        refine .inr ⟨b, off, rfl, hb, fun i hi => ?_⟩
        rw [len_rvs] at hi
        have hk : i / 2 < rs.length := by omega
        obtain ⟨k0, k1, _⟩ := hr (i / 2) hk
        rw [add_none] at k0 k1
        rcases Nat.mod_two_eq_zero_or_one i with e | e
        · have := rvs_at0 rs (i / 2) hk
          rw [show 2 * (i / 2) = i by omega] at this
          rw [this, ← k0, show i / 2 * 2 = i by omega]
        · have := rvs_at1 rs (i / 2) hk
          rw [show 2 * (i / 2) + 1 = i by omega] at this
          rw [this, ← k1, show i / 2 * 2 + 1 = i by omega]
    · obtain ⟨j, hj, rfl⟩ := List.getElem_of_mem hm
      obtain ⟨_, _, k2, k3⟩ := hr j hj
      exact ⟨k2, k3⟩
end Go.Proofs.YtnnblmibonnpcaaGreatDoor

/- Arguments that are machines, lists of strings and lists of numbers, as the walks want them. -/
namespace Go.Proofs.YtnnblmibonnpcaaGreatDoor
open Go.ChangeShapes Go.WideShapes Go.Deep Go.RowKit Go.Joins

theorem add_none' (b off i : Nat) : (Addr.add ⟨b, off, none⟩ i) = ⟨b, off + i, none⟩ := by
  unfold Addr.add
  split
  · rename_i hi0; subst hi0; rfl
  · rfl
theorem strs_open {H : Type} {enc : TypeId × Value → H} {w : World} {fuel : Nat} {v : Value} {x : DataW H × List MemPlace}
    (h : DataW.trod enc Tryz.prog w 0 (fun _ => true) true fuel 30 [v] = some x) :
    ∃ (a : Option Addr) (cap : Nat) (ss : List ByteArray), v = .slice a ss.length cap ∧ Reads w w.heap.size a (sv ss) ∧ (∀ s ∈ ss, s.size ≤ 9223372036854775807) ∧ ss.length ≤ 9223372036854775807 := by
  rcases open_strings Tryz.underlying30 Tryz.underlying9 (by kernel_rfl) h with ⟨hcs, _⟩ | ⟨a, len, cap, ss, hcs, _, hl, hm, hz, _, hcell, hws⟩
  · simp at hcs
    exact ⟨none, 0, [], by rw [hcs]; rfl, Reads.nil_, by simp, by simp⟩
  · simp at hcs
    simp at hz
    unfold maxLen at hm hws
    have hlen : (ss.take len).length = len := by simp; omega
    refine ⟨some a, cap, ss.take len, by rw [hlen]; exact hcs, ?_, fun s hs => hws s (List.mem_of_mem_take hs), by rw [hlen]; omega⟩
    by_cases h0 : len = 0
    · left; rw [h0]; rfl
    · obtain ⟨b, off, sp⟩ := a
      have h1 := hcell 0 (by omega)
      have hsp : sp = none := by simpa [Addr.add] using World.cell?_spot h1
      subst hsp
      have hb : b < w.heap.size := by
        rcases Nat.lt_or_ge b w.heap.size with hlt | hge
        · exact hlt
        · simp [Addr.add, World.cell?, Array.getElem?_eq_none hge] at h1
      refine .inr ⟨b, off, rfl, hb, fun i hi => ?_⟩
      rw [length_sv, hlen] at hi
      have h2 := hcell i (by omega)
      have hi' : i < ss.length := by omega
      rw [sv_at (by rw [hlen]; exact hi), List.getElem_take]
      have e1 : ss.getD i ByteArray.empty = ss[i] := by simp [List.getD, List.getElem?_eq_getElem hi']
      rw [e1, add_none'] at h2
      exact h2
theorem str_open {H : Type} {enc : TypeId × Value → H} {w : World} {fuel : Nat} {v : Value} {x : DataW H × List MemPlace}
    (h : DataW.trod enc Tryz.prog w 0 (fun _ => true) true fuel 9 [v] = some x) : ∃ m : ByteArray, v = .string m ∧ m.size ≤ 9223372036854775807 := by
  obtain ⟨m, e2, _, hm⟩ := DataW.trod_string Tryz.underlying9 h
  simp at e2
  exact ⟨m, e2, hm⟩
set_option maxRecDepth 100000 in
theorem mach_open {H : Type} {enc : TypeId × Value → H} {w : World} {r : Reach} {b0 : Nat} {v : Value} {d : DataW H} {p : List MemPlace} (hv : Value.okWide Tryz.prog w r b0 41 v)
    (h : DataW.Trod enc Tryz.prog w 0 (fun _ => true) true 41 v d p) :
    ∃ (a : Option Addr) (c : Nat) (m : Mach), v = .agg #[.slice a m.wheels.rotors.length c, .string m.wheels.refl, .string m.rings, .string m.plugs] ∧ Reads w w.heap.size a (rvs m.wheels.rotors) ∧ BigR m.wheels.rotors ∧
      m.wheels.refl.size ≤ 9223372036854775807 ∧ m.rings.size ≤ 9223372036854775807 ∧ m.plugs.size ≤ 9223372036854775807 := by
  obtain ⟨cs, rfl, hsz⟩ := okWide_struct Tryz.underlying41 hv
  have e4 : Tryz.prog.cellsOf 41 = 4 := by kernel_rfl
  rw [e4] at hsz
  obtain ⟨c0, c1, c2, c3, rfl⟩ := array4 hsz
  obtain ⟨fuel, hf⟩ := h
  obtain ⟨y0, y1, y2, n, _, _, h0, h1, h2⟩ := trod_struct3 Tryz.underlying41 hf
  have eW : Tryz.prog.cellsOf 39 = 2 := by kernel_rfl
  have eS : Tryz.prog.cellsOf 9 = 1 := by kernel_rfl
  have eR : Tryz.prog.cellsOf 37 = 1 := by kernel_rfl
  have h0' : DataW.trod enc Tryz.prog w 0 (fun _ => true) true n 39 [c0, c1] = some y0 := by simpa [Value.cells, eW] using h0
  have h1' : DataW.trod enc Tryz.prog w 0 (fun _ => true) true n 9 [c2] = some y1 := by simpa [Value.cells, eS] using h1
  have h2' : DataW.trod enc Tryz.prog w 0 (fun _ => true) true n 9 [c3] = some y2 := by simpa [Value.cells, eS] using h2
  obtain ⟨z0, z1, n2, _, _, g0, g1⟩ := trod_struct2 Tryz.underlying39 h0'
  have g0' : DataW.trod enc Tryz.prog w 0 (fun _ => true) true n2 37 [c0] = some z0 := by simpa [Value.cells, eR] using g0
  have g1' : DataW.trod enc Tryz.prog w 0 (fun _ => true) true n2 9 [c1] = some z1 := by simpa [Value.cells, eS] using g1
  obtain ⟨a, cap, rs, rfl, hr, hz⟩ := rots_open g0'
  obtain ⟨s1, rfl, b1⟩ := str_open g1'
  obtain ⟨s2, rfl, b2⟩ := str_open h1'
  obtain ⟨s3, rfl, b3⟩ := str_open h2'
  exact ⟨a, cap, ⟨⟨rs, s1⟩, s2, s3⟩, rfl, hr, hz, b1, b2, b3⟩
end Go.Proofs.YtnnblmibonnpcaaGreatDoor
