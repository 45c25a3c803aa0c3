/- Several of my texts in one: ExHypotheses, ExMenuBoards, ExImpliedPairs, ExBombeStops. -/
import Derived.Test.YtdmnkcmkpjmfaaaGreatM18
import Derived.Test.YtdmnkcmkpjmfaaaGreatM34
import Derived.Test.YtdmnkcmkpjmfaaaGreatM30
import Derived.Test.YtdmnkcmkpjmfaaaGreatM31
import Derived.Test.YtdmnkcmkpjmfaaaGreatM27
/- The walk of the law that both Hypotheses answer alike (printed by wip/genexact.py). -/
namespace Go.Proofs.YtdmnkcmkpjmfaaaGreat
open Go.RowKit

set_option maxRecDepth 100000 in
set_option maxHeartbeats 4000000 in
theorem exactHypotheses_walk (am : Option Addr) (cm : Nat) (m : Mach) (v : ByteArray) (ams : Option Addr) (cms : Nat) (ms : List Lnk) (w : World) (hm : Reads w w.heap.size am (rvs m.wheels.rotors)) (hz : BigR m.wheels.rotors) (hrf : m.wheels.refl.size ≤ 9223372036854775807) (hrg : m.rings.size ≤ 9223372036854775807) (hpl : m.plugs.size ≤ 9223372036854775807) (zv : v.size ≤ 9223372036854775807) (hms : Reads w w.heap.size ams (lks ms)) (zms : BigL ms) (lms : ms.length ≤ 9223372036854775807) :
    Calls Tryz.prog 5 #[.agg #[.slice am m.wheels.rotors.length cm, .string m.wheels.refl, .string m.rings, .string m.plugs], .string v, .slice ams ms.length cms] w fun e w' => e = .returned (.bool true) ∧ Below w.heap.size w w' := by
  have o0 := Own.new w [.slice am m.wheels.rotors.length cm, .string m.wheels.refl, .string m.rings, .string m.plugs] 26
  have hb0 := (Below.refl w.heap.size w).alloc (Nat.le_refl _) (.cells [.slice am m.wheels.rotors.length cm, .string m.wheels.refl, .string m.rings, .string m.plugs].toArray 26)
  by_cases hvv : 1048576 < v.size
  · go_enter Tryz.func5, Tryz.ntmps5
    go_wp2
    go_ret
    exact ⟨rfl, hb0⟩
  · skip
    go_enter Tryz.func5, Tryz.ntmps5
    go_wp2_with fail
    generalize (w.alloc (.cells [.slice am m.wheels.rotors.length cm, .string m.wheels.refl, .string m.rings, .string m.plugs].toArray 26)) = W at *
    have K0 := (((⟨hb0, by simp, by simp⟩ : Kept w W [] []).addR (hms.below hb0 (Nat.le_refl _)) hb0.size).addR (hm.below hb0 (Nat.le_refl _)) hb0.size).addO o0
    clear o0 hb0 hm hms
    refine (szMachine_any am cm m 1048576 W (K0.r0) hz hrf hrg hpl (by omega) (by omega)).mono ?_
    rintro e w2 ⟨q1, rfl, hb, hq⟩
    have K1 := K0.below hb
    clear K0 hb
    rcases hq with rfl | ⟨q1a, q1b, hsm⟩
    · go_wp2
      go_ret
      exact ⟨rfl, K1.bel⟩
    have HSM := Lib.hid hsm
    clear hsm hz hrf hrg hpl
    go_wp2_with fail
    refine (szLinkS_any ams cms ms q1 w2 (K1.r1) zms lms (by omega) (by omega)).mono ?_
    rintro e w4 ⟨q3, rfl, hb, hq⟩
    have K2 := K1.below hb
    clear K1 hb
    rcases hq with rfl | ⟨q3a, q3b, q3c, hsl⟩
    · go_wp2
      go_ret
      exact ⟨rfl, K2.bel⟩
    have HSL := Lib.hid hsl
    have kms : ms.length ≤ 1048576 := by omega
    clear hsl zms lms
    have f0 : w4.cell? ⟨w.heap.size, 0, none⟩ = some (.slice am m.wheels.rotors.length cm) := (K2.o0).at_ (i := 0) rfl
    have f1 : w4.cell? ⟨w.heap.size, 1, none⟩ = some (.string m.wheels.refl) := (K2.o0).at_ (i := 1) rfl
    have f2 : w4.cell? ⟨w.heap.size, 2, none⟩ = some (.string m.rings) := (K2.o0).at_ (i := 2) rfl
    have f3 : w4.cell? ⟨w.heap.size, 3, none⟩ = some (.string m.plugs) := (K2.o0).at_ (i := 3) rfl
    go_wp2_with fail
    refine (toMachine_any am cm m w4 (K2.r0) HSM.out).mono ?_
    rintro e w5 ⟨g6, hg6, rfl, og, hb⟩
    have K3 := (K2.below hb).addO og
    clear K2 hb og f0 f1 f2 f3
    go_wp2_with fail
    refine (toLinkS_any ams cms ms w5 (K3.r1) kms).mono ?_
    rintro e w7 ⟨g8, hg8, rfl, og, hb⟩
    have K4 := (K3.below hb).addO og
    clear K3 hb og 
    go_wp2_with fail
    refine (specHypotheses_any _ _ m v _ _ ms w7 (HSM.out.at_ (Reads.of_own K4.o1 K4.o1.lt)) (by omega) (Reads.of_own K4.o0 K4.o0.lt) (by omega)).mono ?_
    rintro e w9 ⟨rfl, hb⟩
    have K5 := (K4.below hb).tailO.tailO
    clear K4 hb
    have nn0 := K5.o0.lt
    have f0 : w9.cell? ⟨w.heap.size, 0, none⟩ = some (.slice am m.wheels.rotors.length cm) := (K5.o0).at_ (i := 0) rfl
    have f1 : w9.cell? ⟨w.heap.size, 1, none⟩ = some (.string m.wheels.refl) := (K5.o0).at_ (i := 1) rfl
    have f2 : w9.cell? ⟨w.heap.size, 2, none⟩ = some (.string m.rings) := (K5.o0).at_ (i := 2) rfl
    have f3 : w9.cell? ⟨w.heap.size, 3, none⟩ = some (.string m.plugs) := (K5.o0).at_ (i := 3) rfl
    go_wp2_with fail
    refine (toMachine_any am cm m w9 (K5.r0) HSM.out).mono ?_
    rintro e w10 ⟨g11, hg11, rfl, og, hb⟩
    have K6 := (K5.below hb).addO og
    clear K5 hb og f0 f1 f2 f3
    have ng11 := K6.o0.lt
    go_wp2_with fail
    have nw := Own.new w10 [.slice (some ⟨g11, 0, none⟩) m.wheels.rotors.length m.wheels.rotors.length, .string m.wheels.refl, .string m.rings, .string m.plugs] 36
    have bw := (Below.refl w10.heap.size w10).alloc (Nat.le_refl _) (.cells [.slice (some ⟨g11, 0, none⟩) m.wheels.rotors.length m.wheels.rotors.length, .string m.wheels.refl, .string m.rings, .string m.plugs].toArray 36)
    have sw : (w10.alloc (.cells [.slice (some ⟨g11, 0, none⟩) m.wheels.rotors.length m.wheels.rotors.length, .string m.wheels.refl, .string m.rings, .string m.plugs].toArray 36)).heap.size = w10.heap.size + 1 := by simp
    generalize (w10.alloc (.cells [.slice (some ⟨g11, 0, none⟩) m.wheels.rotors.length m.wheels.rotors.length, .string m.wheels.refl, .string m.rings, .string m.plugs].toArray 36)) = w12 at *
    have K7 := (K6.below bw).addO nw
    clear K6 bw nw
    generalize hBX : w10.heap.size = BX at *
    have nBX := K7.o0.lt
    go_wp2_with fail
    refine (toLinkS_any ams cms ms w12 (K7.r1) kms).mono ?_
    rintro e w13 ⟨g14, hg14, rfl, og, hb⟩
    have K8 := (K7.below hb).addO og
    clear K7 hb og 
    have ng14 := K8.o0.lt
    have k0 : w13.cell? ⟨BX, 0, none⟩ = some (.slice (some ⟨g11, 0, none⟩) m.wheels.rotors.length m.wheels.rotors.length) := (K8.o1).at_ (i := 0) rfl
    have k1 : w13.cell? ⟨BX, 1, none⟩ = some (.string m.wheels.refl) := (K8.o1).at_ (i := 1) rfl
    have k2 : w13.cell? ⟨BX, 2, none⟩ = some (.string m.rings) := (K8.o1).at_ (i := 2) rfl
    have k3 : w13.cell? ⟨BX, 3, none⟩ = some (.string m.plugs) := (K8.o1).at_ (i := 3) rfl
    go_wp2_with fail
    refine (implHypotheses_any _ _ m v _ _ ms w13 (HSM.out.at_ (Reads.of_own K8.o2 K8.o2.lt)) (by omega) (Reads.of_own K8.o0 K8.o0.lt) (fun x hx => by have := HSL.out x hx; omega) (by omega)).mono ?_
    rintro e w15 ⟨rfl, hb⟩
    have K9 := K8.below hb
    clear K8 hb k0 k1 k2 k3
    have f0 : w15.cell? ⟨w.heap.size, 0, none⟩ = some (.slice am m.wheels.rotors.length cm) := (K9.o3).at_ (i := 0) rfl
    have f1 : w15.cell? ⟨w.heap.size, 1, none⟩ = some (.string m.wheels.refl) := (K9.o3).at_ (i := 1) rfl
    have f2 : w15.cell? ⟨w.heap.size, 2, none⟩ = some (.string m.rings) := (K9.o3).at_ (i := 2) rfl
    have f3 : w15.cell? ⟨w.heap.size, 3, none⟩ = some (.string m.plugs) := (K9.o3).at_ (i := 3) rfl
    have k0 : w15.cell? ⟨BX, 0, none⟩ = some (.slice (some ⟨g11, 0, none⟩) m.wheels.rotors.length m.wheels.rotors.length) := (K9.o1).at_ (i := 0) rfl
    have k1 : w15.cell? ⟨BX, 1, none⟩ = some (.string m.wheels.refl) := (K9.o1).at_ (i := 1) rfl
    have k2 : w15.cell? ⟨BX, 2, none⟩ = some (.string m.rings) := (K9.o1).at_ (i := 2) rfl
    have k3 : w15.cell? ⟨BX, 3, none⟩ = some (.string m.plugs) := (K9.o1).at_ (i := 3) rfl
    have lt0 := (K9.o3).lt
    have lt5 := (K9.o1).lt
    go_wp2_with fail
    have hRd : Reads w15.drew w15.drew.heap.size am (rvs m.wheels.rotors) := K9.r0
    have hRy : Reads w15.drew w15.drew.heap.size (some ⟨g11, 0, none⟩) (rvs m.wheels.rotors) := Reads.of_own (K9.o2).drew (K9.o2).lt
    go_region_held3 (fun w' => w'.cell? ⟨w.heap.size, 0, none⟩ = some (Value.slice am m.wheels.rotors.length cm) ∧ w'.cell? ⟨w.heap.size, 1, none⟩ = some (Value.string m.wheels.refl) ∧ w'.cell? ⟨w.heap.size, 2, none⟩ = some (Value.string m.rings) ∧ w'.cell? ⟨w.heap.size, 3, none⟩ = some (Value.string m.plugs) ∧ w'.cell? ⟨BX, 0, none⟩ = some (Value.slice (some ⟨g11, 0, none⟩) m.wheels.rotors.length m.wheels.rotors.length) ∧ w'.cell? ⟨BX, 1, none⟩ = some (Value.string m.wheels.refl) ∧ w'.cell? ⟨BX, 2, none⟩ = some (Value.string m.rings) ∧ w'.cell? ⟨BX, 3, none⟩ = some (Value.string m.plugs))
      (first | go_keep | exact keep8 f0 f1 f2 f3 k0 k1 k2 k3 lt0 lt5 (bt hb8 hb9) | exact keep8 f0 f1 f2 f3 k0 k1 k2 k3 lt0 lt5 hb8)
      (first | (go_at_call 24; refine (toMachine_any am cm m _ hRd HSM.out).mono ?_; rintro e wy8 ⟨g8, hg8, rfl, og8, hb8⟩) | (go_at_call 28; refine (eqMachine_any (some ⟨g11, 0, none⟩) (some ⟨g8, 0, none⟩) _ _ m _ ((hRy.below hb8 (Nat.le_refl _)).more hb8.size) (Reads.of_own og8 og8.lt) HSM.out.whl.few).mono ?_; rintro e wy9 ⟨rfl, hb9⟩))
    have hb : Below w15.heap.size w15 wy9 := bt (a := w15) (b := wy8) ⟨hb8.os, hb8.tape, hb8.output, hb8.size, hb8.block⟩ hb9
    have K10 := K9.below hb
    clear K9 hb hb8 hb9 f0 f1 f2 f3 k0 k1 k2 k3 lt0 lt5 hRd hRy og8 hg8 
    go_wp2_with fail
    refine (toLinkS_any ams cms ms wy9 (K10.r1) kms).mono ?_
    rintro e w16 ⟨g17, hg17, rfl, og, hb⟩
    have K11 := (K10.below hb).addO og
    clear K10 hb og 
    go_wp2_with fail
    refine (eqLinkS_same (some ⟨g14, 0, none⟩) (some ⟨g17, 0, none⟩) ms.length ms.length ms w16 (Reads.of_own K11.o1 K11.o1.lt) (Reads.of_own K11.o0 K11.o0.lt) kms).mono ?_
    rintro e w18 ⟨rfl, hb⟩
    have K12 := (K11.below hb).tailO
    clear K11 hb
    go_wp2
    go_ret
    exact ⟨rfl, K12.bel⟩
end Go.Proofs.YtdmnkcmkpjmfaaaGreat

/- The walk of the law that both MenuBoards answer alike (printed by wip/genexact.py). -/
namespace Go.Proofs.YtdmnkcmkpjmfaaaGreat
open Go.RowKit

theorem mbdT_len (m : Mach) (v : ByteArray) (ms : List Lnk) : (mbdT m v ms).length ≤ 10 := by
  have := @boards_at m v ms
  omega
set_option maxRecDepth 100000 in
set_option maxHeartbeats 4000000 in
theorem exactMenuBoards_walk (am : Option Addr) (cm : Nat) (m : Mach) (v : ByteArray) (ams : Option Addr) (cms : Nat) (ms : List Lnk) (w : World) (hm : Reads w w.heap.size am (rvs m.wheels.rotors)) (hz : BigR m.wheels.rotors) (hrf : m.wheels.refl.size ≤ 9223372036854775807) (hrg : m.rings.size ≤ 9223372036854775807) (hpl : m.plugs.size ≤ 9223372036854775807) (zv : v.size ≤ 9223372036854775807) (hms : Reads w w.heap.size ams (lks ms)) (zms : BigL ms) (lms : ms.length ≤ 9223372036854775807) :
    Calls Tryz.prog 12 #[.agg #[.slice am m.wheels.rotors.length cm, .string m.wheels.refl, .string m.rings, .string m.plugs], .string v, .slice ams ms.length cms] w fun e w' => e = .returned (.bool true) ∧ Below w.heap.size w w' := by
  have o0 := Own.new w [.slice am m.wheels.rotors.length cm, .string m.wheels.refl, .string m.rings, .string m.plugs] 26
  have hb0 := (Below.refl w.heap.size w).alloc (Nat.le_refl _) (.cells [.slice am m.wheels.rotors.length cm, .string m.wheels.refl, .string m.rings, .string m.plugs].toArray 26)
  by_cases hvv : 1048576 < v.size
  · go_enter Tryz.func12, Tryz.ntmps12
    go_wp2
    go_ret
    exact ⟨rfl, hb0⟩
  · skip
    go_enter Tryz.func12, Tryz.ntmps12
    go_wp2_with fail
    generalize (w.alloc (.cells [.slice am m.wheels.rotors.length cm, .string m.wheels.refl, .string m.rings, .string m.plugs].toArray 26)) = W at *
    have K0 := (((⟨hb0, by simp, by simp⟩ : Kept w W [] []).addR (hms.below hb0 (Nat.le_refl _)) hb0.size).addR (hm.below hb0 (Nat.le_refl _)) hb0.size).addO o0
    clear o0 hb0 hm hms
    refine (szMachine_any am cm m 1048576 W (K0.r0) hz hrf hrg hpl (by omega) (by omega)).mono ?_
    rintro e w2 ⟨q1, rfl, hb, hq⟩
    have K1 := K0.below hb
    clear K0 hb
    rcases hq with rfl | ⟨q1a, q1b, hsm⟩
    · go_wp2
      go_ret
      exact ⟨rfl, K1.bel⟩
    have HSM := Lib.hid hsm
    clear hsm hz hrf hrg hpl
    go_wp2_with fail
    refine (szLinkS_any ams cms ms q1 w2 (K1.r1) zms lms (by omega) (by omega)).mono ?_
    rintro e w4 ⟨q3, rfl, hb, hq⟩
    have K2 := K1.below hb
    clear K1 hb
    rcases hq with rfl | ⟨q3a, q3b, q3c, hsl⟩
    · go_wp2
      go_ret
      exact ⟨rfl, K2.bel⟩
    have HSL := Lib.hid hsl
    have kms : ms.length ≤ 1048576 := by omega
    clear hsl zms lms
    have hbig : (mbdT m v ms).length ≤ 10 := mbdT_len m v ms
    have f0 : w4.cell? ⟨w.heap.size, 0, none⟩ = some (.slice am m.wheels.rotors.length cm) := (K2.o0).at_ (i := 0) rfl
    have f1 : w4.cell? ⟨w.heap.size, 1, none⟩ = some (.string m.wheels.refl) := (K2.o0).at_ (i := 1) rfl
    have f2 : w4.cell? ⟨w.heap.size, 2, none⟩ = some (.string m.rings) := (K2.o0).at_ (i := 2) rfl
    have f3 : w4.cell? ⟨w.heap.size, 3, none⟩ = some (.string m.plugs) := (K2.o0).at_ (i := 3) rfl
    go_wp2_with fail
    refine (toMachine_any am cm m w4 (K2.r0) HSM.out).mono ?_
    rintro e w5 ⟨g6, hg6, rfl, og, hb⟩
    have K3 := (K2.below hb).addO og
    clear K2 hb og f0 f1 f2 f3
    go_wp2_with fail
    refine (toLinkS_any ams cms ms w5 (K3.r1) kms).mono ?_
    rintro e w7 ⟨g8, hg8, rfl, og, hb⟩
    have K4 := (K3.below hb).addO og
    clear K3 hb og 
    go_wp2_with fail
    refine (specMenuBoards_any _ _ m v _ _ ms w7 (HSM.out.at_ (Reads.of_own K4.o1 K4.o1.lt)) (by omega) (Reads.of_own K4.o0 K4.o0.lt) (by omega)).mono ?_
    rintro e w9 ⟨v5, rfl, hown5, hb⟩
    obtain ⟨a5, c5, rfl, -, hr5, -⟩ := OwR.val hown5
    have K5 := ((K4.below hb).tailO.tailO).addR hr5 (Nat.le_refl _)
    clear K4 hb hr5 hown5
    have nn0 := K5.o0.lt
    have f0 : w9.cell? ⟨w.heap.size, 0, none⟩ = some (.slice am m.wheels.rotors.length cm) := (K5.o0).at_ (i := 0) rfl
    have f1 : w9.cell? ⟨w.heap.size, 1, none⟩ = some (.string m.wheels.refl) := (K5.o0).at_ (i := 1) rfl
    have f2 : w9.cell? ⟨w.heap.size, 2, none⟩ = some (.string m.rings) := (K5.o0).at_ (i := 2) rfl
    have f3 : w9.cell? ⟨w.heap.size, 3, none⟩ = some (.string m.plugs) := (K5.o0).at_ (i := 3) rfl
    go_wp2_with fail
    refine (toMachine_any am cm m w9 (K5.r1) HSM.out).mono ?_
    rintro e w10 ⟨g11, hg11, rfl, og, hb⟩
    have K6 := (K5.below hb).addO og
    clear K5 hb og f0 f1 f2 f3
    have ng11 := K6.o0.lt
    go_wp2_with fail
    have nw := Own.new w10 [.slice (some ⟨g11, 0, none⟩) m.wheels.rotors.length m.wheels.rotors.length, .string m.wheels.refl, .string m.rings, .string m.plugs] 36
    have bw := (Below.refl w10.heap.size w10).alloc (Nat.le_refl _) (.cells [.slice (some ⟨g11, 0, none⟩) m.wheels.rotors.length m.wheels.rotors.length, .string m.wheels.refl, .string m.rings, .string m.plugs].toArray 36)
    have sw : (w10.alloc (.cells [.slice (some ⟨g11, 0, none⟩) m.wheels.rotors.length m.wheels.rotors.length, .string m.wheels.refl, .string m.rings, .string m.plugs].toArray 36)).heap.size = w10.heap.size + 1 := by simp
    generalize (w10.alloc (.cells [.slice (some ⟨g11, 0, none⟩) m.wheels.rotors.length m.wheels.rotors.length, .string m.wheels.refl, .string m.rings, .string m.plugs].toArray 36)) = w12 at *
    have K7 := (K6.below bw).addO nw
    clear K6 bw nw
    generalize hBX : w10.heap.size = BX at *
    have nBX := K7.o0.lt
    go_wp2_with fail
    refine (toLinkS_any ams cms ms w12 (K7.r2) kms).mono ?_
    rintro e w13 ⟨g14, hg14, rfl, og, hb⟩
    have K8 := (K7.below hb).addO og
    clear K7 hb og 
    have ng14 := K8.o0.lt
    have k0 : w13.cell? ⟨BX, 0, none⟩ = some (.slice (some ⟨g11, 0, none⟩) m.wheels.rotors.length m.wheels.rotors.length) := (K8.o1).at_ (i := 0) rfl
    have k1 : w13.cell? ⟨BX, 1, none⟩ = some (.string m.wheels.refl) := (K8.o1).at_ (i := 1) rfl
    have k2 : w13.cell? ⟨BX, 2, none⟩ = some (.string m.rings) := (K8.o1).at_ (i := 2) rfl
    have k3 : w13.cell? ⟨BX, 3, none⟩ = some (.string m.plugs) := (K8.o1).at_ (i := 3) rfl
    go_wp2_with fail
    refine (implMenuBoards_any _ _ m v _ _ ms w13 (HSM.out.at_ (Reads.of_own K8.o2 K8.o2.lt)) (by omega) (Reads.of_own K8.o0 K8.o0.lt) (fun x hx => by have := HSL.out x hx; omega) (by omega)).mono ?_
    rintro e w15 ⟨v6, rfl, hown, hb⟩
    obtain ⟨a6, c6, rfl, -, hr6, -⟩ := OwR.val hown
    have K9 := K8.below hb
    clear K8 hb k0 k1 k2 k3
    generalize hss : mbdT m v ms = ss at *
    have HSS := Lib.hid hss
    clear hss
    go_wp2_with fail
    refine (eqStringS_any a6 a5 c6 c5 ss ss w15 hr6 K9.r0 (by omega)).mono ?_
    rintro e w16 ⟨rfl, n17, rfl⟩
    simp only [decide_true]
    generalize hw : w15.drewN n17 = w18
    have hb : Below w15.heap.size w15 w18 := hw ▸ drewN_below n17
    clear hw
    have hown1 := OwR.below hown hb (Nat.le_refl _)
    have K10 := K9.below hb
    clear K9 hb hr6 hown
    have f0 : w18.cell? ⟨w.heap.size, 0, none⟩ = some (.slice am m.wheels.rotors.length cm) := (K10.o3).at_ (i := 0) rfl
    have f1 : w18.cell? ⟨w.heap.size, 1, none⟩ = some (.string m.wheels.refl) := (K10.o3).at_ (i := 1) rfl
    have f2 : w18.cell? ⟨w.heap.size, 2, none⟩ = some (.string m.rings) := (K10.o3).at_ (i := 2) rfl
    have f3 : w18.cell? ⟨w.heap.size, 3, none⟩ = some (.string m.plugs) := (K10.o3).at_ (i := 3) rfl
    have k0 : w18.cell? ⟨BX, 0, none⟩ = some (.slice (some ⟨g11, 0, none⟩) m.wheels.rotors.length m.wheels.rotors.length) := (K10.o1).at_ (i := 0) rfl
    have k1 : w18.cell? ⟨BX, 1, none⟩ = some (.string m.wheels.refl) := (K10.o1).at_ (i := 1) rfl
    have k2 : w18.cell? ⟨BX, 2, none⟩ = some (.string m.rings) := (K10.o1).at_ (i := 2) rfl
    have k3 : w18.cell? ⟨BX, 3, none⟩ = some (.string m.plugs) := (K10.o1).at_ (i := 3) rfl
    have lt0 := (K10.o3).lt
    have lt5 := (K10.o1).lt
    go_wp2_with fail
    have hRd : Reads w18.drew w18.drew.heap.size am (rvs m.wheels.rotors) := K10.r1
    have hRy : Reads w18.drew w18.drew.heap.size (some ⟨g11, 0, none⟩) (rvs m.wheels.rotors) := Reads.of_own (K10.o2).drew (K10.o2).lt
    go_region_held3 (fun w' => w'.cell? ⟨w.heap.size, 0, none⟩ = some (Value.slice am m.wheels.rotors.length cm) ∧ w'.cell? ⟨w.heap.size, 1, none⟩ = some (Value.string m.wheels.refl) ∧ w'.cell? ⟨w.heap.size, 2, none⟩ = some (Value.string m.rings) ∧ w'.cell? ⟨w.heap.size, 3, none⟩ = some (Value.string m.plugs) ∧ w'.cell? ⟨BX, 0, none⟩ = some (Value.slice (some ⟨g11, 0, none⟩) m.wheels.rotors.length m.wheels.rotors.length) ∧ w'.cell? ⟨BX, 1, none⟩ = some (Value.string m.wheels.refl) ∧ w'.cell? ⟨BX, 2, none⟩ = some (Value.string m.rings) ∧ w'.cell? ⟨BX, 3, none⟩ = some (Value.string m.plugs))
      (first | go_keep | exact keep8 f0 f1 f2 f3 k0 k1 k2 k3 lt0 lt5 (bt hb8 hb9) | exact keep8 f0 f1 f2 f3 k0 k1 k2 k3 lt0 lt5 hb8)
      (first | (go_at_call 24; refine (toMachine_any am cm m _ hRd HSM.out).mono ?_; rintro e wy8 ⟨g8, hg8, rfl, og8, hb8⟩) | (go_at_call 28; refine (eqMachine_any (some ⟨g11, 0, none⟩) (some ⟨g8, 0, none⟩) _ _ m _ ((hRy.below hb8 (Nat.le_refl _)).more hb8.size) (Reads.of_own og8 og8.lt) HSM.out.whl.few).mono ?_; rintro e wy9 ⟨rfl, hb9⟩))
    have hb : Below w18.heap.size w18 wy9 := bt (a := w18) (b := wy8) ⟨hb8.os, hb8.tape, hb8.output, hb8.size, hb8.block⟩ hb9
    have hown1' := OwR.below hown1 hb (Nat.le_refl _)
    have K11 := K10.below hb
    clear K10 hb hb8 hb9 f0 f1 f2 f3 k0 k1 k2 k3 lt0 lt5 hRd hRy og8 hg8 hown1
    go_wp2_with fail
    refine (toLinkS_any ams cms ms wy9 (K11.r2) kms).mono ?_
    rintro e w19 ⟨g20, hg20, rfl, og, hb⟩
    have hown1'' := OwR.below hown1' hb (Nat.le_refl _)
    clear hown1'
    have K12 := (K11.below hb).addO og
    clear K11 hb og 
    go_wp2_with fail
    refine (eqLinkS_same (some ⟨g14, 0, none⟩) (some ⟨g20, 0, none⟩) ms.length ms.length ms w19 (Reads.of_own K12.o1 K12.o1.lt) (Reads.of_own K12.o0 K12.o0.lt) kms).mono ?_
    rintro e w21 ⟨rfl, hb⟩
    have hown1''' := OwR.below hown1'' hb (Nat.le_refl _)
    clear hown1''
    have K13 := (K12.below hb).tailO
    clear K12 hb
    have base0 : OwR w21 _ 9 1 (.slice a6 ss.length c6) ss.length (sv ss) := hown1'''
    clear hown1'''
    have k0 : w21.cell? ⟨BX, 0, none⟩ = some (.slice (some ⟨g11, 0, none⟩) m.wheels.rotors.length m.wheels.rotors.length) := (K13.o1).at_ (i := 0) rfl
    have k1 : w21.cell? ⟨BX, 1, none⟩ = some (.string m.wheels.refl) := (K13.o1).at_ (i := 1) rfl
    have k2 : w21.cell? ⟨BX, 2, none⟩ = some (.string m.rings) := (K13.o1).at_ (i := 2) rfl
    have k3 : w21.cell? ⟨BX, 3, none⟩ = some (.string m.plugs) := (K13.o1).at_ (i := 3) rfl
    go_wp2_with fail
    refine (markMachine_to g11 _ m 1 w21 (K13.o2) HSM.out.whl.few (by omega) (by omega)).mono ?_
    rintro e w24 ⟨rfl, gr⟩
    have R25_b : 1 + 2 * m.wheels.rotors.length ≤ 3145731 := by have := HSM.out.whl.few; omega
    have R25_c : 1 ≤ 1 + 2 * m.wheels.rotors.length := by omega
    generalize 1 + 2 * m.wheels.rotors.length = R25 at *
    have base1 := base0.moved gr (by omega)
    have K14 := (K13.subO (ows' := [(g14, lks ms), (w.heap.size, [.slice am m.wheels.rotors.length cm, .string m.wheels.refl, .string m.rings, .string m.plugs])]) (by simp)).grown gr (by omega) (by simp; omega) (by simp; omega)
    clear K13 gr base0 k0 k1 k2 k3
    go_wp2_with fail
    refine (markLinkS_to g14 _ R25 ms.length _ w24 (K14.o0) (len_lks _) kms (by omega) (by omega)).mono ?_
    rintro e w26 ⟨rfl, gr⟩
    have R27_b : R25 + 3 * ms.length ≤ 6291461 := by omega
    have R27_c : 1 ≤ R25 + 3 * ms.length := by omega
    generalize R25 + 3 * ms.length = R27 at *
    have base2 := base1.moved gr (by omega)
    have K15 := (K14.subO (ows' := [(w.heap.size, [.slice am m.wheels.rotors.length cm, .string m.wheels.refl, .string m.rings, .string m.plugs])]) (by simp)).grown gr (by omega) (by simp; omega) (by simp; omega)
    clear K14 gr base1 
    have tr : decide (((R27 : Nat) : Int) < 0) = false := by simp
    obtain ⟨a7, c7, he, -, hr6, -⟩ := OwR.val base2
    injection he with ea _ ec
    subst ea
    clear ec
    go_wp2_with fail
    refine (eqStringS_any a6 a5 c6 c5 ss ss w26 hr6 K15.r0 (by omega)).mono ?_
    rintro e w28 ⟨rfl, n29, rfl⟩
    simp only [decide_true]
    generalize hw : w26.drewN n29 = w30
    have hb : Below w26.heap.size w26 w30 := hw ▸ drewN_below n29
    clear hw
    have base3 := OwR.below base2 hb (Nat.le_refl _)
    have K16 := K15.below hb
    clear K15 hb hr6 base2
    go_wp2_with fail
    refine (markStringS_any _ ss _ 1 w30 base3 (by omega) (by omega) (by omega)).mono ?_
    rintro e w31 ⟨rfl, hown12, hb⟩
    obtain ⟨a7, c7, he, -, hr8, -⟩ := OwR.val hown12
    injection he with ea _ ec
    subst ea
    clear ec
    have KM : Kept w w31 [(w.heap.size, [.slice am m.wheels.rotors.length cm, .string m.wheels.refl, .string m.rings, .string m.plugs])] [(w9.heap.size, a5, sv ss), (w.heap.size, am, rvs m.wheels.rotors), (w.heap.size, ams, lks ms)] := K16.low hb (by simp; omega) (by simp; omega) (by omega)
    have K17 := KM.addR hr8 (Nat.le_refl _)
    clear K16 KM hb hr8 hown12 base3
    generalize hMN : (1 + ss.length : Nat) = MN
    have hMNb : MN ≤ 11 := by omega
    have HMN := Lib.hid hMN
    clear hMN
    have hh := heldStringS_any a6 c6 1 ss.length w31 K17.r0 (by omega) (by omega) (by omega)
    rw [HMN.out] at hh
    go_wp2_with fail
    refine hh.mono ?_
    rintro e w32 ⟨rfl, hb⟩
    have K18 := K17.below hb
    clear K17 hb hh
    have f0 : w32.cell? ⟨w.heap.size, 0, none⟩ = some (.slice am m.wheels.rotors.length cm) := (K18.o0).at_ (i := 0) rfl
    have f1 : w32.cell? ⟨w.heap.size, 1, none⟩ = some (.string m.wheels.refl) := (K18.o0).at_ (i := 1) rfl
    have f2 : w32.cell? ⟨w.heap.size, 2, none⟩ = some (.string m.rings) := (K18.o0).at_ (i := 2) rfl
    have f3 : w32.cell? ⟨w.heap.size, 3, none⟩ = some (.string m.plugs) := (K18.o0).at_ (i := 3) rfl
    go_wp2_with fail
    refine (toMachine_any am cm m w32 (K18.r2) HSM.out).mono ?_
    rintro e w33 ⟨g34, hg34, rfl, og, hb⟩
    have K19 := (K18.below hb).addO og
    clear K18 hb og f0 f1 f2 f3
    go_wp2_with fail
    refine (toLinkS_any ams cms ms w33 (K19.r3) kms).mono ?_
    rintro e w35 ⟨g36, hg36, rfl, og, hb⟩
    have K20 := (K19.below hb).addO og
    clear K19 hb og 
    go_wp2_with fail
    refine (implMenuBoards_any _ _ m v _ _ ms w35 (HSM.out.at_ (Reads.of_own K20.o1 K20.o1.lt)) (by omega) (Reads.of_own K20.o0 K20.o0.lt) (fun x hx => by have := HSL.out x hx; omega) (by omega)).mono ?_
    rintro e w37 ⟨v12, rfl, hown15, hb⟩
    rw [HSS.out] at hown15
    obtain ⟨a12, c12, rfl, -, hr6, -⟩ := OwR.val hown15
    have K21 := K20.below hb
    clear K20 hb hown15
    go_wp2_with fail
    refine (eqStringS_any a12 a5 c12 c5 ss ss w37 hr6 K21.r1 (by omega)).mono ?_
    rintro e w38 ⟨rfl, n39, rfl⟩
    simp only [decide_true]
    generalize hw : w37.drewN n39 = w40
    have hb : Below w37.heap.size w37 w40 := hw ▸ drewN_below n39
    clear hw
    have K22 := K21.below hb
    clear K21 hb hr6
    have hh := heldStringS_any a6 c6 1 ss.length w40 K22.r0 (by omega) (by omega) (by omega)
    rw [HMN.out] at hh
    go_wp2_with fail
    refine hh.mono ?_
    rintro e w41 ⟨rfl, hb⟩
    have K23 := K22.below hb
    clear K22 hb hh
    go_wp2
    go_ret
    exact ⟨rfl, K23.bel⟩
end Go.Proofs.YtdmnkcmkpjmfaaaGreat

/- The walk of the law that both ImpliedPairs answer alike (printed by wip/genexact.py). -/
namespace Go.Proofs.YtdmnkcmkpjmfaaaGreat
open Go.RowKit

set_option maxRecDepth 100000 in
set_option maxHeartbeats 4000000 in
theorem exactImpliedPairs_walk (am : Option Addr) (cm : Nat) (m : Mach) (v : ByteArray) (ams : Option Addr) (cms : Nat) (ms : List Lnk) (s : ByteArray) (w : World) (hm : Reads w w.heap.size am (rvs m.wheels.rotors)) (hz : BigR m.wheels.rotors) (hrf : m.wheels.refl.size ≤ 9223372036854775807) (hrg : m.rings.size ≤ 9223372036854775807) (hpl : m.plugs.size ≤ 9223372036854775807) (zv : v.size ≤ 9223372036854775807) (hms : Reads w w.heap.size ams (lks ms)) (zms : BigL ms) (lms : ms.length ≤ 9223372036854775807) (zs : s.size ≤ 9223372036854775807) :
    Calls Tryz.prog 3 #[.agg #[.slice am m.wheels.rotors.length cm, .string m.wheels.refl, .string m.rings, .string m.plugs], .string v, .slice ams ms.length cms, .string s] w fun e w' => e = .returned (.bool true) ∧ Below w.heap.size w w' := by
  have o0 := Own.new w [.slice am m.wheels.rotors.length cm, .string m.wheels.refl, .string m.rings, .string m.plugs] 26
  have hb0 := (Below.refl w.heap.size w).alloc (Nat.le_refl _) (.cells [.slice am m.wheels.rotors.length cm, .string m.wheels.refl, .string m.rings, .string m.plugs].toArray 26)
  by_cases hvv : 1048576 < v.size
  · go_enter Tryz.func3, Tryz.ntmps3
    go_wp2
    go_ret
    exact ⟨rfl, hb0⟩
  · skip
    by_cases hvs : 1048576 < s.size
    · go_enter Tryz.func3, Tryz.ntmps3
      go_wp2
      go_ret
      exact ⟨rfl, hb0⟩
    · skip
      go_enter Tryz.func3, Tryz.ntmps3
      go_wp2_with fail
      generalize (w.alloc (.cells [.slice am m.wheels.rotors.length cm, .string m.wheels.refl, .string m.rings, .string m.plugs].toArray 26)) = W at *
      have K0 := (((⟨hb0, by simp, by simp⟩ : Kept w W [] []).addR (hms.below hb0 (Nat.le_refl _)) hb0.size).addR (hm.below hb0 (Nat.le_refl _)) hb0.size).addO o0
      clear o0 hb0 hm hms
      refine (szMachine_any am cm m 1048576 W (K0.r0) hz hrf hrg hpl (by omega) (by omega)).mono ?_
      rintro e w2 ⟨q1, rfl, hb, hq⟩
      have K1 := K0.below hb
      clear K0 hb
      rcases hq with rfl | ⟨q1a, q1b, hsm⟩
      · go_wp2
        go_ret
        exact ⟨rfl, K1.bel⟩
      have HSM := Lib.hid hsm
      clear hsm hz hrf hrg hpl
      go_wp2_with fail
      refine (szLinkS_any ams cms ms q1 w2 (K1.r1) zms lms (by omega) (by omega)).mono ?_
      rintro e w4 ⟨q3, rfl, hb, hq⟩
      have K2 := K1.below hb
      clear K1 hb
      rcases hq with rfl | ⟨q3a, q3b, q3c, hsl⟩
      · go_wp2
        go_ret
        exact ⟨rfl, K2.bel⟩
      have HSL := Lib.hid hsl
      have kms : ms.length ≤ 1048576 := by omega
      clear hsl zms lms
      have hbig : (impT m v ms s).length ≤ 100 := impT_len m v ms s
      have f0 : w4.cell? ⟨w.heap.size, 0, none⟩ = some (.slice am m.wheels.rotors.length cm) := (K2.o0).at_ (i := 0) rfl
      have f1 : w4.cell? ⟨w.heap.size, 1, none⟩ = some (.string m.wheels.refl) := (K2.o0).at_ (i := 1) rfl
      have f2 : w4.cell? ⟨w.heap.size, 2, none⟩ = some (.string m.rings) := (K2.o0).at_ (i := 2) rfl
      have f3 : w4.cell? ⟨w.heap.size, 3, none⟩ = some (.string m.plugs) := (K2.o0).at_ (i := 3) rfl
      go_wp2_with fail
      refine (toMachine_any am cm m w4 (K2.r0) HSM.out).mono ?_
      rintro e w5 ⟨g6, hg6, rfl, og, hb⟩
      have K3 := (K2.below hb).addO og
      clear K2 hb og f0 f1 f2 f3
      go_wp2_with fail
      refine (toLinkS_any ams cms ms w5 (K3.r1) kms).mono ?_
      rintro e w7 ⟨g8, hg8, rfl, og, hb⟩
      have K4 := (K3.below hb).addO og
      clear K3 hb og 
      go_wp2_with fail
      refine (specImpliedPairs_any _ _ m v _ _ ms s w7 (HSM.out.at_ (Reads.of_own K4.o1 K4.o1.lt)) (by omega) (Reads.of_own K4.o0 K4.o0.lt) (by omega) (by omega)).mono ?_
      rintro e w9 ⟨v5, rfl, hown5, hb⟩
      obtain ⟨a5, c5, rfl, -, hr5, -⟩ := OwR.val hown5
      have K5 := ((K4.below hb).tailO.tailO).addR hr5 (Nat.le_refl _)
      clear K4 hb hr5 hown5
      have nn0 := K5.o0.lt
      have f0 : w9.cell? ⟨w.heap.size, 0, none⟩ = some (.slice am m.wheels.rotors.length cm) := (K5.o0).at_ (i := 0) rfl
      have f1 : w9.cell? ⟨w.heap.size, 1, none⟩ = some (.string m.wheels.refl) := (K5.o0).at_ (i := 1) rfl
      have f2 : w9.cell? ⟨w.heap.size, 2, none⟩ = some (.string m.rings) := (K5.o0).at_ (i := 2) rfl
      have f3 : w9.cell? ⟨w.heap.size, 3, none⟩ = some (.string m.plugs) := (K5.o0).at_ (i := 3) rfl
      go_wp2_with fail
      refine (toMachine_any am cm m w9 (K5.r1) HSM.out).mono ?_
      rintro e w10 ⟨g11, hg11, rfl, og, hb⟩
      have K6 := (K5.below hb).addO og
      clear K5 hb og f0 f1 f2 f3
      have ng11 := K6.o0.lt
      go_wp2_with fail
      have nw := Own.new w10 [.slice (some ⟨g11, 0, none⟩) m.wheels.rotors.length m.wheels.rotors.length, .string m.wheels.refl, .string m.rings, .string m.plugs] 36
      have bw := (Below.refl w10.heap.size w10).alloc (Nat.le_refl _) (.cells [.slice (some ⟨g11, 0, none⟩) m.wheels.rotors.length m.wheels.rotors.length, .string m.wheels.refl, .string m.rings, .string m.plugs].toArray 36)
      have sw : (w10.alloc (.cells [.slice (some ⟨g11, 0, none⟩) m.wheels.rotors.length m.wheels.rotors.length, .string m.wheels.refl, .string m.rings, .string m.plugs].toArray 36)).heap.size = w10.heap.size + 1 := by simp
      generalize (w10.alloc (.cells [.slice (some ⟨g11, 0, none⟩) m.wheels.rotors.length m.wheels.rotors.length, .string m.wheels.refl, .string m.rings, .string m.plugs].toArray 36)) = w12 at *
      have K7 := (K6.below bw).addO nw
      clear K6 bw nw
      generalize hBX : w10.heap.size = BX at *
      have nBX := K7.o0.lt
      go_wp2_with fail
      refine (toLinkS_any ams cms ms w12 (K7.r2) kms).mono ?_
      rintro e w13 ⟨g14, hg14, rfl, og, hb⟩
      have K8 := (K7.below hb).addO og
      clear K7 hb og 
      have ng14 := K8.o0.lt
      have k0 : w13.cell? ⟨BX, 0, none⟩ = some (.slice (some ⟨g11, 0, none⟩) m.wheels.rotors.length m.wheels.rotors.length) := (K8.o1).at_ (i := 0) rfl
      have k1 : w13.cell? ⟨BX, 1, none⟩ = some (.string m.wheels.refl) := (K8.o1).at_ (i := 1) rfl
      have k2 : w13.cell? ⟨BX, 2, none⟩ = some (.string m.rings) := (K8.o1).at_ (i := 2) rfl
      have k3 : w13.cell? ⟨BX, 3, none⟩ = some (.string m.plugs) := (K8.o1).at_ (i := 3) rfl
      go_wp2_with fail
      refine (implImpliedPairs_any _ _ m v _ _ ms s w13 (HSM.out.at_ (Reads.of_own K8.o2 K8.o2.lt)) (by omega) (Reads.of_own K8.o0 K8.o0.lt) (fun x hx => by have := HSL.out x hx; omega) (by omega) (by omega)).mono ?_
      rintro e w15 ⟨v6, rfl, hown, hb⟩
      obtain ⟨a6, c6, rfl, -, hr6, -⟩ := OwR.val hown
      have K9 := K8.below hb
      clear K8 hb k0 k1 k2 k3
      generalize hss : impT m v ms s = ss at *
      have HSS := Lib.hid hss
      clear hss
      go_wp2_with fail
      refine (eqStringS_any a6 a5 c6 c5 ss ss w15 hr6 K9.r0 (by omega)).mono ?_
      rintro e w16 ⟨rfl, n17, rfl⟩
      simp only [decide_true]
      generalize hw : w15.drewN n17 = w18
      have hb : Below w15.heap.size w15 w18 := hw ▸ drewN_below n17
      clear hw
      have hown1 := OwR.below hown hb (Nat.le_refl _)
      have K10 := K9.below hb
      clear K9 hb hr6 hown
      have f0 : w18.cell? ⟨w.heap.size, 0, none⟩ = some (.slice am m.wheels.rotors.length cm) := (K10.o3).at_ (i := 0) rfl
      have f1 : w18.cell? ⟨w.heap.size, 1, none⟩ = some (.string m.wheels.refl) := (K10.o3).at_ (i := 1) rfl
      have f2 : w18.cell? ⟨w.heap.size, 2, none⟩ = some (.string m.rings) := (K10.o3).at_ (i := 2) rfl
      have f3 : w18.cell? ⟨w.heap.size, 3, none⟩ = some (.string m.plugs) := (K10.o3).at_ (i := 3) rfl
      have k0 : w18.cell? ⟨BX, 0, none⟩ = some (.slice (some ⟨g11, 0, none⟩) m.wheels.rotors.length m.wheels.rotors.length) := (K10.o1).at_ (i := 0) rfl
      have k1 : w18.cell? ⟨BX, 1, none⟩ = some (.string m.wheels.refl) := (K10.o1).at_ (i := 1) rfl
      have k2 : w18.cell? ⟨BX, 2, none⟩ = some (.string m.rings) := (K10.o1).at_ (i := 2) rfl
      have k3 : w18.cell? ⟨BX, 3, none⟩ = some (.string m.plugs) := (K10.o1).at_ (i := 3) rfl
      have lt0 := (K10.o3).lt
      have lt5 := (K10.o1).lt
      go_wp2_with fail
      have hRd : Reads w18.drew w18.drew.heap.size am (rvs m.wheels.rotors) := K10.r1
      have hRy : Reads w18.drew w18.drew.heap.size (some ⟨g11, 0, none⟩) (rvs m.wheels.rotors) := Reads.of_own (K10.o2).drew (K10.o2).lt
      go_region_held3 (fun w' => w'.cell? ⟨w.heap.size, 0, none⟩ = some (Value.slice am m.wheels.rotors.length cm) ∧ w'.cell? ⟨w.heap.size, 1, none⟩ = some (Value.string m.wheels.refl) ∧ w'.cell? ⟨w.heap.size, 2, none⟩ = some (Value.string m.rings) ∧ w'.cell? ⟨w.heap.size, 3, none⟩ = some (Value.string m.plugs) ∧ w'.cell? ⟨BX, 0, none⟩ = some (Value.slice (some ⟨g11, 0, none⟩) m.wheels.rotors.length m.wheels.rotors.length) ∧ w'.cell? ⟨BX, 1, none⟩ = some (Value.string m.wheels.refl) ∧ w'.cell? ⟨BX, 2, none⟩ = some (Value.string m.rings) ∧ w'.cell? ⟨BX, 3, none⟩ = some (Value.string m.plugs))
        (first | go_keep | exact keep8 f0 f1 f2 f3 k0 k1 k2 k3 lt0 lt5 (bt hb8 hb9) | exact keep8 f0 f1 f2 f3 k0 k1 k2 k3 lt0 lt5 hb8)
        (first | (go_at_call 24; refine (toMachine_any am cm m _ hRd HSM.out).mono ?_; rintro e wy8 ⟨g8, hg8, rfl, og8, hb8⟩) | (go_at_call 28; refine (eqMachine_any (some ⟨g11, 0, none⟩) (some ⟨g8, 0, none⟩) _ _ m _ ((hRy.below hb8 (Nat.le_refl _)).more hb8.size) (Reads.of_own og8 og8.lt) HSM.out.whl.few).mono ?_; rintro e wy9 ⟨rfl, hb9⟩))
      have hb : Below w18.heap.size w18 wy9 := bt (a := w18) (b := wy8) ⟨hb8.os, hb8.tape, hb8.output, hb8.size, hb8.block⟩ hb9
      have hown1' := OwR.below hown1 hb (Nat.le_refl _)
      have K11 := K10.below hb
      clear K10 hb hb8 hb9 f0 f1 f2 f3 k0 k1 k2 k3 lt0 lt5 hRd hRy og8 hg8 hown1
      go_wp2_with fail
      refine (toLinkS_any ams cms ms wy9 (K11.r2) kms).mono ?_
      rintro e w19 ⟨g20, hg20, rfl, og, hb⟩
      have hown1'' := OwR.below hown1' hb (Nat.le_refl _)
      clear hown1'
      have K12 := (K11.below hb).addO og
      clear K11 hb og 
      go_wp2_with fail
      refine (eqLinkS_same (some ⟨g14, 0, none⟩) (some ⟨g20, 0, none⟩) ms.length ms.length ms w19 (Reads.of_own K12.o1 K12.o1.lt) (Reads.of_own K12.o0 K12.o0.lt) kms).mono ?_
      rintro e w21 ⟨rfl, hb⟩
      have hown1''' := OwR.below hown1'' hb (Nat.le_refl _)
      clear hown1''
      have K13 := (K12.below hb).tailO
      clear K12 hb
      have base0 : OwR w21 _ 9 1 (.slice a6 ss.length c6) ss.length (sv ss) := hown1'''
      clear hown1'''
      have k0 : w21.cell? ⟨BX, 0, none⟩ = some (.slice (some ⟨g11, 0, none⟩) m.wheels.rotors.length m.wheels.rotors.length) := (K13.o1).at_ (i := 0) rfl
      have k1 : w21.cell? ⟨BX, 1, none⟩ = some (.string m.wheels.refl) := (K13.o1).at_ (i := 1) rfl
      have k2 : w21.cell? ⟨BX, 2, none⟩ = some (.string m.rings) := (K13.o1).at_ (i := 2) rfl
      have k3 : w21.cell? ⟨BX, 3, none⟩ = some (.string m.plugs) := (K13.o1).at_ (i := 3) rfl
      go_wp2_with fail
      refine (markMachine_to g11 _ m 1 w21 (K13.o2) HSM.out.whl.few (by omega) (by omega)).mono ?_
      rintro e w24 ⟨rfl, gr⟩
      have R25_b : 1 + 2 * m.wheels.rotors.length ≤ 3145731 := by have := HSM.out.whl.few; omega
      have R25_c : 1 ≤ 1 + 2 * m.wheels.rotors.length := by omega
      generalize 1 + 2 * m.wheels.rotors.length = R25 at *
      have base1 := base0.moved gr (by omega)
      have K14 := (K13.subO (ows' := [(g14, lks ms), (w.heap.size, [.slice am m.wheels.rotors.length cm, .string m.wheels.refl, .string m.rings, .string m.plugs])]) (by simp)).grown gr (by omega) (by simp; omega) (by simp; omega)
      clear K13 gr base0 k0 k1 k2 k3
      go_wp2_with fail
      refine (markLinkS_to g14 _ R25 ms.length _ w24 (K14.o0) (len_lks _) kms (by omega) (by omega)).mono ?_
      rintro e w26 ⟨rfl, gr⟩
      have R27_b : R25 + 3 * ms.length ≤ 6291461 := by omega
      have R27_c : 1 ≤ R25 + 3 * ms.length := by omega
      generalize R25 + 3 * ms.length = R27 at *
      have base2 := base1.moved gr (by omega)
      have K15 := (K14.subO (ows' := [(w.heap.size, [.slice am m.wheels.rotors.length cm, .string m.wheels.refl, .string m.rings, .string m.plugs])]) (by simp)).grown gr (by omega) (by simp; omega) (by simp; omega)
      clear K14 gr base1 
      have tr : decide (((R27 : Nat) : Int) < 0) = false := by simp
      obtain ⟨a7, c7, he, -, hr6, -⟩ := OwR.val base2
      injection he with ea _ ec
      subst ea
      clear ec
      go_wp2_with fail
      refine (eqStringS_any a6 a5 c6 c5 ss ss w26 hr6 K15.r0 (by omega)).mono ?_
      rintro e w28 ⟨rfl, n29, rfl⟩
      simp only [decide_true]
      generalize hw : w26.drewN n29 = w30
      have hb : Below w26.heap.size w26 w30 := hw ▸ drewN_below n29
      clear hw
      have base3 := OwR.below base2 hb (Nat.le_refl _)
      have K16 := K15.below hb
      clear K15 hb hr6 base2
      go_wp2_with fail
      refine (markStringS_any _ ss _ 1 w30 base3 (by omega) (by omega) (by omega)).mono ?_
      rintro e w31 ⟨rfl, hown12, hb⟩
      obtain ⟨a7, c7, he, -, hr8, -⟩ := OwR.val hown12
      injection he with ea _ ec
      subst ea
      clear ec
      have KM : Kept w w31 [(w.heap.size, [.slice am m.wheels.rotors.length cm, .string m.wheels.refl, .string m.rings, .string m.plugs])] [(w9.heap.size, a5, sv ss), (w.heap.size, am, rvs m.wheels.rotors), (w.heap.size, ams, lks ms)] := K16.low hb (by simp; omega) (by simp; omega) (by omega)
      have K17 := KM.addR hr8 (Nat.le_refl _)
      clear K16 KM hb hr8 hown12 base3
      generalize hMN : (1 + ss.length : Nat) = MN
      have hMNb : MN ≤ 101 := by omega
      have HMN := Lib.hid hMN
      clear hMN
      have hh := heldStringS_any a6 c6 1 ss.length w31 K17.r0 (by omega) (by omega) (by omega)
      rw [HMN.out] at hh
      go_wp2_with fail
      refine hh.mono ?_
      rintro e w32 ⟨rfl, hb⟩
      have K18 := K17.below hb
      clear K17 hb hh
      have f0 : w32.cell? ⟨w.heap.size, 0, none⟩ = some (.slice am m.wheels.rotors.length cm) := (K18.o0).at_ (i := 0) rfl
      have f1 : w32.cell? ⟨w.heap.size, 1, none⟩ = some (.string m.wheels.refl) := (K18.o0).at_ (i := 1) rfl
      have f2 : w32.cell? ⟨w.heap.size, 2, none⟩ = some (.string m.rings) := (K18.o0).at_ (i := 2) rfl
      have f3 : w32.cell? ⟨w.heap.size, 3, none⟩ = some (.string m.plugs) := (K18.o0).at_ (i := 3) rfl
      go_wp2_with fail
      refine (toMachine_any am cm m w32 (K18.r2) HSM.out).mono ?_
      rintro e w33 ⟨g34, hg34, rfl, og, hb⟩
      have K19 := (K18.below hb).addO og
      clear K18 hb og f0 f1 f2 f3
      go_wp2_with fail
      refine (toLinkS_any ams cms ms w33 (K19.r3) kms).mono ?_
      rintro e w35 ⟨g36, hg36, rfl, og, hb⟩
      have K20 := (K19.below hb).addO og
      clear K19 hb og 
      go_wp2_with fail
      refine (implImpliedPairs_any _ _ m v _ _ ms s w35 (HSM.out.at_ (Reads.of_own K20.o1 K20.o1.lt)) (by omega) (Reads.of_own K20.o0 K20.o0.lt) (fun x hx => by have := HSL.out x hx; omega) (by omega) (by omega)).mono ?_
      rintro e w37 ⟨v12, rfl, hown15, hb⟩
      rw [HSS.out] at hown15
      obtain ⟨a12, c12, rfl, -, hr6, -⟩ := OwR.val hown15
      have K21 := K20.below hb
      clear K20 hb hown15
      go_wp2_with fail
      refine (eqStringS_any a12 a5 c12 c5 ss ss w37 hr6 K21.r1 (by omega)).mono ?_
      rintro e w38 ⟨rfl, n39, rfl⟩
      simp only [decide_true]
      generalize hw : w37.drewN n39 = w40
      have hb : Below w37.heap.size w37 w40 := hw ▸ drewN_below n39
      clear hw
      have K22 := K21.below hb
      clear K21 hb hr6
      have hh := heldStringS_any a6 c6 1 ss.length w40 K22.r0 (by omega) (by omega) (by omega)
      rw [HMN.out] at hh
      go_wp2_with fail
      refine hh.mono ?_
      rintro e w41 ⟨rfl, hb⟩
      have K23 := K22.below hb
      clear K22 hb hh
      go_wp2
      go_ret
      exact ⟨rfl, K23.bel⟩
end Go.Proofs.YtdmnkcmkpjmfaaaGreat

/- The walk of the law that both BombeStops answer alike (printed by wip/genexact.py). -/
namespace Go.Proofs.YtdmnkcmkpjmfaaaGreat
open Go.RowKit

theorem stpT_len (m : Mach) (vs : List ByteArray) (ms : List Lnk) : (stpT m vs ms).length ≤ 12 := by
  unfold stpT
  split
  · rename_i h
    simp only [Bool.and_eq_true, decide_eq_true_eq] at h
    exact Nat.le_trans (List.length_filter_le _ _) h.2.2.1
  · simp
set_option maxRecDepth 100000 in
set_option maxHeartbeats 4000000 in
theorem exactBombeStops_walk (am : Option Addr) (cm : Nat) (m : Mach) (avs : Option Addr) (cvs : Nat) (vs : List ByteArray) (ams : Option Addr) (cms : Nat) (ms : List Lnk) (w : World) (hm : Reads w w.heap.size am (rvs m.wheels.rotors)) (hz : BigR m.wheels.rotors) (hrf : m.wheels.refl.size ≤ 9223372036854775807) (hrg : m.rings.size ≤ 9223372036854775807) (hpl : m.plugs.size ≤ 9223372036854775807) (hvs : Reads w w.heap.size avs (sv vs)) (zvs : ∀ s ∈ vs, s.size ≤ 9223372036854775807) (lvs : vs.length ≤ 9223372036854775807) (hms : Reads w w.heap.size ams (lks ms)) (zms : BigL ms) (lms : ms.length ≤ 9223372036854775807) :
    Calls Tryz.prog 15 #[.agg #[.slice am m.wheels.rotors.length cm, .string m.wheels.refl, .string m.rings, .string m.plugs], .slice avs vs.length cvs, .slice ams ms.length cms] w fun e w' => e = .returned (.bool true) ∧ Below w.heap.size w w' := by
  have o0 := Own.new w [.slice am m.wheels.rotors.length cm, .string m.wheels.refl, .string m.rings, .string m.plugs] 26
  have hb0 := (Below.refl w.heap.size w).alloc (Nat.le_refl _) (.cells [.slice am m.wheels.rotors.length cm, .string m.wheels.refl, .string m.rings, .string m.plugs].toArray 26)
  go_enter Tryz.func15, Tryz.ntmps15
  go_wp2_with fail
  generalize (w.alloc (.cells [.slice am m.wheels.rotors.length cm, .string m.wheels.refl, .string m.rings, .string m.plugs].toArray 26)) = W at *
  have K0 := ((((⟨hb0, by simp, by simp⟩ : Kept w W [] []).addR (hms.below hb0 (Nat.le_refl _)) hb0.size).addR (hvs.below hb0 (Nat.le_refl _)) hb0.size).addR (hm.below hb0 (Nat.le_refl _)) hb0.size).addO o0
  clear o0 hb0 hm hvs hms
  refine (szMachine_any am cm m 1048576 W (K0.r0) hz hrf hrg hpl (by omega) (by omega)).mono ?_
  rintro e w2 ⟨q1, rfl, hb, hq⟩
  have K1 := K0.below hb
  clear K0 hb
  rcases hq with rfl | ⟨q1a, q1b, hsm⟩
  · go_wp2
    go_ret
    exact ⟨rfl, K1.bel⟩
  have HSM := Lib.hid hsm
  clear hsm hz hrf hrg hpl
  go_wp2_with fail
  refine (szStringS_any avs cvs vs q1 w2 (K1.r1) zvs lvs (by omega) (by omega)).mono ?_
  rintro e w4 ⟨q3, rfl, hw, hq⟩
  subst hw
  rcases hq with rfl | ⟨q3a, q3b, q3c, q3d⟩
  · go_wp2
    go_ret
    exact ⟨rfl, K1.bel⟩
  have hgs : ∀ s ∈ vs, s.size ≤ 4294967296 := fun s hs => by have := q3d s hs; omega
  have HGS := Lib.hid hgs
  have kvs : vs.length ≤ 1048576 := by omega
  clear hgs q3d zvs lvs
  go_wp2_with fail
  refine (szLinkS_any ams cms ms q3 w2 (K1.r2) zms lms (by omega) (by omega)).mono ?_
  rintro e w6 ⟨q5, rfl, hb, hq⟩
  have K2 := K1.below hb
  clear K1 hb
  rcases hq with rfl | ⟨q5a, q5b, q5c, hsl⟩
  · go_wp2
    go_ret
    exact ⟨rfl, K2.bel⟩
  have HSL := Lib.hid hsl
  have kms : ms.length ≤ 1048576 := by omega
  clear hsl zms lms
  have hbig : (stpT m vs ms).length ≤ 12 := stpT_len m vs ms
  have f0 : w6.cell? ⟨w.heap.size, 0, none⟩ = some (.slice am m.wheels.rotors.length cm) := (K2.o0).at_ (i := 0) rfl
  have f1 : w6.cell? ⟨w.heap.size, 1, none⟩ = some (.string m.wheels.refl) := (K2.o0).at_ (i := 1) rfl
  have f2 : w6.cell? ⟨w.heap.size, 2, none⟩ = some (.string m.rings) := (K2.o0).at_ (i := 2) rfl
  have f3 : w6.cell? ⟨w.heap.size, 3, none⟩ = some (.string m.plugs) := (K2.o0).at_ (i := 3) rfl
  go_wp2_with fail
  refine (toMachine_any am cm m w6 (K2.r0) HSM.out).mono ?_
  rintro e w7 ⟨g8, hg8, rfl, og, hb⟩
  have K3 := (K2.below hb).addO og
  clear K2 hb og f0 f1 f2 f3
  go_wp2_with fail
  refine (toStringS_any avs cvs vs w7 (K3.r1) kvs).mono ?_
  rintro e w9 ⟨g10, hg10, rfl, og, hb⟩
  have K4 := (K3.below hb).addO og
  clear K3 hb og 
  go_wp2_with fail
  refine (toLinkS_any ams cms ms w9 (K4.r2) kms).mono ?_
  rintro e w11 ⟨g12, hg12, rfl, og, hb⟩
  have K5 := (K4.below hb).addO og
  clear K4 hb og 
  go_wp2_with fail
  refine (specBombeStops_any _ _ m _ _ vs _ _ ms w11 (HSM.out.at_ (Reads.of_own K5.o2 K5.o2.lt)) (Reads.of_own K5.o1 K5.o1.lt) HGS.out (by omega) (Reads.of_own K5.o0 K5.o0.lt) (by omega)).mono ?_
  rintro e w13 ⟨v5, rfl, hown5, hb⟩
  obtain ⟨a5, c5, rfl, -, hr5, -⟩ := OwR.val hown5
  have K6 := ((K5.below hb).tailO.tailO.tailO).addR hr5 (Nat.le_refl _)
  clear K5 hb hr5 hown5
  have nn0 := K6.o0.lt
  have f0 : w13.cell? ⟨w.heap.size, 0, none⟩ = some (.slice am m.wheels.rotors.length cm) := (K6.o0).at_ (i := 0) rfl
  have f1 : w13.cell? ⟨w.heap.size, 1, none⟩ = some (.string m.wheels.refl) := (K6.o0).at_ (i := 1) rfl
  have f2 : w13.cell? ⟨w.heap.size, 2, none⟩ = some (.string m.rings) := (K6.o0).at_ (i := 2) rfl
  have f3 : w13.cell? ⟨w.heap.size, 3, none⟩ = some (.string m.plugs) := (K6.o0).at_ (i := 3) rfl
  go_wp2_with fail
  refine (toMachine_any am cm m w13 (K6.r1) HSM.out).mono ?_
  rintro e w14 ⟨g15, hg15, rfl, og, hb⟩
  have K7 := (K6.below hb).addO og
  clear K6 hb og f0 f1 f2 f3
  have ng15 := K7.o0.lt
  go_wp2_with fail
  have nw := Own.new w14 [.slice (some ⟨g15, 0, none⟩) m.wheels.rotors.length m.wheels.rotors.length, .string m.wheels.refl, .string m.rings, .string m.plugs] 36
  have bw := (Below.refl w14.heap.size w14).alloc (Nat.le_refl _) (.cells [.slice (some ⟨g15, 0, none⟩) m.wheels.rotors.length m.wheels.rotors.length, .string m.wheels.refl, .string m.rings, .string m.plugs].toArray 36)
  have sw : (w14.alloc (.cells [.slice (some ⟨g15, 0, none⟩) m.wheels.rotors.length m.wheels.rotors.length, .string m.wheels.refl, .string m.rings, .string m.plugs].toArray 36)).heap.size = w14.heap.size + 1 := by simp
  generalize (w14.alloc (.cells [.slice (some ⟨g15, 0, none⟩) m.wheels.rotors.length m.wheels.rotors.length, .string m.wheels.refl, .string m.rings, .string m.plugs].toArray 36)) = w16 at *
  have K8 := (K7.below bw).addO nw
  clear K7 bw nw
  generalize hBX : w14.heap.size = BX at *
  have nBX := K8.o0.lt
  go_wp2_with fail
  refine (toStringS_any avs cvs vs w16 (K8.r2) kvs).mono ?_
  rintro e w17 ⟨g18, hg18, rfl, og, hb⟩
  have K9 := (K8.below hb).addO og
  clear K8 hb og 
  have ng18 := K9.o0.lt
  go_wp2_with fail
  refine (toLinkS_any ams cms ms w17 (K9.r3) kms).mono ?_
  rintro e w19 ⟨g20, hg20, rfl, og, hb⟩
  have K10 := (K9.below hb).addO og
  clear K9 hb og 
  have ng20 := K10.o0.lt
  have k0 : w19.cell? ⟨BX, 0, none⟩ = some (.slice (some ⟨g15, 0, none⟩) m.wheels.rotors.length m.wheels.rotors.length) := (K10.o2).at_ (i := 0) rfl
  have k1 : w19.cell? ⟨BX, 1, none⟩ = some (.string m.wheels.refl) := (K10.o2).at_ (i := 1) rfl
  have k2 : w19.cell? ⟨BX, 2, none⟩ = some (.string m.rings) := (K10.o2).at_ (i := 2) rfl
  have k3 : w19.cell? ⟨BX, 3, none⟩ = some (.string m.plugs) := (K10.o2).at_ (i := 3) rfl
  go_wp2_with fail
  refine (implBombeStops_any _ _ m _ _ vs _ _ ms w19 (HSM.out.at_ (Reads.of_own K10.o3 K10.o3.lt)) (Reads.of_own K10.o1 K10.o1.lt) HGS.out (by omega) (Reads.of_own K10.o0 K10.o0.lt) (fun x hx => by have := HSL.out x hx; omega) (by omega)).mono ?_
  rintro e w21 ⟨v6, rfl, hown, hb⟩
  obtain ⟨a6, c6, rfl, -, hr6, -⟩ := OwR.val hown
  have K11 := K10.below hb
  clear K10 hb k0 k1 k2 k3
  generalize hss : stpT m vs ms = ss at *
  have HSS := Lib.hid hss
  clear hss
  go_wp2_with fail
  refine (eqStringS_any a6 a5 c6 c5 ss ss w21 hr6 K11.r0 (by omega)).mono ?_
  rintro e w22 ⟨rfl, n23, rfl⟩
  simp only [decide_true]
  generalize hw : w21.drewN n23 = w24
  have hb : Below w21.heap.size w21 w24 := hw ▸ drewN_below n23
  clear hw
  have hown1 := OwR.below hown hb (Nat.le_refl _)
  have K12 := K11.below hb
  clear K11 hb hr6 hown
  have f0 : w24.cell? ⟨w.heap.size, 0, none⟩ = some (.slice am m.wheels.rotors.length cm) := (K12.o4).at_ (i := 0) rfl
  have f1 : w24.cell? ⟨w.heap.size, 1, none⟩ = some (.string m.wheels.refl) := (K12.o4).at_ (i := 1) rfl
  have f2 : w24.cell? ⟨w.heap.size, 2, none⟩ = some (.string m.rings) := (K12.o4).at_ (i := 2) rfl
  have f3 : w24.cell? ⟨w.heap.size, 3, none⟩ = some (.string m.plugs) := (K12.o4).at_ (i := 3) rfl
  have k0 : w24.cell? ⟨BX, 0, none⟩ = some (.slice (some ⟨g15, 0, none⟩) m.wheels.rotors.length m.wheels.rotors.length) := (K12.o2).at_ (i := 0) rfl
  have k1 : w24.cell? ⟨BX, 1, none⟩ = some (.string m.wheels.refl) := (K12.o2).at_ (i := 1) rfl
  have k2 : w24.cell? ⟨BX, 2, none⟩ = some (.string m.rings) := (K12.o2).at_ (i := 2) rfl
  have k3 : w24.cell? ⟨BX, 3, none⟩ = some (.string m.plugs) := (K12.o2).at_ (i := 3) rfl
  have lt0 := (K12.o4).lt
  have lt5 := (K12.o2).lt
  go_wp2_with fail
  have hRd : Reads w24.drew w24.drew.heap.size am (rvs m.wheels.rotors) := K12.r1
  have hRy : Reads w24.drew w24.drew.heap.size (some ⟨g15, 0, none⟩) (rvs m.wheels.rotors) := Reads.of_own (K12.o3).drew (K12.o3).lt
  go_region_held3 (fun w' => w'.cell? ⟨w.heap.size, 0, none⟩ = some (Value.slice am m.wheels.rotors.length cm) ∧ w'.cell? ⟨w.heap.size, 1, none⟩ = some (Value.string m.wheels.refl) ∧ w'.cell? ⟨w.heap.size, 2, none⟩ = some (Value.string m.rings) ∧ w'.cell? ⟨w.heap.size, 3, none⟩ = some (Value.string m.plugs) ∧ w'.cell? ⟨BX, 0, none⟩ = some (Value.slice (some ⟨g15, 0, none⟩) m.wheels.rotors.length m.wheels.rotors.length) ∧ w'.cell? ⟨BX, 1, none⟩ = some (Value.string m.wheels.refl) ∧ w'.cell? ⟨BX, 2, none⟩ = some (Value.string m.rings) ∧ w'.cell? ⟨BX, 3, none⟩ = some (Value.string m.plugs))
    (first | go_keep | exact keep8 f0 f1 f2 f3 k0 k1 k2 k3 lt0 lt5 (bt hb8 hb9) | exact keep8 f0 f1 f2 f3 k0 k1 k2 k3 lt0 lt5 hb8)
    (first | (go_at_call 24; refine (toMachine_any am cm m _ hRd HSM.out).mono ?_; rintro e wy8 ⟨g8, hg8, rfl, og8, hb8⟩) | (go_at_call 28; refine (eqMachine_any (some ⟨g15, 0, none⟩) (some ⟨g8, 0, none⟩) _ _ m _ ((hRy.below hb8 (Nat.le_refl _)).more hb8.size) (Reads.of_own og8 og8.lt) HSM.out.whl.few).mono ?_; rintro e wy9 ⟨rfl, hb9⟩))
  have hb : Below w24.heap.size w24 wy9 := bt (a := w24) (b := wy8) ⟨hb8.os, hb8.tape, hb8.output, hb8.size, hb8.block⟩ hb9
  have hown1' := OwR.below hown1 hb (Nat.le_refl _)
  have K13 := K12.below hb
  clear K12 hb hb8 hb9 f0 f1 f2 f3 k0 k1 k2 k3 lt0 lt5 hRd hRy og8 hg8 hown1
  go_wp2_with fail
  refine (toStringS_any avs cvs vs wy9 (K13.r2) kvs).mono ?_
  rintro e w25 ⟨g26, hg26, rfl, og, hb⟩
  have hown1'' := OwR.below hown1' hb (Nat.le_refl _)
  clear hown1'
  have K14 := (K13.below hb).addO og
  clear K13 hb og 
  go_wp2_with fail
  refine (eqStringS_any (some ⟨g18, 0, none⟩) (some ⟨g26, 0, none⟩) vs.length vs.length vs vs w25 (Reads.of_own K14.o2 K14.o2.lt) (Reads.of_own K14.o0 K14.o0.lt) kvs).mono ?_
  rintro e w27 ⟨rfl, n28, rfl⟩
  simp only [decide_true]
  generalize hw : w25.drewN n28 = w29
  have hb : Below w25.heap.size w25 w29 := hw ▸ drewN_below n28
  clear hw
  have hown1''' := OwR.below hown1'' hb (Nat.le_refl _)
  clear hown1''
  have K15 := (K14.below hb).tailO
  clear K14 hb
  go_wp2_with fail
  refine (toLinkS_any ams cms ms w29 (K15.r3) kms).mono ?_
  rintro e w30 ⟨g31, hg31, rfl, og, hb⟩
  have hown1'''' := OwR.below hown1''' hb (Nat.le_refl _)
  clear hown1'''
  have K16 := (K15.below hb).addO og
  clear K15 hb og 
  go_wp2_with fail
  refine (eqLinkS_same (some ⟨g20, 0, none⟩) (some ⟨g31, 0, none⟩) ms.length ms.length ms w30 (Reads.of_own K16.o1 K16.o1.lt) (Reads.of_own K16.o0 K16.o0.lt) kms).mono ?_
  rintro e w32 ⟨rfl, hb⟩
  have hown1''''' := OwR.below hown1'''' hb (Nat.le_refl _)
  clear hown1''''
  have K17 := (K16.below hb).tailO
  clear K16 hb
  have base0 : OwR w32 _ 9 1 (.slice a6 ss.length c6) ss.length (sv ss) := hown1'''''
  clear hown1'''''
  have k0 : w32.cell? ⟨BX, 0, none⟩ = some (.slice (some ⟨g15, 0, none⟩) m.wheels.rotors.length m.wheels.rotors.length) := (K17.o2).at_ (i := 0) rfl
  have k1 : w32.cell? ⟨BX, 1, none⟩ = some (.string m.wheels.refl) := (K17.o2).at_ (i := 1) rfl
  have k2 : w32.cell? ⟨BX, 2, none⟩ = some (.string m.rings) := (K17.o2).at_ (i := 2) rfl
  have k3 : w32.cell? ⟨BX, 3, none⟩ = some (.string m.plugs) := (K17.o2).at_ (i := 3) rfl
  go_wp2_with fail
  refine (markMachine_to g15 _ m 1 w32 (K17.o3) HSM.out.whl.few (by omega) (by omega)).mono ?_
  rintro e w35 ⟨rfl, gr⟩
  have R36_b : 1 + 2 * m.wheels.rotors.length ≤ 3145731 := by have := HSM.out.whl.few; omega
  have R36_c : 1 ≤ 1 + 2 * m.wheels.rotors.length := by omega
  generalize 1 + 2 * m.wheels.rotors.length = R36 at *
  have base1 := base0.moved gr (by omega)
  have K18 := (K17.subO (ows' := [(g20, lks ms), (g18, sv vs), (w.heap.size, [.slice am m.wheels.rotors.length cm, .string m.wheels.refl, .string m.rings, .string m.plugs])]) (by simp)).grown gr (by omega) (by simp; omega) (by simp; omega)
  clear K17 gr base0 k0 k1 k2 k3
  go_wp2_with fail
  refine (markStringS_own g18 _ R36 vs.length _ w35 (K18.o1) (length_sv _) kvs (by omega) (by omega)).mono ?_
  rintro e w37 ⟨rfl, gr⟩
  have R38_b : R36 + vs.length ≤ 6291461 := by omega
  have R38_c : 1 ≤ R36 + vs.length := by omega
  generalize R36 + vs.length = R38 at *
  have base2 := base1.moved gr (by omega)
  have K19 := (K18.subO (ows' := [(g20, lks ms), (w.heap.size, [.slice am m.wheels.rotors.length cm, .string m.wheels.refl, .string m.rings, .string m.plugs])]) (by simp)).grown gr (by omega) (by simp; omega) (by simp; omega)
  clear K18 gr base1 
  go_wp2_with fail
  refine (markLinkS_to g20 _ R38 ms.length _ w37 (K19.o0) (len_lks _) kms (by omega) (by omega)).mono ?_
  rintro e w39 ⟨rfl, gr⟩
  have R40_b : R38 + 3 * ms.length ≤ 9437191 := by omega
  have R40_c : 1 ≤ R38 + 3 * ms.length := by omega
  generalize R38 + 3 * ms.length = R40 at *
  have base3 := base2.moved gr (by omega)
  have K20 := (K19.subO (ows' := [(w.heap.size, [.slice am m.wheels.rotors.length cm, .string m.wheels.refl, .string m.rings, .string m.plugs])]) (by simp)).grown gr (by omega) (by simp; omega) (by simp; omega)
  clear K19 gr base2 
  have tr : decide (((R40 : Nat) : Int) < 0) = false := by simp
  obtain ⟨a7, c7, he, -, hr6, -⟩ := OwR.val base3
  injection he with ea _ ec
  subst ea
  clear ec
  go_wp2_with fail
  refine (eqStringS_any a6 a5 c6 c5 ss ss w39 hr6 K20.r0 (by omega)).mono ?_
  rintro e w41 ⟨rfl, n42, rfl⟩
  simp only [decide_true]
  generalize hw : w39.drewN n42 = w43
  have hb : Below w39.heap.size w39 w43 := hw ▸ drewN_below n42
  clear hw
  have base4 := OwR.below base3 hb (Nat.le_refl _)
  have K21 := K20.below hb
  clear K20 hb hr6 base3
  go_wp2_with fail
  refine (markStringS_any _ ss _ 1 w43 base4 (by omega) (by omega) (by omega)).mono ?_
  rintro e w44 ⟨rfl, hown12, hb⟩
  obtain ⟨a7, c7, he, -, hr8, -⟩ := OwR.val hown12
  injection he with ea _ ec
  subst ea
  clear ec
  have KM : Kept w w44 [(w.heap.size, [.slice am m.wheels.rotors.length cm, .string m.wheels.refl, .string m.rings, .string m.plugs])] [(w13.heap.size, a5, sv ss), (w.heap.size, am, rvs m.wheels.rotors), (w.heap.size, avs, sv vs), (w.heap.size, ams, lks ms)] := K21.low hb (by simp; omega) (by simp; omega) (by omega)
  have K22 := KM.addR hr8 (Nat.le_refl _)
  clear K21 KM hb hr8 hown12 base4
  generalize hMN : (1 + ss.length : Nat) = MN
  have hMNb : MN ≤ 13 := by omega
  have HMN := Lib.hid hMN
  clear hMN
  have hh := heldStringS_any a6 c6 1 ss.length w44 K22.r0 (by omega) (by omega) (by omega)
  rw [HMN.out] at hh
  go_wp2_with fail
  refine hh.mono ?_
  rintro e w45 ⟨rfl, hb⟩
  have K23 := K22.below hb
  clear K22 hb hh
  have f0 : w45.cell? ⟨w.heap.size, 0, none⟩ = some (.slice am m.wheels.rotors.length cm) := (K23.o0).at_ (i := 0) rfl
  have f1 : w45.cell? ⟨w.heap.size, 1, none⟩ = some (.string m.wheels.refl) := (K23.o0).at_ (i := 1) rfl
  have f2 : w45.cell? ⟨w.heap.size, 2, none⟩ = some (.string m.rings) := (K23.o0).at_ (i := 2) rfl
  have f3 : w45.cell? ⟨w.heap.size, 3, none⟩ = some (.string m.plugs) := (K23.o0).at_ (i := 3) rfl
  go_wp2_with fail
  refine (toMachine_any am cm m w45 (K23.r2) HSM.out).mono ?_
  rintro e w46 ⟨g47, hg47, rfl, og, hb⟩
  have K24 := (K23.below hb).addO og
  clear K23 hb og f0 f1 f2 f3
  go_wp2_with fail
  refine (toStringS_any avs cvs vs w46 (K24.r3) kvs).mono ?_
  rintro e w48 ⟨g49, hg49, rfl, og, hb⟩
  have K25 := (K24.below hb).addO og
  clear K24 hb og 
  go_wp2_with fail
  refine (toLinkS_any ams cms ms w48 (K25.r4) kms).mono ?_
  rintro e w50 ⟨g51, hg51, rfl, og, hb⟩
  have K26 := (K25.below hb).addO og
  clear K25 hb og 
  go_wp2_with fail
  refine (implBombeStops_any _ _ m _ _ vs _ _ ms w50 (HSM.out.at_ (Reads.of_own K26.o2 K26.o2.lt)) (Reads.of_own K26.o1 K26.o1.lt) HGS.out (by omega) (Reads.of_own K26.o0 K26.o0.lt) (fun x hx => by have := HSL.out x hx; omega) (by omega)).mono ?_
  rintro e w52 ⟨v12, rfl, hown15, hb⟩
  rw [HSS.out] at hown15
  obtain ⟨a12, c12, rfl, -, hr6, -⟩ := OwR.val hown15
  have K27 := K26.below hb
  clear K26 hb hown15
  go_wp2_with fail
  refine (eqStringS_any a12 a5 c12 c5 ss ss w52 hr6 K27.r1 (by omega)).mono ?_
  rintro e w53 ⟨rfl, n54, rfl⟩
  simp only [decide_true]
  generalize hw : w52.drewN n54 = w55
  have hb : Below w52.heap.size w52 w55 := hw ▸ drewN_below n54
  clear hw
  have K28 := K27.below hb
  clear K27 hb hr6
  have hh := heldStringS_any a6 c6 1 ss.length w55 K28.r0 (by omega) (by omega) (by omega)
  rw [HMN.out] at hh
  go_wp2_with fail
  refine hh.mono ?_
  rintro e w56 ⟨rfl, hb⟩
  have K29 := K28.below hb
  clear K28 hb hh
  go_wp2
  go_ret
  exact ⟨rfl, K29.bel⟩
end Go.Proofs.YtdmnkcmkpjmfaaaGreat
