/- Contracts of the functions that draw wheels with windows. -/
import Derived.Test.YtaplndmgbinhcaaGreatDrawY
namespace Go.Proofs.YtaplndmgbinhcaaGreat
open Go.RowKit

/-- Some wheels in the cell of block B, their rotors in a row of the call's own. -/
structure InCell (wx : World) (B B0 g cp : Nat) (x : Whl) : Prop where
  good : GoodW3 x
  cell : Own wx B [.slice (some ⟨g, 0, none⟩) x.rotors.length cp, .string x.refl]
  row : OwR wx (B0 + 1) 70 2 (.slice (some ⟨g, 0, none⟩) x.rotors.length cp) x.rotors.length (rvs x.rotors)
  ne : g ≠ B
theorem InCell.moved {wx wy : World} {R B B0 g cp : Nat} {x : Whl} (h : InCell wx B B0 g cp x) (hm : Moved R wx wy) (h1 : R < B0) (h2 : B0 < B) : InCell wy B B0 g cp x :=
  ⟨h.good, h.cell.grown hm (by simp; omega), OwR.moved h.row hm (by omega), h.ne⟩
theorem InCell.drewN {wx : World} {B B0 g cp : Nat} {x : Whl} (h : InCell wx B B0 g cp x) (n : Nat) : InCell (wx.drewN n) B B0 g cp x := ⟨h.good, h.cell.drewN n, h.row, h.ne⟩

/-- What the drawing of wheels and windows leaves. -/
def FitP (R : Nat) (c : Nat) (w : World) (e : Ending) (w' : World) : Prop :=
  ∃ (x : Whl) (u : ByteArray) (g cp : Nat), GoodW3 x ∧ Wd x.rotors.length u ∧ e = .returned (.tuple #[.agg #[.slice (some ⟨g, 0, none⟩) x.rotors.length cp, .string x.refl], .string u]) ∧ OwR w' w.heap.size 70 2 (.slice (some ⟨g, 0, none⟩) x.rotors.length cp) x.rotors.length (rvs x.rotors) ∧ w.heap.size < g ∧ Rd w' R c ∧ Moved R w w'

set_option maxRecDepth 100000 in
set_option maxHeartbeats 2000000 in
theorem l7Some_any (R : Nat) (c : Nat) (w : World) (h : Rd w R c) (hc : c ≤ 6000000) :
    Calls Tryz.prog 29 #[.pointer (some ⟨R, 0, none⟩)] w (FitP R (c + 300) w) := by
  have o0 := Own.new w [.slice none 0 0, .string ⟨#[]⟩] 25
  have hr0 := h.alloc (.cells #[.slice none 0 0, .string ⟨#[]⟩] 25)
  have hm0 := (Moved.refl R w).alloc (.cells #[.slice none 0 0, .string ⟨#[]⟩] 25)
  have hlt := h.lt
  go_enter Tryz.func29, Tryz.ntmps29
  go_wp2_with fail
  refine (pick_any R _ c _ hr0 (by omega) (by omega) (by omega)).mono ?_
  rintro e w1 ⟨v, rfl, hv0, hv1, _, hr1, hm1⟩
  obtain ⟨n0, rfl⟩ := Int.eq_ofNat_of_zero_le hv0
  have hn0 : n0 < 6 := by have := hv1 (by omega); omega
  have o1 := o0.grown hm1 (by simp; omega)
  have hmw1 := hm0.trans hm1
  have z1 : w.heap.size < w1.heap.size := o1.lt
  clear hv1 hv0 o0 hr0 hm0 hm1 h
  obtain ⟨n1, hn1⟩ : ∃ n1 : Nat, n1 = 1 + (n0 + 2) / 3 := ⟨_, rfl⟩
  have hso := l6Some_any R n1 _ _ hr1 (by omega) (by omega)
  rw [show ((n1 : Nat) : Int) = 1 + ((n0 : Int) + 2) / 3 by omega] at hso
  have b1 : 1 ≤ n1 := by omega
  have b3 : n1 ≤ 3 := by omega
  clear hn1
  go_wp2_with fail
  refine hso.mono ?_
  rintro e w2 ⟨x, v, hx, rfl, hown2, hr2, hm2⟩
  have hg3 := hx.three b1 b3
  clear hx hso
  obtain ⟨va, cp, rfl, -, -, hva⟩ := OwR.val hown2
  obtain ⟨g, rfl, hg, -⟩ : ∃ g, va = some ⟨g, 0, none⟩ ∧ w1.heap.size ≤ g ∧ Own w2 g (rvs x.rotors) := by
    rcases hva with h0 | h0
    · have := hg3.1; omega
    · exact h0
  clear hva
  have hgl := (World.ownsRow.lt hown2 g rfl).2
  have o2 := o1.grown hm2 (by simp; omega)
  have hmw2 := hmw1.trans hm2
  have p2 := Own.new w2 [.slice (some ⟨g, 0, none⟩) x.rotors.length cp, .string x.refl] 25
  have o2' := o2.alloc (.cells [.slice (some ⟨g, 0, none⟩) x.rotors.length cp, .string x.refl].toArray 25)
  have hr2' := hr2.alloc (.cells [.slice (some ⟨g, 0, none⟩) x.rotors.length cp, .string x.refl].toArray 25)
  have hm2' := hmw2.alloc (.cells [.slice (some ⟨g, 0, none⟩) x.rotors.length cp, .string x.refl].toArray 25)
  have hown2' := World.ownsRow.mono (World.ownsRow.alloc hown2 (.cells [.slice (some ⟨g, 0, none⟩) x.rotors.length cp, .string x.refl].toArray 25)) (base' := w.heap.size + 1) (by omega)
  go_wp2_with fail
  generalize (w2.alloc (.cells [.slice (some ⟨g, 0, none⟩) x.rotors.length cp, .string x.refl].toArray 25)) = W2 at *
  generalize hB1 : w2.heap.size = B1 at *
  generalize hB0 : w.heap.size = B0 at *
  have HB0 := Lib.hid hB0
  have hin : InCell W2 B1 B0 g cp x := ⟨hg3, p2, hown2', by omega⟩
  have hB01 : B0 < B1 := by omega
  have hgB0 : B0 < g := by omega
  clear o2 hr2 hmw2 hB1 hB0 hown2 hown2' o1 hr1 hmw1 hm2 z1 hg p2
  refine (pick_any R _ _ _ hr2' (by omega) (by omega) (by omega)).mono ?_
  rintro e w3 ⟨v, rfl, hv0, hv1, _, hr3, hm3⟩
  have o3 := o2'.grown hm3 (by simp; omega)
  have hin3 := hin.moved hm3 hlt hB01
  have hmw3 := hm2'.trans hm3
  clear hv1 hm3 hr2' hm2' hin o2'
  go_upto_if 16 with (fail)
  go_cut [] (fun wx => ∃ (x : Whl) (g cp : Nat), InCell wx B1 B0 g cp x ∧ B0 < g ∧ Own wx B0 [.slice none 0 0, .string ⟨#[]⟩] ∧ Rd wx R (c + 210) ∧ Moved R w wx)
  case first =>
    by_cases e0 : v = 0
    · have t0 : (v == 0) = true := by simp [e0]
      clear e0
      go_wp2_with fail
      refine (l6Any_any R _ _ hr3 (by omega)).mono ?_
      rintro e w4 ⟨x4, v4, hx4, rfl, hown4, hr4, hm4⟩
      obtain ⟨va, cp4, rfl, -, -, hva⟩ := OwR.val hown4
      obtain ⟨g4, rfl, hg4, -⟩ : ∃ g, va = some ⟨g, 0, none⟩ ∧ w3.heap.size ≤ g ∧ Own w4 g (rvs x4.rotors) := by
        rcases hva with h0 | h0
        · have := hx4.1; omega
        · exact h0
      clear hva
      have l3 := hin3.cell.lt
      have o4 := o3.grown hm4 (by simp; omega)
      have p4 := hin3.cell.grown hm4 (by simp; omega)
      have f0 := p4.at_ (i := 0) rfl
      have f1 := p4.at_ (i := 1) rfl
      have g0 := p4.free 0 (by simp)
      have g1 := p4.free 1 (by simp)
      go_wp2_with fail
      go_meet
      refine ⟨x4, g4, cp4, ⟨hx4, (p4.set_ (i := 0) (by simp) _).set_ (i := 1) (by simp) _, ?_, by omega⟩, by omega, (o4.far (by simp; omega) _).far (by simp; omega) _, ((hr4.far (by simp; omega) _).far (by simp; omega) _).more (by omega), ((hmw3.trans hm4).set_ (.inr (by simp; rw [HB0.out]; omega)) _).set_ (.inr (by simp; rw [HB0.out]; omega)) _⟩
      exact World.ownsRow.mono (OwR.off (OwR.off hown4 (by simp [Value.ownBlock]; omega) _) (by simp [Value.ownBlock]; omega) _) (by omega)
    · have t0 : (v == 0) = false := by simp [e0]
      clear e0
      go_wp2_with fail
      go_meet
      exact ⟨x, g, cp, hin3, by omega, o3, hr3.more (by omega), hmw3⟩
  case rest =>
    clear hin3 hr3 hmw3 o3 hg3 hgl
    obtain ⟨x, g, cp, hin, hgB, o1, hr, hm⟩ := hcut
    have hN1 := hin.good.1
    have hN3 := hin.good.2.1
    have f0 := hin.cell.at_ (i := 0) rfl
    go_wp2_with fail
    refine (l1Some_any R x.rotors.length _ _ hr (by omega) (by omega)).mono ?_
    rintro e w4 ⟨u, hu, rfl, hr4, hm4⟩
    have hin4 := hin.moved hm4 hlt hB01
    have o4 := o1.grown hm4 (by simp; omega)
    have hmw4 := hm.trans hm4
    have HU := Lib.hid hu
    clear hin o1 hr hm hm4 f0 hu
    go_wp2_with fail
    go_loopw [5, 6] (fun o i wr => ∃ (k : Nat) (u : ByteArray), k ≤ x.rotors.length ∧ i = .int .i64 k ∧ o = .string u ∧ Wd x.rotors.length u ∧ InCell wr B1 B0 g cp x ∧ Own wr B0 [.slice none 0 0, .string ⟨#[]⟩] ∧ Rd wr R (c + 220 + k) ∧ Moved R w wr) (fun _ i _ => x.rotors.length - (intOf i).toNat)
    case atStart => exact ⟨0, u, by omega, rfl, rfl, HU.out, hin4, o4, hr4.more (by omega), hmw4⟩
    case round =>
      clear hin4 o4 hr4 hmw4 HU
      obtain ⟨k, u, hk, rfl, rfl, hu, hin, o1, hr, hm⟩ := hrel
      have hus := hu.2
      have HU := Lib.hid hu
      have hu1 : u.size ≤ x.rotors.length := by omega
      have hu2 : x.rotors.length ≤ u.size := by omega
      have l1 := hin.cell.lt
      clear hu hus
      by_cases hlt2 : k < x.rotors.length
      · have f0 := hin.cell.at_ (i := 0) rfl
        have og := OwR.own hin.row
        have c1 := og.at_ (rvs_get1 hlt2)
        have hnw : Hid (Nt x.rotors[k].notches) := by
          have hb := hin.good.2.2.1 _ (List.getElem_mem hlt2)
          simp only [rotorB, Bool.and_eq_true, decide_eq_true_eq] at hb
          exact ⟨hb.1.1.2, hb.1.2, hb.2⟩
        have hn3 : x.rotors[k].notches.size ≤ 3 := hnw.out.1
        have q1 : (k : Int) < (x.rotors.length : Int) := by omega
        have q0 : (0 : Int) ≤ (k : Int) := by omega
        by_cases h0 : 0 < x.rotors[k].notches.size
        · have tn : decide ((0 : Int) < (x.rotors[k].notches.size : Int)) = true := decide_eq_true (by omega)
          go_wp2_with fail
          refine (pick_any R _ _ _ hr (by omega) (by omega) (by omega)).mono ?_
          rintro e w5 ⟨v, rfl, hv0, hv1, _, hr5, hm5⟩
          have hin5 := hin.moved hm5 hlt hB01
          have o5 := o1.grown hm5 (by simp; omega)
          have hmw5 := hm.trans hm5
          clear hv1 hin o1 hr hm hm5 f0 c1 og
          by_cases e0 : v = 0
          · have t0 : (v == 0) = true := by simp [e0]
            clear e0
            have f0 := hin5.cell.at_ (i := 0) rfl
            have og := OwR.own hin5.row
            have c1 := og.at_ (rvs_get1 hlt2)
            have s1 := sl_to u k (by omega)
            have s2 := sl_to x.rotors[k].notches 1 (by omega)
            rw [show (((1 : Nat)) : Int) = 1 from rfl] at s2
            have s3 := sl_next u k (by omega)
            have HW := Lib.hid (Wd.app (Wd.app (HU.out.ext 0 k (by omega)) (Wd.ext (n := x.rotors[k].notches.size) ⟨hnw.out.2.1, rfl⟩ 0 1 (by omega)) (by omega)) (HU.out.ext (k + 1) u.size (by omega)) (by omega))
            have z1 : (u.extract 0 k).size ≤ 3 := by simp only [ByteArray.size_extract]; omega
            have z2 : (x.rotors[k].notches.extract 0 1).size ≤ 3 := by simp only [ByteArray.size_extract]; omega
            have z3 : (u.extract (k + 1) u.size).size ≤ 3 := by simp only [ByteArray.size_extract]; omega
            generalize u.extract 0 k = a1 at *
            generalize x.rotors[k].notches.extract 0 1 = a2 at *
            generalize u.extract (k + 1) u.size = a3 at *
            have y2 : ¬ 9223372036854775807 < a1.size + a2.size := by omega
            have y3 : ¬ 9223372036854775807 < a1.size + a2.size + a3.size := by omega
            have hk1 : IntKind.i64.wrap ((k : Int) + 1) = (k : Int) + 1 := IntWalk.i64_in _ (by omega)
            have HK := Lib.hid hk1
            clear hk1
            go_wp2_with fail
            have hk1 := HK.out
            go_quiet (fail)
            clear hk1
            go_wp2
            go_roundw
            case rel =>
              refine ⟨k + 1, a1 ++ a2 ++ a3, by omega, by go_num, rfl, ?_, hin5.drewN _, o5.drewN _, (hr5.more (by omega)).keep fun _ _ => rfl, hmw5.drewN _⟩
              have := HW.out
              rw [show k - 0 + (1 - 0) + (u.size - (k + 1)) = x.rotors.length by omega] at this
              exact this
            case measure => simp [intOf]; omega
          · have t0 : (v == 0) = false := by simp [e0]
            clear e0
            go_wp2
            go_roundw
            case rel => exact ⟨k + 1, u, by omega, by go_num, rfl, HU.out, hin5, o5, hr5.more (by omega), hmw5⟩
            case measure => simp [intOf]; omega
        · have tn : decide ((0 : Int) < (x.rotors[k].notches.size : Int)) = false := decide_eq_false (by omega)
          go_wp2
          go_roundw
          case rel => exact ⟨k + 1, u, by omega, by go_num, rfl, HU.out, hin, o1, hr.more (by omega), hm⟩
          case measure => simp [intOf]; omega
      · have f0 := hin.cell.at_ (i := 0) rfl
        have f1 := hin.cell.at_ (i := 1) rfl
        have h0 := o1.at_ (i := 0) rfl
        have h1 := o1.at_ (i := 1) rfl
        have g0 := o1.free 0 (by simp)
        have g1 := o1.free 1 (by simp)
        have hne : ¬ B0 = B1 := by omega
        go_wp2
        refine bodyPost_ret (v := .tuple #[.agg #[.slice (some ⟨g, 0, none⟩) x.rotors.length cp, .string x.refl], .string u]) (by simp [results, Tryz.results29, go_sem, h0, h1]) rfl ?_
        refine ⟨x, u, g, cp, hin.good, HU.out, rfl, ?_, by rw [HB0.out]; omega, ((hr.far (by simp; omega) _).far (by simp; omega) _).more (by omega), (hm.set_ (.inr (by simp; rw [HB0.out]; omega)) _).set_ (.inr (by simp; rw [HB0.out]; omega)) _⟩
        exact World.ownsRow.mono (OwR.far (OwR.far hin.row (by simp) _) (by simp) _) (by rw [HB0.out]; omega)
end Go.Proofs.YtaplndmgbinhcaaGreat
