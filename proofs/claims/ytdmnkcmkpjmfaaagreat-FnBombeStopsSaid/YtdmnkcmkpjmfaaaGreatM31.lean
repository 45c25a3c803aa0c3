/- Several of my texts in one: DrawIm, BkW, HfW. -/
import Derived.Test.YtdmnkcmkpjmfaaaGreatM16
import Derived.Test.YtdmnkcmkpjmfaaaGreatM25
import Derived.Test.YtdmnkcmkpjmfaaaGreatM11
import Derived.Deep.CutBlock
import Derived.MapKept
import Derived.Test.YtdmnkcmkpjmfaaaGreatM28
import Derived.Test.YtdmnkcmkpjmfaaaGreatM30
import Derived.Lib.SlicesS
/- What the laws on implied pairs are run on. -/
namespace Go.Proofs.YtdmnkcmkpjmfaaaGreat
open Go.RowKit
attribute [local go_sem] Oper.semAt_some

set_option maxRecDepth 100000 in
set_option maxHeartbeats 2000000 in
/-- ApplyPerm of the reference, of a permutation and a word. -/
theorem specApplyPerm_yes (p u : ByteArray) (w : World) (hp : permB p = true) (hu : wordB u = true) :
    Calls Tryz.prog 102 #[.string p, .string u] w fun e w' => e = .returned (.string (wd ((dg u).map (pAt (dg p))))) ∧ Below w.heap.size w w' := by
  have hus := wordB_size hu
  have hps := permB_size hp
  have np := fun W => specPermValid_any p W (by omega)
  have nw := fun W => specWordValid_any u W (by omega)
  rw [hp] at np
  rw [hu] at nw
  have hlen : ((dg u).map (pAt (dg p))).length = u.size := by rw [List.length_map, len_dg]
  have HAT : Hid (∀ k (h : k < u.size) (h2 : k < ((dg u).map (pAt (dg p))).length), ((dg u).map (pAt (dg p)))[k]'h2 = pAt (dg p) (pAt (dg u) k)) := Lib.hid (fun k h h2 => by
    have e : pAt (dg u) k = (dg u)[k]'(by rw [len_dg]; exact h) := pAt_get _
    rw [List.getElem_map, e])
  have HLN := Lib.hid hlen
  clear hlen
  generalize (dg u).map (pAt (dg p)) = l at *
  go_enter Tryz.func102, Tryz.ntmps102
  go_wp2_with fail
  refine (np _).mono ?_
  rintro e w1 ⟨rfl, hb1⟩
  go_wp2_with fail
  refine (nw _).mono ?_
  rintro e w2 ⟨rfl, rfl⟩
  have hbw := hb1
  clear hb1 np nw
  go_wp2_with fail
  go_loopw [5, 6] (fun o i wr => ∃ k : Nat, k ≤ u.size ∧ i = .int .i64 k ∧ o = .string (wd (l.take k)) ∧ Below w.heap.size w wr) (fun _ i _ => u.size - (intOf i).toNat)
  case atStart => exact ⟨0, Nat.zero_le _, rfl, rfl, hbw⟩
  case round =>
    clear hbw
    obtain ⟨k, hk, rfl, rfl, hbw⟩ := hrel
    by_cases hlt : k < u.size
    · have tk : decide ((k : Int) < (u.size : Int)) = true := decide_eq_true (by omega)
      have hdg := wordB_at hu k hlt
      obtain ⟨d, hd⟩ := Int.eq_ofNat_of_zero_le hdg.1
      have hd10 : d < 10 := by omega
      have hpd : pAt (dg u) k = d := by
        rw [pAt_get (by rw [len_dg]; exact hlt)]
        simp only [dg, List.getElem_map]
        rw [show (L u)[k]'(by rw [size_L]; exact hlt) = u[k] from (getElem_L ..).symm, hd]
        rfl
      have nd := fun W => l1Digit_any u (k : Int) W (by omega) (by omega) (by omega)
      simp only [Int.toNat_natCast] at nd
      rw [hd] at nd
      have ni := fun W => l2Image_any p d W hp hd10
      have hl' := HLN.out
      have HS : Hid (wd (l.take k) ++ S [letr (pAt (dg p) d : Int)] = wd (l.take (k + 1))) := Lib.hid (by
        rw [List.take_succ_eq_append_getElem (by omega), wd_snoc, HAT.out k hlt (by omega), hpd])
      have hsz : (wd (l.take k)).size + (S [letr (pAt (dg p) d : Int)]).size ≤ 9223372036854775807 := by
        rw [size_wd, size_S, List.length_take]; simp; omega
      have nl := fun W => l1Letter_any (pAt (dg p) d : Int) W
      clear hdg hd hpd hl'
      generalize pAt (dg p) d = d2 at *
      go_wp2_with fail
      refine (nd _).mono ?_
      rintro e w3 ⟨rfl, rfl⟩
      go_wp2_with fail
      refine (ni _).mono ?_
      rintro e w3 ⟨rfl, rfl⟩
      go_wp2_with fail
      refine (nl _).mono ?_
      rintro e w3 ⟨rfl, hb3⟩
      have hbw3 := bt hbw hb3
      clear hbw hb3 nd ni nl
      go_wp2_with fail
      go_roundw
      case rel => exact ⟨k + 1, by omega, by go_num, by rw [HS.out], hbw3⟩
      case measure => simp [intOf]; omega
    · have tk : decide ((k : Int) < (u.size : Int)) = false := decide_eq_false (by omega)
      have hk' : l.take k = l := List.take_of_length_le (by have := HLN.out; omega)
      rw [hk']
      clear hk'
      go_wp2
      go_ret
      exact ⟨rfl, hbw⟩
theorem wd_ne_nil (n : Nat) : (wd [n] == (⟨#[]⟩ : ByteArray)) = false := by
  rw [Bool.eq_false_iff]
  intro h
  have := size_wd [n]
  rw [(Go.MapKept.bytes_beq _ _).1 h] at this
  cases this
/-- What ImpliedPairs is drawn. -/
def DrawnI (w : World) (e : Ending) (w' : World) : Prop :=
  ∃ (m : Mach) (v : ByteArray) (ms : List Lnk) (a am : Option Addr) (cap cm : Nat) (s : ByteArray), DrawnM w m a w' ∧ v.size ≤ 300 ∧ SmT ms ∧ (ms.length ≤ 24 ∧ ms.length ≤ cm) ∧ Reads w' w'.heap.size am (lks ms) ∧ s.size ≤ 300 ∧
    e = .returned (.tuple #[.agg #[.slice a m.wheels.rotors.length cap, .string m.wheels.refl, .string m.rings, .string m.plugs], .string v, .slice am ms.length cm, .string s])
set_option maxRecDepth 100000 in
set_option maxHeartbeats 2000000 in
theorem DrawImpliedPairs_any (a0 : Option Addr) (len cap : Nat) (zs : List Int) (w : World) (h : IsRow .u8 w a0 len cap zs) (hl : len ≤ 1048576) :
    Calls Tryz.prog 43 #[.slice a0 len cap] w (DrawnI w) := by
  have o0 := Own.new w [.slice none 0 0, .string ⟨#[]⟩, .string ⟨#[]⟩, .string ⟨#[]⟩] 36
  have hb0 := (Below.refl w.heap.size w).alloc (Nat.le_refl _) (.cells #[.slice none 0 0, .string ⟨#[]⟩, .string ⟨#[]⟩, .string ⟨#[]⟩] 36)
  go_enter Tryz.func43, Tryz.ntmps43
  go_wp2_with fail
  refine (l21Open_any a0 len cap zs _ (h.alloc_ _) hl).mono ?_
  rintro e w1 ⟨rfl, hr1, hb1⟩
  have o1 := o0.below hb1 o0.lt
  have hbw1 := bt hb0 hb1
  rw [World.size_alloc] at hr1
  clear o0 hb0 hb1 h
  go_wp2_with fail
  generalize hB0 : w.heap.size = B0 at *
  have HB0 := Lib.hid hB0
  clear hB0
  refine (l13Open_any (B0 + 1) 0 _ hr1 (by omega)).mono ?_
  rintro e w2 ⟨m6, v, ms, a6, am, cap6, cm, hsm, hv, hst, hl24, rfl, hrd, hrm, hbl, hbm, hr2, hm2⟩
  have l1 := hr1.lt
  have o2 := o1.grown hm2 (by simp)
  have hbw2 : Below B0 w w2 := hbw1.trans (hm2.toBelow (by omega) (by omega))
  have HBL : Hid (∀ ad, a6 = some ad → B0 + 1 < ad.block) := Lib.hid (fun ad e => by have := hbl ad e; omega)
  have HBM : Hid (∀ ad, am = some ad → B0 + 1 < ad.block) := Lib.hid (fun ad e => by have := hbm ad e; omega)
  have HSM := Lib.hid hsm
  have HST := Lib.hid hst
  have HL24 := Lib.hid hl24
  have hz12 := hm2.size
  clear o1 hr1 hbw1 hm2 hbl hbm hsm hst hl24
  have l2 := o2.lt
  have hb22 : Below w2.heap.size w2 (w2.alloc (.cells [.slice a6 m6.wheels.rotors.length cap6, .string m6.wheels.refl, .string m6.rings, .string m6.plugs].toArray 36)) := (Below.refl _ _).alloc (Nat.le_refl _) _
  have p2 := Own.new w2 [.slice a6 m6.wheels.rotors.length cap6, .string m6.wheels.refl, .string m6.rings, .string m6.plugs] 36
  have o3 := o2.alloc (.cells [.slice a6 m6.wheels.rotors.length cap6, .string m6.wheels.refl, .string m6.rings, .string m6.plugs].toArray 36)
  have hr3 := hr2.alloc (.cells [.slice a6 m6.wheels.rotors.length cap6, .string m6.wheels.refl, .string m6.rings, .string m6.plugs].toArray 36)
  have hrd3 := hrd.below hb22 (Nat.le_refl _)
  have hrm3 := hrm.below hb22 (Nat.le_refl _)
  have hbw3 := hbw2.alloc (by omega) (.cells [.slice a6 m6.wheels.rotors.length cap6, .string m6.wheels.refl, .string m6.rings, .string m6.plugs].toArray 36)
  have hz3 : (w2.alloc (.cells [.slice a6 m6.wheels.rotors.length cap6, .string m6.wheels.refl, .string m6.rings, .string m6.plugs].toArray 36)).heap.size = w2.heap.size + 1 := by simp
  have HZ3 := Lib.hid hz3
  clear o2 hr2 hrd hrm hbw2 hb22 hz3
  go_wp2_with fail
  generalize (w2.alloc (.cells [.slice a6 m6.wheels.rotors.length cap6, .string m6.wheels.refl, .string m6.rings, .string m6.plugs].toArray 36)) = W2 at *
  generalize w2.heap.size = B2 at *
  refine (l1Some_any (B0 + 1) 2 _ _ hr3 (by omega) (by omega)).mono ?_
  rintro e w3 ⟨s, ⟨hs1, hs2⟩, rfl, hr4, hm4⟩
  have hz := HZ3.out
  have p4 := p2.grown hm4 (by simp; omega)
  have o4 := o3.grown hm4 (by simp)
  have hrd4 := hrd3.mvB (by omega) hm4 (fun ad e => by have := HBL.out ad e; omega)
  have hrm4 := hrm3.mvB (by omega) hm4 (fun ad e => by have := HBM.out ad e; omega)
  have hbw4 := hbw3.trans (hm4.toBelow (by omega) (by omega))
  have hz4 := hm4.size
  have HSZ := Lib.hid hs2
  clear p2 o3 hr3 hrd3 hrm3 hbw3 hm4 hs1 hs2
  go_wp2_with fail
  refine (pick_any (B0 + 1) _ _ _ hr4 (by omega) (by omega) (by omega)).mono ?_
  rintro e w5 ⟨x, rfl, _, _, _, hr5, hm5⟩
  have p5 := p4.grown hm5 (by simp; omega)
  have o5 := o4.grown hm5 (by simp)
  have hrd5 := hrd4.mvB (by omega) hm5 (fun ad e => by have := HBL.out ad e; omega)
  have hrm5 := hrm4.mvB (by omega) hm5 (fun ad e => by have := HBM.out ad e; omega)
  have hbw5 := hbw4.trans (hm5.toBelow (by omega) (by omega))
  have l5 := p5.lt
  clear p4 o4 hr4 hrd4 hrm4 hbw4 hm5
  go_upto_block 0 with (fail)
  go_cut [10] (fun u wr => ∃ s : ByteArray, u = .string s ∧ s.size ≤ 300 ∧ Own wr B2 [.slice a6 m6.wheels.rotors.length cap6, .string m6.wheels.refl, .string m6.rings, .string m6.plugs] ∧ Own wr B0 [.slice none 0 0, .string ⟨#[]⟩, .string ⟨#[]⟩, .string ⟨#[]⟩] ∧ Reads wr B2 a6 (rvs m6.wheels.rotors) ∧ Reads wr B2 am (lks ms) ∧ Below B0 w wr)
  case first =>
    by_cases e0 : x = 0
    · have t0 : (x == 0) = true := by simp [e0]
      clear e0
      have o6 := o5.alloc (.cells [.string ⟨#[]⟩, .string ⟨#[97]⟩, .string ⟨#[97, 98, 99]⟩, .string ⟨#[97, 107]⟩, .string ⟨#[99, 99]⟩].toArray 9)
      have p6 := p5.alloc (.cells [.string ⟨#[]⟩, .string ⟨#[97]⟩, .string ⟨#[97, 98, 99]⟩, .string ⟨#[97, 107]⟩, .string ⟨#[99, 99]⟩].toArray 9)
      have hr6 := hr5.alloc (.cells [.string ⟨#[]⟩, .string ⟨#[97]⟩, .string ⟨#[97, 98, 99]⟩, .string ⟨#[97, 107]⟩, .string ⟨#[99, 99]⟩].toArray 9)
      have hba : Below w5.heap.size w5 (w5.alloc (.cells [.string ⟨#[]⟩, .string ⟨#[97]⟩, .string ⟨#[97, 98, 99]⟩, .string ⟨#[97, 107]⟩, .string ⟨#[99, 99]⟩].toArray 9)) := (Below.refl _ _).alloc (Nat.le_refl _) _
      have hrd6 := hrd5.below hba (by omega)
      have hrm6 := hrm5.below hba (by omega)
      have hbw6 := hbw5.alloc (by omega) (.cells [.string ⟨#[]⟩, .string ⟨#[97]⟩, .string ⟨#[97, 98, 99]⟩, .string ⟨#[97, 107]⟩, .string ⟨#[99, 99]⟩].toArray 9)
      have nof := of_any (B0 + 1) w5.heap.size 5 5 [⟨#[]⟩, ⟨#[97]⟩, ⟨#[97, 98, 99]⟩, ⟨#[97, 107]⟩, ⟨#[99, 99]⟩] _ _ rfl (Own.new w5 [.string ⟨#[]⟩, .string ⟨#[97]⟩, .string ⟨#[97, 98, 99]⟩, .string ⟨#[97, 107]⟩, .string ⟨#[99, 99]⟩] 9) (by simp) (by omega) hr6 (by omega) (by simp)
      have l6 := p6.lt
      clear o5 p5 hr5 hrd5 hrm5 hbw5 hba
      go_wp2_with fail
      refine nof.mono ?_
      rintro e w7 ⟨s2, hs2, rfl, hr7, hm7⟩
      have hsz2 : s2.size ≤ 300 := by
        simp only [List.mem_cons, List.not_mem_nil, or_false] at hs2
        rcases hs2 with rfl | rfl | rfl | rfl | rfl <;> decide
      have o7 := o6.grown hm7 (by simp)
      have p7 := p6.grown hm7 (by simp; omega)
      have hrd7 := hrd6.mvB (by simp; omega) hm7 (fun ad e => by have := HBL.out ad e; omega)
      have hrm7 := hrm6.mvB (by simp; omega) hm7 (fun ad e => by have := HBM.out ad e; omega)
      have hbw7 := hbw6.trans (hm7.toBelow (by omega) (by simp; omega))
      go_wp2_with fail
      go_meet
      exact ⟨s2, rfl, hsz2, p7, o7, hrd7, hrm7, hbw7⟩
    · have t0 : (x == 0) = false := by simp [e0]
      clear e0
      go_wp2_with fail
      all_goals first
        | (go_meet; exact ⟨s, rfl, by have := HSZ.out; omega, p5, o5, hrd5, hrm5, hbw5⟩)
        | skip
      all_goals by_cases hm : menuB ms = true
      all_goals first
        | (refine (specCentralLetter_yes am cm ms w5 (hrm5.more (by omega)) (by have := HL24.out; omega) hm).mono ?_)
        | (refine (specCentralLetter_no am cm ms w5 (hrm5.more (by omega)) (by have := HL24.out; omega) (by simpa using hm)).mono ?_)
      all_goals rintro e w6 ⟨rfl, hb6⟩
      all_goals have p6 := p5.below hb6 l5
      all_goals have o6 := o5.below hb6 (by omega)
      all_goals have hrd6 := hrd5.below hb6 (by omega)
      all_goals have hrm6 := hrm5.below hb6 (by omega)
      all_goals have hbw6 := hbw5.trans (hb6.mono (by omega))
      all_goals have l6 := p6.lt
      all_goals have f3 := p6.at_ (i := 3) rfl
      all_goals clear o5 p5 hr5 hrd5 hrm5 hbw5 hb6 hm
      all_goals have hce := cenN_lt ms
      all_goals have hx1 : (wd [cenN ms]).size = 1 := size_wd _
      all_goals have hxn := wd_ne_nil (cenN ms)
      all_goals go_wp2_with fail
      all_goals first
        | (go_meet; exact ⟨s, rfl, by have := HSZ.out; omega, p6, o6, hrd6, hrm6, hbw6⟩)
        | skip
      all_goals refine (specPlugsValid_any m6.plugs _ (by have := HSM.out.plugs; omega)).mono ?_
      all_goals rintro e w7 ⟨rfl, hb7⟩
      all_goals have p7 := p6.below hb7 l6
      all_goals have o7 := o6.below hb7 (by omega)
      all_goals have hrd7 := hrd6.below hb7 (by omega)
      all_goals have hrm7 := hrm6.below hb7 (by omega)
      all_goals have hbw7 := hbw6.trans (hb7.mono (by omega))
      all_goals have l7 := p7.lt
      all_goals clear f3 o6 p6 hrd6 hrm6 hbw6 hb7
      all_goals have f3 := p7.at_ (i := 3) rfl
      all_goals cases hpb : plugB m6.plugs
      all_goals go_wp2_with fail
      all_goals first
        | (go_meet; exact ⟨s, rfl, by have := HSZ.out; omega, p7, o7, hrd7, hrm7, hbw7⟩)
        | skip
      all_goals have hys : (wd ((dg (wd [cenN ms])).map (pAt (dg m6.plugs)))).size = 1 := by rw [size_wd, List.length_map, len_dg, size_wd]; rfl
      all_goals refine (specApplyPerm_yes m6.plugs (wd [cenN ms]) _ (plugB_perm hpb) (word_wd (by simp))).mono ?_
      all_goals rintro e w8 ⟨rfl, hb8⟩
      all_goals have hsum : (wd [cenN ms]).size + (wd ((dg (wd [cenN ms])).map (pAt (dg m6.plugs)))).size ≤ 9223372036854775807 := by omega
      all_goals go_wp2_with fail
      all_goals go_meet
      all_goals exact ⟨wd [cenN ms] ++ wd ((dg (wd [cenN ms])).map (pAt (dg m6.plugs))), rfl, by rw [ByteArray.size_append]; omega, p7.below hb8 l7, o7.below hb8 (by omega), hrd7.below hb8 (by omega), hrm7.below hb8 (by omega), hbw7.trans (hb8.mono (by omega))⟩
  case rest =>
    clear p5 o5 hr5 hrd5 hrm5 hbw5 l5
    obtain ⟨s, rfl, hss, p4, o4, hrd4, hrm4, hbw4⟩ := hcut
    have l4 := p4.lt
    have HRD := Lib.hid hrd4
    have HRM := Lib.hid hrm4
    clear hrd4 hrm4
    have f0 := p4.at_ (i := 0) rfl
    have f1 := p4.at_ (i := 1) rfl
    have f2 := p4.at_ (i := 2) rfl
    have f3 := p4.at_ (i := 3) rfl
    have c0 := o4.at_ (i := 0) rfl
    have c1 := o4.at_ (i := 1) rfl
    have c2 := o4.at_ (i := 2) rfl
    have c3 := o4.at_ (i := 3) rfl
    have b0 := o4.free 0 (by simp)
    have b1 := o4.free 1 (by simp)
    have b2 := o4.free 2 (by simp)
    have b3 := o4.free 3 (by simp)
    go_wp2
    have oz := o4.set4 (.slice a6 m6.wheels.rotors.length cap6) (.string m6.wheels.refl) (.string m6.rings) (.string m6.plugs)
    have k0 := oz.at_ (i := 0) rfl
    have k1 := oz.at_ (i := 1) rfl
    have k2 := oz.at_ (i := 2) rfl
    have k3 := oz.at_ (i := 3) rfl
    refine bodyPost_ret (v := .tuple #[.agg #[.slice a6 m6.wheels.rotors.length cap6, .string m6.wheels.refl, .string m6.rings, .string m6.plugs], .string v, .slice am ms.length cm, .string s]) (by unfold set4 at *; simp [results, Tryz.results43, go_sem, k0, k1, k2, k3]) rfl ?_
    refine ⟨m6, v, ms, a6, am, cap6, cm, s, ⟨HSM.out, ?_, ?_, ?_⟩, hv, HST.out, HL24.out, ?_, hss, rfl⟩
    · show Reads (set4 wc B0 _ _ _ _) (set4 wc B0 _ _ _ _).heap.size _ _
      rw [size_set4]
      exact (HRD.out.more (by omega)).set4 (fun ad h => by have := HBL.out ad h; omega) _ _ _ _
    · intro ad h
      rw [HB0.out]
      have := HBL.out ad h; omega
    · rw [HB0.out]
      exact bel_set4 hbw4 (Nat.le_refl _) _ _ _ _
    · show Reads (set4 wc B0 _ _ _ _) (set4 wc B0 _ _ _ _).heap.size _ _
      rw [size_set4]
      exact (HRM.out.more (by omega)).set4 (fun ad h => by have := HBM.out ad h; omega) _ _ _ _
end Go.Proofs.YtdmnkcmkpjmfaaaGreat

/- The walk of the law that a pair follows back from what follows from it. -/
namespace Go.Proofs.YtdmnkcmkpjmfaaaGreat
open Go.RowKit
attribute [local go_sem] Oper.semAt_some

theorem impT_len (m : Mach) (v : ByteArray) (ms : List Lnk) (s : ByteArray) : (impT m v ms s).length ≤ 100 := by
  unfold impT impL
  split
  · rw [List.length_map]; exact Nat.le_trans (impP_len _ 10) (by omega)
  · simp
/-- A pair that follows. -/
theorem impT_mem {m : Mach} {v : ByteArray} {ms : List Lnk} {s t : ByteArray} (h : t ∈ impT m v ms s) : setB m v = true ∧ menuB ms = true ∧ pairB s = true ∧ ∃ q : Nat × Nat, t = pw q ∧ q.1 < 10 ∧ q.1 ≤ q.2 ∧ q.2 < 10 ∧ impG m v ms (pAt (dg s) 0) (pAt (dg s) 1) q.1 q.2 = true := by
  unfold impT impL at h
  split at h
  · rename_i hc
    simp only [Bool.and_eq_true] at hc
    obtain ⟨q, hq, rfl⟩ := List.mem_map.1 h
    obtain ⟨h1, h2, h3, h4⟩ := mem_impP.1 hq
    exact ⟨hc.1, hc.2.1, hc.2.2, q, rfl, h1, h2, h3, h4⟩
  · simp at h
theorem impT_is {m : Mach} {v : ByteArray} {ms : List Lnk} {s : ByteArray} (h1 : setB m v = true) (h2 : menuB ms = true) (h3 : pairB s = true) : impT m v ms s = (impP (impG m v ms (pAt (dg s) 0) (pAt (dg s) 1)) 10).map pw := by
  unfold impT impL
  rw [if_pos (by rw [h1, h2, h3]; rfl)]
theorem imp_back {m : Mach} {v : ByteArray} {ms : List Lnk} {s t : ByteArray} (h : t ∈ impT m v ms s) : t.size = 2 ∧ impT m v ms t = impT m v ms s := by
  obtain ⟨h1, h2, h3, q, rfl, q1, -, q2, q3⟩ := impT_mem h
  obtain ⟨l0, l1⟩ := pairB_lt h3
  refine ⟨size_wd _, ?_⟩
  have hd : dg (pw q) = [q.1, q.2] := dg2 q1 q2
  have hpb : pairB (pw q) = true := pairB_wd
  rw [impT_is h1 h2 hpb, impT_is h1 h2 h3, hd]
  have := Imp.same (menG_ok (setB_mach h1) h2) (menG_sym (setB_mach h1)) l0 l1 (impB_iff.1 q3)
  show (impP (impB (menG m v ms) q.1 q.2) 10).map pw = _
  rw [this]
  rfl
set_option maxRecDepth 100000 in
set_option maxHeartbeats 2000000 in
theorem impliedBack_walk (a : Option Addr) (len cap : Nat) (zs : List Int) (w : World) (h : IsRow .u8 w a len cap zs) :
    Calls Tryz.prog 7 #[.slice a len cap] w fun e w' => e = .returned (.bool true) ∧ Below w.heap.size w w' := by
  have hlen : len ≤ 9223372036854775807 := by
    rcases h with ⟨_, rfl, _⟩ | ⟨x, _, hl, hm, _⟩
    · omega
    · unfold maxLen at hm; omega
  by_cases hl : 1048576 < len
  · go_enter Tryz.func7, Tryz.ntmps7
    go_wp2
    go_ret
    exact ⟨rfl, Below.refl _ _⟩
  · go_enter Tryz.func7, Tryz.ntmps7
    go_wp2_with fail
    refine (DrawImpliedPairs_any a len cap zs _ h (by omega)).mono ?_
    rintro e w1 ⟨m, v, ms, a1, am, cap1, cm, s, ⟨hsm, hrd, -, hb1⟩, hv, hst, hl24, hrm, hs, rfl⟩
    have o1 := Own.new w1 [.slice a1 m.wheels.rotors.length cap1, .string m.wheels.refl, .string m.rings, .string m.plugs] 36
    have hba : Below w1.heap.size w1 (w1.alloc (.cells [.slice a1 m.wheels.rotors.length cap1, .string m.wheels.refl, .string m.rings, .string m.plugs].toArray 36)) := (Below.refl _ _).alloc (Nat.le_refl _) _
    have hbw1 := hb1.alloc hb1.size (.cells [.slice a1 m.wheels.rotors.length cap1, .string m.wheels.refl, .string m.rings, .string m.plugs].toArray 36)
    have A1 : LAt (w1.alloc (.cells [.slice a1 m.wheels.rotors.length cap1, .string m.wheels.refl, .string m.rings, .string m.plugs].toArray 36)) w1.heap.size a1 cap1 m am ms := ⟨o1, (hsm.at_ hrd).alloc_ _, (hrm.below hba (Nat.le_refl _)).more hba.size⟩
    have hsl := hst.smL
    clear hrd hb1 h hsm hrm hba o1
    go_wp2_with fail
    generalize (w1.alloc (.cells [.slice a1 m.wheels.rotors.length cap1, .string m.wheels.refl, .string m.rings, .string m.plugs].toArray 36)) = W1 at *
    generalize w1.heap.size = B1 at *
    have f0 := A1.box.at_ (i := 0) rfl
    have f1 := A1.box.at_ (i := 1) rfl
    have f2 := A1.box.at_ (i := 2) rfl
    have f3 := A1.box.at_ (i := 3) rfl
    have HIP := Lib.hid (fun t W h1 h2 (ht : t.size ≤ 4294967296) => implImpliedPairs_any a1 cap1 m v am cm ms t W h1 (by omega) h2 hsl (by omega) ht)
    have hls := impT_len m v ms s
    refine (HIP.out s _ A1.mach A1.menu (by omega)).mono ?_
    rintro e w2 ⟨lv, rfl, ol, hb2⟩
    obtain ⟨al, cl, rfl, hlc, hrl2, -⟩ := OwR.val ol
    have A2 := A1.below hb2
    have hbw2 := bt hbw1 hb2
    clear A1 hbw1 ol hlc hb2 f0 f1 f2 f3
    have f0 := A2.box.at_ (i := 0) rfl
    have f1 := A2.box.at_ (i := 1) rfl
    have f2 := A2.box.at_ (i := 2) rfl
    have f3 := A2.box.at_ (i := 3) rfl
    have nsp := fun W h1 h2 => specImpliedPairs_any a1 cap1 m v am cm ms s W h1 (by omega) h2 (by omega) (by omega)
    go_wp2_with fail
    refine (nsp _ A2.mach A2.menu).mono ?_
    rintro e w3 ⟨lv, rfl, ol, hb3⟩
    obtain ⟨al3, cl3, rfl, hlc, hrl3, -⟩ := OwR.val ol
    have A3 := A2.below hb3
    have hbw3 := bt hbw2 hb3
    have hrl := (hrl2.below hb3 (Nat.le_refl _)).more hb3.size
    clear A2 hbw2 ol hlc hb3 hrl2 f0 f1 f2 f3
    have HBK := Lib.hid (fun t (ht : t ∈ impT m v ms s) => imp_back ht)
    clear nsp
    generalize hgl : impT m v ms s = ls at *
    have HGL := Lib.hid hgl
    clear hgl
    go_wp2_with fail
    have hrt := rcTexts_any al al3 cl cl3 ls ls w3 hrl hrl3 (by omega)
    rw [decide_eq_true rfl] at hrt
    refine hrt.mono ?_
    rintro e w' ⟨rfl, n4, rfl⟩
    have hb4 := bel_drewM w3 n4
    generalize w3.drewN n4 = w4 at *
    have A4 := A3.below hb4
    have hbw4 := bt hbw3 hb4
    have hrl4 := (hrl.below hb4 (Nat.le_refl _)).more hb4.size
    clear A3 hbw3 hrl hrl3 hrt hb4 n4
    go_wp2_with fail
    go_loopw [8] (fun i wr => ∃ k : Nat, k ≤ 4 ∧ i = .int .i64 k ∧ LAt wr B1 a1 cap1 m am ms ∧ Reads wr wr.heap.size al (sv ls) ∧ Below w.heap.size w wr) (fun i _ => 4 - (intOf i).toNat)
    case atStart => exact ⟨0, Nat.zero_le _, rfl, A4, hrl4, hbw4⟩
    case round =>
      clear A4 hrl4 hbw4
      obtain ⟨k, hk, rfl, A4, hrl4, hbw4⟩ := hrel
      by_cases hlt : k < ls.length
      · have tk : decide ((k : Int) < (ls.length : Int)) = true := decide_eq_true (by omega)
        by_cases hk4 : k < 4
        · have tk4 : decide ((k : Int) < 4) = true := decide_eq_true (by omega)
          obtain ⟨b, off, rfl, hbl', hcl⟩ := hrl4.cells (by simp [sv]; omega)
          obtain ⟨r, hr⟩ : ∃ r : Nat, r = (k * 7 + s.size) % ls.length := ⟨_, rfl⟩
          have hrl : r < ls.length := by rw [hr]; exact Nat.mod_lt _ (by omega)
          have e1 : IntKind.i64.wrap ((k : Int) * 7) = ((k * 7 : Nat) : Int) := by rw [IntWalk.i64_in _ (by omega)]; omega
          have e2 : IntKind.i64.wrap (((k * 7 : Nat) : Int) + (s.size : Int)) = ((k * 7 + s.size : Nat) : Int) := by rw [IntWalk.i64_in _ (by omega)]; omega
          have e3 : ((k * 7 + s.size : Nat) : Int).tmod (ls.length : Int) = (r : Int) := by rw [Int.tmod_eq_emod_of_nonneg (by omega), hr]; rfl
          have hne : ls ≠ [] := fun h => by rw [h] at hlt; simp at hlt
          have hc := hcl.at_ (i := r) (sv_at hrl)
          have hbk := HBK.out _ (List.getElem_mem hrl)
          generalize ls[r] = y at *
          obtain ⟨hy2, hyt⟩ := hbk
          have q0 : (0 : Int) ≤ (r : Int) := by omega
          have q1 : (r : Int) < (ls.length : Int) := by omega
          have nip := fun W h1 h2 => HIP.out y W h1 h2 (by omega)
          rw [hyt] at nip
          have lo := A4.box.lt
          have HSS : Hid (∀ W' : World, Below wr.heap.size wr W' → W'.rangeAt B1 0 [.slice a1 m.wheels.rotors.length cap1, .string m.wheels.refl, .string m.rings, .string m.plugs] ∧ W'.cell? ⟨b, off + r, none⟩ = some (.string y)) := Lib.hid (fun W' hb => ⟨(A4.box.below hb lo).cells.range, (hb.cell hbl').trans hc⟩)
          have HA := Lib.hid (fun (W' : World) (hb : Below wr.heap.size wr W') => A4.below hb)
          have HRL := Lib.hid (fun (W' : World) (hb : Below wr.heap.size wr W') => (hrl4.below hb (Nat.le_refl _)).more hb.size)
          clear hcl hc hy2 hyt hr A4 hrl4
          generalize k * 7 + s.size = kk at *
          generalize k * 7 = k7 at *
          go_wp2_with fail
          refine wp_onlyN ?_
          refine wp_region_any (by kernel_rfl) ?_
          refine wpAny_of_K (S := fun w' => w'.rangeAt B1 0 [.slice a1 m.wheels.rotors.length cap1, .string m.wheels.refl, .string m.rings, .string m.plugs] ∧ w'.cell? ⟨b, off + r, none⟩ = some (.string y)) (kp := fun _ => true) _ _ _ _ ?_
          have hbd : Below wr.heap.size wr wr.drew := (Below.refl _ _).drew
          have hS := HSS.out wr.drew hbd
          refine kr_take 0 42 (v := .agg #[.slice a1 m.wheels.rotors.length cap1, .string m.wheels.refl, .string m.rings, .string m.plugs]) rfl (by kernel_rfl) (by kernel_rfl) (by kernel_rfl) (by kernel_rfl) (fun _ _ _ h => by cases h.1) rfl hS (yieldsIf_load_mid (by rfl) _ _ rfl _ _ rfl _ _ (fun _ h => h.1) Tryz.underlying36 rfl (by kernel_rfl)) ?_; simp only [Act.put, List.setIfInBounds_toArray, List.set_cons_succ, List.set_cons_zero]
          refine kr_take 1 43 (v := .string v) rfl (by kernel_rfl) (by kernel_rfl) (by kernel_rfl) (by kernel_rfl) (fun _ _ _ h => by cases h.1) rfl hS (Or.inl ⟨by rfl, fun _ _ => rfl⟩) ?_; simp only [Act.put, List.setIfInBounds_toArray, List.set_cons_succ, List.set_cons_zero]
          refine kr_take 2 44 (v := .slice am ms.length cm) rfl (by kernel_rfl) (by kernel_rfl) (by kernel_rfl) (by kernel_rfl) (fun _ _ _ h => by cases h.1) rfl hS (Or.inl ⟨by rfl, fun _ _ => rfl⟩) ?_; simp only [Act.put, List.setIfInBounds_toArray, List.set_cons_succ, List.set_cons_zero]
          refine kr_take 3 45 (v := .slice (some ⟨b, off, none⟩) ls.length cl) rfl (by kernel_rfl) (by kernel_rfl) (by kernel_rfl) (by kernel_rfl) (fun _ _ _ h => by cases h.1) rfl hS (Or.inl ⟨by rfl, fun _ _ => rfl⟩) ?_; simp only [Act.put, List.setIfInBounds_toArray, List.set_cons_succ, List.set_cons_zero]
          refine kr_take 4 46 (v := .int .i64 (k : Int)) rfl (by kernel_rfl) (by kernel_rfl) (by kernel_rfl) (by kernel_rfl) (fun _ _ _ h => by cases h.1) rfl hS (Or.inl ⟨by rfl, fun _ _ => rfl⟩) ?_; simp only [Act.put, List.setIfInBounds_toArray, List.set_cons_succ, List.set_cons_zero]
          refine kr_take 5 47 (v := .int .i64 (k7 : Int)) rfl (by kernel_rfl) (by kernel_rfl) (by kernel_rfl) (by kernel_rfl) (fun _ _ _ h => by cases h.1) rfl hS (Or.inl ⟨by rfl, fun w' hw' => by simp [go_sem, e1]⟩) ?_; simp only [Act.put, List.setIfInBounds_toArray, List.set_cons_succ, List.set_cons_zero]
          refine kr_take 6 48 (v := .string s) rfl (by kernel_rfl) (by kernel_rfl) (by kernel_rfl) (by kernel_rfl) (fun _ _ _ h => by cases h.1) rfl hS (Or.inl ⟨by rfl, fun _ _ => rfl⟩) ?_; simp only [Act.put, List.setIfInBounds_toArray, List.set_cons_succ, List.set_cons_zero]
          refine kr_take 7 49 (v := .int .i64 (s.size : Int)) rfl (by kernel_rfl) (by kernel_rfl) (by kernel_rfl) (by kernel_rfl) (fun _ _ _ h => by cases h.1) rfl hS (Or.inl ⟨by rfl, fun _ _ => by simp [go_sem]⟩) ?_; simp only [Act.put, List.setIfInBounds_toArray, List.set_cons_succ, List.set_cons_zero]
          refine kr_take 8 50 (v := .int .i64 (kk : Int)) rfl (by kernel_rfl) (by kernel_rfl) (by kernel_rfl) (by kernel_rfl) (fun _ _ _ h => by cases h.1) rfl hS (Or.inl ⟨by rfl, fun w' hw' => by simp [go_sem, e2]⟩) ?_; simp only [Act.put, List.setIfInBounds_toArray, List.set_cons_succ, List.set_cons_zero]
          refine kr_take 9 51 (v := .slice (some ⟨b, off, none⟩) ls.length cl) rfl (by kernel_rfl) (by kernel_rfl) (by kernel_rfl) (by kernel_rfl) (fun _ _ _ h => by cases h.1) rfl hS (Or.inl ⟨by rfl, fun _ _ => rfl⟩) ?_; simp only [Act.put, List.setIfInBounds_toArray, List.set_cons_succ, List.set_cons_zero]
          refine kr_take 10 52 (v := .int .i64 (ls.length : Int)) rfl (by kernel_rfl) (by kernel_rfl) (by kernel_rfl) (by kernel_rfl) (fun _ _ _ h => by cases h.1) rfl hS (Or.inl ⟨by rfl, fun _ _ => by simp [go_sem]⟩) ?_; simp only [Act.put, List.setIfInBounds_toArray, List.set_cons_succ, List.set_cons_zero]
          refine kr_take 11 53 (v := .int .i64 (r : Int)) rfl (by kernel_rfl) (by kernel_rfl) (by kernel_rfl) (by kernel_rfl) (fun _ _ _ h => by cases h.1) rfl hS (Or.inl ⟨by rfl, fun w' hw' => by simp [go_sem, e3, hne]⟩) ?_; simp only [Act.put, List.setIfInBounds_toArray, List.set_cons_succ, List.set_cons_zero]
          refine kr_take 12 54 (v := .pointer (some ⟨b, off + r, none⟩)) rfl (by kernel_rfl) (by kernel_rfl) (by kernel_rfl) (by kernel_rfl) (fun _ _ _ h => by cases h.1) rfl hS (Or.inl ⟨by rfl, fun w' hw' => by simp [go_sem, q0, q1]⟩) ?_; simp only [Act.put, List.setIfInBounds_toArray, List.set_cons_succ, List.set_cons_zero]
          refine kr_take 13 55 (v := .string y) rfl (by kernel_rfl) (by kernel_rfl) (by kernel_rfl) (by kernel_rfl) (fun _ _ _ h => by cases h.1) rfl hS (Or.inl ⟨by rfl, fun w' hw' => by have hw1 := hw'.2; simp [go_sem, hw1]⟩) ?_; simp only [Act.put, List.setIfInBounds_toArray, List.set_cons_succ, List.set_cons_zero]
          refine kr_take 15 57 (v := .slice (some ⟨b, off, none⟩) ls.length cl) rfl (by kernel_rfl) (by kernel_rfl) (by kernel_rfl) (by kernel_rfl) (fun _ _ _ h => by cases h.1) rfl hS (Or.inl ⟨by rfl, fun _ _ => rfl⟩) ?_; simp only [Act.put, List.setIfInBounds_toArray, List.set_cons_succ, List.set_cons_zero]
          refine kr_callM 14 56 (by kernel_rfl) rfl (by rfl) rfl (fun w => by simp [go_sem]) (nip wr.drew (HA.out _ hbd).mach (HA.out _ hbd).menu) (fun e w6 hT => ?_)
          obtain ⟨lv, rfl, ol, hb6⟩ := hT
          obtain ⟨al6, cl6, rfl, hlc6, hrl6, -⟩ := OwR.val ol
          have hbw6 := hbd.trans (hb6.mono hbd.size)
          refine ⟨_, rfl, HSS.out _ hbw6, ?_⟩
          simp only [Act.put, List.setIfInBounds_toArray, List.set_cons_succ, List.set_cons_zero]
          have hrt := rcTexts_any al6 (some ⟨b, off, none⟩) cl6 cl ls ls w6 hrl6 (HRL.out _ hbw6) (by omega)
          rw [decide_eq_true rfl] at hrt
          refine kr_callM 16 58 (by kernel_rfl) rfl (by rfl) rfl (fun w => by simp [go_sem]) hrt (fun e w8 hT => ?_)
          obtain ⟨rfl, n8, rfl⟩ := hT
          have hb8 := bel_drewM w6 n8
          have hbw8 := hbw6.trans (hb8.mono hbw6.size)
          generalize w6.drewN n8 = w8 at *
          refine ⟨_, rfl, HSS.out _ hbw8, ?_⟩
          simp only [Act.put, List.setIfInBounds_toArray, List.set_cons_succ, List.set_cons_zero]
          have hS := HSS.out _ hbw8
          refine kr_take 17 59 (v := .bool false) rfl (by kernel_rfl) (by kernel_rfl) (by kernel_rfl) (by kernel_rfl) (fun _ _ _ h => by cases h.1) rfl hS (Or.inl ⟨by rfl, fun _ _ => by simp [go_sem]⟩) ?_; simp only [Act.put, List.setIfInBounds_toArray, List.set_cons_succ, List.set_cons_zero]
          refine ⟨by kernel_rfl, onlyN_mk ?_⟩
          have A8 := HA.out _ hbw8
          have hrl8 := HRL.out _ hbw8
          have hbw9 := bt hbw4 hbw8
          clear hb8 hrt hS
          go_wp2_with fail
          go_roundw
          case rel => exact ⟨k + 1, by omega, by go_num, A8, hrl8, hbw9⟩
          case measure => simp [intOf]; omega
        · have tk4 : decide ((k : Int) < 4) = false := decide_eq_false (by omega)
          go_wp2
          go_ret
          exact ⟨rfl, hbw4⟩
      · have tk : decide ((k : Int) < (ls.length : Int)) = false := decide_eq_false (by omega)
        go_wp2
        go_ret
        exact ⟨rfl, hbw4⟩
end Go.Proofs.YtdmnkcmkpjmfaaaGreat

/- The walk of the law that fewer links leave more hypotheses. -/
namespace Go.Proofs.YtdmnkcmkpjmfaaaGreat
open Go.RowKit
attribute [local go_sem] Oper.semAt_some

theorem Reads.pre {w : World} {B : Nat} {a : Option Addr} {xs ys : List Value} (h : Reads w B a (xs ++ ys)) : Reads w B a xs := by
  rcases h with h | ⟨b, off, rfl, hb, hc⟩
  · exact .inl (List.append_eq_nil_iff.1 h).1
  · exact .inr ⟨b, off, rfl, hb, fun i hi => by rw [hc i (by rw [List.length_append]; omega), List.getElem?_append_left hi]⟩
theorem okFrom_take : ∀ (ms : List Lnk) (b : Int) (n : Nat), okFrom b ms = true → okFrom b (ms.take n) = true
  | [], _, _, _ => by simp [okFrom]
  | x :: ms, b, 0, _ => by simp [okFrom]
  | x :: ms, b, n + 1, h => by
    simp only [okFrom, Bool.and_eq_true] at h
    simp only [List.take_succ_cons, okFrom, Bool.and_eq_true]
    exact ⟨h.1, okFrom_take ms x.k n h.2⟩
theorem menuB_take {ms : List Lnk} (h : menuB ms = true) {n : Nat} (h1 : 1 ≤ n) (h2 : n ≤ ms.length) : menuB (ms.take n) = true := by
  obtain ⟨k1, k2, k3⟩ := menuB_ok h
  unfold menuB
  rw [okFrom_take ms 0 n k3, List.length_take]
  simp only [Bool.and_true, Bool.and_eq_true, decide_eq_true_eq]
  omega
theorem menG_take {m : Mach} {v : ByteArray} {ms : List Lnk} {n : Nat} {r : Wire} (h : r ∈ menG m v (ms.take n)) : r ∈ menG m v ms := by
  obtain ⟨x, hx, hr⟩ := mem_menG.1 h
  exact mem_menG.2 ⟨x, List.mem_of_mem_take hx, hr⟩
theorem impG_take {m : Mach} {v : ByteArray} {ms : List Lnk} {n x y a b : Nat} (h : impG m v (ms.take n) x y a b = true) : impG m v ms x y a b = true :=
  impB_iff.2 (Imp.mono (fun _ hr => menG_take hr) (impB_iff.1 h))
theorem wd_byte {l : List Nat} {k : Nat} (h : k < (wd l).size) : (wd l)[k] = letr ((l[k]'(by rw [size_wd] at h; exact h) : Nat) : Int) := by
  rw [getElem_L]
  have : L (wd l) = l.map fun n : Nat => letr (n : Int) := L_S _
  simp only [this, List.getElem_map]
theorem filter_more {P Q : Nat → Bool} (h : ∀ x, P x = true → Q x = true) : ∀ l : List Nat, (l.filter P).length ≤ (l.filter Q).length
  | [] => Nat.le_refl _
  | x :: l => by
    have ih := filter_more h l
    cases hp : P x with
    | true => rw [List.filter_cons_of_pos hp, List.filter_cons_of_pos (h x hp)]; simp only [List.length_cons]; omega
    | false =>
      rw [List.filter_cons_of_neg (by simp [hp])]
      cases hq : Q x with
      | true => rw [List.filter_cons_of_pos hq]; simp only [List.length_cons]; omega
      | false => rw [List.filter_cons_of_neg (by simp [hq])]; exact ih
theorem hyp_fewer {m : Mach} {v : ByteArray} {ms : List Lnk} {n : Nat} (h1 : 1 ≤ n) (h2 : n ≤ ms.length) (hc : cenT (ms.take n) = cenT ms) : (∀ i (h : i < (hypT m v ms).size), 0 ≤ Lib.indexByte (L (hypT m v (ms.take n))) (hypT m v ms)[i]) ∧ (hypT m v ms).size ≤ (hypT m v (ms.take n)).size := by
  cases hcc : (setB m v && menuB ms) with
  | false =>
    have e2 : hypT m v ms = S [] := by unfold hypT; rw [if_neg (by rw [hcc]; simp)]
    rw [e2]
    exact ⟨fun i h => by rw [size_S] at h; simp at h, by rw [size_S]; simp⟩
  | true =>
    obtain ⟨k1, k2⟩ := Bool.and_eq_true_iff.1 hcc
    have k3 := menuB_take k2 h1 h2
    have e1 : hypT m v ms = wd (hypL m v ms) := by unfold hypT; rw [if_pos hcc]
    have e2 : hypT m v (ms.take n) = wd (hypL m v (ms.take n)) := by unfold hypT; rw [if_pos (by rw [k1, k3]; rfl)]
    have e3 : cenN (ms.take n) = cenN ms := by
      unfold cenT at hc
      rw [if_pos k2, if_pos k3] at hc
      have := wd_inj (by simpa using cenN_lt _) (by simpa using cenN_lt _) hc
      simpa using this
    have hP : ∀ x, oneB (impG m v ms (cenN ms) x) = true → oneB (impG m v (ms.take n) (cenN (ms.take n)) x) = true := fun x hx => by
      rw [e3]
      exact oneB_mono (fun a b hab => impG_take hab) hx
    rw [e1, e2]
    refine ⟨fun i h => ?_, ?_⟩
    · rw [wd_byte h]
      refine find_wd ?_
      have hm := List.mem_filter.1 (List.getElem_mem (l := hypL m v ms) (by rw [size_wd] at h; exact h))
      exact List.mem_filter.2 ⟨hm.1, hP _ hm.2⟩
    · rw [size_wd, size_wd]
      exact filter_more hP _
set_option maxRecDepth 100000 in
set_option maxHeartbeats 4000000 in
theorem hypothesesFewer_walk (a : Option Addr) (len cap : Nat) (zs : List Int) (w : World) (h : IsRow .u8 w a len cap zs) :
    Calls Tryz.prog 11 #[.slice a len cap] w fun e w' => e = .returned (.bool true) ∧ Below w.heap.size w w' := by
  have hlen : len ≤ 9223372036854775807 := by
    rcases h with ⟨_, rfl, _⟩ | ⟨x, _, hl, hm, _⟩
    · omega
    · unfold maxLen at hm; omega
  by_cases hl : 1048576 < len
  · go_enter Tryz.func11, Tryz.ntmps11
    go_wp2
    go_ret
    exact ⟨rfl, Below.refl _ _⟩
  · go_enter Tryz.func11, Tryz.ntmps11
    go_wp2_with fail
    refine (DrawHypotheses_any a len cap zs _ h (by omega)).mono ?_
    rintro e w1 ⟨m, v, ms, a1, am, cap1, cm, ⟨hsm, hrd, -, hb1⟩, hv, hst, hl24, hrm, rfl⟩
    have o1 := Own.new w1 [.slice a1 m.wheels.rotors.length cap1, .string m.wheels.refl, .string m.rings, .string m.plugs] 36
    have hba : Below w1.heap.size w1 (w1.alloc (.cells [.slice a1 m.wheels.rotors.length cap1, .string m.wheels.refl, .string m.rings, .string m.plugs].toArray 36)) := (Below.refl _ _).alloc (Nat.le_refl _) _
    have hbw1 := hb1.alloc hb1.size (.cells [.slice a1 m.wheels.rotors.length cap1, .string m.wheels.refl, .string m.rings, .string m.plugs].toArray 36)
    have A1 : LAt (w1.alloc (.cells [.slice a1 m.wheels.rotors.length cap1, .string m.wheels.refl, .string m.rings, .string m.plugs].toArray 36)) w1.heap.size a1 cap1 m am ms := ⟨o1, (hsm.at_ hrd).alloc_ _, (hrm.below hba (Nat.le_refl _)).more hba.size⟩
    have hsl := hst.smL
    clear hrd hb1 h hsm hrm hba o1
    go_wp2_with fail
    generalize (w1.alloc (.cells [.slice a1 m.wheels.rotors.length cap1, .string m.wheels.refl, .string m.rings, .string m.plugs].toArray 36)) = W1 at *
    generalize w1.heap.size = B1 at *
    have f0 := A1.box.at_ (i := 0) rfl
    have f1 := A1.box.at_ (i := 1) rfl
    have f2 := A1.box.at_ (i := 2) rfl
    have f3 := A1.box.at_ (i := 3) rfl
    refine (implHypotheses_any a1 cap1 m v am cm ms _ A1.mach (by omega) A1.menu hsl (by omega)).mono ?_
    rintro e w2 ⟨rfl, hb2⟩
    have A2 := A1.below hb2
    have hbw2 := bt hbw1 hb2
    clear A1 hbw1 hb2 f0 f1 f2 f3
    have f0 := A2.box.at_ (i := 0) rfl
    have f1 := A2.box.at_ (i := 1) rfl
    have f2 := A2.box.at_ (i := 2) rfl
    have f3 := A2.box.at_ (i := 3) rfl
    have nsp := fun W h1 h2 => specHypotheses_any a1 cap1 m v am cm ms W h1 (by omega) h2 (by omega)
    go_wp2_with fail
    refine (nsp _ A2.mach A2.menu).mono ?_
    rintro e w3 ⟨rfl, hb3⟩
    have A3 := A2.below hb3
    have hbw3 := bt hbw2 hb3
    clear A2 hbw2 hb3 f0 f1 f2 f3
    have f0 := A3.box.at_ (i := 0) rfl
    have f1 := A3.box.at_ (i := 1) rfl
    have f2 := A3.box.at_ (i := 2) rfl
    have f3 := A3.box.at_ (i := 3) rfl
    by_cases h2 : ms.length < 2
    · have t2 : decide ((ms.length : Int) < 2) = true := decide_eq_true (by omega)
      go_wp2_with fail
      refine (nsp _ A3.mach A3.menu).mono ?_
      rintro e w4 ⟨rfl, hb4⟩
      go_wp2
      go_ret
      exact ⟨rfl, bt hbw3 hb4⟩
    · have t2 : decide ((ms.length : Int) < 2) = false := decide_eq_false (by omega)
      clear nsp f0 f1 f2 f3
      obtain ⟨n, hn⟩ : ∃ n, n = ms.length - 1 := ⟨_, rfl⟩
      have hn1 : 1 ≤ n := by omega
      have hn2 : n ≤ ms.length := by omega
      have e1 : IntKind.i64.wrap ((ms.length : Int) - 1) = (n : Int) := by rw [IntWalk.i64_in _ (by omega)]; omega
      have q1 : (0 : Int) ≤ (n : Int) := by omega
      have q2 : (n : Int) ≤ (cm : Int) := by omega
      have hHF := Lib.hid (@hyp_fewer m v ms n hn1 hn2)
      have hcd : lks ms = lks (ms.take n) ++ lks (ms.drop n) := by rw [← lks_append, List.take_append_drop]
      have A3' : LAt w3 B1 a1 cap1 m am (ms.take n) := ⟨A3.box, A3.mach, by have := A3.menu; rw [hcd] at this; exact this.pre⟩
      have hln : (ms.take n).length = n := by rw [List.length_take]; omega
      have hsl2 : SmL (ms.take n) := fun x hx => hsl x (List.mem_of_mem_take hx)
      have nc1 := fun W h1 => implCentralLetter_any am cm (ms.take n) W h1 hsl2 (by omega)
      have nc2 := fun W h1 => implCentralLetter_any am cm ms W h1 hsl (by omega)
      have nh := fun W h1 h2 => implHypotheses_any a1 cap1 m v am cm (ms.take n) W h1 (by omega) h2 hsl2 (by omega)
      rw [hln] at nc1 nh
      clear hn hcd hln
      generalize ms.take n = fw at *
      obtain ⟨b, off, rfl, hbl', hcl⟩ := A3.menu.cells (by rw [len_lks]; omega)
      clear hbl' hcl
      go_wp2_with fail
      refine (nc1 _ A3'.menu).mono ?_
      rintro e w4 ⟨rfl, hb4⟩
      have A4 := A3.below hb4
      have A4' := A3'.below hb4
      have hbw4 := bt hbw3 hb4
      clear A3 A3' hbw3 hb4 nc1
      go_wp2_with fail
      refine (nc2 _ A4.menu).mono ?_
      rintro e w5 ⟨rfl, hb5⟩
      have A5 := A4'.below hb5
      have hbw5 := bt hbw4 hb5
      clear A4 A4' hbw4 hb5 nc2
      by_cases hce : cenT fw = cenT ms
      · have te : ((cenT fw).toList == (cenT ms).toList) = true := (Go.Lib.bytes_beq_iff _ _).2 hce
        obtain ⟨hf1, hf2⟩ := hHF.out hce
        have hT := (@boards_at m v ms).2.1
        have hF := (@boards_at m v fw).2.1
        have HF1 := Lib.hid hf1
        clear hce hHF hf1
        generalize hypT m v ms = T at *
        generalize hypT m v fw = F at *
        generalize cenT fw = x1 at *
        generalize cenT ms = x2 at *
        have f0 := A5.box.at_ (i := 0) rfl
        have f1 := A5.box.at_ (i := 1) rfl
        have f2 := A5.box.at_ (i := 2) rfl
        have f3 := A5.box.at_ (i := 3) rfl
        go_wp2_with fail
        refine (nh _ A5.mach A5.menu).mono ?_
        rintro e w6 ⟨rfl, hb6⟩
        have hbw6 := bt hbw5 hb6
        clear A5 hbw5 hb6 nh f0 f1 f2 f3 te
        go_wp2_with fail
        go_loopw [9] (fun i wr => ∃ k : Nat, k ≤ T.size ∧ i = .int .i64 k ∧ Below w.heap.size w wr) (fun i _ => T.size - (intOf i).toNat)
        case atStart => exact ⟨0, Nat.zero_le _, rfl, hbw6⟩
        case round =>
          clear hbw6
          obtain ⟨k, hk, rfl, hbw6⟩ := hrel
          by_cases hlt : k < T.size
          · have tk : decide ((k : Int) < (T.size : Int)) = true := decide_eq_true (by omega)
            obtain ⟨ch, hch⟩ : ∃ ch, T[k] = ch := ⟨_, rfl⟩
            have hix := HF1.out k hlt
            rw [hch] at hix
            have nf := fun W => rcFind_any F ch W (by omega)
            have tn : decide (Lib.indexByte (L F) ch < 0) = false := decide_eq_false (by omega)
            go_wp2_with fail
            refine (nf _).mono ?_
            rintro e w7 ⟨rfl, rfl⟩
            clear nf hch hix
            go_wp2_with fail
            go_roundw
            case rel => exact ⟨k + 1, by omega, by go_num, hbw6⟩
            case measure => simp [intOf]; omega
          · have tk : decide ((k : Int) < (T.size : Int)) = false := decide_eq_false (by omega)
            have t9 : decide (T.size ≤ F.size) = true := decide_eq_true hf2
            go_wp2
            go_ret
            exact ⟨rfl, hbw6⟩
      · have te : ((cenT fw).toList == (cenT ms).toList) = false := (Go.Lib.bytes_beq_false_iff _ _).2 hce
        clear hce hHF nh
        generalize cenT fw = x1 at *
        generalize cenT ms = x2 at *
        go_wp2
        go_ret
        exact ⟨rfl, hbw5⟩
end Go.Proofs.YtdmnkcmkpjmfaaaGreat
