/- Contracts of the functions that draw simple and wrong permutations, and plugboards. -/
import Derived.Test.YtaplndmgbinhcaaGreatDrawQ
namespace Go.Proofs.YtaplndmgbinhcaaGreat
open Go.RowKit

theorem l2Any_any (R : Nat) (c : Nat) (w : World) (h : Rd w R c) (hc : c ≤ 9000000) :
    Calls Tryz.prog 86 #[.pointer (some ⟨R, 0, none⟩)] w (StrP R Pm (c + 11) w) := by
  have hrev := fun W => specReverseWord_any (wd idP) W (word_wd (by rw [len_id]; omega))
  go_enter Tryz.func86, Tryz.ntmps86
  go_wp2_with fail
  refine (pick_any R _ c w h (by omega) (by omega) (by omega)).mono ?_
  rintro e w1 ⟨v, rfl, hv0, hv1, _, hr, hm⟩
  clear hv1
  by_cases e0 : v = 0
  · have t0 : (v == 0) = true := by simp [e0]
    clear e0
    go_wp2_with (go_at_call 83; ((with_reducible refine (specIdentityPerm_any _).mono ?_); rintro e w2 ⟨rfl, hb2⟩))
    go_ret
    exact ⟨wd idP, permB_wd isP_id, rfl, (hr.below hb2 hr.lt).more (by omega), hm.below hb2⟩
  · have t0 : (v == 0) = false := by simp [e0]
    by_cases e1 : v = 1
    · have t1 : (v == 1) = true := by simp [e1]
      clear e0 e1
      go_wp2_with fail
      refine (pick_any R _ _ _ hr (by omega) (by omega) (by omega)).mono ?_
      rintro e w2 ⟨u, rfl, hu0, hu1, _, hr2, hm2⟩
      obtain ⟨k, rfl⟩ := Int.eq_ofNat_of_zero_le hu0
      have hk : k < 10 := by have := hu1 (by omega); omega
      clear hu1 hu0
      go_wp2_with (go_at_call 99; ((with_reducible refine (l2Turn_any k _ hk).mono ?_); rintro e w3 ⟨rfl, hb3⟩))
      go_ret
      exact ⟨wd (rotP k), permB_wd (isP_rot k), rfl, (hr2.below hb3 hr2.lt).more (by omega), (hm.trans hm2).below hb3⟩
    · have t1 : (v == 1) = false := by simp [e1]
      by_cases e2 : v = 2
      · have t2 : (v == 2) = true := by simp [e2]
        clear e0 e1 e2
        go_wp2_with (first | (go_at_call 83; ((with_reducible refine (specIdentityPerm_any _).mono ?_); rintro e w2 ⟨rfl, hb2⟩)) | (go_at_call 100; ((with_reducible refine (hrev _).mono ?_); rintro e w' ⟨rfl, rfl⟩)))
        go_ret
        exact ⟨_, permB_rev, rfl, (hr.below hb2 hr.lt).more (by omega), hm.below hb2⟩
      · have t2 : (v == 2) = false := by simp [e2]
        clear e0 e1 e2
        go_wp2_with fail
        refine (l2Some_any R _ _ hr (by omega)).mono ?_
        rintro e w2 ⟨s, hs, rfl, hr2, hm2⟩
        have HS := Lib.hid hs
        clear hs
        go_wp2
        go_ret
        exact ⟨s, HS.out, rfl, hr2.more (by omega), hm.trans hm2⟩

/-- A string of at most n bytes. -/
def Sz (n : Nat) (s : ByteArray) : Prop := s.size ≤ n
set_option maxHeartbeats 400000 in
theorem l2Bad_any (R : Nat) (p : ByteArray) (c : Nat) (w : World) (h : Rd w R c) (hc : c ≤ 9000000) (h1 : 1 ≤ p.size) (hp : p.size ≤ 1000) :
    Calls Tryz.prog 90 #[.pointer (some ⟨R, 0, none⟩), .string p] w (StrP R (Sz 1001) (c + 3) w) := by
  go_enter Tryz.func90, Tryz.ntmps90
  go_wp2_with fail
  refine (pick_any R _ c w h (by omega) (by omega) (by omega)).mono ?_
  rintro e w1 ⟨v, rfl, hv0, hv1, _, hr, hm⟩
  obtain ⟨k, rfl⟩ := Int.eq_ofNat_of_zero_le hv0
  have hk : k < p.size := by have := hv1 (by omega); omega
  clear hv1 hv0
  have s2 := sl_to p k (by omega)
  have s3 := sl_next p k hk
  have z2 : (p.extract 0 k).size ≤ 1000 := by simp; omega
  have z3 : (p.extract (k + 1) p.size).size ≤ 1000 := by simp; omega
  have HZ := Lib.hid (show (p.extract 0 k).size + (p.extract (k + 1) p.size).size + 1 = p.size by simp; omega)
  generalize p.extract 0 k = pa at *
  generalize p.extract (k + 1) p.size = pb at *
  have hk1 : IntKind.i64.wrap ((k : Int) + 1) = (k : Int) + 1 := IntWalk.i64_in _ (by omega)
  have HK := Lib.hid hk1
  clear hk1
  go_wp2_with fail
  refine (pick_any R _ _ _ hr (by omega) (by omega) (by omega)).mono ?_
  rintro e w2 ⟨v, rfl, hv0, hv1, _, hr2, hm2⟩
  have hm12 := hm.trans hm2
  clear hv1 hr hm hm2
  by_cases e0 : v = 0
  · have t0 : (v == 0) = true := by simp [e0]
    clear e0
    go_upto_region 4 with fail
    go_cut [4] (fun x wx => ∃ s : ByteArray, s.size ≤ 1001 ∧ x = .string s ∧ Rd wx R (c + 3) ∧ Moved R w wx)
    case first =>
      have hk1 := HK.out
      go_region_held3 (fun _ => True) (trivial)
        (first | (go_at_call 44; refine (pick_any R _ _ _ hr2.drew (by omega) (by omega) (by omega)).mono ?_; rintro e w3 ⟨u, rfl, hu0, hu1, _, hr3, hm3⟩; clear hu1) | (go_at_call 36; refine (l1Letter_any _ _).mono ?_; rintro e w4 ⟨rfl, hb4⟩; have y1 : (S [letr u]).size ≤ 1 := (by rw [size_S]; simp); have y2 : ¬ 9223372036854775807 < pa.size + (S [letr u]).size := (by omega); have y3 : ¬ 9223372036854775807 < pa.size + (S [letr u]).size + pb.size := (by omega); have y4 : decide (9223372036854775807 < pa.size + (S [letr u]).size) = false := (by simpa using y2); have y5 : decide (9223372036854775807 < pa.size + (S [letr u]).size + pb.size) = false := (by simpa using y3)))
      all_goals go_wp2_with fail
      all_goals go_meet
      · refine ⟨_, ?_, rfl, (hr3.below hb4 hr3.lt), ((hm12.drew.trans hm3).below hb4)⟩
        have := HZ.out
        rw [ByteArray.size_append, ByteArray.size_append]; omega
    case rest =>
      obtain ⟨s, hs, rfl, hr4, hm4⟩ := hcut
      go_wp2
      go_ret
      exact ⟨s, hs, rfl, hr4, hm4⟩
  · have t0 : (v == 0) = false := by simp [e0]
    by_cases e1 : v = 1
    · have t1 : (v == 1) = true := by simp [e1]
      clear e0 e1
      go_wp2_with fail
      have hk1 := HK.out
      go_quiet (fail)
      clear hk1
      go_wp2
      go_ret
      refine ⟨_, ?_, rfl, (hr2.more (by omega)).keep fun _ _ => rfl, hm12.drewN _⟩
      have := HZ.out
      show ByteArray.size _ ≤ 1001
      rw [ByteArray.size_append]; omega
    · have t1 : (v == 1) = false := by simp [e1]
      by_cases e2 : v = 2
      · have t2 : (v == 2) = true := by simp [e2]
        clear e0 e1 e2
        go_wp2_with fail
        refine (of_any R _ _ _ [⟨#[97]⟩, ⟨#[107]⟩, ⟨#[32]⟩] (c + 1 + 1) _ rfl (Own.new _ _ _) (by simp) (by have := hr2.lt; simp; omega) (hr2.alloc _) (by omega) (by simp)).mono ?_
        rintro e w3 ⟨t, ht, rfl, hr3, hm3⟩
        have hts : t.size ≤ 1 := by
          simp at ht
          rcases ht with rfl | rfl | rfl <;> decide
        clear ht
        go_wp2
        go_ret
        refine ⟨p ++ t, ?_, rfl, hr3, hm12.trans ((Moved.refl _ _).alloc _ |>.trans hm3)⟩
        show ByteArray.size _ ≤ 1001
        rw [ByteArray.size_append]; omega
      · have t2 : (v == 2) = false := by simp [e2]
        clear e0 e1 e2
        go_wp2
        go_ret
        exact ⟨p, by show p.size ≤ 1001; omega, rfl, hr2.more (by omega), hm12⟩
end Go.Proofs.YtaplndmgbinhcaaGreat
