/- Contracts of the functions that draw permutations and plugboards. -/
import Derived.Test.YtaplndmgbinhcaaGreatDrawP
import Derived.Test.YtaplndmgbinhcaaGreatDrawM
import Derived.Test.YtaplndmgbinhcaaGreatPawls
namespace Go.Proofs.YtaplndmgbinhcaaGreat
open Go.RowKit

theorem shW_id (n : Nat) : shW (wd idP) (n : Int) = wd (rotP n) := by
  apply L_inj
  unfold shW
  rw [L_S, L_wd, L_wd, List.map_map, rotP, List.map_map, idP]
  apply List.map_congr_left
  intro i _
  simp only [Function.comp]
  rw [letr_eq, dig_letr]
  have : (((i + n) % 10 : Nat) : Int) = ((i : Int) + n) % 10 := by omega
  rw [this]; omega
theorem l2Turn_any (n : Nat) (w : World) (hn : n < 10) :
    Calls Tryz.prog 99 #[.int .i64 (n : Int)] w fun e w' => e = .returned (.string (wd (rotP n))) ∧ Below w.heap.size w w' := by
  have hsh := fun W => specShiftWord_any (wd idP) n W (word_wd (by rw [len_id]; omega)) (by omega) (by omega)
  rw [shW_id] at hsh
  go_enter Tryz.func99, Tryz.ntmps99
  go_wp2_with (first | (go_at_call 83; ((with_reducible refine (specIdentityPerm_any _).mono ?_); rintro e w1 ⟨rfl, hb1⟩)) | (go_at_call 89; ((with_reducible refine (hsh _).mono ?_); rintro e w2 ⟨rfl, hb2⟩)))
  go_ret
  exact ⟨rfl, bt hb1 hb2⟩

/-- How far a permutation has been drawn. -/
structure Drawn (out left : ByteArray) : Prop where
  wout : wordB out = true
  wleft : wordB left = true
  perm : (dg out ++ dg left).Perm idP
theorem Drawn.size {out left : ByteArray} (h : Drawn out left) : out.size + left.size = 10 := by
  have := h.perm.length_eq
  rw [List.length_append, len_dg, len_dg, len_id] at this
  exact this
theorem Drawn.start : Drawn ⟨#[]⟩ (wd idP) := ⟨Wd.nil.1, word_wd (by rw [len_id]; omega), by rw [dg_wd isP_id.lt]; exact List.Perm.refl _⟩
theorem word_app {a b : ByteArray} (ha : wordB a = true) (hb : wordB b = true) (hl : a.size + b.size ≤ 200) : wordB (a ++ b) = true := (Wd.app ⟨ha, rfl⟩ ⟨hb, rfl⟩ hl).1
theorem word_ext {s : ByteArray} (h : wordB s = true) (a b : Nat) (hb : b ≤ s.size) : wordB (s.extract a b) = true := (Wd.ext ⟨h, rfl⟩ a b hb).1
theorem Drawn.next {out left : ByteArray} (h : Drawn out left) {k : Nat} (hk : k < left.size) : Drawn (out ++ left.extract k (k + 1)) (left.extract 0 k ++ left.extract (k + 1) left.size) := by
  have hs := h.size
  refine ⟨word_app h.wout (word_ext h.wleft _ _ (by omega)) (by simp; omega), word_app (word_ext h.wleft _ _ (by omega)) (word_ext h.wleft _ _ (Nat.le_refl _)) (by simp; omega), ?_⟩
  rw [dg_append, dg_one hk, dg_but, List.append_assoc, List.singleton_append]
  exact (List.Perm.append_left _ (perm_take (by rw [len_dg]; exact hk))).trans h.perm
theorem Drawn.last {out left : ByteArray} (h : Drawn out left) (h0 : left.size = 0) : permB out = true := by
  refine permB_of h.wout ?_
  have := h.perm
  have e : dg left = [] := List.eq_nil_of_length_eq_zero (by rw [len_dg]; exact h0)
  rwa [e, List.append_nil] at this
/-- A permutation. -/
def Pm (s : ByteArray) : Prop := permB s = true
theorem l2Some_any (R : Nat) (c : Nat) (w : World) (h : Rd w R c) (hc : c ≤ 10000000) :
    Calls Tryz.prog 85 #[.pointer (some ⟨R, 0, none⟩)] w (StrP R Pm (c + 10) w) := by
  go_enter Tryz.func85, Tryz.ntmps85
  go_wp2_with (go_at_call 83; ((with_reducible refine (specIdentityPerm_any _).mono ?_); rintro e w1 ⟨rfl, hb1⟩))
  go_loopw [3, 4, 5] (fun l o _ wr => ∃ (left out : ByteArray), l = .string left ∧ o = .string out ∧ Drawn out left ∧ Rd wr R (c + out.size) ∧ Moved R w wr) (fun l _ _ _ => match l with | .string t => t.size | _ => 0)
  case atStart => exact ⟨wd idP, ⟨#[]⟩, rfl, rfl, Drawn.start, h.below hb1 h.lt, (Moved.refl R w).below hb1⟩
  case round =>
    clear hb1 h
    obtain ⟨left, out, rfl, rfl, hd, hr, hm⟩ := hrel
    have hs := hd.size
    have HS := Lib.hid hs
    have hs1 : left.size ≤ 10 := by omega
    have hs2 : out.size ≤ 10 := by omega
    clear hs
    by_cases hlt : 0 < left.size
    · go_wp2_with fail
      refine (pick_any R _ _ _ hr (by omega) (by omega) (by omega)).mono ?_
      rintro e w2 ⟨v, rfl, hv0, hv1, _, hr2, hm2⟩
      obtain ⟨k, rfl⟩ := Int.eq_ofNat_of_zero_le hv0
      have hk : k < left.size := by have := hv1 (by omega); omega
      clear hv1 hv0
      have HN := Lib.hid (hd.next hk)
      have s1 := sl_one left k hk
      have s2 := sl_to left k (by omega)
      have s3 := sl_next left k hk
      have z1 : (left.extract k (k + 1)).size ≤ 1 := by simp; omega
      have z2 : (left.extract 0 k).size ≤ 10 := by simp; omega
      have z3 : (left.extract (k + 1) left.size).size ≤ 10 := by simp; omega
      have HZ := Lib.hid (show (out ++ left.extract k (k + 1)).size = out.size + 1 by rw [ByteArray.size_append]; simp; omega)
      have HY := Lib.hid (show (left.extract 0 k ++ left.extract (k + 1) left.size).size + 1 = left.size by rw [ByteArray.size_append]; simp; omega)
      go_wp2_with fail
      go_quiet (fail)
      go_wp2
      go_roundw
      case rel => exact ⟨_, _, rfl, rfl, HN.out, (hr2.more (by rw [HZ.out]; omega)).keep fun _ _ => rfl, (hm.trans hm2).drewN _⟩
      case measure => have := HY.out; simp only; omega
    · have HP := Lib.hid (hd.last (by omega))
      go_wp2
      go_ret
      exact ⟨out, HP.out, rfl, hr.more (by omega), hm⟩
end Go.Proofs.YtaplndmgbinhcaaGreat
