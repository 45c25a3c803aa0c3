/- Contracts of pawls and step. -/
import Derived.Test.YtaplndmgbinhcaaGreatStep
import Derived.Laws.IdiomStrings
namespace Go.Proofs.YtaplndmgbinhcaaGreat
open Go.RowKit

/-- Three bools, of which those from k on are false. -/
def bl (f : Nat → Bool) (k : Nat) : List Value := [.bool (decide (0 < k) && f 0), .bool (decide (1 < k) && f 1), .bool (decide (2 < k) && f 2)]
theorem bl_len (f : Nat → Bool) (k : Nat) : (bl f k).length = 3 := rfl
theorem bl_one (f : Nat → Bool) (k : Nat) : ∀ u ∈ bl f k, u.oneCell' = true := by
  intro u hu
  simp [bl] at hu
  rcases hu with rfl | rfl | rfl <;> rfl
theorem bl_zero (f : Nat → Bool) : bl f 0 = [.bool false, .bool false, .bool false] := rfl
theorem bl_at (f : Nat → Bool) {k i : Nat} (hi : i < k) (h3 : i < 3) : (bl f k)[i]? = some (.bool (f i)) := by
  match i, h3 with
  | 0, _ => simp [bl, hi]
  | 1, _ => simp [bl, hi]
  | 2, _ => simp [bl, hi]
theorem bl_set (f : Nat → Bool) {k : Nat} (h3 : k < 3) : (bl f k).set k (.bool (f k)) = bl f (k + 1) := by
  match k, h3 with
  | 0, _ => simp [bl]
  | 1, _ => simp [bl]
  | 2, _ => simp [bl]
theorem mvB_of {x : Whl} {v : ByteArray} {k : Nat} (h : k + 1 < v.size) : mvB x v k = (atB x v (k + 1) || (decide (0 < k) && atB x v k)) := by
  have : decide (k + 1 = v.size) = false := by simp; omega
  simp [mvB, this]
theorem mvB_last {x : Whl} {v : ByteArray} {k : Nat} (h : k + 1 = v.size) : mvB x v k = true := by simp [mvB, h]
theorem atB_idx {x : Whl} {v : ByteArray} {k : Nat} (h : k < x.rotors.length) (hv : k < v.size) : atB x v k = decide (0 ≤ Lib.indexByte (L x.rotors[k].notches) v[k]) := by
  rw [← Lib.contains_iff_indexByte]; simp [atB, rotAt_get h, byteAt_get hv]

set_option maxRecDepth 100000 in
theorem pawls_any (a : Option Addr) (n c : Nat) (x : Whl) (v : ByteArray) (w : World) (h : WhlAt w w.heap.size a n x) (hf : FitB x v) :
    Calls Tryz.prog 39 #[.agg #[.slice a n c, .string x.refl], .string v] w fun e w' => e = .returned (.agg (bl (mvB x v) v.size).toArray) ∧ Below w.heap.size w w' := by
  have h1 := hf.one
  have h3 := hf.three
  have hsz := hf.size
  have hs1 : 1 ≤ v.size := by omega
  have hs3 : v.size ≤ 3 := by omega
  have hle : x.rotors.length ≤ v.size := by omega
  have hle' : v.size ≤ x.rotors.length := by omega
  clear hsz
  obtain ⟨b, off, rfl, hbl, hc⟩ := h.cells (by omega)
  have hn := h.len
  subst hn
  have o0 := fun o1 o2 o3 => (((Own.new w [.slice (some ⟨b, off, none⟩) x.rotors.length c, .string x.refl] 25).alloc o1).alloc o2).alloc o3
  have o1 := fun A o2 o3 => ((Own.new (w.alloc A) [.bool false, .bool false, .bool false] 58).alloc o2).alloc o3
  have o2 := fun A B o3 => (Own.new ((w.alloc A).alloc B) [.bool false, .bool false, .bool false] 58).alloc o3
  have o3 := fun A B C => Own.new (((w.alloc A).alloc B).alloc C) [.bool false, .bool false, .bool false] 58
  have hb0 := fun A B C D => ((((Below.refl w.heap.size w).alloc (Nat.le_refl _) A).alloc (by simp) B).alloc (by simp; omega) C).alloc (by simp; omega) D
  simp only [World.size_alloc] at o1 o2 o3
  go_enter Tryz.func39, Tryz.ntmps39
  go_wp2_with fail
  go_loopw [8, 15] (fun _ i wr => ∃ k : Nat, k ≤ v.size ∧ i = .int .i64 k ∧ Below w.heap.size w wr ∧ Own wr w.heap.size [.slice (some ⟨b, off, none⟩) x.rotors.length c, .string x.refl] ∧ Own wr (w.heap.size + 1) [.bool false, .bool false, .bool false] ∧ Own wr (w.heap.size + 1 + 1) (bl (atB x v) k) ∧ Own wr (w.heap.size + 1 + 1 + 1) [.bool false, .bool false, .bool false]) (fun _ i _ => v.size - (intOf i).toNat)
  case atStart => exact ⟨0, Nat.zero_le _, rfl, hb0 _ _ _ _, o0 _ _ _, o1 _ _ _, o2 _ _ _, o3 _ _ _⟩
  case round =>
    clear o0 o1 o2 o3 hb0
    obtain ⟨k, hk, rfl, hbel, o0, o1, o2, o3⟩ := hrel
    by_cases hlt : k < v.size
    · have hkr : k < x.rotors.length := by omega
      obtain ⟨-, f1⟩ := rot_cells (hc.below hbel hbl) hkr
      have c0 := o0.at_ (i := 0) rfl
      have hca := Lib.hid (atB_idx hkr hlt)
      obtain ⟨y, hy⟩ := o2.some_ (i := k) (by rw [bl_len]; omega)
      have hfr := o2.free k (by rw [bl_len]; omega)
      have q1 : (k : Int) < (v.size : Int) := by omega
      have q2 : (k : Int) < (x.rotors.length : Int) := by omega
      have q3 : (k : Int) < 3 := by omega
      go_wp2_with fail
      refine wp_region_tail 13 (by kernel_rfl) (by kernel_rfl) ?_
      simp only [List.take_succ_cons, List.take_zero, List.drop_succ_cons, List.drop_zero]
      repeat (first | go_big_quiet_skip | (go_big_quiet_want; go_big_quiet_op; first | go_big_quiet_on | (apply Exists.intro; refine ⟨?_, ?_⟩; (· (first | exact still_of (indexByte_any _ _ _))); go_big_quiet_on)))
      refine wpQuiet_nil ?_
      rw [← hca.out]
      go_wp2
      go_roundw
      case rel =>
        refine ⟨k + 1, by omega, by go_num, (hbel.setCell (by simp; omega) _).drew, (o0.far (by simp; omega) _).drew, (o1.far (by simp) _).drew, ?_, (o3.far (by simp) _).drew⟩
        rw [← bl_set (atB x v) (by omega)]
        exact (o2.set_ (by rw [bl_len]; omega) _).drew
      case measure => simp [intOf]; omega
    · have hk' : k = v.size := by omega
      subst hk'
      go_wp2_with fail
      have qq : (v.size : Int) - 1 = ((v.size - 1 : Nat) : Int) := by omega
      go_loopw [9, 33] (fun _ i wr => ∃ k : Nat, k ≤ v.size - 1 ∧ i = .int .i64 k ∧ Below w.heap.size w wr ∧ Own wr (w.heap.size + 1) [.bool false, .bool false, .bool false] ∧ Own wr (w.heap.size + 1 + 1) (bl (atB x v) v.size) ∧ Own wr (w.heap.size + 1 + 1 + 1) (bl (mvB x v) k)) (fun _ i _ => v.size - (intOf i).toNat)
      case atStart => exact ⟨0, Nat.zero_le _, rfl, hbel, o1, o2, o3⟩
      case round =>
        clear hbel o0 o1 o2 o3
        obtain ⟨k, hk, rfl, hbel, o1, o2, o3⟩ := hrel
        by_cases hlt : k + 1 < v.size
        · have q1 : (k : Int) < (v.size : Int) - 1 := by omega
          have q3 : (k : Int) + 1 < 3 := by omega
          have q4 : (k : Int) < 3 := by omega
          have f0 := o2.at_ (bl_at (atB x v) (show k < v.size by omega) (by omega))
          have f1 := o2.at_ (bl_at (atB x v) hlt (by omega))
          obtain ⟨y, hy⟩ := o3.some_ (i := k) (by rw [bl_len]; omega)
          have hfr := o3.free k (by rw [bl_len]; omega)
          have hmv := Lib.hid (mvB_of (x := x) hlt)
          have key : ∀ r : Bool, r = mvB x v k → Own (wr.setCell ⟨w.heap.size + 1 + 1 + 1, k, none⟩ (.bool r)) (w.heap.size + 1 + 1 + 1) (bl (mvB x v) (k + 1)) := fun r hr => by
            rw [← bl_set (mvB x v) (by omega), hr]
            exact o3.set_ (by rw [bl_len]; omega) _
          have KEY := Lib.hid key
          clear key
          clear qq
          cases e1 : atB x v (k + 1)
          · rw [e1] at f1
            cases e0 : atB x v k
            · rw [e0] at f0
              have HR := Lib.hid (show false = mvB x v k by rw [hmv.out, e1, e0]; simp)
              clear e0 e1
              go_wp2
              go_roundw
              case rel => exact ⟨k + 1, by omega, by go_num, hbel.setCell (by simp; omega) _, o1.far (by simp) _, o2.far (by simp) _, KEY.out _ HR.out⟩
              case measure => simp [intOf]; omega
            · rw [e0] at f0
              have HR := Lib.hid (show decide (0 < k) = mvB x v k by rw [hmv.out, e1, e0]; simp)
              clear e0 e1
              go_wp2
              go_roundw
              case rel => exact ⟨k + 1, by omega, by go_num, hbel.setCell (by simp; omega) _, o1.far (by simp) _, o2.far (by simp) _, KEY.out _ HR.out⟩
              case measure => simp [intOf]; omega
          · rw [e1] at f1
            have HR := Lib.hid (show true = mvB x v k by rw [hmv.out, e1]; simp)
            clear e1
            go_wp2
            go_roundw
            case rel => exact ⟨k + 1, by omega, by go_num, hbel.setCell (by simp; omega) _, o1.far (by simp) _, o2.far (by simp) _, KEY.out _ HR.out⟩
            case measure => simp [intOf]; omega
        · have hk' : k + 1 = v.size := by omega
          have HK := Lib.hid hk'
          have q4 : (k : Int) < 3 := by omega
          have qk : (v.size : Int) - 1 = (k : Int) := by omega
          clear hk' qq
          have o3' : Own (wr.setCell ⟨w.heap.size + 1 + 1 + 1, k, none⟩ (.bool true)) (w.heap.size + 1 + 1 + 1) (bl (mvB x v) (k + 1)) := by
            rw [← bl_set (mvB x v) (by omega), mvB_last HK.out]
            exact o3.set_ (by rw [bl_len]; omega) _
          have c0 := o3'.at_ (i := 0) rfl
          have c1 := o3'.at_ (i := 1) rfl
          have c2 := o3'.at_ (i := 2) rfl
          have o1' := o1.far (p := ⟨w.heap.size + 1 + 1 + 1, k, none⟩) (by simp) (.bool true)
          have d0 := o1'.at_ (i := 0) rfl
          have d1 := o1'.at_ (i := 1) rfl
          have d2 := o1'.at_ (i := 2) rfl
          have e0 := o1'.free 0 (by simp)
          have e1 := o1'.free 1 (by simp)
          have e2 := o1'.free 2 (by simp)
          obtain ⟨y, hy⟩ := o3.some_ (i := k) (by rw [bl_len]; omega)
          have hfr := o3.free k (by rw [bl_len]; omega)
          go_wp2_with fail
          have o5 := ((o1'.set_ (i := 0) (by simp) (.bool (mvB x v 0))).set_ (i := 1) (by simp) (.bool (decide (0 < k) && mvB x v 1))).set_ (i := 2) (by simp) (.bool (decide (2 < k + 1) && mvB x v 2))
          have hb5 := ((((hbel.setCell (p := ⟨w.heap.size + 1 + 1 + 1, k, none⟩) (by simp; omega) (.bool true)).setCell (p := ⟨w.heap.size + 1, 0, none⟩) (by simp) (.bool (mvB x v 0))).setCell (p := ⟨w.heap.size + 1, 1, none⟩) (by simp) (.bool (decide (0 < k) && mvB x v 1))).setCell (p := ⟨w.heap.size + 1, 2, none⟩) (by simp) (.bool (decide (2 < k + 1) && mvB x v 2)))
          refine bodyPost_ret (results_cell_own Tryz.results39 _ _ _ _ _ (by rfl) o5.cells Tryz.underlying58 rfl (by kernel_rfl)) rfl ?_
          refine ⟨?_, hb5⟩
          rw [← HK.out]
          simp [bl]

theorem letr_mod (n : Int) : letr (n % 10) = letr n := by
  apply UInt8.toNat.inj
  rw [letr_toNat, letr_toNat]; omega
theorem shifted_any (b : UInt8) (n : Int) (w : World) (h0 : 0 ≤ dig b) (h1 : dig b ≤ 9) (hn0 : 0 ≤ n) (hn : n ≤ 1000) :
    Calls Tryz.prog 23 #[.int .u8 (b.toNat : Int), .int .i64 n] w fun e w' => e = .returned (.int .u8 ((letr (dig b + n)).toNat : Int)) ∧ w = w' := by
  have hb : 97 ≤ b.toNat := by unfold dig at h0; omega
  have hl := Lib.hid (letr_mod (dig b + n))
  go_enter Tryz.func23, Tryz.ntmps23
  go_wp2_with (first | (go_at_call 27; ((with_reducible refine (implNumber_any _ _ hb).mono ?_); rintro e w' ⟨rfl, rfl⟩)) | (go_at_call 38; ((with_reducible refine (implLetter_any _ _ (by omega) (by omega)).mono ?_); rintro e w' ⟨rfl, rfl⟩)))
  go_ret
  exact ⟨ret_int (by rw [hl.out]), rfl⟩
/-- '[]byte(s)': a new row that holds the bytes. -/
theorem conv_bytes (w : World) (s : ByteArray) : ∃ cap w', (convert 9 22 (.string s)).run Tryz.prog w = .ok (.slice (some ⟨w.heap.size, 0, none⟩) s.size cap) w' ∧ Own w' w.heap.size (bv (L s)) ∧ Below w.heap.size w w' ∧ w'.heap.size = w.heap.size + 1 ∧ s.size ≤ cap := by
  refine ⟨_, _, run_bytes_of_string (P := Tryz.prog) w 9 22 5 s Tryz.underlying9 Tryz.underlying22 Tryz.underlying5, ?_, ((Below.refl _ _).drew).alloc (Nat.le_refl _) _, by simp, grownCap_ge _ _ _ _⟩
  generalize grownCap w s.size 0 5 = cap
  have hh : (w.drew.alloc (.cells (bytesRow s cap) 5 ((bytesRow s cap).size, (bytesRow s cap).size + 1))).heap[w.heap.size]? = some (.cells (bytesRow s cap) 5 ((bytesRow s cap).size, (bytesRow s cap).size + 1)) := by
    show (w.heap.push _)[w.heap.size]? = _
    simp
  have hsz : s.size ≤ (bytesRow s cap).size := by
    have h0 : s.data.size = s.size := rfl
    simp only [bytesRow, Array.size_append, Array.size_map]; omega
  refine ⟨by simp, fun i hi => ?_, fun i hi => ?_⟩
  · rw [length_bv, size_L] at hi
    rw [cell_of_row _ _ _ _ _ _ hh, bv_at (by rw [size_L]; exact hi)]
    have h1 : i < s.data.size := hi
    rw [bytesRow, Array.getElem?_append_left (by rw [Array.size_map]; exact h1), Array.getElem?_map, Array.getElem?_eq_getElem h1]
    simp [L]
  · rw [length_bv, size_L] at hi
    simp only [World.frozen?, hh]
    simp
    omega
theorem stepL_at {x : Whl} {v : ByteArray} {k : Nat} (h : k < v.size) : (L (stepW x v))[k]'(by rw [size_L, size_stepW]; exact h) = if mvB x v k then letr (dig v[k] + 1) else v[k] := by
  have := byteAt_stepW (w := x) h
  rw [byteAt_get (by rw [size_stepW]; exact h), byteAt_get h] at this
  exact this

set_option maxRecDepth 100000 in
theorem step_any (a : Option Addr) (n c : Nat) (x : Whl) (v : ByteArray) (w : World) (h : WhlAt w w.heap.size a n x) (hf : FitB x v) :
    Calls Tryz.prog 24 #[.agg #[.slice a n c, .string x.refl], .string v] w fun e w' => e = .returned (.string (stepW x v)) ∧ Below w.heap.size w w' := by
  have hs3 : v.size ≤ 3 := by rw [hf.size]; exact hf.three
  have o0 := Own.new w [.slice a n c, .string x.refl] 25
  have hb0 := (Below.refl w.heap.size w).alloc (Nat.le_refl _) (.cells [.slice a n c, .string x.refl].toArray 25)
  have h' := h.alloc_ (.cells [.slice a n c, .string x.refl].toArray 25)
  go_enter Tryz.func24, Tryz.ntmps24
  go_wp2_with fail
  refine (pawls_any _ _ _ _ _ _ h' hf).mono ?_
  rintro e w1 ⟨rfl, hb1⟩
  have hb : Below w.heap.size w w1 := bt hb0 hb1
  clear o0 hb0 hb1 h'
  obtain ⟨b0, b1, b2, hbl⟩ : ∃ b0 b1 b2, bl (mvB x v) v.size = [.bool b0, .bool b1, .bool b2] := ⟨_, _, _, rfl⟩
  have o2 := Own.new w1 (bl (mvB x v) v.size) 58
  have hb2 := hb.alloc hb.size (.cells (bl (mvB x v) v.size).toArray 58)
  have s2 : (w1.alloc (.cells (bl (mvB x v) v.size).toArray 58)).heap.size = w1.heap.size + 1 := by simp
  rw [hbl] at hb2 s2 ⊢
  rw [show (bl (mvB x v) v.size).toArray = [.bool b0, .bool b1, .bool b2].toArray by rw [hbl]] at o2
  have HBL := Lib.hid hbl
  clear hbl
  generalize hw2 : w1.alloc (.cells [.bool b0, .bool b1, .bool b2].toArray 58) = w2 at o2 hb2 s2
  obtain ⟨cap, w3, hcv, o3, hb3, s3, hcap⟩ := conv_bytes w2 v
  have o23 := o2.below hb3 (by omega)
  have hbw := bt hb2 hb3
  have hz := hb.size
  subst hw2
  rw [World.size_alloc] at o3 s3
  clear hb hb2 hb3 o2 s2
  go_wp2_with fail
  go_loopw [7, 15] (fun _ i wr => ∃ k : Nat, k ≤ v.size ∧ i = .int .i64 k ∧ Below w.heap.size w wr ∧ Own wr w1.heap.size (bl (mvB x v) v.size) ∧ Own wr (w1.heap.size + 1) (bv ((L (stepW x v)).take k ++ (L v).drop k))) (fun _ i _ => v.size - (intOf i).toNat)
  case atStart => exact ⟨0, Nat.zero_le _, rfl, hbw, o23, by simpa using o3⟩
  case round =>
    clear hbw o23 o3 hcv s3
    obtain ⟨k, hk, rfl, hbel, o2, o3⟩ := hrel
    have Hls := Lib.hid (show (L (stepW x v)).length = v.size by rw [size_L, size_stepW])
    have Hlv := Lib.hid (show (L v).length = v.size from size_L v)
    by_cases hlt : k < v.size
    · have f0 := o2.at_ (bl_at (mvB x v) hlt (by omega))
      have q1 : (k : Int) < (v.size : Int) := by omega
      have q3 : (k : Int) < 3 := by omega
      have hlen := Lib.hid (show (bv ((L (stepW x v)).take k ++ (L v).drop k)).length = v.size by rw [length_bv, fill_len (by rw [Hls.out, Hlv.out]) (by rw [Hls.out]; omega), Hls.out])
      have hfr := o3.free k (by rw [hlen.out]; omega)
      have hd := wordB_at hf.word k hlt
      have g0 : wr.cell? ⟨w1.heap.size + 1, k, none⟩ = some (.int .u8 (v[k].toNat : Int)) := by
        refine o3.at_ ?_
        have hl : ((L (stepW x v)).take k).length = k := by rw [List.length_take, Hls.out]; omega
        rw [bv_at (by have := hlen.out; rw [length_bv] at this; omega), List.getElem_append_right (by omega)]
        simp [hl, getElem_L]
      have hst := Lib.hid (stepL_at (x := x) hlt)
      have hfs := Lib.hid (fill_set (A := L (stepW x v)) (R := L v) (k := k) (by rw [Hls.out]; exact hlt) (by rw [Hls.out, Hlv.out]))
      cases hm : mvB x v k
      · rw [hm] at f0
        have he : (L (stepW x v)).take k ++ (L v).drop k = (L (stepW x v)).take (k + 1) ++ (L v).drop (k + 1) := by
          rw [← hfs.out, hst.out, hm]
          simp only [Bool.false_eq_true, if_false]
          have hl : ((L (stepW x v)).take k).length = k := by rw [List.length_take, Hls.out]; omega
          rw [List.set_append_right _ _ (by omega), hl, Nat.sub_self, List.drop_eq_getElem_cons (by rw [Hlv.out]; exact hlt)]
          rfl
        have HE := Lib.hid he
        clear hm he
        go_wp2
        go_roundw
        case rel => exact ⟨k + 1, by omega, by go_num, hbel, o2, by rw [← HE.out]; exact o3⟩
        case measure => simp [intOf]; omega
      · rw [hm] at f0
        have HS := Lib.hid (show (L (stepW x v))[k]'(by rw [Hls.out]; exact hlt) = letr (dig v[k] + 1) by rw [hst.out, hm]; rfl)
        clear hm
        go_wp2_with (go_at_call 23; ((with_reducible refine (shifted_any _ _ _ hd.1 hd.2 (by omega) (by omega)).mono ?_); rintro e w' ⟨rfl, rfl⟩))
        go_roundw
        case rel =>
          refine ⟨k + 1, by omega, by go_num, hbel.setCell (by simp; omega) _, o2.far (by simp) _, ?_⟩
          rw [← hfs.out, HS.out, ← bv_set]
          exact o3.set_ (by rw [hlen.out]; exact hlt) _
        case measure => simp [intOf]; omega
    · have hk' : k = v.size := by omega
      subst hk'
      rw [List.take_of_length_le (by rw [Hls.out]; omega), List.drop_eq_nil_of_le (by rw [Hlv.out]; omega), List.append_nil] at o3
      have hcv := o3.conv (P := Tryz.prog) 22 9 5 Tryz.underlying22 Tryz.underlying5 Tryz.underlying9 (n := v.size) Hls.out.symm cap
      rw [S_L] at hcv
      go_wp2
      go_ret
      exact ⟨rfl, hbel⟩
end Go.Proofs.YtaplndmgbinhcaaGreat
