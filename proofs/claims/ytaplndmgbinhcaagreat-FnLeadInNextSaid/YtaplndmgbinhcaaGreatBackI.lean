/- The contract of the program's StepsBack. -/
import Derived.Test.YtaplndmgbinhcaaGreatBackV
namespace Go.Proofs.YtaplndmgbinhcaaGreat
open Go.RowKit

theorem bit_of (k j : Nat) (hk : k < 4611686018427387904) : (bits .and .i64 ((k : Int) / 2 ^ j) 1 == 1) = k.testBit j := by
  have e : ((k : Int) / 2 ^ j) = ((k / 2 ^ j : Nat) : Int) := by simp
  have hle : k / 2 ^ j ≤ k := Nat.div_le_self _ _
  rw [e, show (1 : Int) = ((1 : Nat) : Int) from rfl, i64_and_nat _ _ (by omega) (by omega), Nat.and_one_is_mod, Nat.testBit_eq_decide_div_mod_eq]
  rw [Bool.eq_iff_iff]; simp; omega
theorem befL_at {v : ByteArray} {m k : Nat} (h : k < v.size) : (L (befW v m))[k]'(by rw [size_L, size_befW]; exact h) = if k + 1 = v.size ∨ m.testBit k = true then letr (dig v[k] + 9) else v[k] := by
  have := byteAt_befW (m := m) h
  rw [byteAt_get (by rw [size_befW]; exact h), byteAt_get h] at this
  exact this

set_option maxHeartbeats 1000000 in
theorem implStepsBack_any (a : Option Addr) (n c : Nat) (x : Whl) (v : ByteArray) (w : World) (h : WhlAt w w.heap.size a n x) (hvs : v.size ≤ 4294967296) :
    Calls Tryz.prog 9 #[.agg #[.slice a n c, .string x.refl], .string v] w (StrsPost (backS x v) w) := by
  have o0 := Own.new w [.slice a n c, .string x.refl] 25
  have hb0 := (Below.refl w.heap.size w).alloc (Nat.le_refl _) (.cells [.slice a n c, .string x.refl].toArray 25)
  have h' := h.alloc_ (.cells [.slice a n c, .string x.refl].toArray 25)
  have hc := windowsValid_any a n c x v _ h' hvs
  cases hf : fitB x v with
  | false =>
    have hst : backS x v = [] := by simp [backS, hf]
    rw [hf] at hc
    rw [hst]
    go_enter Tryz.func9, Tryz.ntmps9
    go_wp2_with fail
    refine hc.mono ?_
    rintro e w1 ⟨rfl, hb1⟩
    go_wp2
    go_ret
    exact ⟨_, rfl, World.ownsRow_nil _ _ _ _, bt hb0 hb1⟩
  | true =>
    have hF := fitB_iff.1 hf
    have h3 : v.size ≤ 3 := by rw [hF.size]; exact hF.three
    have h1 : 1 ≤ v.size := by rw [hF.size]; exact hF.one
    have hst := Lib.hid (show backS x v = backTo x v (10 ^ v.size) by simp [backS, hf])
    have hsort := Lib.hid (sort_back hF)
    have hpl : 2 ^ (v.size - 1) ≤ 4 := Nat.pow_le_pow_right (n := 2) (by omega) (show v.size - 1 ≤ 2 by omega)
    rw [hf] at hc
    go_enter Tryz.func9, Tryz.ntmps9
    go_wp2_with fail
    refine hc.mono ?_
    rintro e w1 ⟨rfl, hb1⟩
    have o1 := o0.below hb1 o0.lt
    have hbw := bt hb0 hb1
    clear hb0 hb1 hc o0 h' hf
    go_wp2_with fail
    obtain ⟨M, hM⟩ : ∃ M : Nat, M = 2 ^ (v.size - 1) := ⟨_, rfl⟩
    have hwr : wrap64 ((2 : Int) ^ (v.size - 1)) = (M : Int) := by
      have e : ((2 : Int) ^ (v.size - 1)) = (M : Int) := by rw [hM]; simp
      rw [e]; exact IntWalk.wrap64_in _ ⟨by omega, by omega⟩
    rw [hwr]
    rw [← hM] at hsort hpl
    have HM := Lib.hid hM
    clear hwr hM
    go_loopw [5, 6, 7, 8, 17] (fun l _ _ _ i wr => ∃ k : Nat, k ≤ M ∧ i = .int .i64 k ∧ OwR wr (w.heap.size + 1) 9 1 l (befTo x v k).length (sv (befTo x v k)) ∧ Own wr w.heap.size [.slice a n c, .string x.refl] ∧ Below w.heap.size w wr) (fun _ _ _ _ i _ => M - (intOf i).toNat)
    case atStart => exact ⟨0, Nat.zero_le _, rfl, World.ownsRow_nil _ _ _ _, o1, hbw⟩
    case round =>
      clear hbw o1
      obtain ⟨k, hk, rfl, hown, o1, hb⟩ := hrel
      have hln := befTo_len x v k
      by_cases hlt : k < M
      · obtain ⟨cap, w3, hcv, o3, hb3, s3, hcap⟩ := conv_bytes wr v
        have o1' := o1.below hb3 o1.lt
        have hown' := OwR.below hown hb3 (Nat.le_refl _)
        have hb' := bt hb hb3
        have hz : w.heap.size + 1 ≤ wr.heap.size := o1.lt
        have hGb : u5.ownBlock ≠ some wr.heap.size := fun e => by have := (World.ownsRow.lt hown _ e).2; omega
        clear hb3 o1 hown hb
        go_wp2_with fail
        clear hcv
        generalize hG : wr.heap.size = G at *
        have HG := Lib.hid hG
        clear hG
        have Hls := Lib.hid (show (L (befW v k)).length = v.size by rw [size_L, size_befW])
        have Hlv := Lib.hid (show (L v).length = v.size from size_L v)
        go_loopw [8, 24] (fun _ i wq => ∃ j : Nat, j ≤ v.size ∧ i = .int .i64 j ∧ Own wq G (bv ((L (befW v k)).take j ++ (L v).drop j)) ∧ OwR wq (w.heap.size + 1) 9 1 u5 (befTo x v k).length (sv (befTo x v k)) ∧ Own wq w.heap.size [.slice a n c, .string x.refl] ∧ Below w.heap.size w wq) (fun _ i _ => v.size - (intOf i).toNat)
        case atStart => exact ⟨0, Nat.zero_le _, rfl, by simpa using o3, hown', o1', hb'⟩
        case round =>
          clear o3 o1' hown' hb' s3
          obtain ⟨j, hj, rfl, o3, hown, o1, hb⟩ := hrel
          by_cases hjl : j < v.size
          · have hlen := Lib.hid (show (bv ((L (befW v k)).take j ++ (L v).drop j)).length = v.size by rw [length_bv, fill_len (by rw [Hls.out, Hlv.out]) (by rw [Hls.out]; omega), Hls.out])
            have hfr := o3.free j (by rw [hlen.out]; omega)
            have hd := wordB_at hF.word j hjl
            have q1 : (j : Int) < (v.size : Int) := by omega
            have g0 : wr.cell? ⟨G, j, none⟩ = some (.int .u8 (v[j].toNat : Int)) := by
              refine o3.at_ ?_
              have hl : ((L (befW v k)).take j).length = j := by rw [List.length_take, Hls.out]; omega
              rw [bv_at (by have := hlen.out; rw [length_bv] at this; omega), List.getElem_append_right (by omega)]
              simp [hl, getElem_L]
            have hat := Lib.hid (befL_at (v := v) (m := k) hjl)
            have hfs := Lib.hid (fill_set (A := L (befW v k)) (R := L v) (k := j) (by rw [Hls.out]; exact hjl) (by rw [Hls.out, Hlv.out]))
            have hbit := bit_of k j (by omega)
            have fin : (j + 1 = v.size ∨ k.testBit j = true) → Hid (Own (wr.setCell ⟨G, j, none⟩ (.int .u8 ((letr (dig v[j] + 9)).toNat : Int))) G (bv ((L (befW v k)).take (j + 1) ++ (L v).drop (j + 1)))) := fun hc => by
              show Own _ _ _
              rw [← hfs.out, hat.out, if_pos hc, ← bv_set]
              exact o3.set_ (by rw [hlen.out]; exact hjl) _
            by_cases hl : j + 1 = v.size
            · have t1 : ((j : Int) == (v.size : Int) - 1) = true := by rw [beq_iff_eq]; omega
              have FIN := fin (.inl hl)
              clear fin hl hbit
              go_wp2_with (go_at_call 23; ((with_reducible refine (shifted_any _ _ _ hd.1 hd.2 (by omega) (by omega)).mono ?_); rintro e w' ⟨rfl, rfl⟩))
              go_roundw
              case rel => exact ⟨j + 1, by omega, by go_num, FIN.out, OwR.off hown hGb _, o1.far (by simp; omega) _, hb.setCell (by simp; omega) _⟩
              case measure => simp [intOf]; omega
            · have t1 : ((j : Int) == (v.size : Int) - 1) = false := by rw [beq_eq_false_iff_ne]; omega
              cases hbv : k.testBit j
              · rw [hbv] at hbit
                have he : (L (befW v k)).take j ++ (L v).drop j = (L (befW v k)).take (j + 1) ++ (L v).drop (j + 1) := by
                  rw [← hfs.out, hat.out, if_neg (by simp [hl, hbv])]
                  have hl : ((L (befW v k)).take j).length = j := by rw [List.length_take, Hls.out]; omega
                  rw [List.set_append_right _ _ (by omega), hl, Nat.sub_self, List.drop_eq_getElem_cons (by rw [Hlv.out]; exact hjl)]
                  rfl
                have HE := Lib.hid he
                clear fin hl hbv he
                go_wp2
                go_roundw
                case rel => exact ⟨j + 1, by omega, by go_num, by rw [← HE.out]; exact o3, hown, o1, hb⟩
                case measure => simp [intOf]; omega
              · rw [hbv] at hbit
                have FIN := fin (.inr hbv)
                clear fin hl hbv
                go_wp2_with (go_at_call 23; ((with_reducible refine (shifted_any _ _ _ hd.1 hd.2 (by omega) (by omega)).mono ?_); rintro e w' ⟨rfl, rfl⟩))
                go_roundw
                case rel => exact ⟨j + 1, by omega, by go_num, FIN.out, OwR.off hown hGb _, o1.far (by simp; omega) _, hb.setCell (by simp; omega) _⟩
                case measure => simp [intOf]; omega
          · have hj' : j = v.size := by omega
            subst hj'
            have HGB := Lib.hid hGb
            rw [List.take_of_length_le (by rw [Hls.out]; omega), List.drop_eq_nil_of_le (by rw [Hlv.out]; omega), List.append_nil] at o3
            have hcv := fun W (hW : Own W G (bv (L (befW v k)))) => (Own.conv (P := Tryz.prog) (w := W) (l := L (befW v k)) hW 22 9 5 Tryz.underlying22 Tryz.underlying5 Tryz.underlying9 (n := v.size) Hls.out.symm cap)
            rw [S_L] at hcv
            have hcv1 := hcv _ o3
            have c0 := o1.at_ (i := 0) rfl
            have c1 := o1.at_ (i := 1) rfl
            have hW1 : WhlAt wr wr.heap.size a n x := (h.below hb (Nat.le_refl _)).more hb.size
            have hFu : FitB x (befW v k) := ⟨hF.one, hF.three, hF.rot, hF.refl, by rw [size_befW]; exact hF.size, word_befW hF.word k⟩
            have hyes := Lib.hid (befTo_yes (x := x) (v := v) (k := k))
            have hno := Lib.hid (befTo_no (x := x) (v := v) (k := k))
            have hus : (befW v k).size ≤ 3 := by rw [size_befW]; exact h3
            have hst7 := step_any a n c x (befW v k) wr hW1 hFu
            clear hGb
            generalize hGe : befW v k = u at *
            generalize hN : (befTo x v k).length = N at *
            go_wp2_with fail
            refine hst7.mono ?_
            rintro e w2 ⟨rfl, hb2⟩
            have o3' := o3.below hb2 o3.lt
            have o1' := o1.below hb2 o1.lt
            have hown' := OwR.below hown hb2 (Nat.le_refl _)
            have hb' := bt hb hb2
            have hcv2 := hcv _ o3'
            have hlt2 := o1'.lt
            clear hcv1 c0 c1 hW1 hst7 o3 o1 hown hb hb2 hcv
            by_cases he : stepW x u = v
            · have te : ((stepW x u).toList == v.toList) = true := by rw [he]; simp
              have HY := Lib.hid (hyes.out he)
              clear he
              go_wp2_with (at_builtin; ((with_reducible refine wl_push 30 9 inf_str Tryz.underlying30 rfl (by omega) hown' (by omega) rfl (by simp [Value.oneCell']) (by omega) (by omega) rfl rfl ?_); intro g cap w4 o4 b4 s4))
              go_roundw
              case rel =>
                refine ⟨k + 1, by omega, by go_num, ?_, o1'.below b4 (by omega), hb'.trans (b4.mono (by omega))⟩
                rw [HY.out, List.length_append, hN, sv_append]; exact o4
              case measure => simp [intOf]; omega
            · have te : ((stepW x u).toList == v.toList) = false := by
                rw [toList_L, toList_L, beq_eq_false_iff_ne]
                exact fun h => he (L_inj h)
              have HY := Lib.hid (hno.out he)
              clear he
              go_wp2
              go_roundw
              case rel =>
                refine ⟨k + 1, by omega, by go_num, ?_, o1', hb'⟩
                rw [HY.out, hN]; exact hown'
              case measure => simp [intOf]; omega
      · have hk' : k = M := by omega
        subst hk'
        have hlt2 := o1.lt
        have hso := fun W hW => slicesSort_any u5 (befTo x v k) (w.heap.size + 1) W hW (by omega)
        have hsq : sortS (befTo x v k) = backTo x v (10 ^ v.size) := by
          unfold sortS
          rw [hsort.out, List.map_map]
          conv => rhs; rw [← List.map_id (backTo x v (10 ^ v.size))]
          exact List.map_congr_left fun s _ => S_L s
        have HSQ := Lib.hid hsq
        have hle : Hid ((befTo x v k).length = (backTo x v (10 ^ v.size)).length) := by show _ = _; rw [← hsq, len_sortS]
        clear hsq
        go_wp2_with fail
        refine (hso _ hown).mono ?_
        rintro e w2 ⟨rfl, hown2, hb2⟩
        go_wp2
        go_ret
        refine ⟨_, rfl, ?_, hb.trans (hb2.mono (by omega))⟩
        rw [hst.out, ← hle.out, ← HSQ.out]
        exact World.ownsRow.mono hown2 (by omega)
end Go.Proofs.YtaplndmgbinhcaaGreat
