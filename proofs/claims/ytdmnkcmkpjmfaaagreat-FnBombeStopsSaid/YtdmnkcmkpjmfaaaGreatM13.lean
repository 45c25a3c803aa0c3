/- Several of my texts in one: MenuS, PlugsW, MenuT, DrawO. -/
import Derived.Test.YtdmnkcmkpjmfaaaGreatM12
import Derived.Test.YtdmnkcmkpjmfaaaGreatM10
import Derived.Test.YtdmnkcmkpjmfaaaGreatM11
import Derived.Test.YtdmnkcmkpjmfaaaGreatM9
import Derived.Test.YtdmnkcmkpjmfaaaGreatM5
/- Valid menus, of the reference. -/
namespace Go.Proofs.YtdmnkcmkpjmfaaaGreat
open Go.RowKit

/-- Whether a string is one letter. -/
def is1 (s : ByteArray) : Bool := decide (s.size = 1) && (L s).all isL
theorem is1_size {s : ByteArray} (h : is1 s = true) : s.size = 1 := by simp only [is1, Bool.and_eq_true, decide_eq_true_eq] at h; exact h.1
theorem is1_all {s : ByteArray} (h : is1 s = true) : ∀ c ∈ L s, isL c = true := by simp only [is1, Bool.and_eq_true, List.all_eq_true] at h; exact h.2
theorem is1_of {s : ByteArray} (h1 : s.size = 1) (h2 : ∀ c ∈ L s, isL c = true) : is1 s = true := by
  simp only [is1, Bool.and_eq_true, decide_eq_true_eq, List.all_eq_true]; exact ⟨h1, h2⟩
theorem is1_word {a b : ByteArray} (ha : is1 a = true) (hb : is1 b = true) : wordB (a ++ b) = true := by
  have h1 := is1_size ha
  have h2 := is1_size hb
  simp only [wordB, Bool.and_eq_true, decide_eq_true_eq, List.all_eq_true, L_append, List.mem_append]
  refine ⟨by rw [ByteArray.size_append]; omega, ?_⟩
  rintro c (hc | hc)
  · exact is1_all ha c hc
  · exact is1_all hb c hc
theorem l1Is_any (s : ByteArray) (w : World) : Calls Tryz.prog 149 #[.string s] w fun e w' => e = .returned (.bool (is1 s)) ∧ w = w' := by
  by_cases h1 : s.size = 1
  · have h0 : 0 < s.size := by omega
    have t0 : ((s.size : Int) == 1) = true := by rw [beq_iff_eq]; omega
    have q1 : (0 : Int) < (s.size : Int) := by omega
    have hv : is1 s = (decide (97 ≤ (s[0]).toNat) && decide ((s[0]).toNat < 107)) := by
      have hL : L s = [s[0]] := by
        refine List.ext_getElem (by rw [size_L]; simpa using h1) fun i hi1 hi2 => ?_
        have : i = 0 := by simp at hi2; omega
        subst this
        rw [← getElem_L]; rfl
      unfold is1
      rw [decide_eq_true h1, hL]
      simp only [List.all_cons, List.all_nil, Bool.and_true, Bool.true_and]
      rw [Bool.eq_iff_iff, isL_iff, Bool.and_eq_true, decide_eq_true_eq, decide_eq_true_eq]
      unfold dig
      omega
    have HV := Lib.hid hv
    clear hv h1
    generalize hb : s[0] = b at *
    have hbl := byte_lt b
    by_cases g1 : 97 ≤ b.toNat
    · have t1 : decide ((97 : Int) ≤ (b.toNat : Int)) = true := decide_eq_true (by omega)
      by_cases g2 : b.toNat < 107
      · have t2 : decide ((b.toNat : Int) < 107) = true := decide_eq_true (by omega)
        go_enter Tryz.func149, Tryz.ntmps149
        go_wp2
        go_ret
        exact ⟨ret_bool (by rw [HV.out, decide_eq_true g1, decide_eq_true g2]; simp), rfl⟩
      · have t2 : decide ((b.toNat : Int) < 107) = false := decide_eq_false (by omega)
        go_enter Tryz.func149, Tryz.ntmps149
        go_wp2
        go_ret
        exact ⟨ret_bool (by rw [HV.out, decide_eq_true g1, decide_eq_false g2]; simp), rfl⟩
    · have t1 : decide ((97 : Int) ≤ (b.toNat : Int)) = false := decide_eq_false (by omega)
      go_enter Tryz.func149, Tryz.ntmps149
      go_wp2
      go_ret
      exact ⟨ret_bool (by rw [HV.out, decide_eq_false g1]; simp), rfl⟩
  · have t0 : ((s.size : Int) == 1) = false := by rw [beq_eq_false_iff_ne]; omega
    have HV : Hid (is1 s = false) := by show _ = _; simp [is1, h1]
    clear h1
    go_enter Tryz.func149, Tryz.ntmps149
    go_wp2
    go_ret
    exact ⟨ret_bool HV.out.symm, rfl⟩
set_option maxRecDepth 100000 in
set_option maxHeartbeats 2000000 in
theorem specMenuValid_any (am : Option Addr) (cm : Nat) (ms : List Lnk) (w : World) (hr : Reads w w.heap.size am (lks ms)) (hl : ms.length ≤ 4294967296) :
    Calls Tryz.prog 118 #[.slice am ms.length cm] w fun e w' => e = .returned (.bool (menuB ms)) ∧ Below w.heap.size w w' := by
  have HB : Hid (okFrom 0 ms = okFrom 0 (ms.drop 0)) := by show _ = _; simp
  have HR := Lib.hid (fun (wr : World) (hb : Below w.heap.size w wr) => hr.below hb (Nat.le_refl _))
  clear hr
  go_enter Tryz.func118, Tryz.ntmps118
  go_wp2
  go_loopw [3, 4] (fun i _ wr => ∃ (k : Nat) (y : Int), k ≤ ms.length ∧ i = .int .i64 k ∧ 0 ≤ y ∧ (k = 0 → y = 0) ∧ (∀ h : 0 < k ∧ k ≤ ms.length, (ms[k - 1]'(by omega)).k = y) ∧ okFrom 0 ms = okFrom y (ms.drop k) ∧ Below w.heap.size w wr) (fun i _ _ => ms.length - (intOf i).toNat)
  case atStart => exact ⟨0, 0, Nat.zero_le _, rfl, by omega, fun _ => rfl, fun h => absurd h.1 (by omega), HB.out, Below.refl _ _⟩
  case round =>
    obtain ⟨k, y, hk, rfl, hy1, hy0, hyp0, hyo, hb⟩ := hrel
    have HY := Lib.hid hyo
    clear hyo
    by_cases hlt : k < ms.length
    · have hyp := fun (h : 0 < k) => hyp0 ⟨h, hk⟩
      obtain ⟨b, off, rfl, hbl, hcl⟩ := (HR.out wr hb).open_ (by rw [len_lks]; omega)
      have c0 := hcl (k * 3) (by rw [len_lks]; omega)
      have c1 := hcl (k * 3 + 1) (by rw [len_lks]; omega)
      have c2 := hcl (k * 3 + 2) (by rw [len_lks]; omega)
      rw [lks_at0 _ _ hlt] at c0
      rw [lks_at1 _ _ hlt, ← Nat.add_assoc] at c1
      rw [lks_at2 _ _ hlt, ← Nat.add_assoc] at c2
      have q1 : (0 : Int) ≤ (k : Int) := by omega
      have q2 : (k : Int) < (ms.length : Int) := by omega
      have hyk := HY.out
      rw [okFrom_drop hlt] at hyk
      have HPK0 : Hid (ms[k].k = ms[k].k) := Lib.hid rfl
      have hz := hb.size
      have HN : Hid (∀ h : okLnk ms[k] y = false, menuB ms = false) := Lib.hid (fun h => by unfold menuB; rw [hyk, h]; simp)
      have HO : Hid (∀ h : okLnk ms[k] y = true, okFrom 0 ms = okFrom ms[k].k (ms.drop (k + 1))) := Lib.hid (fun h => by rw [hyk, h]; rfl)
      obtain ⟨x, hx⟩ : ∃ x, x = ms[k] := ⟨_, rfl⟩
      rw [← hx] at c0 c1 c2 HN HO
      have HPK1 : Hid (∀ h : 0 < k + 1 ∧ k + 1 ≤ ms.length, (ms[k + 1 - 1]'(by omega)).k = x.k) := Lib.hid (fun h => by rw [hx]; rfl)
      clear hyk hx HPK0
      obtain ⟨xp, xc, xk⟩ := x
      simp only at c0 c1 c2
      have HPK : Hid ((ms[k + 1 - 1]'(by omega)).k = xk) := Lib.hid (HPK1.out ⟨by omega, by omega⟩)
      clear HPK1
      have x0 := Own.new wr [.string xp, .string xc, .int .i64 xk] 72
      have hb1 := hb.alloc hz (.cells [.string xp, .string xc, .int .i64 xk].toArray 72)
      have n1 := fun W => l1Is_any xp W
      have n2 := fun W => l1Is_any xc W
      have n3 := fun W => l1In_any xk 1 60 W
      go_wp2_with fail
      have hcw : ∀ p : Addr, p.block < wr.heap.size → (wr.alloc (.cells [.string xp, .string xc, .int .i64 xk].toArray 72)).cell? p = wr.cell? p := fun p hp => World.cell?_of_block (w := wr) (Below.heap_alloc wr _ p.block hp)
      have hzw : wr.heap.size < (wr.alloc (.cells [.string xp, .string xc, .int .i64 xk].toArray 72)).heap.size := by simp
      generalize hW5 : (wr.alloc (.cells [.string xp, .string xc, .int .i64 xk].toArray 72)) = W5 at *
      clear hW5
      have lx := x0.lt
      have d0 := fun (cc : Cls W5.heap.size W5) => (cc.cell wr.heap.size 0 lx).trans (x0.at_ (i := 0) rfl)
      have d1 := fun (cc : Cls W5.heap.size W5) => (cc.cell wr.heap.size 1 lx).trans (x0.at_ (i := 1) rfl)
      have d2 := fun (cc : Cls W5.heap.size W5) => (cc.cell wr.heap.size 2 lx).trans (x0.at_ (i := 2) rfl)
      clear c0 c1 c2
      cases hp1 : is1 xp with
      | false =>
        rw [hp1] at n1
        have HP := Lib.hid hp1
        clear hp1
        have HM := Lib.hid (HN.out (by rw [Bool.eq_false_iff]; intro e; have e1 := okLnk_iff.1 e; simp only at e1; have h1 := is1_of e1.1 (word_two e1.2.2.1).1; rw [HP.out] at h1; cases h1))
        clear HN HO
        refine wp_region_cls (by kernel_rfl) (by kernel_rfl) ?_
        repeat (go_big_quiet_step (first | (go_at_call 149; with_reducible exact cls_same (n1 _)) | (go_at_call 149; with_reducible exact cls_same (n2 _)) | (go_at_call 150; with_reducible exact cls_same (n3 _))))
        refine wpQuiet_nil ?_
        intro wc hbc
        go_wp2
        go_ret
        exact ⟨ret_bool HM.out.symm, hb1.trans (hbc.mono (by omega))⟩
      | true =>
        rw [hp1] at n1
        have HP := Lib.hid hp1
        clear hp1
        cases hc1 : is1 xc with
        | false =>
          rw [hc1] at n2
          have HC := Lib.hid hc1
          clear hc1
          have HM := Lib.hid (HN.out (by rw [Bool.eq_false_iff]; intro e; have e1 := okLnk_iff.1 e; simp only at e1; have h1 := is1_of e1.2.1 (word_two e1.2.2.1).2; rw [HC.out] at h1; cases h1))
          clear HN HO
          refine wp_region_cls (by kernel_rfl) (by kernel_rfl) ?_
          repeat (go_big_quiet_step (first | (go_at_call 149; with_reducible exact cls_same (n1 _)) | (go_at_call 149; with_reducible exact cls_same (n2 _)) | (go_at_call 150; with_reducible exact cls_same (n3 _))))
          refine wpQuiet_nil ?_
          intro wc hbc
          go_wp2
          go_ret
          exact ⟨ret_bool HM.out.symm, hb1.trans (hbc.mono (by omega))⟩
        | true =>
          rw [hc1] at n2
          have HC := Lib.hid hc1
          clear hc1
          by_cases hq : xp = xc
          · have tq : (xp.toList == xc.toList) = true := by rw [hq]; simp
            have HQ := Lib.hid hq
            clear hq
            have HM := Lib.hid (HN.out (by rw [Bool.eq_false_iff]; intro e; have e1 := okLnk_iff.1 e; simp only at e1; exact e1.2.2.2.1 HQ.out))
            clear HN HO
            refine wp_region_cls (by kernel_rfl) (by kernel_rfl) ?_
            repeat (go_big_quiet_step (first | (go_at_call 149; with_reducible exact cls_same (n1 _)) | (go_at_call 149; with_reducible exact cls_same (n2 _)) | (go_at_call 150; with_reducible exact cls_same (n3 _))))
            refine wpQuiet_nil ?_
            intro wc hbc
            go_wp2
            go_ret
            exact ⟨ret_bool HM.out.symm, hb1.trans (hbc.mono (by omega))⟩
          · have tq : (xp.toList == xc.toList) = false := by
              rw [beq_eq_false_iff_ne]; intro e; exact hq (L_inj (by rw [← toList_L, ← toList_L, e]))
            have HQ := Lib.hid hq
            clear hq
            by_cases h60 : 1 ≤ xk ∧ xk ≤ 60
            · rw [show (decide ((1 : Int) ≤ xk) && decide (xk ≤ 60)) = true by rw [Bool.and_eq_true, decide_eq_true_eq, decide_eq_true_eq]; exact h60] at n3
              by_cases hk0 : k = 0
              · have t5 : decide ((0 : Int) < (k : Int)) = false := decide_eq_false (by omega)
                have hy := hy0 hk0
                have HM := Lib.hid (HO.out (okLnk_iff.2 ⟨is1_size HP.out, is1_size HC.out, is1_word HP.out HC.out, HQ.out, by simp only; omega, h60.2⟩))
                clear HN HO
                refine wp_region_cls (by kernel_rfl) (by kernel_rfl) ?_
                repeat (go_big_quiet_step (first | (go_at_call 149; with_reducible exact cls_same (n1 _)) | (go_at_call 149; with_reducible exact cls_same (n2 _)) | (go_at_call 150; with_reducible exact cls_same (n3 _))))
                refine wpQuiet_nil ?_
                intro wc hbc
                go_wp2
                go_roundw
                case rel => exact ⟨k + 1, xk, by omega, by go_num, by omega, fun h => absurd h (by omega), fun _ => HPK.out, HM.out, hb1.trans (hbc.mono (by omega))⟩
                case measure => simp [intOf]; omega
              · have t5 : decide (0 < k) = true := decide_eq_true (by omega)
                have t5p : 0 < k := by omega
                obtain ⟨j, hj⟩ : ∃ j : Nat, k = j + 1 := ⟨k - 1, by omega⟩
                have hkj : IntKind.i64.wrap ((k : Int) - 1) = (j : Int) := by rw [IntWalk.i64_in _ (by omega)]; omega
                have q3 : (0 : Int) ≤ (j : Int) := by omega
                have q4 : (j : Int) < (ms.length : Int) := by omega
                have hpk := hyp (by omega)
                have c3 := hcl (j * 3 + 2) (by rw [len_lks]; omega)
                rw [lks_at2 _ _ (show j < ms.length by omega), ← Nat.add_assoc] at c3
                have hyj : (ms[j]'(by omega)).k = y := by rw [← hpk]; congr 2; omega
                rw [hyj] at c3
                have d3 := fun (cc : Cls W5.heap.size W5) => (cc.cell b (off + j * 3 + 2) (by omega)).trans ((hcw ⟨b, off + j * 3 + 2, none⟩ (by simp only; omega)).trans c3)
                clear hyj hpk c3 hj
                by_cases hlt3 : xk ≤ y
                · have t6 : decide (xk ≤ y) = true := decide_eq_true hlt3
                  have HM := Lib.hid (HN.out (by rw [Bool.eq_false_iff]; intro e; have e1 := okLnk_iff.1 e; simp only at e1; have := e1.2.2.2.2.1; omega))
                  clear HN HO
                  refine wp_region_cls (by kernel_rfl) (by kernel_rfl) ?_
                  repeat (go_big_quiet_step (first | (go_at_call 149; with_reducible exact cls_same (n1 _)) | (go_at_call 149; with_reducible exact cls_same (n2 _)) | (go_at_call 150; with_reducible exact cls_same (n3 _))))
                  refine wpQuiet_nil ?_
                  intro wc hbc
                  go_wp2
                  go_ret
                  exact ⟨ret_bool HM.out.symm, hb1.trans (hbc.mono (by omega))⟩
                · have t6 : decide (xk ≤ y) = false := decide_eq_false hlt3
                  have HM := Lib.hid (HO.out (okLnk_iff.2 ⟨is1_size HP.out, is1_size HC.out, is1_word HP.out HC.out, HQ.out, by simp only; omega, h60.2⟩))
                  clear HN HO
                  refine wp_region_cls (by kernel_rfl) (by kernel_rfl) ?_
                  repeat (go_big_quiet_step (first | (go_at_call 149; with_reducible exact cls_same (n1 _)) | (go_at_call 149; with_reducible exact cls_same (n2 _)) | (go_at_call 150; with_reducible exact cls_same (n3 _))))
                  refine wpQuiet_nil ?_
                  intro wc hbc
                  go_wp2
                  go_roundw
                  case rel => exact ⟨k + 1, xk, by omega, by go_num, by omega, fun h => absurd h (by omega), fun _ => HPK.out, HM.out, hb1.trans (hbc.mono (by omega))⟩
                  case measure => simp [intOf]; omega
            · rw [show (decide ((1 : Int) ≤ xk) && decide (xk ≤ 60)) = false by rw [Bool.eq_false_iff]; intro e; rw [Bool.and_eq_true, decide_eq_true_eq, decide_eq_true_eq] at e; exact h60 e] at n3
              have HM := Lib.hid (HN.out (by rw [Bool.eq_false_iff]; intro e; have e1 := okLnk_iff.1 e; simp only at e1; exact h60 ⟨by have := e1.2.2.2.2.1; omega, e1.2.2.2.2.2⟩))
              clear HN HO
              refine wp_region_cls (by kernel_rfl) (by kernel_rfl) ?_
              repeat (go_big_quiet_step (first | (go_at_call 149; with_reducible exact cls_same (n1 _)) | (go_at_call 149; with_reducible exact cls_same (n2 _)) | (go_at_call 150; with_reducible exact cls_same (n3 _))))
              refine wpQuiet_nil ?_
              intro wc hbc
              go_wp2
              go_ret
              exact ⟨ret_bool HM.out.symm, hb1.trans (hbc.mono (by omega))⟩
    · have hk' : k = ms.length := by omega
      have HM : Hid (menuB ms = (decide (1 ≤ ms.length) && decide (ms.length ≤ 12))) := Lib.hid (by
        unfold menuB
        rw [HY.out, hk', List.drop_length]; simp [okFrom])
      have n3 := fun W => l1In_any (ms.length : Int) 1 12 W
      clear hyp0
      go_wp2_with (go_at_call 150; ((with_reducible refine (n3 _).mono ?_); rintro e w' ⟨rfl, rfl⟩))
      go_ret
      exact ⟨ret_bool (by rw [HM.out, Bool.eq_iff_iff, Bool.and_eq_true, Bool.and_eq_true, decide_eq_true_eq, decide_eq_true_eq, decide_eq_true_eq, decide_eq_true_eq]; omega), hb⟩
theorem l13Fits_any (a : Option Addr) (n c : Nat) (m : Mach) (v : ByteArray) (am : Option Addr) (cm : Nat) (ms : List Lnk) (w : World) (h : MachAt w w.heap.size a n m) (hv : v.size ≤ 4294967296) (hr : Reads w w.heap.size am (lks ms)) (hl : ms.length ≤ 4294967296) :
    Calls Tryz.prog 68 #[.agg #[.slice a n c, .string m.wheels.refl, .string m.rings, .string m.plugs], .string v, .slice am ms.length cm] w fun e w' => e = .returned (.bool (setB m v && menuB ms)) ∧ Below w.heap.size w w' := by
  have hb0 := (Below.refl w.heap.size w).alloc (Nat.le_refl _) (.cells [.slice a n c, .string m.wheels.refl, .string m.rings, .string m.plugs].toArray 36)
  have h' := h.alloc_ (.cells [.slice a n c, .string m.wheels.refl, .string m.rings, .string m.plugs].toArray 36)
  have HR := Lib.hid (fun (wr : World) (hb : Below w.heap.size w wr) => hr.below hb (Nat.le_refl _))
  clear hr
  go_enter Tryz.func68, Tryz.ntmps68
  go_wp2_with fail
  refine (l8Fits_any _ _ _ _ _ _ h' hv).mono ?_
  rintro e w1 ⟨rfl, hb1⟩
  have hb := bt hb0 hb1
  cases h1 : setB m v with
  | false =>
    have H1 := Lib.hid h1
    clear h1
    go_wp2
    go_ret
    exact ⟨ret_bool (by rw [H1.out]; rfl), hb⟩
  | true =>
    go_wp2_with fail
    refine (specMenuValid_any am cm ms _ ((HR.out _ hb).more hb.size) hl).mono ?_
    rintro e w2 ⟨rfl, hb2⟩
    have H1 := Lib.hid h1
    clear h1
    go_wp2
    go_ret
    exact ⟨ret_bool (by rw [H1.out, Bool.true_and]), bt hb hb2⟩
end Go.Proofs.YtdmnkcmkpjmfaaaGreat

/- The walk of the law that the plugboard acts before and after. -/
namespace Go.Proofs.YtdmnkcmkpjmfaaaGreat
open Go.RowKit

theorem implIdentityPerm_any (w : World) :
    Calls Tryz.prog 98 #[] w fun e w' => e = .returned (.string (wd idP)) ∧ Below w.heap.size w w' := by
  go_enter Tryz.func98, Tryz.ntmps98
  go_wp2_with (first | (go_at_call 136; ((with_reducible refine (identity_any _).mono ?_); rintro e w1 ⟨rfl, hb1⟩)) | (go_at_call 113; ((with_reducible refine (string_any _ _ isP_id).mono ?_); rintro e w2 ⟨rfl, hb2⟩)))
  go_ret
  exact ⟨rfl, bt hb1 hb2⟩
theorem one_mach (a : Option Addr) (n c : Nat) (r s t : ByteArray) : ∀ v ∈ [Value.slice a n c, .string r, .string s, .string t], v.oneCell' = true := by
  intro v hv
  simp only [List.mem_cons, List.not_mem_nil, or_false] at hv
  rcases hv with rfl | rfl | rfl | rfl <;> rfl
theorem info_mach (a : Option Addr) (n c : Nat) (r s t : ByteArray) : (Tryz.prog.info? 36).map (·.size) = some [Value.slice a n c, .string r, .string s, .string t].length := by kernel_rfl
set_option maxRecDepth 100000 in
theorem rcBare_any (a : Option Addr) (n c : Nat) (m : Mach) (w : World) :
    Calls Tryz.prog 42 #[.agg #[.slice a n c, .string m.wheels.refl, .string m.rings, .string m.plugs]] w fun e w' => e = .returned (.agg #[.slice a n c, .string m.wheels.refl, .string m.rings, .string (wd idP)]) ∧ Below w.heap.size w w' := by
  have o0 := (Own.new w [.slice a n c, .string m.wheels.refl, .string m.rings, .string m.plugs] 36).alloc (.cells #[.slice none 0 0, .string ⟨#[]⟩, .string ⟨#[]⟩, .string ⟨#[]⟩] 36)
  have o1 := Own.new (w.alloc (.cells [.slice a n c, .string m.wheels.refl, .string m.rings, .string m.plugs].toArray 36)) [.slice none 0 0, .string ⟨#[]⟩, .string ⟨#[]⟩, .string ⟨#[]⟩] 36
  have hb0 := ((Below.refl w.heap.size w).alloc (Nat.le_refl _) (.cells [.slice a n c, .string m.wheels.refl, .string m.rings, .string m.plugs].toArray 36)).alloc (by simp) (.cells #[.slice none 0 0, .string ⟨#[]⟩, .string ⟨#[]⟩, .string ⟨#[]⟩] 36)
  rw [World.size_alloc] at o1
  go_enter Tryz.func42, Tryz.ntmps42
  go_wp2_with fail
  generalize hW : (w.alloc (.cells [.slice a n c, .string m.wheels.refl, .string m.rings, .string m.plugs].toArray 36)).alloc (.cells #[.slice none 0 0, .string ⟨#[]⟩, .string ⟨#[]⟩, .string ⟨#[]⟩] 36) = W at *
  have hs : W.heap.size = w.heap.size + 1 + 1 := by rw [← hW]; simp
  clear hW
  have l0 := o0.lt
  have l1 := o1.lt
  have f0 := o0.at_ (i := 0) rfl
  have f1 := o0.at_ (i := 1) rfl
  have f2 := o0.at_ (i := 2) rfl
  have d0 := fun (cc : Cls W.heap.size W) => (cc.cell w.heap.size 0 l0).trans f0
  have d1 := fun (cc : Cls W.heap.size W) => (cc.cell w.heap.size 1 l0).trans f1
  have d2 := fun (cc : Cls W.heap.size W) => (cc.cell w.heap.size 2 l0).trans f2
  clear f0 f1 f2
  have HS := Lib.hid hs
  clear hs
  refine wp_region_cls_tail 5 (by kernel_rfl) (by kernel_rfl) ?_
  simp only [List.take_succ_cons, List.take_zero, List.drop_succ_cons, List.drop_zero]
  repeat (go_big_quiet_step (first | (go_at_call 98; with_reducible exact cls_of (Nat.le_refl _) (implIdentityPerm_any _))))
  refine wpQuiet_nil ?_
  intro wc hbc
  have oc := o1.below hbc l1
  have hs := HS.out
  have hz := hbc.size
  have hbw := bt hb0 hbc
  clear d0 d1 d2 o0 o1 hb0
  go_wp2_with ((with_reducible refine wl_store 36 0 oc (info_mach a n c m.wheels.refl m.rings (wd idP)) (one_mach a n c m.wheels.refl m.rings (wd idP)) (by simp) ?_ ?_ ?_ ?_); (· rfl); (· rfl); (· rfl); intro w5 o5 b5 s5)
  refine bodyPost_ret (results_cell_own Tryz.results42 _ _ _ _ _ (by rfl) o5.cells Tryz.underlying36 rfl (info_mach a n c m.wheels.refl m.rings (wd idP))) rfl ?_
  exact ⟨rfl, bel_store hbw b5 (by omega) (by omega)⟩

theorem wordB_map {q u : ByteArray} (hw : wordB u = true) : wordB (wd ((dg u).map (pAt (dg q)))) = true := word_wd (by rw [List.length_map, len_dg]; exact wordB_size hw)
theorem wordB_enc (m : Mach) (v : ByteArray) {u : ByteArray} (hw : wordB u = true) : wordB (wd (encD m v (dg u))) = true := word_wd (by rw [len_encD, len_dg]; exact wordB_size hw)
theorem plugs_law {m : Mach} {v u : ByteArray} (h : setB m v = true) (hw : wordB u = true) :
    wd (encD m v (dg u)) = wd ((dg (wd (encD (bareM m) v (dg (wd ((dg u).map (pAt (dg m.plugs)))))))).map (pAt (dg m.plugs))) := by
  have hm := setB_mach h
  have hq := machB_plugP hm
  have hqi := plugB_inv (machB_plug hm)
  have hd := word_dg_lt hw
  have hd2 : ∀ x ∈ (dg u).map (pAt (dg m.plugs)), x < 10 := by
    intro x hx
    obtain ⟨y, hy, rfl⟩ := List.mem_map.1 hx
    exact hq.at_lt (hd y hy)
  rw [dg_wd hd2, dg_wd (encD_lt (machB_bare hm) v hd2)]
  congr 1
  refine List.ext_getElem (by simp [len_encD]) fun i h1 h2 => ?_
  have hi : i < (dg u).length := by rw [len_encD] at h1; exact h1
  have hx : pAt (dg u) i < 10 := by rw [pAt_get hi]; exact hd _ (List.getElem_mem _)
  have hi2 : i < ((dg u).map (pAt (dg m.plugs))).length := by rw [List.length_map]; exact hi
  have hi3 : i < (encD (bareM m) v ((dg u).map (pAt (dg m.plugs)))).length := by rw [len_encD]; exact hi2
  rw [List.getElem_map, ← pAt_get h1, ← pAt_get hi3, at_encD m v hi, at_encD (bareM m) v hi2, pAt_get hi2, List.getElem_map, ← pAt_get hi]
  show pAt (keyN m v i) _ = pAt (dg m.plugs) (pAt (keyN (bareM m) v i) _)
  rw [keyN_of_bare hm, at_conj (isP_keyN (machB_bare hm) v i) hq hx, hqi.back hq]
theorem MachAt.bare {w : World} {B : Nat} {a : Option Addr} {n : Nat} {m : Mach} (h : MachAt w B a n m) : MachAt w B a n (bareM m) := ⟨h.whl, h.rings, by show (wd idP).size ≤ _; rw [size_wd]; decide⟩

end Go.Proofs.YtdmnkcmkpjmfaaaGreat

/- CheckMenu of the reference. -/
namespace Go.Proofs.YtdmnkcmkpjmfaaaGreat
open Go.RowKit

/-- The keys of links without a plugboard. -/
def barS (m : Mach) (v : ByteArray) (ms : List Lnk) : List ByteArray := ms.map fun x => wd (keyN (bareM m) v (x.k.toNat - 1))
theorem barS_take {m : Mach} {v : ByteArray} {ms : List Lnk} {c : Nat} (h : c < ms.length) : barS m v (ms.take (c + 1)) = barS m v (ms.take c) ++ [wd (keyN (bareM m) v (kat ms c - 1))] := by
  unfold barS kat
  rw [List.take_succ_eq_append_getElem h, List.map_append, List.getElem?_eq_getElem h]
  simp
theorem len_barS (m : Mach) (v : ByteArray) (ms : List Lnk) : (barS m v ms).length = ms.length := by simp [barS]
theorem at_barS {m : Mach} {v : ByteArray} {ms : List Lnk} {c : Nat} (h : c < ms.length) : (sv (barS m v ms))[c]? = some (.string (wd (keyN (bareM m) v (kat ms c - 1)))) := by
  unfold barS kat
  rw [List.getElem?_eq_getElem h]
  simp [sv, h]
set_option maxRecDepth 100000 in
set_option maxHeartbeats 1000000 in
theorem l13Bare_any (a : Option Addr) (n c : Nat) (m : Mach) (v : ByteArray) (am : Option Addr) (cm : Nat) (ms : List Lnk) (w : World) (h : MachAt w w.heap.size a n m) (hs : setB m v = true) (hrm : Reads w w.heap.size am (lks ms)) (hA : Asc ms) :
    Calls Tryz.prog 72 #[.agg #[.slice a n c, .string m.wheels.refl, .string m.rings, .string m.plugs], .string v, .slice am ms.length cm] w (RowPost 9 1 ms.length (sv (barS m v ms)) w) := by
  have h1 := hA.one
  have h12 := hA.few
  have hsb := setB_bare hs
  have o0 := (Own.new w [.slice a n c, .string m.wheels.refl, .string m.rings, .string m.plugs] 36).alloc (.cells #[] 9)
  have z0 := World.ownsRow_lit (base := w.heap.size + 1) (e := 9) (size := 1) (w.alloc (.cells [.slice a n c, .string m.wheels.refl, .string m.rings, .string m.plugs].toArray 36)) #[] 0 (by simp) (by unfold maxLen; omega) (by simp)
  have hb0 := ((Below.refl w.heap.size w).alloc (Nat.le_refl _) (.cells [.slice a n c, .string m.wheels.refl, .string m.rings, .string m.plugs].toArray 36)).alloc (by simp) (.cells #[] 9)
  have hM := h.below hb0 (Nat.le_refl _)
  have z1 : OwR ((w.alloc (.cells [.slice a n c, .string m.wheels.refl, .string m.rings, .string m.plugs].toArray 36)).alloc (.cells #[] 9)) (w.heap.size + 1) 9 1 (.slice (some ⟨w.heap.size + 1, 0, none⟩) 0 0) 0 (sv (barS m v (ms.take 0))) := by
    simpa [sv, barS] using z0
  have HRM := Lib.hid (fun (wr : World) (hb : Below w.heap.size w wr) => hrm.below hb (Nat.le_refl _))
  have HA := Lib.hid hA
  obtain ⟨j, hj⟩ : ∃ j, ms.length = j + 1 := ⟨ms.length - 1, by omega⟩
  obtain ⟨N, hN⟩ : ∃ N, N = kat ms j := ⟨_, rfl⟩
  have hN1 : 1 ≤ N := by rw [hN]; exact hA.lo _ (by omega)
  have hN60 : N ≤ 60 := by rw [hN]; exact hA.hi _ (by omega)
  have hsub : IntKind.i64.wrap ((ms.length : Int) - 1) = (j : Int) := by rw [IntWalk.i64_in _ (by omega)]; omega
  obtain ⟨b, off, rfl, hbl, hcl⟩ := (HRM.out _ hb0).open_ (by rw [len_lks]; omega)
  have cl := hcl (j * 3 + 2) (by rw [len_lks]; omega)
  rw [lks_at2 _ _ (show j < ms.length by omega), ← Nat.add_assoc, hA.pos j (by omega), ← hN] at cl
  have HLL := Lib.hid (fun i (hi : i < ms.length) => hA.le_last (ms.length - 1 - i) i (by omega))
  have HNN : Hid (N = kat ms (ms.length - 1)) := Lib.hid (by rw [hN]; congr 1; omega)
  have q0 : (0 : Int) ≤ (j : Int) := by omega
  have q0' : (j : Int) < (ms.length : Int) := by omega
  clear hcl hA hrm h z0 hN
  have HJ := Lib.hid hj
  clear hj
  go_enter Tryz.func72, Tryz.ntmps72
  go_wp2_with fail
  generalize hW0 : ((w.alloc (.cells [.slice a n c, .string m.wheels.refl, .string m.rings, .string m.plugs].toArray 36)).alloc (.cells #[] 9)) = W0 at *
  have hz0 : W0.heap.size = w.heap.size + 1 + 1 := by rw [← hW0]; simp
  clear hW0
  have lo := o0.lt
  have d0 := fun (cc : Cls W0.heap.size W0) => (cc.cell w.heap.size 0 lo).trans (o0.at_ (i := 0) rfl)
  have d1 := fun (cc : Cls W0.heap.size W0) => (cc.cell w.heap.size 1 lo).trans (o0.at_ (i := 1) rfl)
  have d2 := fun (cc : Cls W0.heap.size W0) => (cc.cell w.heap.size 2 lo).trans (o0.at_ (i := 2) rfl)
  have d3 := fun (cc : Cls W0.heap.size W0) => (cc.cell b (off + j * 3 + 2) (by omega)).trans cl
  have HZ0 := Lib.hid hz0
  clear hz0
  refine wp_region_cls_tail 14 (by kernel_rfl) (by kernel_rfl) ?_
  simp only [List.take_succ_cons, List.take_zero, List.drop_succ_cons, List.drop_zero]
  repeat (go_big_quiet_step (first | (go_at_call 124; with_reducible exact cls_of (Nat.le_refl _) (specIdentityPerm_any _))))
  refine wpQuiet_nil ?_
  intro wc hbc
  have o1 := o0.below hbc lo
  have own1 := OwR.below z1 hbc (Nat.le_refl _)
  have hb1 := hb0.trans (hbc.mono (by have := HZ0.out; omega))
  have hM1 := ((hM.below hbc (by have := HZ0.out; omega)).more (show w.heap.size ≤ wc.heap.size by have := HZ0.out; have := hbc.size; omega)).bare
  clear o0 z1 hb0 hM d0 d1 d2 d3 cl lo
  go_wp2_with fail
  refine (l8Perms_any a n c (bareM m) v N wc hM1 hsb (by omega)).mono ?_
  rintro e w2 ⟨lv, rfl, hol, hb2⟩
  obtain ⟨al, cl2, rfl, hlc, -, hgl⟩ := hol.val
  rw [len_keyS] at *
  obtain ⟨gK, rfl, hgK, ok⟩ := hgl.resolve_left (by omega)
  have own2 := OwR.below own1 hb2 (Nat.le_refl _)
  have hbw2 := bt hb1 hb2
  have hz1 := hbc.size
  have hgb : w.heap.size + 1 + 1 ≤ gK := by have := HZ0.out; omega
  have hne : (Value.slice (some ⟨w.heap.size + 1, 0, none⟩) 0 0).ownBlock ≠ some gK := by simp [Value.ownBlock]; omega
  clear own1 hb1 hM1 o1 hb2 hol hgl hbc
  go_wp2_with fail
  go_loopw [7, 9] (fun u i wr => ∃ k : Nat, k ≤ ms.length ∧ i = .int .i64 k ∧ u.ownBlock ≠ some gK ∧ OwR wr (w.heap.size + 1) 9 1 u k (sv (barS m v (ms.take k))) ∧ Own wr gK (sv (keyS (bareM m) v N)) ∧ Below w.heap.size w wr) (fun _ i _ => ms.length - (intOf i).toNat)
  case atStart => exact ⟨0, Nat.zero_le _, rfl, hne, own2, ok, hbw2⟩
  case round =>
    clear own2 ok hbw2 hne
    obtain ⟨k, hk, rfl, hne, hown, ok, hb⟩ := hrel
    by_cases hlt : k < ms.length
    · obtain ⟨b', off', hbb, hbl', hcl⟩ := (HRM.out _ hb).open_ (by rw [len_lks]; omega)
      cases hbb
      have c2 := hcl (k * 3 + 2) (by rw [len_lks]; omega)
      rw [lks_at2 _ _ hlt, ← Nat.add_assoc, HA.out.pos k hlt] at c2
      have hlo := HA.out.lo k hlt
      have hhi := HA.out.hi k hlt
      have hll := HLL.out k hlt
      rw [← HNN.out] at hll
      obtain ⟨d, hd⟩ : ∃ d : Nat, kat ms k = d + 1 := ⟨kat ms k - 1, by omega⟩
      have hsub : IntKind.i64.wrap (((kat ms k : Nat) : Int) - 1) = (d : Int) := by rw [IntWalk.i64_in _ (by omega)]; omega
      have ck := ok.at_ (at_keyS (bareM m) v (n := N) (k := d) (by omega))
      have HS := Lib.hid (barS_take (m := m) (v := v) hlt)
      rw [hd] at HS
      rw [show d + 1 - 1 = d by omega] at HS
      have q1 : (0 : Int) ≤ (k : Int) := by omega
      have q2 : (k : Int) < (ms.length : Int) := by omega
      have q3 : (0 : Int) ≤ (d : Int) := by omega
      have q4 : (d : Int) < (N : Int) := by omega
      have hz := hb.size
      have hzz : w.heap.size + 1 ≤ wr.heap.size := by have := ok.lt; omega
      have lk := ok.lt
      clear hcl hlo hhi hll hd
      generalize kat ms k = kk at *
      generalize barS m v (ms.take k) = ls at *
      generalize wd (keyN (bareM m) v d) = y at *
      go_wp2_with (at_builtin; ((with_reducible refine wl_pushG 30 9 inf_str Tryz.underlying30 rfl (by omega) hown (by omega) rfl (by simp [Value.oneCell']) (by omega) (by omega) rfl rfl ?_); intro g cap w7 hr7 hg7 hat7 hz7 hk7))
      have og7 := ok.grownO hg7 hne
      have hb7 : Below w.heap.size w w7 := hb.grown hg7 hz (fun x e => by have := (World.ownsRow.lt hown x e).1; omega)
      have hne7 : (Value.slice (some ⟨g, 0, none⟩) (k + 1) cap).ownBlock ≠ some gK := by
        rcases hat7 with h1 | h1
        · rw [h1] at hne; exact hne
        · simp [Value.ownBlock]; omega
      go_roundw
      case rel =>
        refine ⟨k + 1, by omega, by go_num, hne7, ?_, og7, hb7⟩
        rw [HS.out, sv_append]
        exact hr7
      case measure => simp [intOf]; omega
    · have hk' : k = ms.length := by omega
      subst hk'
      rw [List.take_length] at hown
      go_wp2
      go_ret
      exact ⟨_, rfl, World.ownsRow.mono hown (Nat.le_succ _), hb⟩
theorem chk_bare {m : Mach} {v : ByteArray} {k d1 d2 : Nat} (h : machB m = true) (h1 : d1 < 10) (h2 : d2 < 10) :
    (pAt (keyN (bareM m) v k) (pAt (dg m.plugs) d1) == pAt (dg m.plugs) d2) = (pAt (keyN m v k) d1 == d2) := by
  have hq := machB_plugP h
  have hqi := plugB_inv (machB_plug h)
  have hkb := isP_keyN (machB_bare h) v k
  have hl := hkb.at_lt (hq.at_lt h1)
  rw [keyN_of_bare h, at_conj hkb hq h1, hqi.back hq, Bool.eq_iff_iff, beq_iff_eq, beq_iff_eq]
  constructor
  · intro e; rw [e]; exact hqi.at hq h2
  · intro e; rw [← e]; exact (hqi.at hq hl).symm
set_option maxRecDepth 100000 in
set_option maxHeartbeats 1000000 in
theorem specCheckMenu_any (a : Option Addr) (n c : Nat) (m : Mach) (v : ByteArray) (am : Option Addr) (cm : Nat) (ms : List Lnk) (w : World) (h : MachAt w w.heap.size a n m) (hv : v.size ≤ 4294967296) (hrm : Reads w w.heap.size am (lks ms)) (hl : ms.length ≤ 4294967296) :
    Calls Tryz.prog 36 #[.agg #[.slice a n c, .string m.wheels.refl, .string m.rings, .string m.plugs], .string v, .slice am ms.length cm] w fun e w' => e = .returned (.bool (chkT m v ms)) ∧ Below w.heap.size w w' := by
  have o0 := Own.new w [.slice a n c, .string m.wheels.refl, .string m.rings, .string m.plugs] 36
  have hb0 := (Below.refl w.heap.size w).alloc (Nat.le_refl _) (.cells [.slice a n c, .string m.wheels.refl, .string m.rings, .string m.plugs].toArray 36)
  have h' := h.alloc_ (.cells [.slice a n c, .string m.wheels.refl, .string m.rings, .string m.plugs].toArray 36)
  have hr' := (hrm.below hb0 (Nat.le_refl _)).more hb0.size
  have HRM := Lib.hid (fun (wr : World) (hb : Below w.heap.size w wr) => hrm.below hb (Nat.le_refl _))
  have HM := Lib.hid (fun (wr : World) (hb : Below w.heap.size w wr) => h.below hb (Nat.le_refl _))
  clear hrm h
  go_enter Tryz.func36, Tryz.ntmps36
  go_wp2_with fail
  refine (l13Fits_any _ _ _ _ _ _ _ _ _ h' hv hr' hl).mono ?_
  rintro e w1 ⟨rfl, hb1⟩
  have o1 := o0.below hb1 o0.lt
  have hb := bt hb0 hb1
  clear o0 hb0 hb1 h' hr'
  cases h1 : (setB m v && menuB ms) with
  | false =>
    have HT : Hid (chkT m v ms = false) := by
      show _ = _
      unfold chkT
      rw [← Bool.and_assoc, h1]; rfl
    clear h1
    go_wp2
    go_ret
    exact ⟨ret_bool HT.out.symm, hb⟩
  | true =>
    have HT : Hid (chkT m v ms = ms.all (chk1 m v)) := by
      show _ = _
      unfold chkT
      rw [← Bool.and_assoc, h1, Bool.true_and]
    obtain ⟨hs, hmn⟩ := Bool.and_eq_true_iff.1 h1
    clear h1
    have hmb := setB_mach hs
    have hasc := menuB_asc hmn
    have hone := hasc.one
    have hfew := hasc.few
    have HOK := Lib.hid (fun i (hi : i < ms.length) => okLnk_iff.1 (okFrom_asc ms 0 (menuB_ok hmn).2.2 i hi))
    have hpp := plugB_perm (machB_plug hmb)
    have HKAT := Lib.hid hasc.pos
    have f0 := o1.at_ (i := 0) rfl
    have f1 := o1.at_ (i := 1) rfl
    have f2 := o1.at_ (i := 2) rfl
    have f3 := o1.at_ (i := 3) rfl
    go_wp2_with fail
    refine (l13Bare_any a n c m v am cm ms _ ((HM.out _ hb).more hb.size) hs ((HRM.out _ hb).more hb.size) hasc).mono ?_
    rintro e w3 ⟨lv, rfl, hol, hb3⟩
    obtain ⟨al, cl, rfl, hlc, -, hgl⟩ := hol.val
    obtain ⟨gK, rfl, -, ok⟩ := hgl.resolve_left (by omega)
    have o3 := o1.below hb3 o1.lt
    have hbw3 := bt hb hb3
    clear o1 hb hb3 f0 f1 f2 f3 hol hgl hasc hmn
    go_wp2_with fail
    go_loopw [8, 9, 10] (fun i _ _ wr => ∃ k : Nat, k ≤ ms.length ∧ i = .int .i64 k ∧ (∀ j (hj : j < ms.length), j < k → chk1 m v ms[j] = true) ∧ Own wr gK (sv (barS m v ms)) ∧ Own wr w.heap.size [.slice a n c, .string m.wheels.refl, .string m.rings, .string m.plugs] ∧ Below w.heap.size w wr) (fun i _ _ _ => ms.length - (intOf i).toNat)
    case atStart => exact ⟨0, Nat.zero_le _, rfl, fun _ _ h => absurd h (by omega), ok, o3, hbw3⟩
    case round =>
      clear ok o3 hbw3
      obtain ⟨k, hk, rfl, ha, ok, o3, hb⟩ := hrel
      have HA := Lib.hid ha
      clear ha
      by_cases hlt : k < ms.length
      · obtain ⟨b, off, rfl, hbl, hcl⟩ := (HRM.out _ hb).open_ (by rw [len_lks]; omega)
        have c0 := hcl (k * 3) (by rw [len_lks]; omega)
        have c1 := hcl (k * 3 + 1) (by rw [len_lks]; omega)
        rw [lks_at0 _ _ hlt] at c0
        rw [lks_at1 _ _ hlt, ← Nat.add_assoc] at c1
        clear hcl
        have q1 : (0 : Int) ≤ (k : Int) := by omega
        have q2 : (k : Int) < (ms.length : Int) := by omega
        have hok := HOK.out k hlt
        have hkat := HKAT.out k hlt
        have HCB := Lib.hid (at_barS (m := m) (v := v) hlt)
        have HN : Hid (chk1 m v ms[k] = false → ms.all (chk1 m v) = false) := Lib.hid (fun e => by
          rw [Bool.eq_false_iff]
          intro e2
          rw [List.all_eq_true] at e2
          rw [e2 _ (List.getElem_mem hlt)] at e
          cases e)
        have HK := Lib.hid (fun (h : chk1 m v ms[k] = true) j (hj : j < ms.length) (hj2 : j < k + 1) => show chk1 m v ms[j] = true from by
          by_cases e : j = k
          · subst e; exact h
          · exact HA.out j hj (by omega))
        generalize ms[k] = x at *
        obtain ⟨xp, xc, xk⟩ := x
        simp only at c0 c1 hok hkat
        have hwt := word_two hok.2.2.1
        have hs1 := hok.1
        have hs2 := hok.2.1
        clear hok
        obtain ⟨e1, e2, -⟩ := lk_letter hs1 hwt.1
        obtain ⟨e4, e5, -⟩ := lk_letter hs2 hwt.2
        have n1 := fun W => l1Digit_any xp 0 W (by omega) (by omega) (by omega)
        have n2 := fun W => l1Digit_any xc 0 W (by omega) (by omega) (by omega)
        simp only [Int.toNat_zero] at n1 n2
        rw [e1] at n1
        rw [e4] at n2
        have hchk : chk1 m v ⟨xp, xc, xk⟩ = (pAt (keyN m v (kat ms k - 1)) (lkA xp) == lkA xc) := by
          unfold chk1
          simp only
          rw [hkat, Int.toNat_natCast]
        rw [← chk_bare hmb e2 e5] at hchk
        rw [hchk] at HN HK
        have n3 := fun W => l2Image_any m.plugs (lkA xp) W hpp e2
        have n4 := fun W => l2Image_any m.plugs (lkA xc) W hpp e5
        have hkb := isP_keyN (machB_bare hmb) v (kat ms k - 1)
        have hq := machB_plugP hmb
        have hq1 := hq.at_lt e2
        have n5 := fun W => l2Image_any (wd (keyN (bareM m) v (kat ms k - 1))) (pAt (dg m.plugs) (lkA xp)) W (permB_wd hkb) hq1
        rw [dg_wd hkb.lt] at n5
        clear hchk hwt e1 e4 hkat hkb hq
        generalize wd (keyN (bareM m) v (kat ms k - 1)) = y at *
        generalize pAt (keyN (bareM m) v (kat ms k - 1)) (pAt (dg m.plugs) (lkA xp)) = d5 at *
        generalize pAt (dg m.plugs) (lkA xp) = d3 at *
        generalize pAt (dg m.plugs) (lkA xc) = d4 at *
        generalize lkA xp = d1 at *
        generalize lkA xc = d2 at *
        have lo := o3.lt
        have lk := ok.lt
        have g0 := fun (cc : Cls wr.heap.size wr) => (cc.cell w.heap.size 3 lo).trans (o3.at_ (i := 3) rfl)
        have g1 := fun (cc : Cls wr.heap.size wr) => (cc.cell b (off + k * 3) (by have := hb.size; omega)).trans c0
        have g2 := fun (cc : Cls wr.heap.size wr) => (cc.cell b (off + k * 3 + 1) (by have := hb.size; omega)).trans c1
        go_wp2_with fail
        refine wp_region_cls (by kernel_rfl) (by kernel_rfl) ?_
        repeat (go_big_quiet_step (first | (go_at_call 90; with_reducible exact cls_same (n1 _)) | (go_at_call 89; with_reducible exact cls_same (n3 _))))
        refine wpQuiet_nil ?_
        intro wc hbc
        have hbA := hbc
        have o4 := o3.below hbc lo
        have ok4 := ok.below hbc lk
        have hb4 := bt hb hbc
        have h01 := fun (cc : Cls wc.heap.size wc) => (cc.cell w.heap.size 3 o4.lt).trans (o4.at_ (i := 3) rfl)
        have h02 := fun (cc : Cls wc.heap.size wc) => (cc.cell b (off + k * 3 + 1) (by have := hb4.size; omega)).trans (g2 ⟨wc, hbA⟩)
        clear o3 ok hb g0 g1 g2 c0 c1 hbc hbA
        generalize wc = w4 at *
        go_wp2_with fail
        refine wp_region_cls (by kernel_rfl) (by kernel_rfl) ?_
        repeat (go_big_quiet_step (first | (go_at_call 90; with_reducible exact cls_same (n2 _)) | (go_at_call 89; with_reducible exact cls_same (n4 _))))
        refine wpQuiet_nil ?_
        intro wc hbc
        have o5 := o4.below hbc o4.lt
        have ok5 := ok4.below hbc ok4.lt
        have hb5 := bt hb4 hbc
        have cb := ok5.at_ HCB.out
        clear o4 ok4 hb4 h01 h02 hbc n1 n2 n3 n4
        generalize wc = w5 at *
        by_cases hq : d5 = d4
        · have te : ((d5 : Int) != (d4 : Int)) = false := by rw [bne_eq_false_iff_eq]; omega
          have HQ := Lib.hid (HK.out (by rw [hq]; simp))
          clear hq HN HK
          go_wp2_with (go_at_call 89; ((with_reducible refine (n5 _).mono ?_); rintro e w' ⟨rfl, rfl⟩))
          go_roundw
          case rel => exact ⟨k + 1, by omega, by go_num, HQ.out, ok5, o5, hb5⟩
          case measure => simp [intOf]; omega
        · have te : ((d5 : Int) != (d4 : Int)) = true := by rw [bne_iff_ne]; omega
          have HQ := Lib.hid (HN.out (by rw [beq_eq_false_iff_ne]; exact hq))
          clear hq HN HK
          go_wp2_with (go_at_call 89; ((with_reducible refine (n5 _).mono ?_); rintro e w' ⟨rfl, rfl⟩))
          go_ret
          exact ⟨ret_bool (by rw [HT.out, HQ.out]), hb5⟩
      · have HE : Hid (ms.all (chk1 m v) = true) := Lib.hid (by
          rw [List.all_eq_true]
          intro x hx
          obtain ⟨j, hj, rfl⟩ := List.getElem_of_mem hx
          exact HA.out j hj (by omega))
        go_wp2
        go_ret
        exact ⟨ret_bool (by rw [HT.out, HE.out]), hb⟩
end Go.Proofs.YtdmnkcmkpjmfaaaGreat

/- The draw of a machine and two windows of it. -/
namespace Go.Proofs.YtdmnkcmkpjmfaaaGreat
open Go.RowKit

theorem Tu.toMoved {R g : Nat} {a b : World} (h : Tu R g a b) (hg : a.heap.size ≤ g) : Moved R a b :=
  ⟨h.os, h.tape, h.output, h.size, fun k hk hne => h.block k hk (fun e => hne (by rw [e])) (by omega)⟩
/-- What lies apart from the reader stays when the reader moves. -/
theorem Reads.moved {R B : Nat} {w w' : World} {a : Option Addr} {xs : List Value} (h : Reads w w.heap.size a xs) (hm : Moved R w w') (ha : ∀ ad, a = some ad → ad.block ≠ R) (hB : w'.heap.size ≤ B) : Reads w' B a xs := by
  rcases h with h | ⟨b, off, he, hb, hc⟩
  · exact .inl h
  · refine .inr ⟨b, off, he, Nat.lt_of_lt_of_le (Nat.lt_of_lt_of_le hb hm.size) hB, fun i hi => ?_⟩
    rw [← hc i hi]
    exact World.cell?_of_block (w := w) (hm.block b hb (by
      have := ha _ he
      simp only at this
      simp; omega))
/-- A machine and two windows are drawn. -/
def Open9 (R c : Nat) (w : World) (e : Ending) (w' : World) : Prop :=
  ∃ (m : Mach) (s k : ByteArray) (a : Option Addr) (cap : Nat), SmallM m ∧ s.size ≤ 300 ∧ k.size ≤ 300 ∧
    e = .returned (.tuple #[.agg #[.slice a m.wheels.rotors.length cap, .string m.wheels.refl, .string m.rings, .string m.plugs], .string s, .string k]) ∧
    Reads w' w'.heap.size a (rvs m.wheels.rotors) ∧ (∀ ad, a = some ad → w.heap.size ≤ ad.block) ∧ Rd w' R c ∧ Moved R w w'
end Go.Proofs.YtdmnkcmkpjmfaaaGreat
