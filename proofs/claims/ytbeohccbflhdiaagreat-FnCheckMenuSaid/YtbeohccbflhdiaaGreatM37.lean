/- Several of my texts in one: MenuS, MenuT, DrawL, DrawN. -/
import Derived.Test.YtbeohccbflhdiaaGreatM34
import Derived.Test.YtbeohccbflhdiaaGreatM10
import Derived.Test.YtbeohccbflhdiaaGreatM9
import Derived.Test.YtbeohccbflhdiaaGreatM14
import Derived.Test.YtbeohccbflhdiaaGreatM5
import Derived.Test.YtbeohccbflhdiaaGreatM31
import Derived.Test.YtbeohccbflhdiaaGreatM8
import Derived.Test.YtbeohccbflhdiaaGreatM25
/- Valid menus, of the reference. -/
namespace Go.Proofs.YtbeohccbflhdiaaGreat
open Go.RowKit

/-- Whether a string is one letter. -/
def is1 (s : ByteArray) : Bool := decide (s.size = 1) && (L s).all isL
theorem is1_size {s : ByteArray} (h : is1 s = true) : s.size = 1 := by simp only [is1, Bool.and_eq_true, decide_eq_true_eq] at h; exact h.1
theorem is1_all {s : ByteArray} (h : is1 s = true) : ∀ c ∈ L s, isL c = true := by simp only [is1, Bool.and_eq_true, List.all_eq_true] at h; exact h.2
theorem is1_of {s : ByteArray} (h1 : s.size = 1) (h2 : ∀ c ∈ L s, isL c = true) : is1 s = true := by
  simp only [is1, Bool.and_eq_true, decide_eq_true_eq, List.all_eq_true]; exact ⟨h1, h2⟩
theorem is1_word {a b : ByteArray} (ha : is1 a = true) (hb : is1 b = true) : wordB (a ++ b) = true := by
  have h1 := is1_size ha
  have h2 := is1_size hb
  simp only [wordB, Bool.and_eq_true, decide_eq_true_eq, List.all_eq_true, L_append, List.mem_append]
  refine ⟨by rw [ByteArray.size_append]; omega, ?_⟩
  rintro c (hc | hc)
  · exact is1_all ha c hc
  · exact is1_all hb c hc
theorem l1Is_any (s : ByteArray) (w : World) : Calls Tryz.prog 163 #[.string s] w fun e w' => e = .returned (.bool (is1 s)) ∧ w = w' := by
  by_cases h1 : s.size = 1
  · have h0 : 0 < s.size := by omega
    have t0 : ((s.size : Int) == 1) = true := by rw [beq_iff_eq]; omega
    have q1 : (0 : Int) < (s.size : Int) := by omega
    have hv : is1 s = (decide (97 ≤ (s[0]).toNat) && decide ((s[0]).toNat < 107)) := by
      have hL : L s = [s[0]] := by
        refine List.ext_getElem (by rw [size_L]; simpa using h1) fun i hi1 hi2 => ?_
        have : i = 0 := by simp at hi2; omega
        subst this
        rw [← getElem_L]; rfl
      unfold is1
      rw [decide_eq_true h1, hL]
      simp only [List.all_cons, List.all_nil, Bool.and_true, Bool.true_and]
      rw [Bool.eq_iff_iff, isL_iff, Bool.and_eq_true, decide_eq_true_eq, decide_eq_true_eq]
      unfold dig
      omega
    have HV := Lib.hid hv
    clear hv h1
    generalize hb : s[0] = b at *
    have hbl := byte_lt b
    by_cases g1 : 97 ≤ b.toNat
    · have t1 : decide ((97 : Int) ≤ (b.toNat : Int)) = true := decide_eq_true (by omega)
      by_cases g2 : b.toNat < 107
      · have t2 : decide ((b.toNat : Int) < 107) = true := decide_eq_true (by omega)
        go_enter Tryz.func163, Tryz.ntmps163
        go_wp2
        go_ret
        exact ⟨ret_bool (by rw [HV.out, decide_eq_true g1, decide_eq_true g2]; simp), rfl⟩
      · have t2 : decide ((b.toNat : Int) < 107) = false := decide_eq_false (by omega)
        go_enter Tryz.func163, Tryz.ntmps163
        go_wp2
        go_ret
        exact ⟨ret_bool (by rw [HV.out, decide_eq_true g1, decide_eq_false g2]; simp), rfl⟩
    · have t1 : decide ((97 : Int) ≤ (b.toNat : Int)) = false := decide_eq_false (by omega)
      go_enter Tryz.func163, Tryz.ntmps163
      go_wp2
      go_ret
      exact ⟨ret_bool (by rw [HV.out, decide_eq_false g1]; simp), rfl⟩
  · have t0 : ((s.size : Int) == 1) = false := by rw [beq_eq_false_iff_ne]; omega
    have HV : Hid (is1 s = false) := by show _ = _; simp [is1, h1]
    clear h1
    go_enter Tryz.func163, Tryz.ntmps163
    go_wp2
    go_ret
    exact ⟨ret_bool HV.out.symm, rfl⟩
set_option maxRecDepth 100000 in
set_option maxHeartbeats 2000000 in
theorem specMenuValid_any (am : Option Addr) (cm : Nat) (ms : List Lnk) (w : World) (hr : Reads w w.heap.size am (lks ms)) (hl : ms.length ≤ 4294967296) :
    Calls Tryz.prog 143 #[.slice am ms.length cm] w fun e w' => e = .returned (.bool (menuB ms)) ∧ Below w.heap.size w w' := by
  have HB : Hid (okFrom 0 ms = okFrom 0 (ms.drop 0)) := by show _ = _; simp
  have HR := Lib.hid (fun (wr : World) (hb : Below w.heap.size w wr) => hr.below hb (Nat.le_refl _))
  clear hr
  go_enter Tryz.func143, Tryz.ntmps143
  go_wp2
  go_loopw [3, 4] (fun i _ wr => ∃ (k : Nat) (y : Int), k ≤ ms.length ∧ i = .int .i64 k ∧ 0 ≤ y ∧ (k = 0 → y = 0) ∧ (∀ h : 0 < k ∧ k ≤ ms.length, (ms[k - 1]'(by omega)).k = y) ∧ okFrom 0 ms = okFrom y (ms.drop k) ∧ Below w.heap.size w wr) (fun i _ _ => ms.length - (intOf i).toNat)
  case atStart => exact ⟨0, 0, Nat.zero_le _, rfl, by omega, fun _ => rfl, fun h => absurd h.1 (by omega), HB.out, Below.refl _ _⟩
  case round =>
    obtain ⟨k, y, hk, rfl, hy1, hy0, hyp0, hyo, hb⟩ := hrel
    have HY := Lib.hid hyo
    clear hyo
    by_cases hlt : k < ms.length
    · have hyp := fun (h : 0 < k) => hyp0 ⟨h, hk⟩
      obtain ⟨b, off, rfl, hbl, hcl⟩ := (HR.out wr hb).open_ (by rw [len_lks]; omega)
      have c0 := hcl (k * 3) (by rw [len_lks]; omega)
      have c1 := hcl (k * 3 + 1) (by rw [len_lks]; omega)
      have c2 := hcl (k * 3 + 2) (by rw [len_lks]; omega)
      rw [lks_at0 _ _ hlt] at c0
      rw [lks_at1 _ _ hlt, ← Nat.add_assoc] at c1
      rw [lks_at2 _ _ hlt, ← Nat.add_assoc] at c2
      have q1 : (0 : Int) ≤ (k : Int) := by omega
      have q2 : (k : Int) < (ms.length : Int) := by omega
      have hyk := HY.out
      rw [okFrom_drop hlt] at hyk
      have HPK0 : Hid (ms[k].k = ms[k].k) := Lib.hid rfl
      have hz := hb.size
      have HN : Hid (∀ h : okLnk ms[k] y = false, menuB ms = false) := Lib.hid (fun h => by unfold menuB; rw [hyk, h]; simp)
      have HO : Hid (∀ h : okLnk ms[k] y = true, okFrom 0 ms = okFrom ms[k].k (ms.drop (k + 1))) := Lib.hid (fun h => by rw [hyk, h]; rfl)
      obtain ⟨x, hx⟩ : ∃ x, x = ms[k] := ⟨_, rfl⟩
      rw [← hx] at c0 c1 c2 HN HO
      have HPK1 : Hid (∀ h : 0 < k + 1 ∧ k + 1 ≤ ms.length, (ms[k + 1 - 1]'(by omega)).k = x.k) := Lib.hid (fun h => by rw [hx]; rfl)
      clear hyk hx HPK0
      obtain ⟨xp, xc, xk⟩ := x
      simp only at c0 c1 c2
      have HPK : Hid ((ms[k + 1 - 1]'(by omega)).k = xk) := Lib.hid (HPK1.out ⟨by omega, by omega⟩)
      clear HPK1
      have x0 := Own.new wr [.string xp, .string xc, .int .i64 xk] 70
      have hb1 := hb.alloc hz (.cells [.string xp, .string xc, .int .i64 xk].toArray 70)
      have n1 := fun W => l1Is_any xp W
      have n2 := fun W => l1Is_any xc W
      have n3 := fun W => l1In_any xk 1 60 W
      go_wp2_with fail
      have hcw : ∀ p : Addr, p.block < wr.heap.size → (wr.alloc (.cells [.string xp, .string xc, .int .i64 xk].toArray 70)).cell? p = wr.cell? p := fun p hp => World.cell?_of_block (w := wr) (Below.heap_alloc wr _ p.block hp)
      have hzw : wr.heap.size < (wr.alloc (.cells [.string xp, .string xc, .int .i64 xk].toArray 70)).heap.size := by simp
      generalize hW5 : (wr.alloc (.cells [.string xp, .string xc, .int .i64 xk].toArray 70)) = W5 at *
      clear hW5
      have lx := x0.lt
      have d0 := fun (cc : Cls W5.heap.size W5) => (cc.cell wr.heap.size 0 lx).trans (x0.at_ (i := 0) rfl)
      have d1 := fun (cc : Cls W5.heap.size W5) => (cc.cell wr.heap.size 1 lx).trans (x0.at_ (i := 1) rfl)
      have d2 := fun (cc : Cls W5.heap.size W5) => (cc.cell wr.heap.size 2 lx).trans (x0.at_ (i := 2) rfl)
      clear c0 c1 c2
      cases hp1 : is1 xp with
      | false =>
        rw [hp1] at n1
        have HP := Lib.hid hp1
        clear hp1
        have HM := Lib.hid (HN.out (by rw [Bool.eq_false_iff]; intro e; have e1 := okLnk_iff.1 e; simp only at e1; have h1 := is1_of e1.1 (word_two e1.2.2.1).1; rw [HP.out] at h1; cases h1))
        clear HN HO
        refine wp_region_cls (by kernel_rfl) (by kernel_rfl) ?_
        repeat (go_big_quiet_step (first | (go_at_call 163; with_reducible exact cls_same (n1 _)) | (go_at_call 163; with_reducible exact cls_same (n2 _)) | (go_at_call 109; with_reducible exact cls_same (n3 _))))
        refine wpQuiet_nil ?_
        intro wc hbc
        go_wp2
        go_ret
        exact ⟨ret_bool HM.out.symm, hb1.trans (hbc.mono (by omega))⟩
      | true =>
        rw [hp1] at n1
        have HP := Lib.hid hp1
        clear hp1
        cases hc1 : is1 xc with
        | false =>
          rw [hc1] at n2
          have HC := Lib.hid hc1
          clear hc1
          have HM := Lib.hid (HN.out (by rw [Bool.eq_false_iff]; intro e; have e1 := okLnk_iff.1 e; simp only at e1; have h1 := is1_of e1.2.1 (word_two e1.2.2.1).2; rw [HC.out] at h1; cases h1))
          clear HN HO
          refine wp_region_cls (by kernel_rfl) (by kernel_rfl) ?_
          repeat (go_big_quiet_step (first | (go_at_call 163; with_reducible exact cls_same (n1 _)) | (go_at_call 163; with_reducible exact cls_same (n2 _)) | (go_at_call 109; with_reducible exact cls_same (n3 _))))
          refine wpQuiet_nil ?_
          intro wc hbc
          go_wp2
          go_ret
          exact ⟨ret_bool HM.out.symm, hb1.trans (hbc.mono (by omega))⟩
        | true =>
          rw [hc1] at n2
          have HC := Lib.hid hc1
          clear hc1
          by_cases hq : xp = xc
          · have tq : (xp.toList == xc.toList) = true := by rw [hq]; simp
            have HQ := Lib.hid hq
            clear hq
            have HM := Lib.hid (HN.out (by rw [Bool.eq_false_iff]; intro e; have e1 := okLnk_iff.1 e; simp only at e1; exact e1.2.2.2.1 HQ.out))
            clear HN HO
            refine wp_region_cls (by kernel_rfl) (by kernel_rfl) ?_
            repeat (go_big_quiet_step (first | (go_at_call 163; with_reducible exact cls_same (n1 _)) | (go_at_call 163; with_reducible exact cls_same (n2 _)) | (go_at_call 109; with_reducible exact cls_same (n3 _))))
            refine wpQuiet_nil ?_
            intro wc hbc
            go_wp2
            go_ret
            exact ⟨ret_bool HM.out.symm, hb1.trans (hbc.mono (by omega))⟩
          · have tq : (xp.toList == xc.toList) = false := by
              rw [beq_eq_false_iff_ne]; intro e; exact hq (L_inj (by rw [← toList_L, ← toList_L, e]))
            have HQ := Lib.hid hq
            clear hq
            by_cases h60 : 1 ≤ xk ∧ xk ≤ 60
            · rw [show (decide ((1 : Int) ≤ xk) && decide (xk ≤ 60)) = true by rw [Bool.and_eq_true, decide_eq_true_eq, decide_eq_true_eq]; exact h60] at n3
              by_cases hk0 : k = 0
              · have t5 : decide ((0 : Int) < (k : Int)) = false := decide_eq_false (by omega)
                have hy := hy0 hk0
                have HM := Lib.hid (HO.out (okLnk_iff.2 ⟨is1_size HP.out, is1_size HC.out, is1_word HP.out HC.out, HQ.out, by simp only; omega, h60.2⟩))
                clear HN HO
                refine wp_region_cls (by kernel_rfl) (by kernel_rfl) ?_
                repeat (go_big_quiet_step (first | (go_at_call 163; with_reducible exact cls_same (n1 _)) | (go_at_call 163; with_reducible exact cls_same (n2 _)) | (go_at_call 109; with_reducible exact cls_same (n3 _))))
                refine wpQuiet_nil ?_
                intro wc hbc
                go_wp2
                go_roundw
                case rel => exact ⟨k + 1, xk, by omega, by go_num, by omega, fun h => absurd h (by omega), fun _ => HPK.out, HM.out, hb1.trans (hbc.mono (by omega))⟩
                case measure => simp [intOf]; omega
              · have t5 : decide (0 < k) = true := decide_eq_true (by omega)
                have t5p : 0 < k := by omega
                obtain ⟨j, hj⟩ : ∃ j : Nat, k = j + 1 := ⟨k - 1, by omega⟩
                have hkj : IntKind.i64.wrap ((k : Int) - 1) = (j : Int) := by rw [IntWalk.i64_in _ (by omega)]; omega
                have q3 : (0 : Int) ≤ (j : Int) := by omega
                have q4 : (j : Int) < (ms.length : Int) := by omega
                have hpk := hyp (by omega)
                have c3 := hcl (j * 3 + 2) (by rw [len_lks]; omega)
                rw [lks_at2 _ _ (show j < ms.length by omega), ← Nat.add_assoc] at c3
                have hyj : (ms[j]'(by omega)).k = y := by rw [← hpk]; congr 2; omega
                rw [hyj] at c3
                have d3 := fun (cc : Cls W5.heap.size W5) => (cc.cell b (off + j * 3 + 2) (by omega)).trans ((hcw ⟨b, off + j * 3 + 2, none⟩ (by simp only; omega)).trans c3)
                clear hyj hpk c3 hj
                by_cases hlt3 : xk ≤ y
                · have t6 : decide (xk ≤ y) = true := decide_eq_true hlt3
                  have HM := Lib.hid (HN.out (by rw [Bool.eq_false_iff]; intro e; have e1 := okLnk_iff.1 e; simp only at e1; have := e1.2.2.2.2.1; omega))
                  clear HN HO
                  refine wp_region_cls (by kernel_rfl) (by kernel_rfl) ?_
                  repeat (go_big_quiet_step (first | (go_at_call 163; with_reducible exact cls_same (n1 _)) | (go_at_call 163; with_reducible exact cls_same (n2 _)) | (go_at_call 109; with_reducible exact cls_same (n3 _))))
                  refine wpQuiet_nil ?_
                  intro wc hbc
                  go_wp2
                  go_ret
                  exact ⟨ret_bool HM.out.symm, hb1.trans (hbc.mono (by omega))⟩
                · have t6 : decide (xk ≤ y) = false := decide_eq_false hlt3
                  have HM := Lib.hid (HO.out (okLnk_iff.2 ⟨is1_size HP.out, is1_size HC.out, is1_word HP.out HC.out, HQ.out, by simp only; omega, h60.2⟩))
                  clear HN HO
                  refine wp_region_cls (by kernel_rfl) (by kernel_rfl) ?_
                  repeat (go_big_quiet_step (first | (go_at_call 163; with_reducible exact cls_same (n1 _)) | (go_at_call 163; with_reducible exact cls_same (n2 _)) | (go_at_call 109; with_reducible exact cls_same (n3 _))))
                  refine wpQuiet_nil ?_
                  intro wc hbc
                  go_wp2
                  go_roundw
                  case rel => exact ⟨k + 1, xk, by omega, by go_num, by omega, fun h => absurd h (by omega), fun _ => HPK.out, HM.out, hb1.trans (hbc.mono (by omega))⟩
                  case measure => simp [intOf]; omega
            · rw [show (decide ((1 : Int) ≤ xk) && decide (xk ≤ 60)) = false by rw [Bool.eq_false_iff]; intro e; rw [Bool.and_eq_true, decide_eq_true_eq, decide_eq_true_eq] at e; exact h60 e] at n3
              have HM := Lib.hid (HN.out (by rw [Bool.eq_false_iff]; intro e; have e1 := okLnk_iff.1 e; simp only at e1; exact h60 ⟨by have := e1.2.2.2.2.1; omega, e1.2.2.2.2.2⟩))
              clear HN HO
              refine wp_region_cls (by kernel_rfl) (by kernel_rfl) ?_
              repeat (go_big_quiet_step (first | (go_at_call 163; with_reducible exact cls_same (n1 _)) | (go_at_call 163; with_reducible exact cls_same (n2 _)) | (go_at_call 109; with_reducible exact cls_same (n3 _))))
              refine wpQuiet_nil ?_
              intro wc hbc
              go_wp2
              go_ret
              exact ⟨ret_bool HM.out.symm, hb1.trans (hbc.mono (by omega))⟩
    · have hk' : k = ms.length := by omega
      have HM : Hid (menuB ms = (decide (1 ≤ ms.length) && decide (ms.length ≤ 12))) := Lib.hid (by
        unfold menuB
        rw [HY.out, hk', List.drop_length]; simp [okFrom])
      have n3 := fun W => l1In_any (ms.length : Int) 1 12 W
      clear hyp0
      go_wp2_with (go_at_call 109; ((with_reducible refine (n3 _).mono ?_); rintro e w' ⟨rfl, rfl⟩))
      go_ret
      exact ⟨ret_bool (by rw [HM.out, Bool.eq_iff_iff, Bool.and_eq_true, Bool.and_eq_true, decide_eq_true_eq, decide_eq_true_eq, decide_eq_true_eq, decide_eq_true_eq]; omega), hb⟩
theorem l13Fits_any (a : Option Addr) (n c : Nat) (m : Mach) (v : ByteArray) (am : Option Addr) (cm : Nat) (ms : List Lnk) (w : World) (h : MachAt w w.heap.size a n m) (hv : v.size ≤ 4294967296) (hr : Reads w w.heap.size am (lks ms)) (hl : ms.length ≤ 4294967296) :
    Calls Tryz.prog 117 #[.agg #[.slice a n c, .string m.wheels.refl, .string m.rings, .string m.plugs], .string v, .slice am ms.length cm] w fun e w' => e = .returned (.bool (setB m v && menuB ms)) ∧ Below w.heap.size w w' := by
  have hb0 := (Below.refl w.heap.size w).alloc (Nat.le_refl _) (.cells [.slice a n c, .string m.wheels.refl, .string m.rings, .string m.plugs].toArray 27)
  have h' := h.alloc_ (.cells [.slice a n c, .string m.wheels.refl, .string m.rings, .string m.plugs].toArray 27)
  have HR := Lib.hid (fun (wr : World) (hb : Below w.heap.size w wr) => hr.below hb (Nat.le_refl _))
  clear hr
  go_enter Tryz.func117, Tryz.ntmps117
  go_wp2_with fail
  refine (l8Fits_any _ _ _ _ _ _ h' hv).mono ?_
  rintro e w1 ⟨rfl, hb1⟩
  have hb := bt hb0 hb1
  cases h1 : setB m v with
  | false =>
    have H1 := Lib.hid h1
    clear h1
    go_wp2
    go_ret
    exact ⟨ret_bool (by rw [H1.out]; rfl), hb⟩
  | true =>
    go_wp2_with fail
    refine (specMenuValid_any am cm ms _ ((HR.out _ hb).more hb.size) hl).mono ?_
    rintro e w2 ⟨rfl, hb2⟩
    have H1 := Lib.hid h1
    clear h1
    go_wp2
    go_ret
    exact ⟨ret_bool (by rw [H1.out, Bool.true_and]), bt hb hb2⟩
end Go.Proofs.YtbeohccbflhdiaaGreat

/- CheckMenu of the reference. -/
namespace Go.Proofs.YtbeohccbflhdiaaGreat
open Go.RowKit

/-- The keys of links without a plugboard. -/
def barS (m : Mach) (v : ByteArray) (ms : List Lnk) : List ByteArray := ms.map fun x => wd (keyN (bareM m) v (x.k.toNat - 1))
theorem barS_take {m : Mach} {v : ByteArray} {ms : List Lnk} {c : Nat} (h : c < ms.length) : barS m v (ms.take (c + 1)) = barS m v (ms.take c) ++ [wd (keyN (bareM m) v (kat ms c - 1))] := by
  unfold barS kat
  rw [List.take_succ_eq_append_getElem h, List.map_append, List.getElem?_eq_getElem h]
  simp
theorem len_barS (m : Mach) (v : ByteArray) (ms : List Lnk) : (barS m v ms).length = ms.length := by simp [barS]
theorem at_barS {m : Mach} {v : ByteArray} {ms : List Lnk} {c : Nat} (h : c < ms.length) : (sv (barS m v ms))[c]? = some (.string (wd (keyN (bareM m) v (kat ms c - 1)))) := by
  unfold barS kat
  rw [List.getElem?_eq_getElem h]
  simp [sv, h]
set_option maxRecDepth 100000 in
set_option maxHeartbeats 1000000 in
theorem l13Bare_any (a : Option Addr) (n c : Nat) (m : Mach) (v : ByteArray) (am : Option Addr) (cm : Nat) (ms : List Lnk) (w : World) (h : MachAt w w.heap.size a n m) (hs : setB m v = true) (hrm : Reads w w.heap.size am (lks ms)) (hA : Asc ms) :
    Calls Tryz.prog 118 #[.agg #[.slice a n c, .string m.wheels.refl, .string m.rings, .string m.plugs], .string v, .slice am ms.length cm] w (RowPost 9 1 ms.length (sv (barS m v ms)) w) := by
  have h1 := hA.one
  have h12 := hA.few
  have hsb := setB_bare hs
  have o0 := (Own.new w [.slice a n c, .string m.wheels.refl, .string m.rings, .string m.plugs] 27).alloc (.cells #[] 9)
  have z0 := World.ownsRow_lit (base := w.heap.size + 1) (e := 9) (size := 1) (w.alloc (.cells [.slice a n c, .string m.wheels.refl, .string m.rings, .string m.plugs].toArray 27)) #[] 0 (by simp) (by unfold maxLen; omega) (by simp)
  have hb0 := ((Below.refl w.heap.size w).alloc (Nat.le_refl _) (.cells [.slice a n c, .string m.wheels.refl, .string m.rings, .string m.plugs].toArray 27)).alloc (by simp) (.cells #[] 9)
  have hM := h.below hb0 (Nat.le_refl _)
  have z1 : OwR ((w.alloc (.cells [.slice a n c, .string m.wheels.refl, .string m.rings, .string m.plugs].toArray 27)).alloc (.cells #[] 9)) (w.heap.size + 1) 9 1 (.slice (some ⟨w.heap.size + 1, 0, none⟩) 0 0) 0 (sv (barS m v (ms.take 0))) := by
    simpa [sv, barS] using z0
  have HRM := Lib.hid (fun (wr : World) (hb : Below w.heap.size w wr) => hrm.below hb (Nat.le_refl _))
  have HA := Lib.hid hA
  obtain ⟨j, hj⟩ : ∃ j, ms.length = j + 1 := ⟨ms.length - 1, by omega⟩
  obtain ⟨N, hN⟩ : ∃ N, N = kat ms j := ⟨_, rfl⟩
  have hN1 : 1 ≤ N := by rw [hN]; exact hA.lo _ (by omega)
  have hN60 : N ≤ 60 := by rw [hN]; exact hA.hi _ (by omega)
  have hsub : IntKind.i64.wrap ((ms.length : Int) - 1) = (j : Int) := by rw [IntWalk.i64_in _ (by omega)]; omega
  obtain ⟨b, off, rfl, hbl, hcl⟩ := (HRM.out _ hb0).open_ (by rw [len_lks]; omega)
  have cl := hcl (j * 3 + 2) (by rw [len_lks]; omega)
  rw [lks_at2 _ _ (show j < ms.length by omega), ← Nat.add_assoc, hA.pos j (by omega), ← hN] at cl
  have HLL := Lib.hid (fun i (hi : i < ms.length) => hA.le_last (ms.length - 1 - i) i (by omega))
  have HNN : Hid (N = kat ms (ms.length - 1)) := Lib.hid (by rw [hN]; congr 1; omega)
  have q0 : (0 : Int) ≤ (j : Int) := by omega
  have q0' : (j : Int) < (ms.length : Int) := by omega
  clear hcl hA hrm h z0 hN
  have HJ := Lib.hid hj
  clear hj
  go_enter Tryz.func118, Tryz.ntmps118
  go_wp2_with fail
  generalize hW0 : ((w.alloc (.cells [.slice a n c, .string m.wheels.refl, .string m.rings, .string m.plugs].toArray 27)).alloc (.cells #[] 9)) = W0 at *
  have hz0 : W0.heap.size = w.heap.size + 1 + 1 := by rw [← hW0]; simp
  clear hW0
  have lo := o0.lt
  have d0 := fun (cc : Cls W0.heap.size W0) => (cc.cell w.heap.size 0 lo).trans (o0.at_ (i := 0) rfl)
  have d1 := fun (cc : Cls W0.heap.size W0) => (cc.cell w.heap.size 1 lo).trans (o0.at_ (i := 1) rfl)
  have d2 := fun (cc : Cls W0.heap.size W0) => (cc.cell w.heap.size 2 lo).trans (o0.at_ (i := 2) rfl)
  have d3 := fun (cc : Cls W0.heap.size W0) => (cc.cell b (off + j * 3 + 2) (by omega)).trans cl
  have HZ0 := Lib.hid hz0
  clear hz0
  refine wp_region_cls_tail 14 (by kernel_rfl) (by kernel_rfl) ?_
  simp only [List.take_succ_cons, List.take_zero, List.drop_succ_cons, List.drop_zero]
  repeat (go_big_quiet_step (first | (go_at_call 144; with_reducible exact cls_of (Nat.le_refl _) (specIdentityPerm_any _))))
  refine wpQuiet_nil ?_
  intro wc hbc
  have o1 := o0.below hbc lo
  have own1 := OwR.below z1 hbc (Nat.le_refl _)
  have hb1 := hb0.trans (hbc.mono (by have := HZ0.out; omega))
  have hM1 := ((hM.below hbc (by have := HZ0.out; omega)).more (show w.heap.size ≤ wc.heap.size by have := HZ0.out; have := hbc.size; omega)).bare
  clear o0 z1 hb0 hM d0 d1 d2 d3 cl lo
  go_wp2_with fail
  refine (l8Perms_any a n c (bareM m) v N wc hM1 hsb (by omega)).mono ?_
  rintro e w2 ⟨lv, rfl, hol, hb2⟩
  obtain ⟨al, cl2, rfl, hlc, -, hgl⟩ := hol.val
  rw [len_keyS] at *
  obtain ⟨gK, rfl, hgK, ok⟩ := hgl.resolve_left (by omega)
  have own2 := OwR.below own1 hb2 (Nat.le_refl _)
  have hbw2 := bt hb1 hb2
  have hz1 := hbc.size
  have hgb : w.heap.size + 1 + 1 ≤ gK := by have := HZ0.out; omega
  have hne : (Value.slice (some ⟨w.heap.size + 1, 0, none⟩) 0 0).ownBlock ≠ some gK := by simp [Value.ownBlock]; omega
  clear own1 hb1 hM1 o1 hb2 hol hgl hbc
  go_wp2_with fail
  go_loopw [7, 9] (fun u i wr => ∃ k : Nat, k ≤ ms.length ∧ i = .int .i64 k ∧ u.ownBlock ≠ some gK ∧ OwR wr (w.heap.size + 1) 9 1 u k (sv (barS m v (ms.take k))) ∧ Own wr gK (sv (keyS (bareM m) v N)) ∧ Below w.heap.size w wr) (fun _ i _ => ms.length - (intOf i).toNat)
  case atStart => exact ⟨0, Nat.zero_le _, rfl, hne, own2, ok, hbw2⟩
  case round =>
    clear own2 ok hbw2 hne
    obtain ⟨k, hk, rfl, hne, hown, ok, hb⟩ := hrel
    by_cases hlt : k < ms.length
    · obtain ⟨b', off', hbb, hbl', hcl⟩ := (HRM.out _ hb).open_ (by rw [len_lks]; omega)
      cases hbb
      have c2 := hcl (k * 3 + 2) (by rw [len_lks]; omega)
      rw [lks_at2 _ _ hlt, ← Nat.add_assoc, HA.out.pos k hlt] at c2
      have hlo := HA.out.lo k hlt
      have hhi := HA.out.hi k hlt
      have hll := HLL.out k hlt
      rw [← HNN.out] at hll
      obtain ⟨d, hd⟩ : ∃ d : Nat, kat ms k = d + 1 := ⟨kat ms k - 1, by omega⟩
      have hsub : IntKind.i64.wrap (((kat ms k : Nat) : Int) - 1) = (d : Int) := by rw [IntWalk.i64_in _ (by omega)]; omega
      have ck := ok.at_ (at_keyS (bareM m) v (n := N) (k := d) (by omega))
      have HS := Lib.hid (barS_take (m := m) (v := v) hlt)
      rw [hd] at HS
      rw [show d + 1 - 1 = d by omega] at HS
      have q1 : (0 : Int) ≤ (k : Int) := by omega
      have q2 : (k : Int) < (ms.length : Int) := by omega
      have q3 : (0 : Int) ≤ (d : Int) := by omega
      have q4 : (d : Int) < (N : Int) := by omega
      have hz := hb.size
      have hzz : w.heap.size + 1 ≤ wr.heap.size := by have := ok.lt; omega
      have lk := ok.lt
      clear hcl hlo hhi hll hd
      generalize kat ms k = kk at *
      generalize barS m v (ms.take k) = ls at *
      generalize wd (keyN (bareM m) v d) = y at *
      go_wp2_with (at_builtin; ((with_reducible refine wl_pushG 39 9 inf_str Tryz.underlying39 rfl (by omega) hown (by omega) rfl (by simp [Value.oneCell']) (by omega) (by omega) rfl rfl ?_); intro g cap w7 hr7 hg7 hat7 hz7 hk7))
      have og7 := ok.grownO hg7 hne
      have hb7 : Below w.heap.size w w7 := hb.grown hg7 hz (fun x e => by have := (World.ownsRow.lt hown x e).1; omega)
      have hne7 : (Value.slice (some ⟨g, 0, none⟩) (k + 1) cap).ownBlock ≠ some gK := by
        rcases hat7 with h1 | h1
        · rw [h1] at hne; exact hne
        · simp [Value.ownBlock]; omega
      go_roundw
      case rel =>
        refine ⟨k + 1, by omega, by go_num, hne7, ?_, og7, hb7⟩
        rw [HS.out, sv_append]
        exact hr7
      case measure => simp [intOf]; omega
    · have hk' : k = ms.length := by omega
      subst hk'
      rw [List.take_length] at hown
      go_wp2
      go_ret
      exact ⟨_, rfl, World.ownsRow.mono hown (Nat.le_succ _), hb⟩
theorem chk_bare {m : Mach} {v : ByteArray} {k d1 d2 : Nat} (h : machB m = true) (h1 : d1 < 10) (h2 : d2 < 10) :
    (pAt (keyN (bareM m) v k) (pAt (dg m.plugs) d1) == pAt (dg m.plugs) d2) = (pAt (keyN m v k) d1 == d2) := by
  have hq := machB_plugP h
  have hqi := plugB_inv (machB_plug h)
  have hkb := isP_keyN (machB_bare h) v k
  have hl := hkb.at_lt (hq.at_lt h1)
  rw [keyN_of_bare h, at_conj hkb hq h1, hqi.back hq, Bool.eq_iff_iff, beq_iff_eq, beq_iff_eq]
  constructor
  · intro e; rw [e]; exact hqi.at hq h2
  · intro e; rw [← e]; exact (hqi.at hq hl).symm
set_option maxRecDepth 100000 in
set_option maxHeartbeats 1000000 in
theorem specCheckMenu_any (a : Option Addr) (n c : Nat) (m : Mach) (v : ByteArray) (am : Option Addr) (cm : Nat) (ms : List Lnk) (w : World) (h : MachAt w w.heap.size a n m) (hv : v.size ≤ 4294967296) (hrm : Reads w w.heap.size am (lks ms)) (hl : ms.length ≤ 4294967296) :
    Calls Tryz.prog 63 #[.agg #[.slice a n c, .string m.wheels.refl, .string m.rings, .string m.plugs], .string v, .slice am ms.length cm] w fun e w' => e = .returned (.bool (chkT m v ms)) ∧ Below w.heap.size w w' := by
  have o0 := Own.new w [.slice a n c, .string m.wheels.refl, .string m.rings, .string m.plugs] 27
  have hb0 := (Below.refl w.heap.size w).alloc (Nat.le_refl _) (.cells [.slice a n c, .string m.wheels.refl, .string m.rings, .string m.plugs].toArray 27)
  have h' := h.alloc_ (.cells [.slice a n c, .string m.wheels.refl, .string m.rings, .string m.plugs].toArray 27)
  have hr' := (hrm.below hb0 (Nat.le_refl _)).more hb0.size
  have HRM := Lib.hid (fun (wr : World) (hb : Below w.heap.size w wr) => hrm.below hb (Nat.le_refl _))
  have HM := Lib.hid (fun (wr : World) (hb : Below w.heap.size w wr) => h.below hb (Nat.le_refl _))
  clear hrm h
  go_enter Tryz.func63, Tryz.ntmps63
  go_wp2_with fail
  refine (l13Fits_any _ _ _ _ _ _ _ _ _ h' hv hr' hl).mono ?_
  rintro e w1 ⟨rfl, hb1⟩
  have o1 := o0.below hb1 o0.lt
  have hb := bt hb0 hb1
  clear o0 hb0 hb1 h' hr'
  cases h1 : (setB m v && menuB ms) with
  | false =>
    have HT : Hid (chkT m v ms = false) := by
      show _ = _
      unfold chkT
      rw [← Bool.and_assoc, h1]; rfl
    clear h1
    go_wp2
    go_ret
    exact ⟨ret_bool HT.out.symm, hb⟩
  | true =>
    have HT : Hid (chkT m v ms = ms.all (chk1 m v)) := by
      show _ = _
      unfold chkT
      rw [← Bool.and_assoc, h1, Bool.true_and]
    obtain ⟨hs, hmn⟩ := Bool.and_eq_true_iff.1 h1
    clear h1
    have hmb := setB_mach hs
    have hasc := menuB_asc hmn
    have hone := hasc.one
    have hfew := hasc.few
    have HOK := Lib.hid (fun i (hi : i < ms.length) => okLnk_iff.1 (okFrom_asc ms 0 (menuB_ok hmn).2.2 i hi))
    have hpp := plugB_perm (machB_plug hmb)
    have HKAT := Lib.hid hasc.pos
    have f0 := o1.at_ (i := 0) rfl
    have f1 := o1.at_ (i := 1) rfl
    have f2 := o1.at_ (i := 2) rfl
    have f3 := o1.at_ (i := 3) rfl
    go_wp2_with fail
    refine (l13Bare_any a n c m v am cm ms _ ((HM.out _ hb).more hb.size) hs ((HRM.out _ hb).more hb.size) hasc).mono ?_
    rintro e w3 ⟨lv, rfl, hol, hb3⟩
    obtain ⟨al, cl, rfl, hlc, -, hgl⟩ := hol.val
    obtain ⟨gK, rfl, -, ok⟩ := hgl.resolve_left (by omega)
    have o3 := o1.below hb3 o1.lt
    have hbw3 := bt hb hb3
    clear o1 hb hb3 f0 f1 f2 f3 hol hgl hasc hmn
    go_wp2_with fail
    go_loopw [8, 9, 10] (fun i _ _ wr => ∃ k : Nat, k ≤ ms.length ∧ i = .int .i64 k ∧ (∀ j (hj : j < ms.length), j < k → chk1 m v ms[j] = true) ∧ Own wr gK (sv (barS m v ms)) ∧ Own wr w.heap.size [.slice a n c, .string m.wheels.refl, .string m.rings, .string m.plugs] ∧ Below w.heap.size w wr) (fun i _ _ _ => ms.length - (intOf i).toNat)
    case atStart => exact ⟨0, Nat.zero_le _, rfl, fun _ _ h => absurd h (by omega), ok, o3, hbw3⟩
    case round =>
      clear ok o3 hbw3
      obtain ⟨k, hk, rfl, ha, ok, o3, hb⟩ := hrel
      have HA := Lib.hid ha
      clear ha
      by_cases hlt : k < ms.length
      · obtain ⟨b, off, rfl, hbl, hcl⟩ := (HRM.out _ hb).open_ (by rw [len_lks]; omega)
        have c0 := hcl (k * 3) (by rw [len_lks]; omega)
        have c1 := hcl (k * 3 + 1) (by rw [len_lks]; omega)
        rw [lks_at0 _ _ hlt] at c0
        rw [lks_at1 _ _ hlt, ← Nat.add_assoc] at c1
        clear hcl
        have q1 : (0 : Int) ≤ (k : Int) := by omega
        have q2 : (k : Int) < (ms.length : Int) := by omega
        have hok := HOK.out k hlt
        have hkat := HKAT.out k hlt
        have HCB := Lib.hid (at_barS (m := m) (v := v) hlt)
        have HN : Hid (chk1 m v ms[k] = false → ms.all (chk1 m v) = false) := Lib.hid (fun e => by
          rw [Bool.eq_false_iff]
          intro e2
          rw [List.all_eq_true] at e2
          rw [e2 _ (List.getElem_mem hlt)] at e
          cases e)
        have HK := Lib.hid (fun (h : chk1 m v ms[k] = true) j (hj : j < ms.length) (hj2 : j < k + 1) => show chk1 m v ms[j] = true from by
          by_cases e : j = k
          · subst e; exact h
          · exact HA.out j hj (by omega))
        generalize ms[k] = x at *
        obtain ⟨xp, xc, xk⟩ := x
        simp only at c0 c1 hok hkat
        have hwt := word_two hok.2.2.1
        have hs1 := hok.1
        have hs2 := hok.2.1
        clear hok
        obtain ⟨e1, e2, -⟩ := lk_letter hs1 hwt.1
        obtain ⟨e4, e5, -⟩ := lk_letter hs2 hwt.2
        have n1 := fun W => l1Digit_any xp 0 W (by omega) (by omega) (by omega)
        have n2 := fun W => l1Digit_any xc 0 W (by omega) (by omega) (by omega)
        simp only [Int.toNat_zero] at n1 n2
        rw [e1] at n1
        rw [e4] at n2
        have hchk : chk1 m v ⟨xp, xc, xk⟩ = (pAt (keyN m v (kat ms k - 1)) (lkA xp) == lkA xc) := by
          unfold chk1
          simp only
          rw [hkat, Int.toNat_natCast]
        rw [← chk_bare hmb e2 e5] at hchk
        rw [hchk] at HN HK
        have n3 := fun W => l2Image_any m.plugs (lkA xp) W hpp e2
        have n4 := fun W => l2Image_any m.plugs (lkA xc) W hpp e5
        have hkb := isP_keyN (machB_bare hmb) v (kat ms k - 1)
        have hq := machB_plugP hmb
        have hq1 := hq.at_lt e2
        have n5 := fun W => l2Image_any (wd (keyN (bareM m) v (kat ms k - 1))) (pAt (dg m.plugs) (lkA xp)) W (permB_wd hkb) hq1
        rw [dg_wd hkb.lt] at n5
        clear hchk hwt e1 e4 hkat hkb hq
        generalize wd (keyN (bareM m) v (kat ms k - 1)) = y at *
        generalize pAt (keyN (bareM m) v (kat ms k - 1)) (pAt (dg m.plugs) (lkA xp)) = d5 at *
        generalize pAt (dg m.plugs) (lkA xp) = d3 at *
        generalize pAt (dg m.plugs) (lkA xc) = d4 at *
        generalize lkA xp = d1 at *
        generalize lkA xc = d2 at *
        have lo := o3.lt
        have lk := ok.lt
        have g0 := fun (cc : Cls wr.heap.size wr) => (cc.cell w.heap.size 3 lo).trans (o3.at_ (i := 3) rfl)
        have g1 := fun (cc : Cls wr.heap.size wr) => (cc.cell b (off + k * 3) (by have := hb.size; omega)).trans c0
        have g2 := fun (cc : Cls wr.heap.size wr) => (cc.cell b (off + k * 3 + 1) (by have := hb.size; omega)).trans c1
        go_wp2_with fail
        refine wp_region_cls (by kernel_rfl) (by kernel_rfl) ?_
        repeat (go_big_quiet_step (first | (go_at_call 120; with_reducible exact cls_same (n1 _)) | (go_at_call 119; with_reducible exact cls_same (n3 _))))
        refine wpQuiet_nil ?_
        intro wc hbc
        have hbA := hbc
        have o4 := o3.below hbc lo
        have ok4 := ok.below hbc lk
        have hb4 := bt hb hbc
        have h01 := fun (cc : Cls wc.heap.size wc) => (cc.cell w.heap.size 3 o4.lt).trans (o4.at_ (i := 3) rfl)
        have h02 := fun (cc : Cls wc.heap.size wc) => (cc.cell b (off + k * 3 + 1) (by have := hb4.size; omega)).trans (g2 ⟨wc, hbA⟩)
        clear o3 ok hb g0 g1 g2 c0 c1 hbc hbA
        generalize wc = w4 at *
        go_wp2_with fail
        refine wp_region_cls (by kernel_rfl) (by kernel_rfl) ?_
        repeat (go_big_quiet_step (first | (go_at_call 120; with_reducible exact cls_same (n2 _)) | (go_at_call 119; with_reducible exact cls_same (n4 _))))
        refine wpQuiet_nil ?_
        intro wc hbc
        have o5 := o4.below hbc o4.lt
        have ok5 := ok4.below hbc ok4.lt
        have hb5 := bt hb4 hbc
        have cb := ok5.at_ HCB.out
        clear o4 ok4 hb4 h01 h02 hbc n1 n2 n3 n4
        generalize wc = w5 at *
        by_cases hq : d5 = d4
        · have te : ((d5 : Int) != (d4 : Int)) = false := by rw [bne_eq_false_iff_eq]; omega
          have HQ := Lib.hid (HK.out (by rw [hq]; simp))
          clear hq HN HK
          go_wp2_with (go_at_call 119; ((with_reducible refine (n5 _).mono ?_); rintro e w' ⟨rfl, rfl⟩))
          go_roundw
          case rel => exact ⟨k + 1, by omega, by go_num, HQ.out, ok5, o5, hb5⟩
          case measure => simp [intOf]; omega
        · have te : ((d5 : Int) != (d4 : Int)) = true := by rw [bne_iff_ne]; omega
          have HQ := Lib.hid (HN.out (by rw [beq_eq_false_iff_ne]; exact hq))
          clear hq HN HK
          go_wp2_with (go_at_call 119; ((with_reducible refine (n5 _).mono ?_); rintro e w' ⟨rfl, rfl⟩))
          go_ret
          exact ⟨ret_bool (by rw [HT.out, HQ.out]), hb5⟩
      · have HE : Hid (ms.all (chk1 m v) = true) := Lib.hid (by
          rw [List.all_eq_true]
          intro x hx
          obtain ⟨j, hj, rfl⟩ := List.getElem_of_mem hx
          exact HA.out j hj (by omega))
        go_wp2
        go_ret
        exact ⟨ret_bool (by rw [HT.out, HE.out]), hb⟩
end Go.Proofs.YtbeohccbflhdiaaGreat

/- Menus drawn. -/
namespace Go.Proofs.YtbeohccbflhdiaaGreat
open Go.RowKit

/-- A menu is drawn. -/
def MenP (R c : Nat) (w : World) (e : Ending) (w' : World) : Prop :=
  ∃ (ms : List Lnk) (g cap : Nat), e = .returned (.slice (some ⟨g, 0, none⟩) ms.length cap) ∧ 1 ≤ ms.length ∧ ms.length ≤ 12 ∧ (∀ x ∈ ms, x.p.size ≤ 10 ∧ x.c.size ≤ 10) ∧ OwR w' w.heap.size 70 3 (.slice (some ⟨g, 0, none⟩) ms.length cap) ms.length (lks ms) ∧ Rd w' R c ∧ Moved R w w'
theorem size_letr1 (n : Int) : (S [letr n]).size ≤ 10 := by rw [size_S]; simp
theorem lks_snoc (ms : List Lnk) (a b : ByteArray) (k : Int) : lks (ms ++ [⟨a, b, k⟩]) = lks ms ++ [.string a, .string b, .int .i64 k] := by rw [lks_append]; rfl
theorem sml_snoc {ms : List Lnk} {a b : ByteArray} {k : Int} (h : ∀ x ∈ ms, x.p.size ≤ 10 ∧ x.c.size ≤ 10) (ha : a.size ≤ 10) (hb : b.size ≤ 10) : ∀ x ∈ ms ++ [⟨a, b, k⟩], x.p.size ≤ 10 ∧ x.c.size ≤ 10 := by
  intro x hx
  rcases List.mem_append.1 hx with h1 | h1
  · exact h x h1
  · rw [List.mem_singleton.1 h1]; exact ⟨ha, hb⟩
set_option maxRecDepth 100000 in
set_option maxHeartbeats 2000000 in
theorem l12Menu_any (R : Nat) (c : Nat) (w : World) (h : Rd w R c) (hc : c ≤ 6000000) :
    Calls Tryz.prog 161 #[.pointer (some ⟨R, 0, none⟩)] w (MenP R (c + 100) w) := by
  have hlt := h.lt
  have z0 := World.ownsRow.alloc (World.ownsRow_lit (base := w.heap.size) (e := 70) (size := 3) w #[] 0 (Nat.le_refl _) (by unfold maxLen; omega) (by simp)) (.cells [.int .i64 4, .int .i64 6, .int .i64 10, .int .i64 3].toArray 3)
  have hr0 := (h.alloc (.cells #[] 70)).alloc (.cells [.int .i64 4, .int .i64 6, .int .i64 10, .int .i64 3].toArray 3)
  have hm0 := ((Moved.refl R w).alloc (.cells #[] 70)).alloc (.cells [.int .i64 4, .int .i64 6, .int .i64 10, .int .i64 3].toArray 3)
  go_enter Tryz.func161, Tryz.ntmps161
  go_wp2_with fail
  have on : Own ((w.alloc (.cells #[] 70)).alloc (.cells [.int .i64 4, .int .i64 6, .int .i64 10, .int .i64 3].toArray 3)) (w.heap.size + 1) (iv [4, 6, 10, 3]) := by
    have := Own.new (w.alloc (.cells #[] 70)) [.int .i64 4, .int .i64 6, .int .i64 10, .int .i64 3] 3
    rw [World.size_alloc] at this
    exact this
  refine (num_any R (w.heap.size + 1) 4 4 [4, 6, 10, 3] c _ rfl on (by simp) (by omega) hr0 (by omega) (by simp)).mono ?_
  rintro e w1 ⟨z, hz, rfl, hr1, hm1⟩
  have hzb : 3 ≤ z ∧ z ≤ 10 := by
    simp only [List.mem_cons, List.not_mem_nil, or_false] at hz
    rcases hz with rfl | rfl | rfl | rfl <;> omega
  have z1 := OwR.moved z0 hm1 hlt
  have hmw1 := hm0.trans hm1
  clear z0 hr0 hm0 hm1 hz
  generalize hB0 : w.heap.size = B0 at *
  have HB0 := Lib.hid hB0
  clear hB0
  obtain ⟨sz, rfl⟩ := Int.eq_ofNat_of_zero_le (show 0 ≤ z by omega)
  go_wp2_with fail
  refine (pick_any R _ _ _ hr1 (by omega) (by omega) (by omega)).mono ?_
  rintro e w2 ⟨y, rfl, hy0, hy1, _, hr2, hm2⟩
  have hy4 := hy1 (by omega)
  have z2 := OwR.moved z1 hm2 hlt
  have hmw2 := hmw1.trans hm2
  clear z1 hr1 hmw1 hm2 hy1
  go_wp2_with fail
  refine (pick_any R _ _ _ hr2 (by omega) (by omega) (by omega)).mono ?_
  rintro e w3 ⟨x, rfl, hx0, hx1, _, hr3, hm3⟩
  have hx9 := hx1 (by omega)
  have z3 : OwR w3 B0 70 3 (.slice (some ⟨B0, 0, none⟩) 0 0) 0 (lks []) := OwR.moved z2 hm3 hlt
  have hmw3 := hmw2.trans hm3
  clear z2 hr2 hmw2 hm3 hx1
  obtain ⟨j, hj⟩ := Int.eq_ofNat_of_zero_le (show 0 ≤ 1 + x by omega)
  have hadd : IntKind.i64.wrap (1 + x) = (j : Int) := by rw [IntWalk.i64_in _ (by omega)]; omega
  have hj9 : 1 ≤ j ∧ j ≤ 9 := by omega
  clear hj
  go_wp2_with fail
  go_loopw [3, 5, 6, 7, 8] (fun u k i _ _ wr => ∃ (j : Nat) (ms : List Lnk) (g cap : Nat) (key : Int), i = .int .i64 j ∧ k = .int .i64 key ∧ 0 ≤ key ∧ key ≤ 4 + 3 * ms.length ∧ 1 ≤ ms.length + j ∧ ms.length + j ≤ 9 ∧ u = .slice (some ⟨g, 0, none⟩) ms.length cap ∧ (∀ x ∈ ms, x.p.size ≤ 10 ∧ x.c.size ≤ 10) ∧ OwR wr B0 70 3 (.slice (some ⟨g, 0, none⟩) ms.length cap) ms.length (lks ms) ∧ Rd wr R (c + 3 + 3 * ms.length) ∧ Moved R w wr) (fun _ _ i _ _ _ => (intOf i).toNat)
  case atStart => exact ⟨j, [], B0, 0, y, rfl, rfl, by omega, by simp; omega, by simp; omega, by simp; omega, rfl, by simp, z3, hr3.more (by simp), hmw3⟩
  case round =>
    clear z3 hr3 hmw3 hadd hj9
    obtain ⟨j, ms, g, cap, key, rfl, rfl, hk0, hk1, hl1, hl2, rfl, hsm, hown, hr, hm⟩ := hrel
    have HSM := Lib.hid hsm
    clear hsm
    by_cases hj0 : 0 < j
    · go_wp2_with fail
      refine (pick_any R _ _ _ hr (by omega) (by omega) (by omega)).mono ?_
      rintro e w4 ⟨x1, rfl, hx10, hx11, _, hr4, hm4⟩
      have hx1z := hx11 (by omega)
      have own4 := OwR.moved hown hm4 hlt
      have hmw4 := hm.trans hm4
      clear hown hr hm hm4 hx11
      have hsub : IntKind.i64.wrap ((sz : Int) - 1) = (sz : Int) - 1 := IntWalk.i64_in _ (by omega)
      have hadd1 : IntKind.i64.wrap (x1 + 1) = x1 + 1 := IntWalk.i64_in _ (by omega)
      go_wp2_with fail
      refine (pick_any R _ _ _ hr4 (by omega) (by omega) (by omega)).mono ?_
      rintro e w5 ⟨x2, rfl, hx20, hx21, _, hr5, hm5⟩
      have hx2z := hx21 (by omega)
      have own5 := OwR.moved own4 hm5 hlt
      have hmw5 := hmw4.trans hm5
      clear own4 hr4 hmw4 hm5 hx21
      have hadd2 : IntKind.i64.wrap (x1 + 1 + x2) = x1 + 1 + x2 := IntWalk.i64_in _ (by omega)
      have hz0 : ((sz : Int) == 0) = false := by rw [beq_eq_false_iff_ne]; omega
      have hadd3 : IntKind.i64.wrap (key + 1) = key + 1 := IntWalk.i64_in _ (by omega)
      go_wp2_with fail
      refine (pick_any R _ _ _ hr5 (by omega) (by omega) (by omega)).mono ?_
      rintro e w6 ⟨x3, rfl, hx30, hx31, _, hr6, hm6⟩
      have hx3z := hx31 (by omega)
      have own6 := OwR.moved own5 hm6 hlt
      have hmw6 := hmw5.trans hm6
      clear own5 hr5 hmw5 hm6 hx31
      have hadd4 : IntKind.i64.wrap (key + 1 + x3) = key + 1 + x3 := IntWalk.i64_in _ (by omega)
      have hz6 : B0 ≤ w6.heap.size := by have := hmw6.size; rw [HB0.out] at this; exact this
      go_wp2_with fail
      refine (l1Letter_any _ _).mono ?_
      rintro e w7 ⟨rfl, hb7⟩
      have own7 := OwR.below own6 hb7 (Nat.le_refl _)
      have hr7 := hr6.below hb7 hr6.lt
      have hmw7 := hmw6.below hb7
      have hz7 := Nat.le_trans hz6 hb7.size
      clear own6 hr6 hmw6 hb7 hz6
      go_wp2_with fail
      refine (l1Letter_any _ _).mono ?_
      rintro e w8 ⟨rfl, hb8⟩
      have own8 := OwR.below own7 hb8 (Nat.le_refl _)
      have hr8 := hr7.below hb8 hr7.lt
      have hmw8 := hmw7.below hb8
      have hz8 := Nat.le_trans hz7 hb8.size
      clear own7 hr7 hmw7 hb8 hz7
      go_wp2_with (at_builtin; ((with_reducible refine wl_push 66 70 inf_lnk Tryz.underlying66 rfl (by omega) own8 (by omega) rfl (one_lnk _ _ _) (by omega) (by omega) rfl rfl ?_); intro g9 cap9 w9 o9 b9 s9))
      go_roundw
      case rel =>
        refine ⟨j - 1, ms ++ [⟨S [letr x1], S [letr ((x1 + 1 + x2) % (sz : Int))], key + 1 + x3⟩], g9, cap9, key + 1 + x3, by go_num, rfl, by omega, by rw [List.length_append]; simp; omega, by rw [List.length_append]; simp; omega, by rw [List.length_append]; simp; omega, by simp, sml_snoc HSM.out (size_letr1 _) (size_letr1 _), ?_, (hr8.below b9 hlt).more (by rw [List.length_append]; simp; omega), hmw8.bel b9 (by rw [HB0.out]; exact Nat.le_refl _)⟩
        rw [lks_snoc, List.length_append]
        exact o9
      case measure => simp [intOf]; omega
    · have hj0' : j = 0 := by omega
      subst hj0'
      go_wp2
      go_ret
      exact ⟨ms, g, cap, rfl, by omega, by omega, HSM.out, by rw [HB0.out]; exact hown, hr.more (by omega), hm⟩
/-- Equal letters. -/
def repS (ch : UInt8) (a : Nat) : ByteArray := S (List.replicate a ch)
theorem size_repS (ch : UInt8) (a : Nat) : (repS ch a).size = a := by unfold repS; rw [size_S]; simp
theorem repS_add (ch : UInt8) (a b : Nat) : repS ch a ++ repS ch b = repS ch (a + b) := by unfold repS; rw [S_append, List.replicate_append_replicate]
theorem wd_repS {ch : UInt8} (h : isL ch = true) {n : Nat} (hn : n ≤ 200) : Wd n (repS ch n) := by
  refine ⟨?_, size_repS ch n⟩
  simp only [wordB, Bool.and_eq_true, decide_eq_true_eq, List.all_eq_true]
  refine ⟨by rw [size_repS]; exact hn, fun c hc => ?_⟩
  have : L (repS ch n) = List.replicate n ch := L_S _
  rw [this] at hc
  rw [(List.mem_replicate.1 hc).2]; exact h
theorem l21Many_rep (ch : UInt8) (n : Nat) (w : World) (hn : n ≤ 100) :
    Calls Tryz.prog 114 #[.string (S [ch]), .int .i64 (n : Int)] w fun e w' => e = .returned (.string (repS ch n)) ∧ w = w' := by
  go_enter Tryz.func114, Tryz.ntmps114
  go_wp2
  go_loop [0, 1, 5] (fun x i o => ∃ (k a b : Nat), k ≤ n ∧ x = .string (repS ch b) ∧ i = .int .i64 k ∧ o = .string (repS ch a) ∧ a + b * k = n ∧ b ≤ 2 * n + 1) (fun _ i _ => (intOf i).toNat)
  case atStart => exact ⟨n, 0, 1, by omega, rfl, rfl, rfl, by omega, by omega⟩
  case round =>
    obtain ⟨k, a, b, hk, rfl, rfl, rfl, h1, h2⟩ := hrel
    have z1 := size_repS ch a
    have z2 := size_repS ch b
    by_cases hlt : 0 < k
    · have hst := many_step b k
      have hsk : b ≤ b * k := Nat.le_mul_of_pos_right _ hlt
      have hb10 : b ≤ n := by omega
      have hd1 := repS_add ch b b
      have hd2 := repS_add ch a b
      have g1 : (repS ch b).size ≤ 100 := by omega
      have g2 : (repS ch a).size ≤ 100 := by omega
      have HD1 := Lib.hid hd1
      have HD2 := Lib.hid hd2
      clear hd1 hd2 z1 z2
      by_cases ho : k % 2 = 1
      · have t1 : ((k : Int) % 2 == 1) = true := by rw [beq_iff_eq]; omega
        rw [if_pos ho] at hst
        have HST := Lib.hid hst
        have HH := Lib.hid h1
        clear ho hst h1
        go_wp2
        go_round
        case rel =>
          refine ⟨k / 2, a + b, b + b, by omega, by rw [HD1.out], by go_num, by rw [HD2.out], ?_, by omega⟩
          have e1 := HST.out
          have e2 := HH.out
          rw [e1] at e2; omega
        case measure => simp [intOf]; omega
      · have t1 : ((k : Int) % 2 == 1) = false := by rw [beq_eq_false_iff_ne]; omega
        rw [if_neg ho] at hst
        have HST := Lib.hid hst
        have HH := Lib.hid h1
        clear ho hst h1
        go_wp2
        go_round
        case rel =>
          refine ⟨k / 2, a, b + b, by omega, by rw [HD1.out], by go_num, rfl, ?_, by omega⟩
          have e1 := HST.out
          have e2 := HH.out
          rw [e1] at e2; omega
        case measure => simp [intOf]; omega
    · have hk0 : k = 0 := by omega
      subst hk0
      have ha : a = n := by simpa using h1
      subst ha
      go_wp2
      go_ret
      exact ⟨rfl, rfl⟩
end Go.Proofs.YtbeohccbflhdiaaGreat

/- A machine, windows and a menu drawn. -/
namespace Go.Proofs.YtbeohccbflhdiaaGreat
open Go.RowKit
attribute [local go_sem] Oper.semAt_some

section
variable {P : Program} {ops : Array Oper} {Q : Exit → Act → World → Prop} {md : Region.Mode} {S : World → Prop} {kp : Nat → Bool}
/-- A call whose answer is one of many. -/
theorem kr_callM (i d : Nat) {o : Oper} {f : FuncId} {args : Array Value} {R : Ending → World → Prop} {fuel : Nat} {listed : Array Bool} {a : Act} {w : World} (hr : Region.ready md ops listed = [i]) (hi : ops[i]? = some o) (hw : Region.wanted o (yielded ops a.tmps) = true)
    (hd : o.dst = some d) (he : ∀ w, (execOp a.eval o).run P w = .ok (.enter f args) w) (hc : Calls P f args w R)
    (h : ∀ e w', R e w' → ∃ v, e = .returned v ∧ S w' ∧ wpAnyK P md ops Q S kp fuel (listed.setIfInBounds i true) (a.put (some d) v) w') : wpAnyK P md ops Q S kp (fuel + 1) listed a w := by
  refine kr_one i hr hi hw ?_
  simp only [Oper.wp, he, Oper.upon]
  refine hc.mono ?_
  intro e w' hT
  obtain ⟨v, rfl, h1, h2⟩ := h e w' hT
  rw [hd]
  exact ⟨fun _ => h1, h2⟩
end
/-- A machine, windows that fit it, and a menu. -/
def FitL (R c : Nat) (w : World) (e : Ending) (w' : World) : Prop :=
  ∃ (m : Mach) (u : ByteArray) (ms : List Lnk) (g cp gm cm : Nat), GoodW3 m.wheels ∧ setB m u = true ∧ e = .returned (.tuple #[.agg #[.slice (some ⟨g, 0, none⟩) m.wheels.rotors.length cp, .string m.wheels.refl, .string m.rings, .string m.plugs], .string u, .slice (some ⟨gm, 0, none⟩) ms.length cm]) ∧
    OwR w' w.heap.size 137 2 (.slice (some ⟨g, 0, none⟩) m.wheels.rotors.length cp) m.wheels.rotors.length (rvs m.wheels.rotors) ∧ w.heap.size < g ∧ 1 ≤ ms.length ∧ ms.length ≤ 12 ∧ (∀ x ∈ ms, x.p.size ≤ 10 ∧ x.c.size ≤ 10) ∧ OwR w' w.heap.size 70 3 (.slice (some ⟨gm, 0, none⟩) ms.length cm) ms.length (lks ms) ∧ gm ≠ g ∧ w.heap.size < gm ∧ Rd w' R c ∧ Moved R w w'
set_option maxRecDepth 100000 in
set_option maxHeartbeats 2000000 in
theorem l13Some_any (R : Nat) (c : Nat) (w : World) (h : Rd w R c) (hc : c ≤ 5000000) :
    Calls Tryz.prog 140 #[.pointer (some ⟨R, 0, none⟩)] w (FitL R (c + 900) w) := by
  have hltR := h.lt
  have o0 := Own.new w [.slice none 0 0, .string ⟨#[]⟩, .string ⟨#[]⟩, .string ⟨#[]⟩] 27
  have hr0 := h.alloc (.cells #[.slice none 0 0, .string ⟨#[]⟩, .string ⟨#[]⟩, .string ⟨#[]⟩] 27)
  have hm0 := (Moved.refl R w).alloc (.cells #[.slice none 0 0, .string ⟨#[]⟩, .string ⟨#[]⟩, .string ⟨#[]⟩] 27)
  go_enter Tryz.func140, Tryz.ntmps140
  go_wp2_with fail
  refine (l8Any_any R c _ hr0 (by omega)).mono ?_
  rintro e w2 ⟨m, v, g, cp, hx, hset, rfl, hown2, hg, hr2, hm2⟩
  have o2 := o0.grown hm2 (by simp; omega)
  have hmw2 := hm0.trans hm2
  have hv3 := setB_3 hset
  have hv1 := setB_1 hset
  rw [World.size_alloc] at hown2 hg
  clear o0 hr0 hm0 hm2 h
  generalize hB0 : w.heap.size = B0 at *
  have HB0 := Lib.hid hB0
  clear hB0
  have p2 := Own.new w2 [.slice (some ⟨g, 0, none⟩) m.wheels.rotors.length cp, .string m.wheels.refl, .string m.rings, .string m.plugs] 27
  have o2' := o2.alloc (.cells [.slice (some ⟨g, 0, none⟩) m.wheels.rotors.length cp, .string m.wheels.refl, .string m.rings, .string m.plugs].toArray 27)
  have hr2' := hr2.alloc (.cells [.slice (some ⟨g, 0, none⟩) m.wheels.rotors.length cp, .string m.wheels.refl, .string m.rings, .string m.plugs].toArray 27)
  have hown2' := World.ownsRow.alloc hown2 (.cells [.slice (some ⟨g, 0, none⟩) m.wheels.rotors.length cp, .string m.wheels.refl, .string m.rings, .string m.plugs].toArray 27)
  have hm2' := hmw2.alloc (.cells [.slice (some ⟨g, 0, none⟩) m.wheels.rotors.length cp, .string m.wheels.refl, .string m.rings, .string m.plugs].toArray 27)
  have l2 := o2.lt
  have lg := (World.ownsRow.lt hown2 g rfl).2
  go_wp2_with fail
  generalize (w2.alloc (.cells [.slice (some ⟨g, 0, none⟩) m.wheels.rotors.length cp, .string m.wheels.refl, .string m.rings, .string m.plugs].toArray 27)) = W2 at *
  generalize w2.heap.size = B2 at *
  clear o2 hr2 hown2 hmw2
  refine (pick_any R _ _ _ hr2' (by omega) (by omega) (by omega)).mono ?_
  rintro e w3 ⟨x, rfl, hx0, hx1, _, hr3, hm3⟩
  have o3 := o2'.grown hm3 (by simp; omega)
  have p3 := p2.grown hm3 (by simp; omega)
  have hown3 := OwR.moved (R := R) (base := B0 + 1) hown2' hm3 (by omega)
  have hmw3 := hm2'.trans hm3
  have l3 := p3.lt
  clear o2' p2 hown2' hm2' hm3 hr2' hx1
  by_cases e0 : x = 0
  · have t0 : (x == 0) = true := by simp [e0]
    clear e0
    go_wp2_with fail
    refine wp_onlyN ?_
    refine wp_region_any (by kernel_rfl) ?_
    refine wpAny_of_K (S := fun w' => w'.rangeAt B2 0 [.slice (some ⟨g, 0, none⟩) m.wheels.rotors.length cp, .string m.wheels.refl, .string m.rings, .string m.plugs]) (kp := fun _ => true) _ _ _ _ ?_
    have hbd : Below w3.heap.size w3 w3.drew := (Below.refl _ _).drew
    have hS : w3.drew.rangeAt B2 0 [.slice (some ⟨g, 0, none⟩) m.wheels.rotors.length cp, .string m.wheels.refl, .string m.rings, .string m.plugs] := (p3.below hbd l3).cells.range
    refine kr_take 0 21 (v := .agg #[.slice (some ⟨g, 0, none⟩) m.wheels.rotors.length cp, .string m.wheels.refl, .string m.rings, .string m.plugs]) rfl (by kernel_rfl) (by kernel_rfl) (by kernel_rfl) (by kernel_rfl) (fun _ _ _ h => by cases h.1) rfl hS (yieldsIf_load_mid (by rfl) _ _ rfl _ _ rfl _ _ (fun _ h => h) Tryz.underlying27 rfl (by kernel_rfl)) ?_
    simp only [Act.put, List.setIfInBounds_toArray, List.set_cons_succ, List.set_cons_zero]
    refine kr_take 1 22 (v := .string v) rfl (by kernel_rfl) (by kernel_rfl) (by kernel_rfl) (by kernel_rfl) (fun _ _ _ h => by cases h.1) rfl hS (Or.inl ⟨by rfl, fun _ _ => rfl⟩) ?_
    simp only [Act.put, List.setIfInBounds_toArray, List.set_cons_succ, List.set_cons_zero]
    refine kr_take 2 23 (v := .pointer (some ⟨R, 0, none⟩)) rfl (by kernel_rfl) (by kernel_rfl) (by kernel_rfl) (by kernel_rfl) (fun _ _ _ h => by cases h.1) rfl hS (Or.inl ⟨by rfl, fun _ _ => rfl⟩) ?_
    simp only [Act.put, List.setIfInBounds_toArray, List.set_cons_succ, List.set_cons_zero]
    refine kr_callM 3 24 (by kernel_rfl) rfl (by rfl) rfl (fun w => by simp [go_sem]) (l12Menu_any R _ w3.drew hr3.drew (by omega)) (fun e w4 hT => ?_)
    obtain ⟨ms, gm, cm, rfl, hl1, hl2, hsm, hrow, hr4, hm4⟩ := hT
    have o4 := o3.drew.grown hm4 (by simp; omega)
    have p4 := p3.drew.grown hm4 (by simp; omega)
    have hown4 := OwR.moved (w := w3.drew) hown3 hm4 (by omega)
    have hmw4 := hmw3.drew.trans hm4
    have hgm := (World.ownsRow.lt hrow gm rfl).1
    have hgm' : w3.heap.size ≤ gm := hgm
    have hz4 := hm4.size
    refine ⟨_, rfl, p4.cells.range, ?_⟩
    simp only [Act.put, List.setIfInBounds_toArray, List.set_cons_succ, List.set_cons_zero]
    have c0 := o4.at_ (i := 0) rfl
    have c1 := o4.at_ (i := 1) rfl
    have c2 := o4.at_ (i := 2) rfl
    have c3 := o4.at_ (i := 3) rfl
    have b0 := o4.free 0 (by simp)
    have b1 := o4.free 1 (by simp)
    have b2 := o4.free 2 (by simp)
    have b3 := o4.free 3 (by simp)
    refine kr_one 4 (by kernel_rfl) rfl (by rfl) ?_
    simp [Oper.wp, Oper.upon, go_sem, c0, c1, c2, c3, b0, b1, b2, b3]
    have p5 := (((p4.far (p := ⟨B0, 0, none⟩) (by simp; omega) (.slice (some ⟨g, 0, none⟩) m.wheels.rotors.length cp)).far (p := ⟨B0, 1, none⟩) (by simp; omega) (.string m.wheels.refl)).far (p := ⟨B0, 2, none⟩) (by simp; omega) (.string m.rings)).far (p := ⟨B0, 3, none⟩) (by simp; omega) (.string m.plugs)
    have hS5 := p5.cells.range
    refine ⟨hS5, ?_⟩
    refine kr_take 5 3 (v := .string v) rfl (by kernel_rfl) (by kernel_rfl) (by kernel_rfl) (by kernel_rfl) (fun _ _ _ h => by cases h.1) rfl hS5 (Or.inl ⟨by rfl, fun _ _ => rfl⟩) ?_
    simp only [Act.put, List.setIfInBounds_toArray, List.set_cons_succ, List.set_cons_zero]
    refine kr_take 6 4 (v := .slice (some ⟨gm, 0, none⟩) ms.length cm) rfl (by kernel_rfl) (by kernel_rfl) (by kernel_rfl) (by kernel_rfl) (fun _ _ _ h => by cases h.1) rfl hS5 (Or.inl ⟨by rfl, fun _ _ => rfl⟩) ?_
    simp only [Act.put, List.setIfInBounds_toArray, List.set_cons_succ, List.set_cons_zero]
    refine ⟨by kernel_rfl, onlyN_mk ?_⟩
    have oz := o4.set4 (.slice (some ⟨g, 0, none⟩) m.wheels.rotors.length cp) (.string m.wheels.refl) (.string m.rings) (.string m.plugs)
    have k0 := oz.at_ (i := 0) rfl
    have k1 := oz.at_ (i := 1) rfl
    have k2 := oz.at_ (i := 2) rfl
    have k3 := oz.at_ (i := 3) rfl
    unfold set4 at k0 k1 k2 k3
    go_wp2
    refine bodyPost_ret (v := .tuple #[.agg #[.slice (some ⟨g, 0, none⟩) m.wheels.rotors.length cp, .string m.wheels.refl, .string m.rings, .string m.plugs], .string v, .slice (some ⟨gm, 0, none⟩) ms.length cm]) (by simp [results, Tryz.results140, go_sem, k0, k1, k2, k3]) rfl ?_
    refine ⟨m, v, ms, g, cp, gm, cm, hx, hset, rfl, ?_, by rw [HB0.out]; omega, hl1, hl2, hsm, ?_, by omega, by rw [HB0.out]; omega, (hr4.set4 (by omega) _ _ _ _).more (by omega), hmw4.set4 (by rw [HB0.out]; exact Nat.le_refl _) _ _ _ _⟩
    · rw [HB0.out]
      exact World.ownsRow.mono (OwR.set4 hown4 (by omega) _ _ _ _) (by omega)
    · rw [HB0.out]
      exact World.ownsRow.mono (OwR.set4 hrow (by omega) _ _ _ _) (by show B0 ≤ w3.heap.size; omega)
  · have t0 : (x == 0) = false := by simp [e0]
    clear e0
    clear hx0
    go_wp2_with fail
    refine (pick_any R _ _ _ hr3 (by omega) (by omega) (by omega)).mono ?_
    rintro e w4 ⟨x1, rfl, hx10, hx11, _, hr4, hm4⟩
    have hx1z := hx11 (by omega)
    have o4 := o3.grown hm4 (by simp; omega)
    have p4 := p3.grown hm4 (by simp; omega)
    have hown4 := OwR.moved (R := R) hown3 hm4 (by omega)
    have hmw4 := hmw3.trans hm4
    clear o3 p3 hown3 hmw3 hm4 hr3 hx11
    obtain ⟨a1, rfl⟩ := Int.eq_ofNat_of_zero_le hx10
    obtain ⟨L1, hL1⟩ : ∃ L1 : Nat, L1 = 2 + a1 := ⟨_, rfl⟩
    have hadd1 : IntKind.i64.wrap (2 + (a1 : Int)) = (L1 : Int) := by rw [IntWalk.i64_in _ (by omega)]; omega
    have hL1b : 2 ≤ L1 ∧ L1 ≤ 10 := by omega
    clear hL1
    go_wp2_with fail
    refine (l1Some_any R L1 _ _ hr4 (by omega) (by omega)).mono ?_
    rintro e w5 ⟨s, hs, rfl, hr5, hm5⟩
    have o5 := o4.grown hm5 (by simp; omega)
    have p5 := p4.grown hm5 (by simp; omega)
    have hown5 := OwR.moved (R := R) hown4 hm5 (by omega)
    have hmw5 := hmw4.trans hm5
    clear o4 p4 hown4 hmw4 hm5 hr4
    go_wp2_with fail
    refine (pick_any R _ _ _ hr5 (by omega) (by omega) (by omega)).mono ?_
    rintro e w6 ⟨x2, rfl, _, _, _, hr6, hm6⟩
    have o6 := o5.grown hm6 (by simp; omega)
    have p6 := p5.grown hm6 (by simp; omega)
    have hown6 := OwR.moved (R := R) hown5 hm6 (by omega)
    have hmw6 := hmw5.trans hm6
    clear o5 p5 hown5 hmw5 hm6 hr5
    have l6 := p6.lt
    go_upto_if 32 with (fail)
    go_cut [7] (fun u wr => ∃ (s : ByteArray) (L1 : Nat), u = .string s ∧ Wd L1 s ∧ 2 ≤ L1 ∧ L1 ≤ 10 ∧ Own wr B0 [.slice none 0 0, .string ⟨#[]⟩, .string ⟨#[]⟩, .string ⟨#[]⟩] ∧ Own wr B2 [.slice (some ⟨g, 0, none⟩) m.wheels.rotors.length cp, .string m.wheels.refl, .string m.rings, .string m.plugs] ∧ OwR wr (B0 + 1) 137 2 (.slice (some ⟨g, 0, none⟩) m.wheels.rotors.length cp) m.wheels.rotors.length (rvs m.wheels.rotors) ∧ Rd wr R (c + 700) ∧ Moved R w wr)
    case first =>
      by_cases e2 : x2 = 0
      · have t2 : (x2 == 0) = true := by simp [e2]
        clear e2
        go_wp2_with fail
        refine (pick_any R _ _ _ hr6 (by omega) (by omega) (by omega)).mono ?_
        rintro e w7 ⟨x3, rfl, _, _, _, hr7, hm7⟩
        have o7 := o6.grown hm7 (by simp; omega)
        have p7 := p6.grown hm7 (by simp; omega)
        have hown7 := OwR.moved (R := R) hown6 hm7 (by omega)
        have hmw7 := hmw6.trans hm7
        clear o6 p6 hown6 hmw6 hm7 hr6
        go_wp2_with fail
        refine (l1Letter_any _ _).mono ?_
        rintro e w8 ⟨rfl, hb8⟩
        have o8 := o7.below hb8 o7.lt
        have p8 := p7.below hb8 p7.lt
        have hown8 := OwR.below hown7 hb8 (Nat.le_refl _)
        have hr8 := hr7.below hb8 hr7.lt
        have hmw8 := hmw7.below hb8
        clear o7 p7 hown7 hmw7 hb8 hr7
        have l8 := p8.lt
        go_wp2_with fail
        refine (pick_any R _ _ _ hr8 (by omega) (by omega) (by omega)).mono ?_
        rintro e w9 ⟨x4, rfl, hx40, hx41, _, hr9, hm9⟩
        have hx4z := hx41 (by omega)
        have o9 := o8.grown hm9 (by simp; omega)
        have p9 := p8.grown hm9 (by simp; omega)
        have hown9 := OwR.moved (R := R) hown8 hm9 (by omega)
        have hmw9 := hmw8.trans hm9
        clear o8 p8 hown8 hmw8 hm9 hr8 hx41
        obtain ⟨a4, rfl⟩ := Int.eq_ofNat_of_zero_le hx40
        obtain ⟨L2, hL2⟩ : ∃ L2 : Nat, L2 = 2 + a4 := ⟨_, rfl⟩
        have hadd2 : IntKind.i64.wrap (2 + (a4 : Int)) = (L2 : Int) := by rw [IntWalk.i64_in _ (by omega)]; omega
        have hL2b : 2 ≤ L2 ∧ L2 ≤ 10 := by omega
        clear hL2
        have nrep := fun W => l21Many_rep (letr x3) L2 W (by omega)
        have hwd := wd_repS (isL_letr x3) (n := L2) (by omega)
        go_wp2_with (go_at_call 114; ((with_reducible refine (nrep _).mono ?_); rintro e w' ⟨rfl, rfl⟩))
        go_meet
        exact ⟨_, L2, rfl, hwd, hL2b.1, hL2b.2, o9, p9, World.ownsRow.mono hown9 (by omega), hr9.more (by omega), hmw9⟩
      · have t2 : (x2 == 0) = false := by simp [e2]
        clear e2
        go_wp2_with fail
        go_meet
        exact ⟨s, L1, rfl, hs, hL1b.1, hL1b.2, o6, p6, World.ownsRow.mono hown6 (by omega), hr6.more (by omega), hmw6⟩
    case rest =>
    clear o6 p6 hown6 hmw6 hr6 l6 hs hL1b
    obtain ⟨s, L1, rfl, hs, hL1, hL2, o6, p6, hown6, hr6, hmw6⟩ := hcut
    have l6 := p6.lt
    go_wp2_with fail
    refine (pick_any R _ _ _ hr6 (by omega) (by omega) (by omega)).mono ?_
    rintro e w7 ⟨x5, rfl, hx50, hx51, _, hr7, hm7⟩
    have hx5z := hx51 (by omega)
    have o7 := o6.grown hm7 (by simp; omega)
    have p7 := p6.grown hm7 (by simp; omega)
    have hown7 := OwR.moved (R := R) hown6 hm7 (by omega)
    have hmw7 := hmw6.trans hm7
    clear o6 p6 hown6 hmw6 hm7 hr6 hx51
    obtain ⟨q, rfl⟩ := Int.eq_ofNat_of_zero_le hx50
    have hsz := hs.2
    have hs2 : 2 ≤ s.size := by omega
    have hs10 : s.size ≤ 10 := by omega
    have hws := hs.1
    obtain ⟨N, hN⟩ : ∃ N : Nat, N = q + s.size := ⟨_, rfl⟩
    have hadd5 : IntKind.i64.wrap ((q : Int) + (s.size : Int)) = (N : Int) := by rw [IntWalk.i64_in _ (by omega)]; omega
    have hN1 : q + s.size ≤ N := by omega
    have hN2 : N ≤ 20 := by omega
    clear hsz hN hs hL1 hL2
    have f0 := p7.at_ (i := 0) rfl
    have f1 := p7.at_ (i := 1) rfl
    have f2 := p7.at_ (i := 2) rfl
    have f3 := p7.at_ (i := 3) rfl
    have hmb := setB_mach hset
    have hat : MachAt w7 w7.heap.size (some ⟨g, 0, none⟩) m.wheels.rotors.length m := ⟨hx.small.at_ (Reads.of_own (OwR.own hown7) (OwR.own hown7).lt), by rw [(machB_fit hmb).size]; have := hx.2.1; omega, by rw [permB_size (plugB_perm (machB_plug hmb))]; omega⟩
    go_wp2_with fail
    refine (l8Perms_any _ _ _ m v N w7 hat hset (by omega)).mono ?_
    rintro e w8 ⟨lv, rfl, hol, hb8⟩
    obtain ⟨al, cl2, rfl, hlc, -, hgl⟩ := hol.val
    rw [len_keyS] at *
    obtain ⟨gK, rfl, hgK, ok⟩ := hgl.resolve_left (by omega)
    have o8 := o7.below hb8 o7.lt
    have p8 := p7.below hb8 p7.lt
    have hown8 := OwR.below hown7 hb8 (Nat.le_refl _)
    have hr8 := hr7.below hb8 hr7.lt
    have hmw8 := hmw7.below hb8
    have l7 := p7.lt
    have hzz := hb8.size
    clear o7 p7 hown7 hmw7 hb8 hr7 f0 f1 f2 f3 hat hol hgl
    have o9 := o8.alloc (.cells #[] 70)
    have p9 := p8.alloc (.cells #[] 70)
    have ok9 := ok.alloc (.cells #[] 70)
    have hown9 := World.ownsRow.alloc hown8 (.cells #[] 70)
    have hr9 := hr8.alloc (.cells #[] 70)
    have hmw9 := hmw8.alloc (.cells #[] 70)
    have z9 := World.ownsRow_lit (base := w8.heap.size) (e := 70) (size := 3) w8 #[] 0 (Nat.le_refl _) (by unfold maxLen; omega) (by simp)
    have hlg := (World.ownsRow.lt hown8 g rfl).2
    have lK := ok.lt
    have l8 := p8.lt
    clear o8 p8 ok hown8 hr8 hmw8
    go_wp2_with fail
    generalize (w8.alloc (.cells #[] 70)) = W8 at *
    generalize w8.heap.size = BL at *
    have z9' : OwR W8 BL 70 3 (.slice (some ⟨BL, 0, none⟩) 0 0) 0 (lks []) := z9
    go_loopw [10, 11, 12] (fun u i _ wr => ∃ (k : Nat) (ms : List Lnk) (gm cm : Nat), k ≤ s.size ∧ i = .int .i64 k ∧ ms.length = k ∧ u = .slice (some ⟨gm, 0, none⟩) ms.length cm ∧ (∀ x ∈ ms, x.p.size ≤ 10 ∧ x.c.size ≤ 10) ∧ OwR wr BL 70 3 (.slice (some ⟨gm, 0, none⟩) ms.length cm) ms.length (lks ms) ∧ Own wr gK (sv (keyS m v N)) ∧ Own wr B0 [.slice none 0 0, .string ⟨#[]⟩, .string ⟨#[]⟩, .string ⟨#[]⟩] ∧ Own wr B2 [.slice (some ⟨g, 0, none⟩) m.wheels.rotors.length cp, .string m.wheels.refl, .string m.rings, .string m.plugs] ∧ OwR wr (B0 + 1) 137 2 (.slice (some ⟨g, 0, none⟩) m.wheels.rotors.length cp) m.wheels.rotors.length (rvs m.wheels.rotors) ∧ Rd wr R (c + 701) ∧ Moved R w wr) (fun _ i _ _ => s.size - (intOf i).toNat)
    case atStart => exact ⟨0, [], BL, 0, Nat.zero_le _, rfl, rfl, rfl, by simp, z9', ok9, o9, p9, hown9, hr9.more (by omega), hmw9⟩
    case round =>
      clear z9 z9' ok9 o9 p9 hown9 hr9 hmw9
      obtain ⟨k, ms, gm, cm, hk, rfl, hml, rfl, hsm, hrow, ok, o9, p9, hown9, hr9, hmw9⟩ := hrel
      have HSM := Lib.hid hsm
      have HML := Lib.hid hml
      clear hsm
      by_cases hlt : k < s.size
      · obtain ⟨j, hj⟩ : ∃ j : Nat, j = q + k := ⟨_, rfl⟩
        have haddj : IntKind.i64.wrap ((q : Int) + (k : Int)) = (j : Int) := by rw [IntWalk.i64_in _ (by omega)]; omega
        have hjN : j < N := by omega
        have ck := ok.at_ (at_keyS m v hjN)
        have lk := ok.lt
        have d0 := fun (cc : Cls wr.heap.size wr) => (cc.cell gK j lk).trans ck
        have hdg := wordB_at hws k hlt
        obtain ⟨d, hd⟩ := Int.eq_ofNat_of_zero_le hdg.1
        have hd10 : d < 10 := by omega
        have nd := fun W => l1Digit_any s (k : Int) W (by omega) (by omega) (by omega)
        simp only [Int.toNat_natCast] at nd
        rw [hd] at nd
        have hkk := isP_keyN hmb v j
        have ni := fun W => l2Image_any (wd (keyN m v j)) d W (permB_wd hkk) hd10
        rw [dg_wd hkk.lt] at ni
        have hdl := hkk.at_lt hd10
        have hw10 : (s.extract k (k + 1)).size ≤ 10 := by rw [one_extract hlt, size_S]; simp
        have q1 : (0 : Int) ≤ (k : Int) := by omega
        have q2 : (k : Int) ≤ (k : Int) + 1 := by omega
        have q3 : (k : Int) + 1 ≤ (s.size : Int) := by omega
        have q4 : (0 : Int) ≤ (j : Int) := by omega
        have q5 : (j : Int) < (N : Int) := by omega
        clear hj hdg hd hkk ck
        generalize wd (keyN m v j) = y at *
        generalize pAt (keyN m v j) d = d2 at *
        have nl := fun W => l1Letter_any (d2 : Int) W
        go_wp2_with fail
        refine wp_region_cls (by kernel_rfl) (by kernel_rfl) ?_
        repeat (go_big_quiet_step (first | (go_at_call 120; with_reducible exact cls_same (nd _)) | (go_at_call 119; with_reducible exact cls_same (ni _)) | (go_at_call 111; with_reducible exact cls_of (Nat.le_refl _) (nl _))))
        refine wpQuiet_nil ?_
        intro wc hbc
        have o10 := o9.below hbc o9.lt
        have p10 := p9.below hbc p9.lt
        have ok10 := ok.below hbc lk
        have hown10 := OwR.below hown9 hbc (Nat.le_refl _)
        have hrow10 := OwR.below hrow hbc (Nat.le_refl _)
        have hr10 := hr9.below hbc hr9.lt
        have hmw10 := hmw9.below hbc
        have hbz : BL ≤ wc.heap.size := by have := (World.ownsRow.lt hrow10 gm rfl); omega
        clear o9 p9 ok hown9 hrow hr9 hmw9 d0 hbc
        go_wp2_with (at_builtin; ((with_reducible refine wl_push 66 70 inf_lnk Tryz.underlying66 rfl (by omega) hrow10 (by omega) rfl (one_lnk _ _ _) (by omega) (by omega) rfl rfl ?_); intro g9 cap9 w9 o9 b9 s9))
        go_roundw
        case rel =>
          refine ⟨k + 1, ms ++ [⟨s.extract k (k + 1), S [letr (d2 : Int)], (j : Int) + 1⟩], g9, cap9, by omega, by go_num, by rw [List.length_append, HML.out]; rfl, by rw [List.length_append, HML.out]; rfl, sml_snoc HSM.out hw10 (size_letr1 _), ?_, ok10.below b9 (by omega), o10.below b9 (by omega), p10.below b9 (by omega), OwR.same hown10 (b9.block g (by omega)), hr10.below b9 (by omega), hmw10.bel b9 (by rw [HB0.out]; omega)⟩
          rw [lks_snoc, List.length_append]
          exact o9
        case measure => simp [intOf]; omega
      · have hk' : k = s.size := by omega
        have c0 := o9.at_ (i := 0) rfl
        have c1 := o9.at_ (i := 1) rfl
        have c2 := o9.at_ (i := 2) rfl
        have c3 := o9.at_ (i := 3) rfl
        have b0 := o9.free 0 (by simp)
        have b1 := o9.free 1 (by simp)
        have b2 := o9.free 2 (by simp)
        have b3 := o9.free 3 (by simp)
        have f0 := p9.at_ (i := 0) rfl
        have f1 := p9.at_ (i := 1) rfl
        have f2 := p9.at_ (i := 2) rfl
        have f3 := p9.at_ (i := 3) rfl
        have hgm := (World.ownsRow.lt hrow gm rfl).1
        go_wp2
        have oz := o9.set4 (.slice (some ⟨g, 0, none⟩) m.wheels.rotors.length cp) (.string m.wheels.refl) (.string m.rings) (.string m.plugs)
        have k0 := oz.at_ (i := 0) rfl
        have k1 := oz.at_ (i := 1) rfl
        have k2 := oz.at_ (i := 2) rfl
        have k3 := oz.at_ (i := 3) rfl
        refine bodyPost_ret (v := .tuple #[.agg #[.slice (some ⟨g, 0, none⟩) m.wheels.rotors.length cp, .string m.wheels.refl, .string m.rings, .string m.plugs], .string v, .slice (some ⟨gm, 0, none⟩) ms.length cm]) (by unfold set4 at *; simp [results, Tryz.results140, go_sem, k0, k1, k2, k3]) rfl ?_
        refine ⟨m, v, ms, g, cp, gm, cm, hx, hset, rfl, ?_, by rw [HB0.out]; omega, by omega, by omega, HSM.out, ?_, by omega, by rw [HB0.out]; omega, (hr9.set4 (by omega) _ _ _ _).more (by omega), hmw9.set4 (by rw [HB0.out]; exact Nat.le_refl _) _ _ _ _⟩
        · rw [HB0.out]
          exact World.ownsRow.mono (OwR.set4 hown9 (by omega) _ _ _ _) (by omega)
        · rw [HB0.out]
          exact World.ownsRow.mono (OwR.set4 hrow (by omega) _ _ _ _) (by omega)
end Go.Proofs.YtbeohccbflhdiaaGreat
