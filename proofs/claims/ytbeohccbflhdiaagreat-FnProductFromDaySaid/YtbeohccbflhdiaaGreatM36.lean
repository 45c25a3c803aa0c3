/- Several of my texts in one: Pf, PfS, PdW. -/
import Derived.Test.YtbeohccbflhdiaaGreatM2
import Derived.Test.YtbeohccbflhdiaaGreatM27
import Derived.Test.YtbeohccbflhdiaaGreatM35
import Derived.Test.YtbeohccbflhdiaaGreatM10
import Derived.Test.YtbeohccbflhdiaaGreatM3
import Derived.Test.YtbeohccbflhdiaaGreatM26
import Derived.Test.YtbeohccbflhdiaaGreatM15
/- ProductFrom of the program, from the indicators of a day. -/
namespace Go.Proofs.YtbeohccbflhdiaaGreat
open Go.RowKit

/-- A table of letters: at f i stands the letter g i, for all i below k. -/
def tabL (f g : Nat → Nat) (k : Nat) (z : UInt8) : List UInt8 := (List.range 10).map fun j => if f j < k then letr (g (f j) : Int) else z
theorem len_tabL (f g : Nat → Nat) (k : Nat) (z : UInt8) : (tabL f g k z).length = 10 := by simp [tabL]
/-- Exchanges letters. -/
structure FInv (f : Nat → Nat) : Prop where
  lt : ∀ d, d < 10 → f d < 10
  inv : ∀ d, d < 10 → f (f d) = d
theorem tabL_zero (f g : Nat → Nat) (z : UInt8) : tabL f g 0 z = List.replicate 10 z := by
  refine List.ext_getElem (by simp [tabL]) fun i h1 h2 => ?_
  simp only [tabL, List.getElem_map, List.getElem_range, List.getElem_replicate]
  rw [if_neg (by omega)]
theorem tabL_set {f : Nat → Nat} (hf : FInv f) (g : Nat → Nat) {k : Nat} (hk : k < 10) (z : UInt8) : tabL f g (k + 1) z = (tabL f g k z).set (f k) (letr (g k : Int)) := by
  refine List.ext_getElem (by simp [tabL]) fun i h1 h2 => ?_
  have hi : i < 10 := by simpa [tabL] using h1
  rw [List.getElem_set]
  by_cases e : f k = i
  · rw [if_pos e]
    subst e
    simp only [tabL, List.getElem_map, List.getElem_range, hf.inv k hk]
    rw [if_pos (by omega)]
  · rw [if_neg e]
    have hne : f i ≠ k := fun e2 => e (by rw [← e2]; exact hf.inv i hi)
    simp only [tabL, List.getElem_map, List.getElem_range]
    by_cases h3 : f i < k
    · rw [if_pos h3, if_pos (by omega)]
    · rw [if_neg h3, if_neg (by omega)]
theorem tabL_at {f : Nat → Nat} (hf : FInv f) (g : Nat → Nat) {k : Nat} (hk : k < 10) (z : UInt8) : (tabL f g k z)[f k]? = some z := by
  have hl := hf.lt k hk
  simp only [tabL, List.getElem?_map, List.getElem?_range hl, Option.map_some, hf.inv k hk]
  rw [if_neg (by omega)]
/-- The table, the first letters of which have been filled up. -/
def mixL (f g : Nat → Nat) (n j : Nat) : List UInt8 := (List.range 10).map fun i => if f i < n then letr (g (f i) : Int) else if i < j then 45 else 0
theorem len_mixL (f g : Nat → Nat) (n j : Nat) : (mixL f g n j).length = 10 := by simp [mixL]
theorem mixL_zero (f g : Nat → Nat) (n : Nat) : mixL f g n 0 = tabL f g n 0 := by simp [mixL, tabL]
theorem mixL_full (f g : Nat → Nat) (n : Nat) : mixL f g n 10 = tabL f g n 45 := by
  refine List.ext_getElem (by simp [tabL, mixL]) fun i h1 h2 => ?_
  have hi : i < 10 := by simpa [mixL] using h1
  simp [tabL, mixL, hi]
theorem mixL_set (f g : Nat → Nat) (n : Nat) {j : Nat} (hj : j < 10) : mixL f g n (j + 1) = if f j < n then mixL f g n j else (mixL f g n j).set j 45 := by
  by_cases h : f j < n
  · rw [if_pos h]
    refine List.ext_getElem (by simp [mixL]) fun i h1 h2 => ?_
    simp only [mixL, List.getElem_map, List.getElem_range]
    by_cases e : i = j
    · subst e; rw [if_pos h, if_pos h]
    · by_cases h3 : i < j
      · have h4 : i < j + 1 := by omega
        simp only [h3, h4, if_true]
      · have h4 : ¬ i < j + 1 := by omega
        simp only [h3, h4, if_false]
  · rw [if_neg h]
    refine List.ext_getElem (by simp [mixL]) fun i h1 h2 => ?_
    rw [List.getElem_set]
    by_cases e : j = i
    · subst e
      rw [if_pos rfl]
      simp only [mixL, List.getElem_map, List.getElem_range]
      rw [if_neg h, if_pos (by omega)]
    · rw [if_neg e]
      simp only [mixL, List.getElem_map, List.getElem_range]
      by_cases h3 : i < j
      · have h4 : i < j + 1 := by omega
        simp only [h3, h4, if_true]
      · have h4 : ¬ i < j + 1 := by omega
        simp only [h3, h4, if_false]
theorem letr_pos (n : Int) : (letr n).toNat ≠ 0 ∧ (letr n).toNat ≠ 45 ∧ 97 ≤ (letr n).toNat := by
  rw [letr_toNat]; omega
/-- Indicators that tell of a product. -/
structure DayW (ws : List ByteArray) (q h : Nat) (f g : Nat → Nat) : Prop where
  one : 1 ≤ ws.length
  ten : ws.length ≤ 10
  q_lt : q < h
  h3 : h ≤ 3
  f_inv : FInv f
  g_inv : FInv g
  word : ∀ i (hi : i < ws.length), wordB ws[i] = true
  size : ∀ i (hi : i < ws.length), ws[i].size = 2 * h
  front : ∀ i (hi : i < ws.length), (L ws[i])[q]? = some (letr (f i : Int))
  back : ∀ i (hi : i < ws.length), (L ws[i])[q + h]? = some (letr (g i : Int))
theorem DayW.front_ {ws : List ByteArray} {q h : Nat} {f g : Nat → Nat} (d : DayW ws q h f g) (i : Nat) (hi : i < ws.length) (hq : q < ws[i].size) : ws[i][q] = letr (f i : Int) := by
  have := d.front i hi
  rw [List.getElem?_eq_getElem (by rw [size_L]; exact hq)] at this
  rw [getElem_L]; exact Option.some.inj this
theorem DayW.back_ {ws : List ByteArray} {q h : Nat} {f g : Nat → Nat} (d : DayW ws q h f g) (i : Nat) (hi : i < ws.length) (hq : q + h < ws[i].size) : ws[i][q + h] = letr (g i : Int) := by
  have := d.back i hi
  rw [List.getElem?_eq_getElem (by rw [size_L]; exact hq)] at this
  rw [getElem_L]; exact Option.some.inj this
set_option maxRecDepth 100000 in
set_option maxHeartbeats 2000000 in
theorem implProductFrom_day (al : Option Addr) (cl : Nat) (ws : List ByteArray) (q h : Nat) (f g : Nat → Nat) (w : World) (hr : Reads w w.heap.size al (sv ws)) (d : DayW ws q h f g) :
    Calls Tryz.prog 60 #[.slice al ws.length cl, .int .i64 (q : Int)] w fun e w' => e = .returned (.string (S (tabL f g ws.length 45))) ∧ Below w.heap.size w w' := by
  have h1 := d.one
  have h10 := d.ten
  have hq := d.q_lt
  have hh := d.h3
  have HD := Lib.hid d
  clear d
  have HR := Lib.hid (fun (wr : World) (hb : Below w.heap.size w wr) => hr.below hb (Nat.le_refl _))
  clear hr
  obtain ⟨b, off, rfl, hbl, hcl⟩ := (HR.out w (Below.refl _ _)).open_ (by rw [length_sv]; omega)
  have c0 := hcl 0 (by rw [length_sv]; omega)
  rw [at_sv (k := 0) (by omega), Nat.add_zero] at c0
  clear hcl
  have hs0 := HD.out.size 0 (by omega)
  have hd0 := fun W => isDouble_yes ws[0] h W (HD.out.word 0 (by omega)) (by omega) (by omega) (by omega) hh
  have hm : ((ws[0].size : Int)).tdiv 2 = (h : Int) := by rw [hs0, Int.tdiv_eq_ediv_of_nonneg (by omega)]; omega
  have t0 : decide ((ws.length : Int) < 1) = false := decide_eq_false (by omega)
  have t1 : decide ((40 : Int) < (ws.length : Int)) = false := decide_eq_false (by omega)
  have t2 : decide ((q : Int) < 0) = false := decide_eq_false (by omega)
  have t3 : decide (h ≤ q) = false := decide_eq_false (by omega)
  have HS0 := Lib.hid hs0
  clear hs0
  generalize hw0 : ws[0] = w0 at *
  clear hw0
  have o6 := (Own.new w (bv zb) 94).alloc (.cells (bv zb).toArray 94)
  have o7 := Own.new (w.alloc (.cells (bv zb).toArray 94)) (bv zb) 94
  have hb := ((Below.refl w.heap.size w).alloc (Nat.le_refl _) (.cells (bv zb).toArray 94)).alloc (by simp) (.cells (bv zb).toArray 94)
  rw [World.size_alloc] at o7
  have q1 : (0 : Int) < (ws.length : Int) := by omega
  go_enter Tryz.func60, Tryz.ntmps60
  go_wp2_with (first | (go_at_call 94; ((with_reducible refine (hd0 _).mono ?_); rintro e w' ⟨rfl, rfl⟩)))
  go_loopw [9, 10, 11, 12, 13, 45] (fun _ _ _ _ _ i wr => ∃ k : Nat, k ≤ ws.length ∧ i = .int .i64 k ∧ Own wr w.heap.size (bv (tabL f g k 0)) ∧ Own wr (w.heap.size + 1) (bv (tabL g f k 0)) ∧ Below w.heap.size w wr) (fun _ _ _ _ _ i _ => ws.length - (intOf i).toNat)
  case atStart => exact ⟨0, Nat.zero_le _, rfl, by rw [tabL_zero]; exact o6, by rw [tabL_zero]; exact o7, hb⟩
  case round =>
    clear o6 o7 hb
    obtain ⟨k, hk, rfl, o6, o7, hb⟩ := hrel
    have hl6 : (bv (tabL f g k 0)).length = 10 := by rw [length_bv, len_tabL]
    have hl7 : (bv (tabL g f k 0)).length = 10 := by rw [length_bv, len_tabL]
    by_cases hlt : k < ws.length
    · obtain ⟨b', off', hbb, hbl', hcl⟩ := (HR.out wr hb).open_ (by rw [length_sv]; omega)
      cases hbb
      have c1 := hcl k (by rw [length_sv]; exact hlt)
      rw [at_sv hlt] at c1
      clear hcl
      have q2 : (0 : Int) ≤ (k : Int) := by omega
      have q3 : (k : Int) < (ws.length : Int) := by omega
      have hsz := HD.out.size k hlt
      have hdk := fun W => isDouble_yes ws[k] h W (HD.out.word k hlt) (by omega) (by omega) (by omega) hh
      have g1 : q < ws[k].size := by omega
      have hfr := HD.out.front_ k hlt g1
      have hbk := HD.out.back_ k hlt (by omega)
      obtain ⟨j, hj⟩ : ∃ j : Nat, j = q + h := ⟨_, rfl⟩
      have hadd : IntKind.i64.wrap ((q : Int) + (h : Int)) = (j : Int) := by rw [IntWalk.i64_in _ (by omega)]; omega
      have hmul : IntKind.i64.wrap (2 * (h : Int)) = ((2 * h : Nat) : Int) := by rw [IntWalk.i64_in _ (by omega)]; omega
      have hbk' : ∀ (hx : j < ws[k].size), ws[k][j] = letr (g k : Int) := by
        subst hj
        exact fun _ => hbk
      have t4 : ((ws[k].size : Int) != ((2 * h : Nat) : Int)) = false := by rw [bne_eq_false_iff_eq]; omega
      have g2 : j < ws[k].size := by omega
      have hbk2 := hbk' g2
      clear hbk hbk' hj
      generalize ws[k] = wk at *
      have q4 : (0 : Int) ≤ (q : Int) := by omega
      have q5 : (q : Int) < (wk.size : Int) := by omega
      have q6 : (0 : Int) ≤ (j : Int) := by omega
      have q7 : (j : Int) < (wk.size : Int) := by omega
      have hk10 : k < 10 := by omega
      have hf := HD.out.f_inv
      have hg := HD.out.g_inv
      have hfl := hf.lt k hk10
      have hgl := hg.lt k hk10
      have nn1 := fun W => implNumber_any (letr (f k : Int)) W (letr_pos _).2.2
      have nn2 := fun W => implNumber_any (letr (g k : Int)) W (letr_pos _).2.2
      rw [dig_letr, show ((f k : Int) % 10) = (f k : Int) by omega] at nn1
      rw [dig_letr, show ((g k : Int) % 10) = (g k : Int) by omega] at nn2
      have r1 : (0 : Int) ≤ (f k : Int) := by omega
      have r2 : (f k : Int) < 10 := by omega
      have r3 : (0 : Int) ≤ (g k : Int) := by omega
      have r4 : (g k : Int) < 10 := by omega
      clear hf hg
      go_wp2_with (first | (go_at_call 94; ((with_reducible refine (hdk _).mono ?_); rintro e w' ⟨rfl, rfl⟩)))
      go_quiet (fail)
      have o6 := o6.drewN nq
      have o7 := o7.drewN nq
      have hb := bel_drewN hb nq
      generalize wr.drewN nq = wq at *
      have hf := HD.out.f_inv
      have hg := HD.out.g_inv
      have e6 : wq.cell? ⟨w.heap.size, f k, none⟩ = some (.int .u8 0) := o6.at_ (by
        have := tabL_at hf g hk10 0
        simp [bv, this])
      have e7 : wq.cell? ⟨w.heap.size + 1, g k, none⟩ = some (.int .u8 0) := o7.at_ (by
        have := tabL_at hg f hk10 0
        simp [bv, this])
      have b6 := o6.free (f k) (by omega)
      have b7 := o7.free (g k) (by omega)
      have HT6 := Lib.hid (tabL_set hf g hk10 0)
      have HT7 := Lib.hid (tabL_set hg f hk10 0)
      have s6 := (o6.set_ (i := f k) (by omega) (.int .u8 ((letr (g k : Int)).toNat : Int))).far (p := ⟨w.heap.size + 1, g k, none⟩) (by simp) (.int .u8 ((letr (f k : Int)).toNat : Int))
      have s7 := (o7.far (p := ⟨w.heap.size, f k, none⟩) (by simp) (.int .u8 ((letr (g k : Int)).toNat : Int))).set_ (i := g k) (by omega) (.int .u8 ((letr (f k : Int)).toNat : Int))
      rw [bv_set, ← HT6.out] at s6
      rw [bv_set, ← HT7.out] at s7
      have hbs := (hb.setCell (p := ⟨w.heap.size, f k, none⟩) (by simp) (.int .u8 ((letr (g k : Int)).toNat : Int))).setCell (p := ⟨w.heap.size + 1, g k, none⟩) (by simp) (.int .u8 ((letr (f k : Int)).toNat : Int))
      clear hf hg
      go_wp2_with (first | (go_at_call 76; ((with_reducible refine (nn1 _).mono ?_); rintro e w' ⟨rfl, rfl⟩)) | (go_at_call 76; ((with_reducible refine (nn2 _).mono ?_); rintro e w' ⟨rfl, rfl⟩)))
      go_roundw
      case rel => exact ⟨k + 1, by omega, by go_num, s6, s7, hbs⟩
      case measure => simp [intOf]; omega
    · have hk' : k = ws.length := by omega
      subst hk'
      have hA := len_tabL f g ws.length 0
      have hst : (Tryz.prog.info? 94).map (·.size) = some (bv (tabL f g ws.length 0)).length := by rw [hl6]; kernel_rfl
      have o6' : Own wr w.heap.size (bv (mixL f g ws.length 0)) := by rw [mixL_zero]; exact o6
      go_wp2_with ((with_reducible refine wl_load 94 o6.cells hst Tryz.underlying94 ?_ ?_ ?_ ?_); (· rfl); (· rfl); (· rfl))
      go_loopw [14, 15, 99] (fun _ _ i wr => ∃ j : Nat, j ≤ 10 ∧ i = .int .i64 j ∧ Own wr w.heap.size (bv (mixL f g ws.length j)) ∧ Below w.heap.size w wr) (fun _ _ i _ => 10 - (intOf i).toNat)
      case atStart => exact ⟨0, by omega, rfl, o6', hb⟩
      case round =>
        clear o6 o6' o7 hb
        obtain ⟨j, hj, rfl, o6, hb⟩ := hrel
        have hl6 : (bv (mixL f g ws.length j)).length = 10 := by rw [length_bv, len_mixL]
        by_cases hlt2 : j < 10
        · have e1 : (bv (tabL f g ws.length 0))[j]? = some (.int .u8 ((if f j < ws.length then letr (g (f j) : Int) else 0 : UInt8).toNat : Int)) := by
            simp [bv, tabL, hlt2]
          have HM := Lib.hid (mixL_set f g ws.length hlt2)
          have bj := o6.free j (by omega)
          obtain ⟨x6, f6⟩ := o6.some_ (i := j) (by omega)
          by_cases hfj : f j < ws.length
          · rw [if_pos hfj] at e1 HM
            have hne := (letr_pos (g (f j) : Int)).1
            have te : (((letr (g (f j) : Int)).toNat : Int) == 0) = false := by rw [beq_eq_false_iff_ne]; omega
            clear hfj
            go_wp2_with ((with_reducible refine wl_index 94 e1 hlt2 Tryz.underlying94 agg_u8 size_u8 ?_ ?_ ?_ ?_); (· rfl); (· rfl); (· rfl))
            go_roundw
            case rel => exact ⟨j + 1, by omega, by go_num, by rw [HM.out]; exact o6, hb⟩
            case measure => simp [intOf]; omega
          · rw [if_neg hfj] at e1 HM
            clear hfj
            go_wp2_with ((with_reducible refine wl_index 94 e1 hlt2 Tryz.underlying94 agg_u8 size_u8 ?_ ?_ ?_ ?_); (· rfl); (· rfl); (· rfl))
            go_roundw
            case rel =>
              refine ⟨j + 1, by omega, by go_num, ?_, hb.setCell (by simp) _⟩
              rw [HM.out, ← bv_set]
              exact o6.set_ (by omega) _
            case measure => simp [intOf]; omega
        · have hj' : j = 10 := by omega
          subst hj'
          rw [mixL_full] at o6
          have hc := o6.conv (P := Tryz.prog) 22 9 5 Tryz.underlying22 Tryz.underlying5 Tryz.underlying9 (n := 10) (len_tabL f g ws.length 45).symm 10
          go_wp2
          go_ret
          exact ⟨rfl, hb⟩
end Go.Proofs.YtbeohccbflhdiaaGreat

/- ProductFrom of the reference, from the indicators of a day. -/
namespace Go.Proofs.YtbeohccbflhdiaaGreat
open Go.RowKit

/-- Dashes. -/
def dashS (a : Nat) : ByteArray := S (List.replicate a 45)
theorem size_dashS (a : Nat) : (dashS a).size = a := by unfold dashS; rw [size_S]; simp
theorem dashS_add (a b : Nat) : dashS a ++ dashS b = dashS (a + b) := by unfold dashS; rw [S_append, List.replicate_append_replicate]
theorem l21Many_dash (w : World) :
    Calls Tryz.prog 114 #[.string ⟨#[45]⟩, .int .i64 10] w fun e w' => e = .returned (.string (dashS 10)) ∧ w = w' := by
  go_enter Tryz.func114, Tryz.ntmps114
  go_wp2
  go_loop [0, 1, 5] (fun x i o => ∃ (k a b : Nat), k ≤ 10 ∧ x = .string (dashS b) ∧ i = .int .i64 k ∧ o = .string (dashS a) ∧ a + b * k = 10 ∧ b ≤ 21) (fun _ i _ => (intOf i).toNat)
  case atStart => exact ⟨10, 0, 1, by omega, rfl, rfl, rfl, by omega, by omega⟩
  case round =>
    obtain ⟨k, a, b, hk, rfl, rfl, rfl, h1, h2⟩ := hrel
    have z1 := size_dashS a
    have z2 := size_dashS b
    by_cases hlt : 0 < k
    · have hst := many_step b k
      have hsk : b ≤ b * k := Nat.le_mul_of_pos_right _ hlt
      have hb10 : b ≤ 10 := by omega
      have hd1 := dashS_add b b
      have hd2 := dashS_add a b
      have g1 : (dashS b).size ≤ 10 := by omega
      have g2 : (dashS a).size ≤ 10 := by omega
      have HD1 := Lib.hid hd1
      have HD2 := Lib.hid hd2
      clear hd1 hd2 z1 z2
      by_cases ho : k % 2 = 1
      · have t1 : ((k : Int) % 2 == 1) = true := by rw [beq_iff_eq]; omega
        rw [if_pos ho] at hst
        have HST := Lib.hid hst
        have HH := Lib.hid h1
        clear ho hst h1
        go_wp2
        go_round
        case rel =>
          refine ⟨k / 2, a + b, b + b, by omega, by rw [HD1.out], by go_num, by rw [HD2.out], ?_, by omega⟩
          have e1 := HST.out
          have e2 := HH.out
          rw [e1] at e2; omega
        case measure => simp [intOf]; omega
      · have t1 : ((k : Int) % 2 == 1) = false := by rw [beq_eq_false_iff_ne]; omega
        rw [if_neg ho] at hst
        have HST := Lib.hid hst
        have HH := Lib.hid h1
        clear ho hst h1
        go_wp2
        go_round
        case rel =>
          refine ⟨k / 2, a, b + b, by omega, by rw [HD1.out], by go_num, rfl, ?_, by omega⟩
          have e1 := HST.out
          have e2 := HH.out
          rw [e1] at e2; omega
        case measure => simp [intOf]; omega
    · have hk0 : k = 0 := by omega
      subst hk0
      have ha : a = 10 := by simpa using h1
      subst ha
      go_wp2
      go_ret
      exact ⟨rfl, rfl⟩
set_option maxRecDepth 100000 in
theorem l10Indicators_day (al : Option Addr) (cl : Nat) (ws : List ByteArray) (q h : Nat) (f g : Nat → Nat) (w : World) (hr : Reads w w.heap.size al (sv ws)) (d : DayW ws q h f g) :
    Calls Tryz.prog 96 #[.slice al ws.length cl, .int .i64 (q : Int)] w fun e w' => e = .returned (.bool true) ∧ Below w.heap.size w w' := by
  have h1 := d.one
  have h10 := d.ten
  have hq := d.q_lt
  have hh := d.h3
  have HD := Lib.hid d
  clear d
  have HR := Lib.hid (fun (wr : World) (hb : Below w.heap.size w wr) => hr.below hb (Nat.le_refl _))
  clear hr
  obtain ⟨b, off, rfl, hbl, hcl⟩ := (HR.out w (Below.refl _ _)).open_ (by rw [length_sv]; omega)
  have c0 := hcl 0 (by rw [length_sv]; omega)
  rw [at_sv (k := 0) (by omega), Nat.add_zero] at c0
  clear hcl
  have hs0 := HD.out.size 0 (by omega)
  have hsz : ((ws[0].size : Int)) = ((2 * h : Nat) : Int) := by omega
  have t0 : ((ws.length : Int) == 0) = false := by rw [beq_eq_false_iff_ne]; omega
  have t1 : decide ((40 : Int) < (ws.length : Int)) = false := decide_eq_false (by omega)
  obtain ⟨n, hn⟩ : ∃ n : Nat, n = 2 * h := ⟨_, rfl⟩
  rw [← hn] at hsz
  have hm : ((n : Int)).tmod 2 = 0 := by rw [Int.tmod_eq_emod_of_nonneg (by omega)]; omega
  have hd : ((n : Int)).tdiv 2 = (h : Int) := by rw [Int.tdiv_eq_ediv_of_nonneg (by omega)]; omega
  have hsub : IntKind.i64.wrap ((h : Int) - 1) = (h : Int) - 1 := IntWalk.i64_in _ (by omega)
  have hin := fun W => l1In_any (q : Int) 0 ((h : Int) - 1) W
  rw [show (decide ((0 : Int) ≤ (q : Int)) && decide ((q : Int) ≤ (h : Int) - 1)) = true by rw [Bool.and_eq_true, decide_eq_true_eq, decide_eq_true_eq]; omega] at hin
  have t2 : decide ((n : Int) ≤ 6) = true := decide_eq_true (by omega)
  have q1 : (0 : Int) < (ws.length : Int) := by omega
  have HNN := Lib.hid hn
  clear hs0 hn
  generalize hw0 : ws[0] = w0 at *
  clear hw0
  go_enter Tryz.func96, Tryz.ntmps96
  go_wp2_with fail
  go_loopw [6] (fun i wr => ∃ k : Nat, k ≤ ws.length ∧ i = .int .i64 k ∧ Below w.heap.size w wr) (fun i _ => ws.length - (intOf i).toNat)
  case atStart => exact ⟨0, Nat.zero_le _, rfl, Below.refl _ _⟩
  case round =>
    obtain ⟨k, hk, rfl, hb⟩ := hrel
    by_cases hlt : k < ws.length
    · obtain ⟨b', off', hbb, hbl', hcl⟩ := (HR.out wr hb).open_ (by rw [length_sv]; omega)
      cases hbb
      have c1 := hcl k (by rw [length_sv]; exact hlt)
      rw [at_sv hlt] at c1
      clear hcl
      have q2 : (0 : Int) ≤ (k : Int) := by omega
      have q3 : (k : Int) < (ws.length : Int) := by omega
      have hsk := HD.out.size k hlt
      have hwv := fun W => specWordValid_any ws[k] W (by omega)
      rw [HD.out.word k hlt] at hwv
      have t4 : ((ws[k].size : Int) != (n : Int)) = false := by rw [bne_eq_false_iff_eq]; have := HNN.out; omega
      clear hsk
      generalize ws[k] = wk at *
      go_wp2_with (first | (go_at_call 78; ((with_reducible refine (hwv _).mono ?_); rintro e w' ⟨rfl, rfl⟩)))
      go_roundw
      case rel => exact ⟨k + 1, by omega, by go_num, hb⟩
      case measure => simp [intOf]; omega
    · go_wp2_with (first | (go_at_call 109; ((with_reducible refine (hin _).mono ?_); rintro e w' ⟨rfl, rfl⟩)))
      go_ret
      exact ⟨by simp, hb⟩
theorem sub_letr (d : Nat) (h : d < 10) : ((letr (d : Int)).toNat : Int) - 97 = (d : Int) := by
  have := letr_toNat (d : Int)
  omega
set_option maxRecDepth 100000 in
set_option maxHeartbeats 2000000 in
theorem specProductFrom_day (al : Option Addr) (cl : Nat) (ws : List ByteArray) (q h : Nat) (f g : Nat → Nat) (w : World) (hr : Reads w w.heap.size al (sv ws)) (d : DayW ws q h f g) :
    Calls Tryz.prog 61 #[.slice al ws.length cl, .int .i64 (q : Int)] w fun e w' => e = .returned (.string (S (tabL f g ws.length 45))) ∧ Below w.heap.size w w' := by
  have n1 := l10Indicators_day al cl ws q h f g w hr d
  have h1 := d.one
  have h10 := d.ten
  have hq := d.q_lt
  have hh := d.h3
  have HD := Lib.hid d
  clear d
  have HR := Lib.hid (fun (wr : World) (hb : Below w.heap.size w wr) => hr.below hb (Nat.le_refl _))
  clear hr
  have hLd : L (dashS 10) = List.replicate 10 45 := L_S _
  have hzd := size_dashS 10
  go_enter Tryz.func61, Tryz.ntmps61
  go_wp2_with fail
  refine n1.mono ?_
  rintro e w1 ⟨rfl, hb1⟩
  clear n1
  obtain ⟨ca, w2, hcv2, o2, hb2, s2, hca⟩ := conv_bytes w1 (dashS 10)
  obtain ⟨cb, w3, hcv3, o3, hb3, s3, hcb⟩ := conv_bytes w2 (dashS 10)
  rw [hzd] at hcv2 hcv3 hca hcb
  rw [hLd] at o2 o3
  have nd := fun W => l21Many_dash W
  have hz1 := hb1.size
  have hbw3 := bt (bt hb1 hb2) hb3
  have o23 := o2.below hb3 o2.lt
  obtain ⟨b, off, rfl, hbl, hcl⟩ := (HR.out w3 hbw3).open_ (by rw [length_sv]; omega)
  have c0 := hcl 0 (by rw [length_sv]; omega)
  rw [at_sv (k := 0) (by omega), Nat.add_zero] at c0
  clear hcl
  have hs0 := HD.out.size 0 (by omega)
  have hm : ((ws[0].size : Int)).tdiv 2 = (h : Int) := by rw [hs0, Int.tdiv_eq_ediv_of_nonneg (by omega)]; omega
  have q1 : (0 : Int) < (ws.length : Int) := by omega
  clear hs0
  generalize hw0 : ws[0] = w0 at *
  clear hw0
  generalize dashS 10 = D at *
  go_wp2_with (first | (go_at_call 114; ((with_reducible refine (nd _).mono ?_); rintro e w' ⟨rfl, rfl⟩)))
  rw [s2] at o3
  clear hcv2 hcv3 s2 s3 hb2 hb3 o2
  generalize hB1 : w1.heap.size = B1 at *
  clear hB1
  go_loopw [8, 9, 10] (fun i _ _ wr => ∃ k : Nat, k ≤ ws.length ∧ i = .int .i64 k ∧ Own wr B1 (bv (tabL f g k 45)) ∧ Own wr (B1 + 1) (bv (tabL g f k 45)) ∧ Below w.heap.size w wr) (fun i _ _ _ => ws.length - (intOf i).toNat)
  case atStart => exact ⟨0, Nat.zero_le _, rfl, by rw [tabL_zero]; exact o23, by rw [tabL_zero]; exact o3, hbw3⟩
  case round =>
    clear o23 o3 hbw3 c0
    obtain ⟨k, hk, rfl, o6, o7, hb⟩ := hrel
    have hl6 : (bv (tabL f g k 45)).length = 10 := by rw [length_bv, len_tabL]
    have hl7 : (bv (tabL g f k 45)).length = 10 := by rw [length_bv, len_tabL]
    by_cases hlt : k < ws.length
    · obtain ⟨b', off', hbb, hbl', hcl⟩ := (HR.out wr hb).open_ (by rw [length_sv]; omega)
      cases hbb
      have c1 := hcl k (by rw [length_sv]; exact hlt)
      rw [at_sv hlt] at c1
      clear hcl
      have q2 : (0 : Int) ≤ (k : Int) := by omega
      have q3 : (k : Int) < (ws.length : Int) := by omega
      have hsz := HD.out.size k hlt
      have g1 : q < ws[k].size := by omega
      have hfr := HD.out.front_ k hlt g1
      have hbk := HD.out.back_ k hlt (by omega)
      obtain ⟨j, hj⟩ : ∃ j : Nat, j = q + h := ⟨_, rfl⟩
      have hadd : IntKind.i64.wrap ((q : Int) + (h : Int)) = (j : Int) := by rw [IntWalk.i64_in _ (by omega)]; omega
      have hbk' : ∀ (hx : j < ws[k].size), ws[k][j] = letr (g k : Int) := by
        subst hj
        exact fun _ => hbk
      have g2 : j < ws[k].size := by omega
      have hbk2 := hbk' g2
      clear hbk hbk' hj hsz
      generalize ws[k] = wk at *
      have q4 : (0 : Int) ≤ (q : Int) := by omega
      have q5 : (q : Int) < (wk.size : Int) := by omega
      have q6 : (0 : Int) ≤ (j : Int) := by omega
      have q7 : (j : Int) < (wk.size : Int) := by omega
      have hk10 : k < 10 := by omega
      have hf := HD.out.f_inv
      have hg := HD.out.g_inv
      have hfl := hf.lt k hk10
      have hgl := hg.lt k hk10
      have e6 : wr.cell? ⟨B1, f k, none⟩ = some (.int .u8 45) := o6.at_ (by
        have := tabL_at hf g hk10 45
        simp [bv, this])
      have e7 : wr.cell? ⟨B1 + 1, g k, none⟩ = some (.int .u8 45) := o7.at_ (by
        have := tabL_at hg f hk10 45
        simp [bv, this])
      have b6 := o6.free (f k) (by omega)
      have b7 := o7.free (g k) (by omega)
      have HT6 := Lib.hid (tabL_set hf g hk10 45)
      have HT7 := Lib.hid (tabL_set hg f hk10 45)
      have s6 := (o6.set_ (i := f k) (by omega) (.int .u8 ((letr (g k : Int)).toNat : Int))).far (p := ⟨B1 + 1, g k, none⟩) (by simp) (.int .u8 ((letr (f k : Int)).toNat : Int))
      have s7 := (o7.far (p := ⟨B1, f k, none⟩) (by simp) (.int .u8 ((letr (g k : Int)).toNat : Int))).set_ (i := g k) (by omega) (.int .u8 ((letr (f k : Int)).toNat : Int))
      rw [bv_set, ← HT6.out] at s6
      rw [bv_set, ← HT7.out] at s7
      have hbs := (hb.setCell (p := ⟨B1, f k, none⟩) (by simp; omega) (.int .u8 ((letr (g k : Int)).toNat : Int))).setCell (p := ⟨B1 + 1, g k, none⟩) (by simp; omega) (.int .u8 ((letr (f k : Int)).toNat : Int))
      have r1 : (0 : Int) ≤ (f k : Int) := by omega
      have r2 : (f k : Int) < 10 := by omega
      have r3 : (0 : Int) ≤ (g k : Int) := by omega
      have r4 : (g k : Int) < 10 := by omega
      have v1 := sub_letr (f k) hfl
      have v2 := sub_letr (g k) hgl
      have v3 : (((letr (f k : Int)).toNat : Int) - 97) % 256 = (f k : Int) := by omega
      have v4 : (((letr (g k : Int)).toNat : Int) - 97) % 256 = (g k : Int) := by omega
      have v5 : IntKind.u8.wrap (((letr (f k : Int)).toNat : Int) - 97) = (f k : Int) := by rw [v1]; simp [IntKind.wrap, IntKind.bits, IntKind.signed]; omega
      have v6 : IntKind.u8.wrap (((letr (g k : Int)).toNat : Int) - 97) = (g k : Int) := by rw [v2]; simp [IntKind.wrap, IntKind.bits, IntKind.signed]; omega
      clear hf hg
      go_wp2_with fail
      go_roundw
      case rel => exact ⟨k + 1, by omega, by go_num, s6, s7, hbs⟩
      case measure => simp [intOf]; omega
    · have hk' : k = ws.length := by omega
      subst hk'
      have hc := o6.conv (P := Tryz.prog) 22 9 5 Tryz.underlying22 Tryz.underlying5 Tryz.underlying9 (n := 10) (len_tabL f g ws.length 45).symm ca
      go_wp2
      go_ret
      exact ⟨rfl, hb⟩
end Go.Proofs.YtbeohccbflhdiaaGreat

/- The walk of the law that the indicators of a day tell its products. -/
namespace Go.Proofs.YtbeohccbflhdiaaGreat
open Go.RowKit

/-- A word of n equal letters. -/
def allS (n i : Nat) : ByteArray := S (List.replicate n (letr (i : Int)))
theorem size_allS (n i : Nat) : (allS n i).size = n := by unfold allS; rw [size_S]; simp
theorem L_allS (n i : Nat) : L (allS n i) = List.replicate n (letr (i : Int)) := L_S _
theorem rcAll_is (n i : Nat) : S (List.replicate n (L (S [letr (i : Int)]))).flatten = allS n i := by
  unfold allS
  congr 1
  rw [L_S]
  induction n with
  | zero => rfl
  | succ n ih => rw [List.replicate_succ, List.flatten_cons, ih, List.replicate_succ]; rfl
theorem set_allS {m : Mach} {v : ByteArray} (h : setB m v = true) (i : Nat) : setB m (allS v.size i) = true := by
  have hs := setB_3 h
  refine setB_mk (setB_mach h) (by rw [size_allS]; exact setB_size h) ?_
  simp only [wordB, Bool.and_eq_true, decide_eq_true_eq, List.all_eq_true, L_allS]
  refine ⟨by rw [size_allS]; omega, fun c hc => ?_⟩
  rw [(List.mem_replicate.1 hc).2]
  exact isL_letr _
/-- The indicator of the key of equal letters. -/
def indS (m : Mach) (v : ByteArray) (i : Nat) : ByteArray := wd (encD m v (dg (allS v.size i ++ allS v.size i)))
def indsS (m : Mach) (v : ByteArray) (n : Nat) : List ByteArray := (List.range n).map (indS m v)
theorem len_indsS (m : Mach) (v : ByteArray) (n : Nat) : (indsS m v n).length = n := by simp [indsS]
theorem indsS_succ (m : Mach) (v : ByteArray) (n : Nat) : indsS m v (n + 1) = indsS m v n ++ [indS m v n] := by simp [indsS, List.range_succ]
/-- The letter that a key makes of a letter. -/
def kF (m : Mach) (v : ByteArray) (p : Nat) : Nat → Nat := fun d => pAt (keyN m v p) d
theorem kF_inv {m : Mach} (h : machB m = true) (v : ByteArray) (p : Nat) : FInv (kF m v p) := ⟨fun _ hd => (isP_keyN h v p).at_lt hd, fun _ hd => inv_keyN h v p hd⟩
theorem size_indS (m : Mach) (v : ByteArray) (i : Nat) : (indS m v i).size = 2 * v.size := by
  unfold indS
  rw [size_wd, len_encD, len_dg, ByteArray.size_append, size_allS]; omega
theorem ind_at {m : Mach} {v : ByteArray} {i p : Nat} (hi : i < 10) (hp : p < 2 * v.size) : (L (indS m v i))[p]? = some (letr (kF m v p i : Int)) := by
  have hz : (allS v.size i ++ allS v.size i).size = 2 * v.size := by rw [ByteArray.size_append, size_allS]; omega
  have hp2 : p < (allS v.size i ++ allS v.size i).size := by omega
  have h1 := enc_at (m := m) v hp2
  have h2 : pAt (dg (allS v.size i ++ allS v.size i)) p = i := by
    rw [dg_at hp2]
    have : (allS v.size i ++ allS v.size i)[p] = letr (i : Int) := by
      have key : ∀ x ∈ L (allS v.size i ++ allS v.size i), x = letr (i : Int) := by
        intro x hx
        rw [L_append, List.mem_append, L_allS] at hx
        rcases hx with hx | hx
        · exact (List.mem_replicate.1 hx).2
        · exact (List.mem_replicate.1 hx).2
      rw [getElem_L]
      exact key _ (List.getElem_mem _)
    rw [this, dig_letr]; omega
  rw [h2] at h1
  have hlt : p < (indS m v i).size := by rw [size_indS]; exact hp
  have h3 : (indS m v i)[p]'hlt = letr (kF m v p i : Int) := h1
  rw [getElem_L] at h3
  rw [List.getElem?_eq_getElem (by rw [size_L]; exact hlt), h3]
theorem day_inds {m : Mach} {v : ByteArray} {n p : Nat} (h : setB m v = true) (h1 : 1 ≤ n) (h10 : n ≤ 10) (hp : p < v.size) : DayW (indsS m v n) p v.size (kF m v p) (kF m v (p + v.size)) := by
  have hmb := setB_mach h
  have at_ : ∀ i (hi : i < (indsS m v n).length), (indsS m v n)[i] = indS m v i := fun i hi => by simp [indsS]
  refine ⟨by rw [len_indsS]; exact h1, by rw [len_indsS]; exact h10, hp, setB_3 h, kF_inv hmb v p, kF_inv hmb v _, fun i hi => ?_, fun i hi => ?_, fun i hi => ?_, fun i hi => ?_⟩
  · rw [at_]
    exact word_wd (by rw [len_encD, len_dg, ByteArray.size_append, size_allS]; have := setB_3 h; omega)
  · rw [at_]; exact size_indS m v i
  · rw [at_]; rw [len_indsS] at hi; exact ind_at (by omega) (by omega)
  · rw [at_]; rw [len_indsS] at hi; exact ind_at (by omega) (by omega)
theorem prod_kF {m : Mach} {v : ByteArray} {p d : Nat} (h : machB m = true) (hd : d < 10) : pAt (prodP m v p) d = kF m v (p + v.size) (kF m v p d) := by
  unfold prodP kF
  exact at_then _ (by rw [(isP_keyN h v p).len]; exact hd)
/-- How many of the first k letters are known. -/
def cntK (f : Nat → Nat) (n k : Nat) : Nat := (List.range k).countP fun j => decide (f j < n)
theorem cntK_succ (f : Nat → Nat) (n k : Nat) : cntK f n (k + 1) = cntK f n k + (if f k < n then 1 else 0) := by
  unfold cntK
  rw [List.range_succ, List.countP_append]
  congr 1
  by_cases h : f k < n <;> simp [h]
theorem cnt_split (f : Nat → Nat) (n : Nat) : ∀ l : List Nat, (l.countP fun j => decide (f j < n + 1)) = (l.countP fun j => decide (f j < n)) + (l.countP fun j => decide (f j = n))
  | [] => rfl
  | x :: l => by
    have ih := cnt_split f n l
    simp only [List.countP_cons, ih]
    by_cases h1 : f x < n
    · have h2 : f x < n + 1 := by omega
      have h3 : ¬ f x = n := by omega
      simp only [h1, h2, h3, decide_true, decide_false, if_true]; simp; omega
    · by_cases h3 : f x = n
      · first | (simp [h3]; done) | (simp [h3]; omega)
      · have h2 : ¬ f x < n + 1 := by omega
        simp only [h1, h2, h3, decide_false]; simp
theorem cntK_full {f : Nat → Nat} (hf : FInv f) : ∀ n, n ≤ 10 → cntK f n 10 = n
  | 0, _ => by unfold cntK; rw [List.countP_eq_zero]; intro a _; simp
  | n + 1, h => by
    have ih := cntK_full hf n (by omega)
    unfold cntK at ih ⊢
    rw [cnt_split, ih]
    have h1 : ((List.range 10).countP fun j => decide (f j = n)) = ((List.range 10).countP fun j => decide (j = f n)) := by
      refine List.countP_congr fun j hj => ?_
      have hj' : j < 10 := by simpa using hj
      have h2 := hf.inv j hj'
      have h3 := hf.inv n (by omega)
      simp only [decide_eq_true_eq]
      constructor
      · intro e; rw [← e]; exact h2.symm
      · intro e; rw [e]; exact h3
    have h2 : ∀ d, d < 10 → ((List.range 10).countP fun j => decide (j = d)) = 1 := by decide
    rw [h1, h2 _ (hf.lt n (by omega))]
theorem up1Q {w w' : World} {a : Option Addr} {xs : List Value} (h : Reads w w.heap.size a xs) (hb : Below w.heap.size w w') : Reads w' w'.heap.size a xs := (h.below hb (Nat.le_refl _)).more hb.size
theorem bel_drQ (w : World) (n : Nat) : Below w.heap.size w (w.drewN n) := bel_drewN (Below.refl _ _) n
theorem tab_str (f g : Nat → Nat) (n : Nat) : ∀ i (h : i < (S (tabL f g n 45)).size), (S (tabL f g n 45))[i] = if f i < n then letr (g (f i) : Int) else 45 := by
  intro i h
  rw [size_S, len_tabL] at h
  rw [getElem_L]
  simp only [L_S, tabL, List.getElem_map, List.getElem_range]
theorem prod_str {m : Mach} {v : ByteArray} {p : Nat} (h : machB m = true) : ∀ i (hi : i < (wd (prodP m v p)).size), (wd (prodP m v p))[i] = letr (kF m v (p + v.size) (kF m v p i) : Int) := by
  intro i hi
  rw [size_wd, (isP_prod h v p).len] at hi
  rw [getElem_L]
  have : L (wd (prodP m v p)) = (prodP m v p).map fun n : Nat => letr (n : Int) := by unfold wd; rw [L_S]
  simp only [this, List.getElem_map]
  rw [← prod_kF h hi, pAt_get (by rw [(isP_prod h v p).len]; exact hi)]
set_option maxRecDepth 100000 in
set_option maxHeartbeats 4000000 in
theorem productFromDay_walk (a : Option Addr) (len cap : Nat) (zs : List Int) (a2 : Option Addr) (len2 cap2 : Nat) (zs2 : List Int) (w : World) (h : IsRow .u8 w a len cap zs) (h2 : IsRow .u8 w a2 len2 cap2 zs2) :
    Calls Tryz.prog 16 #[.slice a len cap, .slice a2 len2 cap2] w fun e w' => e = .returned (.bool true) ∧ Below w.heap.size w w' := by
  have hlen : len ≤ 9223372036854775807 := by
    rcases h with ⟨_, rfl, _⟩ | ⟨x, _, hl, hm, _⟩
    · omega
    · unfold maxLen at hm; omega
  have hlen2 : len2 ≤ 9223372036854775807 := by
    rcases h2 with ⟨_, rfl, _⟩ | ⟨x, _, hl, hm, _⟩
    · omega
    · unfold maxLen at hm; omega
  clear h2
  by_cases hl : 1048576 < len
  · go_enter Tryz.func16, Tryz.ntmps16
    go_wp2
    go_ret
    exact ⟨rfl, Below.refl _ _⟩
  by_cases hl2 : 1048576 < len2
  · go_enter Tryz.func16, Tryz.ntmps16
    go_wp2
    go_ret
    exact ⟨rfl, Below.refl _ _⟩
  · go_enter Tryz.func16, Tryz.ntmps16
    go_wp2_with fail
    refine (DrawDayProducts_any a len cap zs _ h (by omega)).mono ?_
    rintro e w1 ⟨m, v, a1, cap1, ⟨hsm, hrd, -, hb1⟩, hv, rfl⟩
    have o1 := Own.new w1 [.slice a1 m.wheels.rotors.length cap1, .string m.wheels.refl, .string m.rings, .string m.plugs] 27
    have hb1' := hb1.alloc hb1.size (.cells [.slice a1 m.wheels.rotors.length cap1, .string m.wheels.refl, .string m.rings, .string m.plugs].toArray 27)
    have hat := (hsm.at_ hrd).alloc_ (.cells [.slice a1 m.wheels.rotors.length cap1, .string m.wheels.refl, .string m.rings, .string m.plugs].toArray 27)
    clear hrd hb1 h hsm
    go_wp2_with fail
    generalize (w1.alloc (.cells [.slice a1 m.wheels.rotors.length cap1, .string m.wheels.refl, .string m.rings, .string m.plugs].toArray 27)) = W1 at *
    generalize w1.heap.size = B1 at *
    refine (implDayProducts_any a1 _ cap1 m v _ hat (by omega)).mono ?_
    rintro e w2 ⟨lv, rfl, hol, hb2⟩
    obtain ⟨al, cl, rfl, hlc, hrl, -⟩ := hol.val
    have o2 := o1.below hb2 o1.lt
    have hbw2 := bt hb1' hb2
    have hat2 := (hat.below hb2 (Nat.le_refl _)).more hb2.size
    clear o1 hb1' hat hb2 hol
    have hsp := fun W h => specDayProducts_any a1 m.wheels.rotors.length cap1 m v W h (by omega)
    have HPY := Lib.hid (fun h => prodT_yes (m := m) (v := v) h)
    have HPN := Lib.hid (fun h => prodT_no (m := m) (v := v) h)
    have hkl : (prodT m v).length ≤ 1048576 := by
      unfold prodT; split
      · rw [len_prodS]; omega
      · simp
    generalize prodT m v = K at *
    have f0 := o2.at_ (i := 0) rfl
    have f1 := o2.at_ (i := 1) rfl
    have f2 := o2.at_ (i := 2) rfl
    have f3 := o2.at_ (i := 3) rfl
    go_wp2_with fail
    refine (hsp _ hat2).mono ?_
    rintro e w3 ⟨lv, rfl, hol, hb3⟩
    obtain ⟨al3, cl3, rfl, hlc3, hrl3, -⟩ := hol.val
    have o3 := o2.below hb3 o2.lt
    have hbw3 := bt hbw2 hb3
    have hat3 := (hat2.below hb3 (Nat.le_refl _)).more hb3.size
    have hrlb := up1Q hrl hb3
    clear o2 hbw2 hat2 hrl f0 f1 f2 f3 hol hb3
    go_wp2_with fail
    have hrt := rcTexts_any al al3 cl cl3 K K w3 hrlb hrl3 (by omega)
    rw [decide_eq_true rfl] at hrt
    refine hrt.mono ?_
    rintro e w' ⟨rfl, n4, rfl⟩
    have hb4 := bel_drQ w3 n4
    have o4 := o3.below hb4 o3.lt
    have hbw4 := bt hbw3 hb4
    have hat4 := (hat3.below hb4 (Nat.le_refl _)).more hb4.size
    have hrl4 := up1Q hrlb hb4
    clear o3 hbw3 hat3 hrlb hb4 hrl3 hrt
    generalize w3.drewN n4 = w4 at *
    by_cases hk0 : K.length = 0
    · have t0 : ((K.length : Int) == 0) = true := by simp [hk0]
      clear hk0
      have f0 := o4.at_ (i := 0) rfl
      have f1 := o4.at_ (i := 1) rfl
      have f2 := o4.at_ (i := 2) rfl
      have f3 := o4.at_ (i := 3) rfl
      go_wp2_with fail
      refine (hsp _ hat4).mono ?_
      rintro e w5 ⟨lv, rfl, hol, hb5⟩
      obtain ⟨al5, cl5, rfl, hlc5, hrl5, -⟩ := hol.val
      have hbw5 := bt hbw4 hb5
      have hrlb := up1Q hrl4 hb5
      clear o4 hbw4 hat4 hrl4 f0 f1 f2 f3 hol hb5
      go_wp2_with fail
      have hrt := rcTexts_any al al5 cl cl5 K K w5 hrlb hrl5 (by omega)
      rw [decide_eq_true rfl] at hrt
      refine hrt.mono ?_
      rintro e w' ⟨rfl, n6, rfl⟩
      go_wp2
      go_ret
      exact ⟨rfl, bel_drewN hbw5 n6⟩
    · have t0 : ((K.length : Int) == 0) = false := by rw [beq_eq_false_iff_ne]; omega
      have hsb : setB m v = true := by
        cases hs : setB m v
        · rw [HPN.out hs] at hk0; exact absurd rfl hk0
        · rfl
      have hKe := HPY.out hsb
      subst hKe
      clear HPY HPN hsp hk0 hkl
      have hmb := setB_mach hsb
      have hv3 := setB_3 hsb
      have hv1 := setB_1 hsb
      rw [len_prodS] at t0 hlc ⊢
      obtain ⟨r, hr⟩ : ∃ r : Nat, r = len2 % 10 := ⟨_, rfl⟩
      have hmod : ((len2 : Int)).tmod 10 = (r : Int) := by rw [Int.tmod_eq_emod_of_nonneg (by omega), hr]; rfl
      have hr10 : r < 10 := by omega
      obtain ⟨n, hn⟩ : ∃ n : Nat, n = 1 + r := ⟨_, rfl⟩
      have hadd : IntKind.i64.wrap (1 + (r : Int)) = (n : Int) := by rw [IntWalk.i64_in _ (by omega)]; omega
      have hn1 : 1 ≤ n := by omega
      have hn10 : n ≤ 10 := by omega
      have hmod2 : ((len2 : Int)) % 10 = (r : Int) := by omega
      clear hr hn
      have z0 := World.ownsRow_lit (base := w4.heap.size) (e := 9) (size := 1) w4 #[] 0 (Nat.le_refl _) (by unfold maxLen; omega) (by simp)
      have z1 : OwR (w4.alloc (.cells #[] 9)) w4.heap.size 9 1 (.slice (some ⟨w4.heap.size, 0, none⟩) 0 0) 0 (sv (indsS m v 0)) := z0
      have hbz := hbw4.alloc hbw4.size (.cells #[] 9)
      have hwB := hbw4.size
      have hBz : w4.heap.size ≤ (w4.alloc (.cells #[] 9)).heap.size := by simp
      have hb44 : Below w4.heap.size w4 (w4.alloc (.cells #[] 9)) := (Below.refl _ _).alloc (Nat.le_refl _) _
      have oz := o4.below hb44 o4.lt
      have hatz := hat4.below hb44 (Nat.le_refl _)
      have hrlz := hrl4.below hb44 (Nat.le_refl _)
      have l4 := o4.lt
      clear o4 hbw4 hat4 hrl4 z0 hb44
      go_wp2_with fail
      generalize hB4 : w4.heap.size = B4 at *
      clear hB4
      go_loopw [8, 10, 11, 12] (fun u i _ _ wr => ∃ k : Nat, k ≤ n ∧ i = .int .i64 k ∧ OwR wr B4 9 1 u k (sv (indsS m v k)) ∧ Own wr B1 [.slice a1 m.wheels.rotors.length cap1, .string m.wheels.refl, .string m.rings, .string m.plugs] ∧ MachAt wr B4 a1 m.wheels.rotors.length m ∧ Reads wr B4 al (sv (prodS m v v.size)) ∧ B4 ≤ wr.heap.size ∧ Below w.heap.size w wr) (fun _ i _ _ _ => n - (intOf i).toNat)
      case atStart => exact ⟨0, Nat.zero_le _, rfl, z1, oz, hatz, hrlz, hBz, hbz⟩
      case round =>
        clear z1 oz hatz hrlz hbz
        obtain ⟨k, hk, rfl, hown, o4, hat4, hrl4, hz4, hbw4⟩ := hrel
        by_cases hlt : k < n
        · have lo := o4.lt
          have hkey := set_allS hsb k
          have n1 := fun W => rcLetter_any k W (by omega)
          have n2 := fun W => rcAll_any (S [letr (k : Int)]) v.size W (by rw [size_S]; simp) (by omega)
          rw [rcAll_is] at n2
          have n3 := fun (cc : Cls wr.heap.size wr) => implDoubleIndicator_any a1 m.wheels.rotors.length cap1 m v (allS v.size k) cc.w ((hat4.below cc.bel hz4).more (Nat.le_trans hz4 cc.bel.size)) (by omega) (by rw [size_allS]; omega)
          rw [dblT_yes hsb hkey] at n3
          have HS := Lib.hid (indsS_succ m v k)
          have HI : Hid (indS m v k = wd (encD m v (dg (allS v.size k ++ allS v.size k)))) := Lib.hid rfl
          rw [← HI.out] at n3
          have d0 := fun (cc : Cls wr.heap.size wr) => (cc.cell B1 0 lo).trans (o4.at_ (i := 0) rfl)
          have d1 := fun (cc : Cls wr.heap.size wr) => (cc.cell B1 1 lo).trans (o4.at_ (i := 1) rfl)
          have d2 := fun (cc : Cls wr.heap.size wr) => (cc.cell B1 2 lo).trans (o4.at_ (i := 2) rfl)
          have d3 := fun (cc : Cls wr.heap.size wr) => (cc.cell B1 3 lo).trans (o4.at_ (i := 3) rfl)
          clear hkey HI
          generalize indS m v k = y at *
          generalize allS v.size k = ya at *
          generalize S [letr (k : Int)] = yl at *
          go_wp2_with fail
          refine wp_region_cls (by kernel_rfl) (by kernel_rfl) ?_
          repeat (go_big_quiet_step (first | (go_at_call 24; with_reducible exact cls_of (Nat.le_refl _) (n1 _)) | (go_at_call 23; with_reducible exact cls_same (n2 _)) | (go_at_call 43; with_reducible exact cls_of (Nat.le_refl _) (n3 _))))
          refine wpQuiet_nil ?_
          intro wc hbc
          have oc := o4.below hbc lo
          have hatc := hat4.below hbc hz4
          have hrlc := hrl4.below hbc hz4
          have ownc := OwR.below hown hbc (Nat.le_refl _)
          have hbwc := bt hbw4 hbc
          have hzc := Nat.le_trans hz4 hbc.size
          clear d0 d1 d2 d3 n3 o4 hat4 hrl4 hown hbw4
          go_wp2_with (at_builtin; ((with_reducible refine wl_push 39 9 inf_str Tryz.underlying39 rfl (by omega) ownc (by omega) rfl (by simp [Value.oneCell']) (by omega) (by omega) rfl rfl ?_); intro g4 cap4 w4 o4 b4 s4))
          go_roundw
          case rel =>
            refine ⟨k + 1, by omega, by go_num, ?_, oc.below b4 l4, hatc.below b4 (Nat.le_refl _), hrlc.below b4 (Nat.le_refl _), Nat.le_trans hzc b4.size, hbwc.trans (b4.mono hwB)⟩
            rw [HS.out, sv_append]
            exact o4
          case measure => simp [intOf]; omega
        · have hk' : k = n := by omega
          subst hk'
          obtain ⟨ai, ci, rfl, hci, hri, -⟩ := hown.val
          have hri' : Reads wr wr.heap.size ai (sv (indsS m v k)) := hri
          have hrl5 := hrl4.more hz4
          clear hown o4 hat4 hrl4 hri
          go_wp2_with fail
          have hrl6 := hrl5
          go_loopw [13, 14, 15, 16] (fun pz _ _ _ wr => ∃ p : Nat, p ≤ v.size ∧ pz = .int .i64 p ∧ Reads wr wr.heap.size ai (sv (indsS m v k)) ∧ Reads wr wr.heap.size al (sv (prodS m v v.size)) ∧ Below w.heap.size w wr) (fun pz _ _ _ _ => v.size - (intOf pz).toNat)
          case atStart => exact ⟨0, Nat.zero_le _, rfl, hri', hrl6, hbw4⟩
          case round =>
            clear hri' hrl5 hrl6 hbw4 hz4
            obtain ⟨p, hp, rfl, hri, hrl, hb⟩ := hrel
            by_cases hpl : p < v.size
            · have hd := day_inds (n := k) hsb hn1 hn10 hpl
              have hli := len_indsS m v k
              have hf := kF_inv hmb v p
              have nI := fun W hW => implProductFrom_day ai ci (indsS m v k) p v.size (kF m v p) (kF m v (p + v.size)) W hW hd
              have nS := fun W hW => specProductFrom_day ai ci (indsS m v k) p v.size (kF m v p) (kF m v (p + v.size)) W hW hd
              rw [hli] at nI nS
              have hts := tab_str (kF m v p) (kF m v (p + v.size)) k
              have htz : (S (tabL (kF m v p) (kF m v (p + v.size)) k 45)).size = 10 := by rw [size_S, len_tabL]
              have hps := prod_str (v := v) (p := p) hmb
              have hpz : (wd (prodP m v p)).size = 10 := by rw [size_wd, (isP_prod hmb v p).len]
              have HAL := Lib.hid (at_prodS m v hpl)
              have HCF := Lib.hid (cntK_full hf k hn10)
              clear hd hf hli
              generalize wd (prodP m v p) = y at *
              generalize S (tabL (kF m v p) (kF m v (p + v.size)) k 45) = gt at *
              generalize kF m v (p + v.size) = g at *
              generalize kF m v p = f at *
              have HTS := Lib.hid hts
              have HPS := Lib.hid hps
              have g1 : gt.size ≤ 10 := by omega
              have g2 : 10 ≤ gt.size := by omega
              have g3 : y.size ≤ 10 := by omega
              have g4 : 10 ≤ y.size := by omega
              clear hts hps htz hpz
              go_wp2_with fail
              refine (nI _ hri).mono ?_
              rintro e w7 ⟨rfl, hb7⟩
              have hri7 := up1Q hri hb7
              have hrl7 := up1Q hrl hb7
              have hbw7 := bt hb hb7
              clear hri hrl hb hb7 nI
              go_wp2_with fail
              go_loopw [15, 16] (fun c i wr => ∃ (j : Nat), j ≤ 10 ∧ i = .int .i64 j ∧ c = .int .i64 (cntK f k j : Nat) ∧ Reads wr wr.heap.size ai (sv (indsS m v k)) ∧ Reads wr wr.heap.size al (sv (prodS m v v.size)) ∧ Below w.heap.size w wr) (fun _ i _ => 10 - (intOf i).toNat)
              case atStart => exact ⟨0, by omega, rfl, rfl, hri7, hrl7, hbw7⟩
              case round =>
                clear hri7 hrl7 hbw7
                obtain ⟨j, hj, rfl, rfl, hri, hrl, hb⟩ := hrel
                by_cases hlj : j < 10
                · obtain ⟨b, off, rfl, hbl, hcl⟩ := hrl.open_ (by rw [length_sv, len_prodS]; omega)
                  have c1 := hcl p (by rw [length_sv, len_prodS]; omega)
                  rw [HAL.out] at c1
                  clear hcl
                  have q1 : (0 : Int) ≤ (p : Int) := by omega
                  have q2 : (p : Int) < (v.size : Int) := by omega
                  have q3 : (0 : Int) ≤ (j : Int) := by omega
                  have q4 : (j : Int) < (gt.size : Int) := by omega
                  have q5 : (j : Int) < (y.size : Int) := by omega
                  have hg := HTS.out j (by omega)
                  have hy := HPS.out j (by omega)
                  have HCS := Lib.hid (cntK_succ f k j)
                  have hck : cntK f k j ≤ j := by
                    unfold cntK
                    have := List.countP_le_length (p := fun j => decide (f j < k)) (l := List.range j)
                    simpa using this
                  generalize cntK f k j = c at *
                  by_cases hfj : f j < k
                  · rw [if_pos hfj] at hg
                    have HC2 := HCS.out
                    rw [if_pos hfj] at HC2
                    have HC3 := Lib.hid HC2
                    have hp45 := (letr_pos (g (f j) : Int)).2.1
                    have t1 : ((gt[j].toNat : Int) != 45) = true := by rw [hg, bne_iff_ne]; omega
                    have t2 : ((gt[j].toNat : Int) != (y[j].toNat : Int)) = false := by rw [hg, hy]; simp
                    clear hfj HC2 hg hy hp45 HCS
                    go_wp2_with fail
                    go_quiet (fail)
                    go_wp2
                    go_roundw
                    case rel => exact ⟨j + 1, by omega, by go_num, by rw [HC3.out]; go_num, hri, hrl, bel_drewN hb _⟩
                    case measure => simp [intOf]; omega
                  · rw [if_neg hfj] at hg
                    have HC2 := HCS.out
                    rw [if_neg hfj] at HC2
                    have HC3 := Lib.hid HC2
                    have t1 : ((gt[j].toNat : Int) != 45) = false := by rw [hg]; rfl
                    clear hfj HC2 hg hy HCS
                    go_wp2_with fail
                    go_quiet (fail)
                    go_wp2
                    go_roundw
                    case rel => exact ⟨j + 1, by omega, by go_num, by rw [HC3.out]; rfl, hri, hrl, bel_drewN hb _⟩
                    case measure => simp [intOf]; omega
                · have hj' : j = 10 := by omega
                  subst hj'
                  have hcf := HCF.out
                  have t4 : ((cntK f k 10 : Int) != (k : Int)) = false := by rw [bne_eq_false_iff_eq]; omega
                  have tne : (gt.toList != gt.toList) = false := by simp
                  clear hcf
                  generalize cntK f k 10 = c at *
                  go_wp2_with fail
                  refine (nS _ hri).mono ?_
                  rintro e w8 ⟨rfl, hb8⟩
                  have hri8 := up1Q hri hb8
                  have hrl8 := up1Q hrl hb8
                  have hbw8 := bt hb hb8
                  clear hri hrl hb hb8
                  go_wp2
                  go_roundw
                  case rel => exact ⟨p + 1, by omega, by go_num, hri8, hrl8, hbw8⟩
                  case measure => simp [intOf]; omega
            · go_wp2
              go_ret
              exact ⟨rfl, hb⟩
end Go.Proofs.YtbeohccbflhdiaaGreat
