/- Several of my texts in one: ImpS3, Pf, PfS, BrdS. -/
import Derived.Test.YtdmnkcmkpjmfaaaGreatM24
import Derived.Test.YtdmnkcmkpjmfaaaGreatM25
import Derived.Test.YtdmnkcmkpjmfaaaGreatM13
import Derived.Test.YtdmnkcmkpjmfaaaGreatM2
import Derived.Test.YtdmnkcmkpjmfaaaGreatM16
import Derived.Test.YtdmnkcmkpjmfaaaGreatM17
import Derived.Test.YtdmnkcmkpjmfaaaGreatM10
import Derived.Test.YtdmnkcmkpjmfaaaGreatM3
/- ImpliedPairs of the reference. -/
namespace Go.Proofs.YtdmnkcmkpjmfaaaGreat
open Go.RowKit

theorem rowP_succ (R : Nat → Nat → Bool) (a k : Nat) : rowP R a (k + 1) = rowP R a k ++ (if (decide (a ≤ k) && R a k) = true then [(a, k)] else []) := by
  simp only [rowP, List.range_succ, List.filter_append, List.map_append]
  congr 1
  by_cases h : (decide (a ≤ k) && R a k) = true <;> simp [h]
theorem rowP_start (R : Nat → Nat → Bool) (a : Nat) : rowP R a a = [] := by
  simp only [rowP, List.map_eq_nil_iff, List.filter_eq_nil_iff, List.mem_range]
  intro b hb
  simp; omega
theorem rowP_len (R : Nat → Nat → Bool) (a k : Nat) : (rowP R a k).length ≤ k := by
  simp only [rowP, List.length_map]
  exact Nat.le_trans (List.length_filter_le _ _) (by simp)
theorem impP_len (R : Nat → Nat → Bool) : ∀ k, (impP R k).length ≤ 10 * k
  | 0 => by simp [impP]
  | k + 1 => by
    have h1 := impP_len R k
    have h2 := rowP_len R k 10
    simp only [impP, List.length_append]; omega
theorem rowP_congr {R Q : Nat → Nat → Bool} {a : Nat} (h : ∀ b, a ≤ b → b < 10 → R a b = Q a b) : rowP R a 10 = rowP Q a 10 := by
  unfold rowP
  congr 1
  refine List.filter_congr fun b hb => ?_
  by_cases hab : a ≤ b
  · rw [h b hab (by simpa using hb)]
  · simp [hab]
theorem impP_congr {R Q : Nat → Nat → Bool} (h : ∀ a b, a ≤ b → b < 10 → R a b = Q a b) : ∀ k, impP R k = impP Q k
  | 0 => rfl
  | k + 1 => by rw [impP, impP, impP_congr h k, rowP_congr (fun b => h k b)]
/-- Which pairs are in a list. -/
def memP (out : List (Nat × Nat)) (a b : Nat) : Bool := decide ((a, b) ∈ out)
theorem hasS_pw {out : List (Nat × Nat)} (ho : ∀ z ∈ out, z.1 < 10 ∧ z.2 < 10) {a b : Nat} (ha : a < 10) (hb : b < 10) : hasS (out.map pw) (pw (a, b)) = memP out a b := by
  rw [Bool.eq_iff_iff, hasS_iff, pw_mem ho (q := (a, b)) ⟨ha, hb⟩]
  simp [memP]
theorem l13IsPair_any (s : ByteArray) (w : World) (hs : s.size ≤ 4294967296) :
    Calls Tryz.prog 69 #[.string s] w fun e w' => e = .returned (.bool (pairB s)) ∧ w = w' := by
  have n1 := fun W => specWordValid_any s W hs
  by_cases h2 : s.size = 2
  · have t0 : ((s.size : Int) == 2) = true := by rw [beq_iff_eq]; omega
    have HV : Hid (pairB s = wordB s) := Lib.hid (by simp [pairB, h2])
    clear h2
    go_enter Tryz.func69, Tryz.ntmps69
    go_wp2_with (go_at_call 119; ((with_reducible refine (n1 _).mono ?_); rintro e w' ⟨rfl, rfl⟩))
    go_ret
    exact ⟨ret_bool HV.out.symm, rfl⟩
  · have t0 : ((s.size : Int) == 2) = false := by rw [beq_eq_false_iff_ne]; omega
    have HV : Hid (pairB s = false) := Lib.hid (by simp [pairB, h2])
    clear h2
    go_enter Tryz.func69, Tryz.ntmps69
    go_wp2_with (go_at_call 119; ((with_reducible refine (n1 _).mono ?_); rintro e w' ⟨rfl, rfl⟩))
    go_ret
    exact ⟨ret_bool HV.out.symm, rfl⟩
set_option maxRecDepth 100000 in
set_option maxHeartbeats 2000000 in
theorem l13Sorted_any (a : Option Addr) (c : Nat) (out : List (Nat × Nat)) (w : World) (hr : Reads w w.heap.size a (sv (out.map pw))) (ho : ∀ z ∈ out, z.1 < 10 ∧ z.2 < 10) (hl : out.length ≤ 1000) :
    Calls Tryz.prog 70 #[.slice a out.length c] w (RowPost 9 1 (impP (memP out) 10).length (sv ((impP (memP out) 10).map pw)) w) := by
  have HR := Lib.hid (fun (wr : World) (hb : Below w.heap.size w wr) => (hr.below hb (Nat.le_refl _)).more hb.size)
  have hh := fun W s h => l13Has_any a c (out.map pw) s W h (by rw [List.length_map]; omega)
  rw [List.length_map] at hh
  have HO := Lib.hid ho
  have r0 := World.ownsRow_lit (base := w.heap.size) (e := 9) (size := 1) w #[] 0 (by simp) (by unfold maxLen; omega) (by simp)
  have hb0 := (Below.refl w.heap.size w).alloc (Nat.le_refl _) (.cells #[] 9)
  clear hr ho
  go_enter Tryz.func70, Tryz.ntmps70
  go_wp2_with fail
  go_loopw [3, 4, 5] (fun u i _ wr => ∃ x : Nat, x ≤ 10 ∧ i = .int .i64 x ∧ OwR wr w.heap.size 9 1 u (impP (memP out) x).length (sv ((impP (memP out) x).map pw)) ∧ Below w.heap.size w wr) (fun _ i _ _ => 10 - (intOf i).toNat)
  case atStart => exact ⟨0, by omega, rfl, by simpa [impP, sv] using r0, hb0⟩
  case round =>
    clear r0 hb0
    obtain ⟨x, hx, rfl, hown, hb⟩ := hrel
    by_cases hlt : x < 10
    · have tk : decide ((x : Int) < 10) = true := decide_eq_true (by omega)
      have hle := impP_len (memP out) x
      have HI := Lib.hid (show impP (memP out) (x + 1) = impP (memP out) x ++ rowP (memP out) x 10 from rfl)
      generalize impP (memP out) x = A at *
      go_wp2_with fail
      go_loopw [3, 5] (fun u i wr => ∃ y : Nat, x ≤ y ∧ y ≤ 10 ∧ i = .int .i64 y ∧ OwR wr w.heap.size 9 1 u (A ++ rowP (memP out) x y).length (sv ((A ++ rowP (memP out) x y).map pw)) ∧ Below w.heap.size w wr) (fun _ i _ => 10 - (intOf i).toNat)
      case atStart => exact ⟨x, Nat.le_refl _, by omega, rfl, by rw [rowP_start, List.append_nil]; exact hown, hb⟩
      case round =>
        clear hown hb
        obtain ⟨y, hxy, hy, rfl, hown, hb⟩ := hrel
        by_cases hyl : y < 10
        · have HS := Lib.hid (rowP_succ (memP out) x y)
          have hrl := rowP_len (memP out) x y
          have hln : (A ++ rowP (memP out) x y).length ≤ 200 := by rw [List.length_append]; omega
          have HCAT : Hid (A ++ rowP (memP out) x (y + 1) = (A ++ rowP (memP out) x y) ++ (if memP out x y = true then [(x, y)] else [])) := Lib.hid (by rw [HS.out, List.append_assoc, decide_eq_true hxy, Bool.true_and])
          have hnorm : norm x y = (x, y) := norm_le hxy
          have np := fun W => l13Pair_any x y W
          rw [hnorm] at np
          have hz0 := hb.size
          have hhv := hasS_pw HO.out hlt hyl
          clear HS hrl hnorm
          generalize A ++ rowP (memP out) x y = B at *
          cases hm : memP out x y with
          | true =>
            rw [hm, if_pos rfl] at HCAT
            rw [hm] at hhv
            have hh2 := fun W h => hh W (pw (x, y)) h
            rw [hhv] at hh2
            clear hm hhv
            go_wp2_with fail
            refine (np _).mono ?_
            rintro e w1 ⟨rfl, hb1⟩
            have hown1 := OwR.below hown hb1 (Nat.le_refl _)
            have hbw1 := bt hb hb1
            go_wp2_with fail
            refine (hh2 _ (HR.out _ hbw1)).mono ?_
            rintro e w' ⟨rfl, rfl⟩
            go_wp2_with fail
            refine (np _).mono ?_
            rintro e w2 ⟨rfl, hb2⟩
            have hown2 := OwR.below hown1 hb2 (Nat.le_refl _)
            have hbw2 := bt hbw1 hb2
            have hz2 := hbw2.size
            obtain ⟨la, lc, rfl, -, -, -⟩ := OwR.val hown2
            clear hown hown1 hb1 hb2 hb hbw1
            generalize hpq : pw (x, y) = pq at *
            have HPQ := Lib.hid hpq
            clear hpq
            go_wp2_with (at_builtin; ((with_reducible refine wl_push 30 9 info_str Tryz.underlying30 rfl (by omega) hown2 hz2 rfl (by simp [Value.oneCell']) (by omega) (by omega) rfl rfl ?_); intro g7 cap w7 o7 b7 k7))
            go_roundw
            case rel => exact ⟨y + 1, by omega, by omega, by go_num, by rw [HCAT.out, List.length_append, List.map_append, sv_append, List.map_singleton, HPQ.out]; exact o7, hbw2.trans b7⟩
            case measure => simp [intOf]; omega
          | false =>
            rw [hm, if_neg (by simp), List.append_nil] at HCAT
            rw [hm] at hhv
            have hh2 := fun W h => hh W (pw (x, y)) h
            rw [hhv] at hh2
            clear hm hhv
            go_wp2_with fail
            refine (np _).mono ?_
            rintro e w1 ⟨rfl, hb1⟩
            have hown1 := OwR.below hown hb1 (Nat.le_refl _)
            have hbw1 := bt hb hb1
            go_wp2_with fail
            refine (hh2 _ (HR.out _ hbw1)).mono ?_
            rintro e w' ⟨rfl, rfl⟩
            go_wp2
            go_roundw
            case rel => exact ⟨y + 1, by omega, by omega, by go_num, by rw [HCAT.out]; exact hown1, hbw1⟩
            case measure => simp [intOf]; omega
        · have hy' : y = 10 := by omega
          subst hy'
          go_wp2
          go_roundw
          case rel => exact ⟨x + 1, by omega, by go_num, by rw [HI.out]; exact hown, hb⟩
          case measure => simp [intOf]; omega
    · have hx' : x = 10 := by omega
      subst hx'
      go_wp2
      go_ret
      exact ⟨_, rfl, hown, hb⟩
/-- What the search of the reference finds, sorted. -/
theorem sorted_imp {G : List Wire} {x y k : Nat} {out : List (Nat × Nat)} (h : SInv G x y out k) (hk : out.length ≤ k) : impP (memP out) 10 = impP (impB G x y) 10 := by
  refine impP_congr (fun a b hab hb => ?_) 10
  rw [Bool.eq_iff_iff, impB_iff, ← h.end_ hk a b, norm_le hab]
  simp [memP]
set_option maxRecDepth 100000 in
set_option maxHeartbeats 2000000 in
theorem specImpliedPairs_any (a : Option Addr) (c : Nat) (m : Mach) (v : ByteArray) (am : Option Addr) (cm : Nat) (ms : List Lnk) (s : ByteArray) (w : World) (h : MachAt w w.heap.size a m.wheels.rotors.length m) (hv : v.size ≤ 4294967296) (hrm : Reads w w.heap.size am (lks ms)) (hl : ms.length ≤ 4294967296) (hs : s.size ≤ 4294967296) :
    Calls Tryz.prog 23 #[.agg #[.slice a m.wheels.rotors.length c, .string m.wheels.refl, .string m.rings, .string m.plugs], .string v, .slice am ms.length cm, .string s] w (RowPost 9 1 (impT m v ms s).length (sv (impT m v ms s)) w) := by
  have o0 := Own.new w [.slice a m.wheels.rotors.length c, .string m.wheels.refl, .string m.rings, .string m.plugs] 36
  have hb0 := (Below.refl w.heap.size w).alloc (Nat.le_refl _) (.cells [.slice a m.wheels.rotors.length c, .string m.wheels.refl, .string m.rings, .string m.plugs].toArray 36)
  have h' := h.alloc_ (.cells [.slice a m.wheels.rotors.length c, .string m.wheels.refl, .string m.rings, .string m.plugs].toArray 36)
  have hr' := (hrm.below hb0 (Nat.le_refl _)).more hb0.size
  have HRM := Lib.hid (fun (wr : World) (hb : Below w.heap.size w wr) => (hrm.below hb (Nat.le_refl _)).more hb.size)
  have HM := Lib.hid (fun (wr : World) (hb : Below w.heap.size w wr) => (h.below hb (Nat.le_refl _)).more hb.size)
  clear hrm h
  have HNIL : Hid (∀ wr : World, Below w.heap.size w wr → (setB m v && (menuB ms && pairB s)) = false → RowPost 9 1 (impT m v ms s).length (sv (impT m v ms s)) w (.returned (.slice (some ⟨wr.heap.size, 0, none⟩) 0 0)) (wr.alloc (.cells #[] 9))) := Lib.hid (fun wr hb hf => by
    rw [impT_no hf]
    refine ⟨_, rfl, ?_, hb.alloc hb.size _⟩
    simpa [sv] using World.ownsRow.mono (World.ownsRow_lit (base := wr.heap.size) (e := 9) (size := 1) wr #[] 0 (by simp) (by unfold maxLen; omega) (by simp)) hb.size)
  go_enter Tryz.func23, Tryz.ntmps23
  go_wp2_with fail
  refine (l13Fits_any _ _ _ _ _ _ _ _ _ h' hv hr' hl).mono ?_
  rintro e w1 ⟨rfl, hb1⟩
  have o1 := o0.below hb1 o0.lt
  have hb := bt hb0 hb1
  clear o0 hb0 hb1 h' hr'
  cases h1 : (setB m v && menuB ms) with
  | false =>
    have HE := Lib.hid (HNIL.out _ hb (by rw [← Bool.and_assoc, h1]; rfl))
    clear h1
    go_wp2
    go_ret
    exact HE.out
  | true =>
    obtain ⟨hsb, hm⟩ := Bool.and_eq_true_iff.1 h1
    clear h1
    have n3 := fun W => l13IsPair_any s W hs
    cases h3 : pairB s with
    | false =>
      rw [h3] at n3
      have HE := Lib.hid (HNIL.out _ hb (by rw [h3]; simp))
      clear h3 hsb hm
      go_wp2_with (go_at_call 69; ((with_reducible refine (n3 _).mono ?_); rintro e w' ⟨rfl, rfl⟩))
      go_ret
      exact HE.out
    | true =>
      rw [h3] at n3
      have HP := Lib.hid h3
      have HT := Lib.hid (impT_yes hsb hm h3)
      have HS := Lib.hid hsb
      have HMN := Lib.hid hm
      clear h3 hsb hm
      have f0 := o1.at_ (i := 0) rfl
      have f1 := o1.at_ (i := 1) rfl
      have f2 := o1.at_ (i := 2) rfl
      have f3 := o1.at_ (i := 3) rfl
      go_wp2_with (go_at_call 69; ((with_reducible refine (n3 _).mono ?_); rintro e w' ⟨rfl, rfl⟩))
      refine (l13Bare_any a _ c m v am cm ms _ (HM.out _ hb) HS.out (HRM.out _ hb) (menuB_asc HMN.out)).mono ?_
      rintro e w3 ⟨lv, rfl, hol, hb3⟩
      obtain ⟨al, cl, rfl, hlc, -, hgl⟩ := OwR.val hol
      have hone := (menuB_asc HMN.out).one
      obtain ⟨gK, rfl, -, ok⟩ := hgl.resolve_left (by omega)
      have hbw3 := bt hb hb3
      clear o1 f0 f1 f2 f3 hgl hb3 hol
      go_wp2_with fail
      refine (l13Implied_any am (some ⟨gK, 0, none⟩) cm cl m v ms s w3 (setB_mach HS.out) HMN.out HP.out (HRM.out _ hbw3) (Reads.of_own ok ok.lt)).mono ?_
      rintro e w4 ⟨u4, out, k, rfl, hinv, hle, o4, hb4⟩
      have hbw4 := bt hbw3 hb4
      obtain ⟨hx, hy⟩ := pairB_lt HP.out
      have hG := menG_ok (v := v) (setB_mach HS.out) HMN.out
      have hfew := hinv.few hG hx hy
      have HLT := Lib.hid (fun q (hq : q ∈ out) => (hinv.inn q hq).lt hG hx hy)
      have HSO := Lib.hid (sorted_imp hinv hle)
      obtain ⟨la, lc, rfl, -, hrd, -⟩ := OwR.val o4
      clear hinv hle hG
      go_wp2_with fail
      refine (l13Sorted_any la lc out w4 hrd HLT.out (by omega)).mono ?_
      rintro e w5 ⟨u5, rfl, o5, hb5⟩
      go_wp2
      go_ret
      refine ⟨u5, rfl, ?_, bt hbw4 hb5⟩
      rw [HT.out, impW_P, List.length_map]
      rw [HSO.out] at o5
      exact World.ownsRow.mono o5 hbw4.size
end Go.Proofs.YtdmnkcmkpjmfaaaGreat

/- ProductFrom of the program, from the indicators of a day. -/
namespace Go.Proofs.YtdmnkcmkpjmfaaaGreat
open Go.RowKit

/-- A table of letters: at f i stands the letter g i, for all i below k. -/
def tabL (f g : Nat → Nat) (k : Nat) (z : UInt8) : List UInt8 := (List.range 10).map fun j => if f j < k then letr (g (f j) : Int) else z
theorem len_tabL (f g : Nat → Nat) (k : Nat) (z : UInt8) : (tabL f g k z).length = 10 := by simp [tabL]
/-- Exchanges letters. -/
structure FInv (f : Nat → Nat) : Prop where
  lt : ∀ d, d < 10 → f d < 10
  inv : ∀ d, d < 10 → f (f d) = d
theorem tabL_zero (f g : Nat → Nat) (z : UInt8) : tabL f g 0 z = List.replicate 10 z := by
  refine List.ext_getElem (by simp [tabL]) fun i h1 h2 => ?_
  simp only [tabL, List.getElem_map, List.getElem_range, List.getElem_replicate]
  rw [if_neg (by omega)]
theorem tabL_set {f : Nat → Nat} (hf : FInv f) (g : Nat → Nat) {k : Nat} (hk : k < 10) (z : UInt8) : tabL f g (k + 1) z = (tabL f g k z).set (f k) (letr (g k : Int)) := by
  refine List.ext_getElem (by simp [tabL]) fun i h1 h2 => ?_
  have hi : i < 10 := by simpa [tabL] using h1
  rw [List.getElem_set]
  by_cases e : f k = i
  · rw [if_pos e]
    subst e
    simp only [tabL, List.getElem_map, List.getElem_range, hf.inv k hk]
    rw [if_pos (by omega)]
  · rw [if_neg e]
    have hne : f i ≠ k := fun e2 => e (by rw [← e2]; exact hf.inv i hi)
    simp only [tabL, List.getElem_map, List.getElem_range]
    by_cases h3 : f i < k
    · rw [if_pos h3, if_pos (by omega)]
    · rw [if_neg h3, if_neg (by omega)]
theorem tabL_at {f : Nat → Nat} (hf : FInv f) (g : Nat → Nat) {k : Nat} (hk : k < 10) (z : UInt8) : (tabL f g k z)[f k]? = some z := by
  have hl := hf.lt k hk
  simp only [tabL, List.getElem?_map, List.getElem?_range hl, Option.map_some, hf.inv k hk]
  rw [if_neg (by omega)]
/-- The table, the first letters of which have been filled up. -/
def mixL (f g : Nat → Nat) (n j : Nat) : List UInt8 := (List.range 10).map fun i => if f i < n then letr (g (f i) : Int) else if i < j then 45 else 0
theorem len_mixL (f g : Nat → Nat) (n j : Nat) : (mixL f g n j).length = 10 := by simp [mixL]
theorem mixL_zero (f g : Nat → Nat) (n : Nat) : mixL f g n 0 = tabL f g n 0 := by simp [mixL, tabL]
theorem mixL_full (f g : Nat → Nat) (n : Nat) : mixL f g n 10 = tabL f g n 45 := by
  refine List.ext_getElem (by simp [tabL, mixL]) fun i h1 h2 => ?_
  have hi : i < 10 := by simpa [mixL] using h1
  simp [tabL, mixL, hi]
theorem mixL_set (f g : Nat → Nat) (n : Nat) {j : Nat} (hj : j < 10) : mixL f g n (j + 1) = if f j < n then mixL f g n j else (mixL f g n j).set j 45 := by
  by_cases h : f j < n
  · rw [if_pos h]
    refine List.ext_getElem (by simp [mixL]) fun i h1 h2 => ?_
    simp only [mixL, List.getElem_map, List.getElem_range]
    by_cases e : i = j
    · subst e; rw [if_pos h, if_pos h]
    · by_cases h3 : i < j
      · have h4 : i < j + 1 := by omega
        simp only [h3, h4, if_true]
      · have h4 : ¬ i < j + 1 := by omega
        simp only [h3, h4, if_false]
  · rw [if_neg h]
    refine List.ext_getElem (by simp [mixL]) fun i h1 h2 => ?_
    rw [List.getElem_set]
    by_cases e : j = i
    · subst e
      rw [if_pos rfl]
      simp only [mixL, List.getElem_map, List.getElem_range]
      rw [if_neg h, if_pos (by omega)]
    · rw [if_neg e]
      simp only [mixL, List.getElem_map, List.getElem_range]
      by_cases h3 : i < j
      · have h4 : i < j + 1 := by omega
        simp only [h3, h4, if_true]
      · have h4 : ¬ i < j + 1 := by omega
        simp only [h3, h4, if_false]
theorem letr_pos (n : Int) : (letr n).toNat ≠ 0 ∧ (letr n).toNat ≠ 45 ∧ 97 ≤ (letr n).toNat := by
  rw [letr_toNat]; omega
/-- Indicators that tell of a product. -/
structure DayW (ws : List ByteArray) (q h : Nat) (f g : Nat → Nat) : Prop where
  one : 1 ≤ ws.length
  ten : ws.length ≤ 10
  q_lt : q < h
  h3 : h ≤ 3
  f_inv : FInv f
  g_inv : FInv g
  word : ∀ i (hi : i < ws.length), wordB ws[i] = true
  size : ∀ i (hi : i < ws.length), ws[i].size = 2 * h
  front : ∀ i (hi : i < ws.length), (L ws[i])[q]? = some (letr (f i : Int))
  back : ∀ i (hi : i < ws.length), (L ws[i])[q + h]? = some (letr (g i : Int))
theorem DayW.front_ {ws : List ByteArray} {q h : Nat} {f g : Nat → Nat} (d : DayW ws q h f g) (i : Nat) (hi : i < ws.length) (hq : q < ws[i].size) : ws[i][q] = letr (f i : Int) := by
  have := d.front i hi
  rw [List.getElem?_eq_getElem (by rw [size_L]; exact hq)] at this
  rw [getElem_L]; exact Option.some.inj this
theorem DayW.back_ {ws : List ByteArray} {q h : Nat} {f g : Nat → Nat} (d : DayW ws q h f g) (i : Nat) (hi : i < ws.length) (hq : q + h < ws[i].size) : ws[i][q + h] = letr (g i : Int) := by
  have := d.back i hi
  rw [List.getElem?_eq_getElem (by rw [size_L]; exact hq)] at this
  rw [getElem_L]; exact Option.some.inj this
end Go.Proofs.YtdmnkcmkpjmfaaaGreat

/- ProductFrom of the reference, from the indicators of a day. -/
namespace Go.Proofs.YtdmnkcmkpjmfaaaGreat
open Go.RowKit

/-- Dashes. -/
def dashS (a : Nat) : ByteArray := S (List.replicate a 45)
theorem size_dashS (a : Nat) : (dashS a).size = a := by unfold dashS; rw [size_S]; simp
theorem dashS_add (a b : Nat) : dashS a ++ dashS b = dashS (a + b) := by unfold dashS; rw [S_append, List.replicate_append_replicate]
theorem l21Many_dash (w : World) :
    Calls Tryz.prog 134 #[.string ⟨#[45]⟩, .int .i64 10] w fun e w' => e = .returned (.string (dashS 10)) ∧ w = w' := by
  go_enter Tryz.func134, Tryz.ntmps134
  go_wp2
  go_loop [0, 1, 5] (fun x i o => ∃ (k a b : Nat), k ≤ 10 ∧ x = .string (dashS b) ∧ i = .int .i64 k ∧ o = .string (dashS a) ∧ a + b * k = 10 ∧ b ≤ 21) (fun _ i _ => (intOf i).toNat)
  case atStart => exact ⟨10, 0, 1, by omega, rfl, rfl, rfl, by omega, by omega⟩
  case round =>
    obtain ⟨k, a, b, hk, rfl, rfl, rfl, h1, h2⟩ := hrel
    have z1 := size_dashS a
    have z2 := size_dashS b
    by_cases hlt : 0 < k
    · have hst := many_step b k
      have hsk : b ≤ b * k := Nat.le_mul_of_pos_right _ hlt
      have hb10 : b ≤ 10 := by omega
      have hd1 := dashS_add b b
      have hd2 := dashS_add a b
      have g1 : (dashS b).size ≤ 10 := by omega
      have g2 : (dashS a).size ≤ 10 := by omega
      have HD1 := Lib.hid hd1
      have HD2 := Lib.hid hd2
      clear hd1 hd2 z1 z2
      by_cases ho : k % 2 = 1
      · have t1 : ((k : Int) % 2 == 1) = true := by rw [beq_iff_eq]; omega
        rw [if_pos ho] at hst
        have HST := Lib.hid hst
        have HH := Lib.hid h1
        clear ho hst h1
        go_wp2
        go_round
        case rel =>
          refine ⟨k / 2, a + b, b + b, by omega, by rw [HD1.out], by go_num, by rw [HD2.out], ?_, by omega⟩
          have e1 := HST.out
          have e2 := HH.out
          rw [e1] at e2; omega
        case measure => simp [intOf]; omega
      · have t1 : ((k : Int) % 2 == 1) = false := by rw [beq_eq_false_iff_ne]; omega
        rw [if_neg ho] at hst
        have HST := Lib.hid hst
        have HH := Lib.hid h1
        clear ho hst h1
        go_wp2
        go_round
        case rel =>
          refine ⟨k / 2, a, b + b, by omega, by rw [HD1.out], by go_num, rfl, ?_, by omega⟩
          have e1 := HST.out
          have e2 := HH.out
          rw [e1] at e2; omega
        case measure => simp [intOf]; omega
    · have hk0 : k = 0 := by omega
      subst hk0
      have ha : a = 10 := by simpa using h1
      subst ha
      go_wp2
      go_ret
      exact ⟨rfl, rfl⟩
end Go.Proofs.YtdmnkcmkpjmfaaaGreat

/- PairsBoard of the reference. -/
namespace Go.Proofs.YtdmnkcmkpjmfaaaGreat
open Go.RowKit

theorem u8_ne {b : UInt8} (h : b ≠ 45) : ((b.toNat : Int) != 45) = true := by
  rw [bne_iff_ne]
  intro e
  refine h (UInt8.toNat_inj.1 ?_)
  show b.toNat = 45
  omega
theorem u8_ne2 {b c : UInt8} (h : b ≠ c) : ((b.toNat : Int) != (c.toNat : Int)) = true := by
  rw [bne_iff_ne]
  intro e
  exact h (UInt8.toNat_inj.1 (by omega))
section
variable {R : Nat → Nat → Bool} {x y : Nat}
theorem brd_ok (h : oneB R = true) (hx : x < 10) (hy : y < 10) (k : (brdL R)[x]'(by rw [len_brdL]; exact hx) = 45 ∨ (brdL R)[x]'(by rw [len_brdL]; exact hx) = letr (y : Int)) : ∀ b, b < 10 → R x b = true → b = y := by
  intro b hb hr
  have ht : tiedB R x = true := tiedB_iff.2 ⟨b, hb, hr⟩
  rw [brdL_mate hx ht] at k
  rcases k with k | k
  · exact absurd k (letr_no_dash _)
  · have := letr_inj (mate_lt hx) hy k
    rw [← this]
    exact (mate_eq h hx hb hr).symm
theorem brd_bad (hx : x < 10) (k1 : (brdL R)[x]'(by rw [len_brdL]; exact hx) ≠ 45) (k2 : (brdL R)[x]'(by rw [len_brdL]; exact hx) ≠ letr (y : Int)) : ∃ b, b < 10 ∧ R x b = true ∧ b ≠ y := by
  cases ht : tiedB R x with
  | false => exact absurd (brdL_dash hx ht) k1
  | true =>
    obtain ⟨b, hb, hr⟩ := tiedB_iff.1 ht
    refine ⟨mate R x, mate_lt hx, mate_in hb hr, fun e => k2 ?_⟩
    rw [brdL_mate hx ht, e]
end
set_option maxRecDepth 100000 in
set_option maxHeartbeats 4000000 in
theorem specPairsBoard_any (a : Option Addr) (c : Nat) (ps : List (Nat × Nat)) (w : World) (hr : Reads w w.heap.size a (sv (ps.map pw))) (ho : ∀ z ∈ ps, z.1 < 10 ∧ z.2 < 10) (hl : ps.length ≤ 1000) :
    Calls Tryz.prog 93 #[.slice a ps.length c] w fun e w' => e = .returned (.tuple #[.string (brdT (setP ps)).1, .bool (brdT (setP ps)).2]) ∧ Below w.heap.size w w' := by
  have hLd : L (dashS 10) = List.replicate 10 45 := L_S _
  have hzd := size_dashS 10
  have HR := Lib.hid (fun (wr : World) (hb : Below w.heap.size w wr) => hr.below hb (Nat.le_refl _))
  have HO := Lib.hid ho
  clear hr ho
  obtain ⟨ca, w2, hcv2, o2, hb2, s2, hca⟩ := conv_bytes w (dashS 10)
  rw [hzd] at hcv2 hca
  rw [hLd, ← brdL_none] at o2
  have nd := fun W => l21Many_dash W
  generalize dashS 10 = D at *
  go_enter Tryz.func93, Tryz.ntmps93
  go_wp2_with (first | (go_at_call 134; ((with_reducible refine (nd _).mono ?_); rintro e w' ⟨rfl, rfl⟩)))
  generalize hB : w.heap.size = B at *
  have HB := Lib.hid hB
  clear hB hcv2 s2
  go_loopw [5, 6, 7] (fun i _ _ wr => ∃ k : Nat, k ≤ ps.length ∧ i = .int .i64 k ∧ oneB (setP (ps.take k)) = true ∧ Own wr B (bv (brdL (setP (ps.take k)))) ∧ Below B w wr) (fun i _ _ _ => ps.length - (intOf i).toNat)
  case atStart => exact ⟨0, Nat.zero_le _, rfl, rfl, o2, hb2⟩
  case round =>
    clear o2 hb2
    obtain ⟨k, hk, rfl, h1, oB, hb⟩ := hrel
    have H1 := Lib.hid h1
    clear h1
    by_cases hlt : k < ps.length
    · obtain ⟨bl, off, rfl, hbl, hcl⟩ := (HR.out _ hb).open_ (by rw [length_sv, List.length_map]; omega)
      have c1 := hcl k (by rw [length_sv, List.length_map]; exact hlt)
      rw [sv_at (by rw [List.length_map]; exact hlt), List.getElem_map] at c1
      clear hcl
      have q1 : (0 : Int) ≤ (k : Int) := by omega
      have q2 : (k : Int) < (ps.length : Int) := by omega
      have hq := HO.out ps[k] (List.getElem_mem hlt)
      have HSN : Hid (setP (ps.take (k + 1)) = addR (setP (ps.take k)) ps[k].1 ps[k].2) := Lib.hid (by rw [List.take_succ_eq_append_getElem hlt, setP_snoc])
      have HSUB : Hid (oneB (setP (ps.take (k + 1))) = false → brdT (setP ps) = (S [], false)) := Lib.hid (fun e => by
        unfold brdT
        rw [if_neg]
        rw [oneB_no (Q := setP ps) (fun a b h => ?_) e]; simp
        rcases setP_iff.1 h with h | h
        · exact setP_iff.2 (.inl (List.mem_of_mem_take h))
        · exact setP_iff.2 (.inr (List.mem_of_mem_take h)))
      rw [HSN.out] at HSUB
      generalize ps[k] = q at *
      obtain ⟨x, y⟩ := q
      simp only at hq HSN HSUB
      obtain ⟨hx, hy⟩ := hq
      have hsym := setP_symm (ps.take k)
      have HBR := Lib.hid (fun hA hB => brdL_add hsym hx hy H1.out (brd_ok H1.out hx hy hA) (brd_ok H1.out hy hx hB))
      have HON := Lib.hid (fun hA hB => one_addR (x := x) (y := y) H1.out (brd_ok H1.out hx hy hA) (brd_ok H1.out hy hx hB))
      have HBD : Hid (((brdL (setP (ps.take k)))[x]'(by rw [len_brdL]; exact hx) ≠ 45 ∧ (brdL (setP (ps.take k)))[x]'(by rw [len_brdL]; exact hx) ≠ letr (y : Int)) ∨ ((brdL (setP (ps.take k)))[y]'(by rw [len_brdL]; exact hy) ≠ 45 ∧ (brdL (setP (ps.take k)))[y]'(by rw [len_brdL]; exact hy) ≠ letr (x : Int)) → brdT (setP ps) = (S [], false)) := Lib.hid (fun e => HSUB.out (by
        rcases e with e | e
        · obtain ⟨b, hb, h1, h2⟩ := brd_bad hx e.1 e.2
          exact one_not hx hy hb h1 h2
        · obtain ⟨b, hb, h1, h2⟩ := brd_bad hy e.1 e.2
          rw [show addR (setP (ps.take k)) x y = addR (setP (ps.take k)) y x by funext a b; simp only [addR]; congr 1; exact Bool.or_comm _ _]
          exact one_not hy hx hb h1 h2))
      have cx := oB.at_ (i := x) (bv_at (l := brdL (setP (ps.take k))) (by rw [len_brdL]; exact hx))
      have cy := oB.at_ (i := y) (bv_at (l := brdL (setP (ps.take k))) (by rw [len_brdL]; exact hy))
      generalize hbx : (brdL (setP (ps.take k)))[x]'(by rw [len_brdL]; exact hx) = bx at *
      generalize hby : (brdL (setP (ps.take k)))[y]'(by rw [len_brdL]; exact hy) = by' at *
      clear hbx hby
      have d2 := dg2 hx hy
      have hsz : (pw (x, y)).size = 2 := by show (wd [x, y]).size = 2; rw [size_wd]; rfl
      have hp : pairB (pw (x, y)) = true := pairB_wd
      have n0 := fun W => l13IsPair_any (pw (x, y)) W (by omega)
      rw [hp] at n0
      have hd := wordB_at (pairB_word hp)
      have n1 := fun W => l1Digit_any (pw (x, y)) 0 W (by omega) (by omega) (by omega)
      have n2 := fun W => l1Digit_any (pw (x, y)) 1 W (by omega) (by omega) (by omega)
      have hL : L (pw (x, y)) = [letr (x : Int), letr (y : Int)] := L_S _
      have z0 : (pw (x, y))[0]'(by omega) = letr (x : Int) := by rw [getElem_L]; simp only [hL]; rfl
      have z1 : (pw (x, y))[1]'(by omega) = letr (y : Int) := by rw [getElem_L]; simp only [hL]; rfl
      simp only [Int.toNat_zero, Int.toNat_one] at n1 n2
      rw [z0, dig_letr, show (x : Int) % 10 = (x : Int) by omega] at n1
      rw [z1, dig_letr, show (y : Int) % 10 = (y : Int) by omega] at n2
      clear d2 hp hd hL HSUB
      have hlx : (0 : Int) ≤ (x : Int) := by omega
      have hlx2 : (x : Int) < 10 := by omega
      have hly : (0 : Int) ≤ (y : Int) := by omega
      have hly2 : (y : Int) < 10 := by omega
      have s0 : (0 : Int) < ((pw (x, y)).size : Int) := by omega
      have s1 : (1 : Int) < ((pw (x, y)).size : Int) := by omega
      have s0' : 0 < (pw (x, y)).size := by omega
      have s1' : 1 < (pw (x, y)).size := by omega
      go_wp2_with (first | (go_at_call 69; ((with_reducible refine (n0 _).mono ?_); rintro e w' ⟨rfl, rfl⟩)) | (go_at_call 90; ((with_reducible refine (n1 _).mono ?_); rintro e w' ⟨rfl, rfl⟩)) | (go_at_call 90; ((with_reducible refine (n2 _).mono ?_); rintro e w' ⟨rfl, rfl⟩)))
      by_cases a1 : bx = 45
      · have t1 : ((bx.toNat : Int) != 45) = false := by rw [a1]; rfl
        have hA := Lib.hid (show bx = 45 ∨ bx = letr (y : Int) from .inl a1)
        clear a1
        by_cases a3 : by' = 45
        · have t3 : ((by'.toNat : Int) != 45) = false := by rw [a3]; rfl
          have hB := Lib.hid (show by' = 45 ∨ by' = letr (x : Int) from .inl a3)
          clear a3
          go_wp2_with fail
          go_quiet (fail)
          have oN := oB.drewN nq
          have hbN : Below B w (wr.drewN nq) := bel_drewN hb _
          have cN : (wr.drewN nq).cell? ⟨bl, off + k, none⟩ = some (.string (pw (x, y))) := c1
          clear oB hb c1 cx cy
          generalize wr.drewN nq = W at *
          have gx := oN.free x (by rw [length_bv, len_brdL]; exact hx)
          obtain ⟨vx, ex⟩ := oN.some_ (i := x) (by rw [length_bv, len_brdL]; exact hx)
          have oS := oN.set_ (i := x) (by rw [length_bv, len_brdL]; exact hx) (.int .u8 ((letr (y : Int)).toNat : Int))
          have gy := oS.free y (by rw [List.length_set, length_bv, len_brdL]; exact hy)
          obtain ⟨vy, ey⟩ := oS.some_ (i := y) (by rw [List.length_set, length_bv, len_brdL]; exact hy)
          have oT := oS.set_ (i := y) (by rw [List.length_set, length_bv, len_brdL]; exact hy) (.int .u8 ((letr (x : Int)).toNat : Int))
          rw [bv_set, bv_set, ← HBR.out hA.out hB.out] at oT
          have hone' := Lib.hid (HON.out hA.out hB.out)
          have hbT := (hbN.setCell (p := ⟨B, x, none⟩) (Nat.le_refl B) (.int .u8 ((letr (y : Int)).toNat : Int))).setCell (p := ⟨B, y, none⟩) (Nat.le_refl B) (.int .u8 ((letr (x : Int)).toNat : Int))
          have cN2 : (W.setCell ⟨B, x, none⟩ (.int .u8 ((letr (y : Int)).toNat : Int))).cell? ⟨bl, off + k, none⟩ = some (.string (pw (x, y))) := (World.cell?_of_block (w := W) (Below.heap_setCell W ⟨B, x, none⟩ _ bl (show bl ≠ B by omega))).trans cN
          go_wp2_with fail
          go_roundw
          case rel => exact ⟨k + 1, by omega, by go_num, by rw [HSN.out]; exact hone'.out, by rw [HSN.out]; exact oT, hbT⟩
          case measure => simp [intOf]; omega
        · have t3 : ((by'.toNat : Int) != 45) = true := u8_ne a3
          by_cases a4 : by' = letr (x : Int)
          · have t4 : ((by'.toNat : Int) != ((letr (x : Int)).toNat : Int)) = false := by rw [a4]; simp
            have hB := Lib.hid (show by' = 45 ∨ by' = letr (x : Int) from .inr a4)
            clear a3 a4
            go_wp2_with fail
            go_quiet (fail)
            have oN := oB.drewN nq
            have hbN : Below B w (wr.drewN nq) := bel_drewN hb _
            have cN : (wr.drewN nq).cell? ⟨bl, off + k, none⟩ = some (.string (pw (x, y))) := c1
            clear oB hb c1 cx cy
            generalize wr.drewN nq = W at *
            have gx := oN.free x (by rw [length_bv, len_brdL]; exact hx)
            obtain ⟨vx, ex⟩ := oN.some_ (i := x) (by rw [length_bv, len_brdL]; exact hx)
            have oS := oN.set_ (i := x) (by rw [length_bv, len_brdL]; exact hx) (.int .u8 ((letr (y : Int)).toNat : Int))
            have gy := oS.free y (by rw [List.length_set, length_bv, len_brdL]; exact hy)
            obtain ⟨vy, ey⟩ := oS.some_ (i := y) (by rw [List.length_set, length_bv, len_brdL]; exact hy)
            have oT := oS.set_ (i := y) (by rw [List.length_set, length_bv, len_brdL]; exact hy) (.int .u8 ((letr (x : Int)).toNat : Int))
            rw [bv_set, bv_set, ← HBR.out hA.out hB.out] at oT
            have hone' := Lib.hid (HON.out hA.out hB.out)
            have hbT := (hbN.setCell (p := ⟨B, x, none⟩) (Nat.le_refl B) (.int .u8 ((letr (y : Int)).toNat : Int))).setCell (p := ⟨B, y, none⟩) (Nat.le_refl B) (.int .u8 ((letr (x : Int)).toNat : Int))
            have cN2 : (W.setCell ⟨B, x, none⟩ (.int .u8 ((letr (y : Int)).toNat : Int))).cell? ⟨bl, off + k, none⟩ = some (.string (pw (x, y))) := (World.cell?_of_block (w := W) (Below.heap_setCell W ⟨B, x, none⟩ _ bl (show bl ≠ B by omega))).trans cN
            go_wp2_with fail
            go_roundw
            case rel => exact ⟨k + 1, by omega, by go_num, by rw [HSN.out]; exact hone'.out, by rw [HSN.out]; exact oT, hbT⟩
            case measure => simp [intOf]; omega
          · have t4 : ((by'.toNat : Int) != ((letr (x : Int)).toNat : Int)) = true := u8_ne2 a4
            have hBB := Lib.hid (show by' ≠ 45 ∧ by' ≠ letr (x : Int) from ⟨a3, a4⟩)
            clear a3 a4
            have HE := Lib.hid (HBD.out (.inr hBB.out))
            go_wp2_with fail
            go_quiet (fail)
            have hbN : Below B w (wr.drewN nq) := bel_drewN hb _
            go_wp2
            go_ret2
            exact ⟨by rw [HE.out]; rfl, by rw [HB.out]; exact hbN⟩
      · have t1 : ((bx.toNat : Int) != 45) = true := u8_ne a1
        by_cases a2 : bx = letr (y : Int)
        · have t2 : ((bx.toNat : Int) != ((letr (y : Int)).toNat : Int)) = false := by rw [a2]; simp
          have hA := Lib.hid (show bx = 45 ∨ bx = letr (y : Int) from .inr a2)
          clear a1 a2
          by_cases a3 : by' = 45
          · have t3 : ((by'.toNat : Int) != 45) = false := by rw [a3]; rfl
            have hB := Lib.hid (show by' = 45 ∨ by' = letr (x : Int) from .inl a3)
            clear a3
            go_wp2_with fail
            go_quiet (fail)
            have oN := oB.drewN nq
            have hbN : Below B w (wr.drewN nq) := bel_drewN hb _
            have cN : (wr.drewN nq).cell? ⟨bl, off + k, none⟩ = some (.string (pw (x, y))) := c1
            clear oB hb c1 cx cy
            generalize wr.drewN nq = W at *
            have gx := oN.free x (by rw [length_bv, len_brdL]; exact hx)
            obtain ⟨vx, ex⟩ := oN.some_ (i := x) (by rw [length_bv, len_brdL]; exact hx)
            have oS := oN.set_ (i := x) (by rw [length_bv, len_brdL]; exact hx) (.int .u8 ((letr (y : Int)).toNat : Int))
            have gy := oS.free y (by rw [List.length_set, length_bv, len_brdL]; exact hy)
            obtain ⟨vy, ey⟩ := oS.some_ (i := y) (by rw [List.length_set, length_bv, len_brdL]; exact hy)
            have oT := oS.set_ (i := y) (by rw [List.length_set, length_bv, len_brdL]; exact hy) (.int .u8 ((letr (x : Int)).toNat : Int))
            rw [bv_set, bv_set, ← HBR.out hA.out hB.out] at oT
            have hone' := Lib.hid (HON.out hA.out hB.out)
            have hbT := (hbN.setCell (p := ⟨B, x, none⟩) (Nat.le_refl B) (.int .u8 ((letr (y : Int)).toNat : Int))).setCell (p := ⟨B, y, none⟩) (Nat.le_refl B) (.int .u8 ((letr (x : Int)).toNat : Int))
            have cN2 : (W.setCell ⟨B, x, none⟩ (.int .u8 ((letr (y : Int)).toNat : Int))).cell? ⟨bl, off + k, none⟩ = some (.string (pw (x, y))) := (World.cell?_of_block (w := W) (Below.heap_setCell W ⟨B, x, none⟩ _ bl (show bl ≠ B by omega))).trans cN
            go_wp2_with fail
            go_roundw
            case rel => exact ⟨k + 1, by omega, by go_num, by rw [HSN.out]; exact hone'.out, by rw [HSN.out]; exact oT, hbT⟩
            case measure => simp [intOf]; omega
          · have t3 : ((by'.toNat : Int) != 45) = true := u8_ne a3
            by_cases a4 : by' = letr (x : Int)
            · have t4 : ((by'.toNat : Int) != ((letr (x : Int)).toNat : Int)) = false := by rw [a4]; simp
              have hB := Lib.hid (show by' = 45 ∨ by' = letr (x : Int) from .inr a4)
              clear a3 a4
              go_wp2_with fail
              go_quiet (fail)
              have oN := oB.drewN nq
              have hbN : Below B w (wr.drewN nq) := bel_drewN hb _
              have cN : (wr.drewN nq).cell? ⟨bl, off + k, none⟩ = some (.string (pw (x, y))) := c1
              clear oB hb c1 cx cy
              generalize wr.drewN nq = W at *
              have gx := oN.free x (by rw [length_bv, len_brdL]; exact hx)
              obtain ⟨vx, ex⟩ := oN.some_ (i := x) (by rw [length_bv, len_brdL]; exact hx)
              have oS := oN.set_ (i := x) (by rw [length_bv, len_brdL]; exact hx) (.int .u8 ((letr (y : Int)).toNat : Int))
              have gy := oS.free y (by rw [List.length_set, length_bv, len_brdL]; exact hy)
              obtain ⟨vy, ey⟩ := oS.some_ (i := y) (by rw [List.length_set, length_bv, len_brdL]; exact hy)
              have oT := oS.set_ (i := y) (by rw [List.length_set, length_bv, len_brdL]; exact hy) (.int .u8 ((letr (x : Int)).toNat : Int))
              rw [bv_set, bv_set, ← HBR.out hA.out hB.out] at oT
              have hone' := Lib.hid (HON.out hA.out hB.out)
              have hbT := (hbN.setCell (p := ⟨B, x, none⟩) (Nat.le_refl B) (.int .u8 ((letr (y : Int)).toNat : Int))).setCell (p := ⟨B, y, none⟩) (Nat.le_refl B) (.int .u8 ((letr (x : Int)).toNat : Int))
              have cN2 : (W.setCell ⟨B, x, none⟩ (.int .u8 ((letr (y : Int)).toNat : Int))).cell? ⟨bl, off + k, none⟩ = some (.string (pw (x, y))) := (World.cell?_of_block (w := W) (Below.heap_setCell W ⟨B, x, none⟩ _ bl (show bl ≠ B by omega))).trans cN
              go_wp2_with fail
              go_roundw
              case rel => exact ⟨k + 1, by omega, by go_num, by rw [HSN.out]; exact hone'.out, by rw [HSN.out]; exact oT, hbT⟩
              case measure => simp [intOf]; omega
            · have t4 : ((by'.toNat : Int) != ((letr (x : Int)).toNat : Int)) = true := u8_ne2 a4
              have hBB := Lib.hid (show by' ≠ 45 ∧ by' ≠ letr (x : Int) from ⟨a3, a4⟩)
              clear a3 a4
              have HE := Lib.hid (HBD.out (.inr hBB.out))
              go_wp2_with fail
              go_quiet (fail)
              have hbN : Below B w (wr.drewN nq) := bel_drewN hb _
              go_wp2
              go_ret2
              exact ⟨by rw [HE.out]; rfl, by rw [HB.out]; exact hbN⟩
        · have t2 : ((bx.toNat : Int) != ((letr (y : Int)).toNat : Int)) = true := u8_ne2 a2
          have hBB := Lib.hid (show bx ≠ 45 ∧ bx ≠ letr (y : Int) from ⟨a1, a2⟩)
          clear a1 a2
          have HE := Lib.hid (HBD.out (.inl hBB.out))
          go_wp2_with fail
          go_quiet (fail)
          have hbN : Below B w (wr.drewN nq) := bel_drewN hb _
          go_wp2
          go_ret2
          exact ⟨by rw [HE.out]; rfl, by rw [HB.out]; exact hbN⟩
    · have hk' : k = ps.length := by omega
      rw [hk', List.take_length] at oB
      have h1 : oneB (setP ps) = true := by have := H1.out; rw [hk', List.take_length] at this; exact this
      obtain ⟨R, hR⟩ : ∃ R, R = setP ps := ⟨_, rfl⟩
      have HT : Hid (brdT (setP ps) = (wd (boardL R), true)) := Lib.hid (by unfold brdT; rw [if_pos h1, hR])
      rw [← filL_zero, ← hR] at oB
      clear h1 hR
      go_wp2_with fail
      go_loopw [8] (fun i wr => ∃ j : Nat, j ≤ 10 ∧ i = .int .i64 j ∧ Own wr B (bv (filL R j)) ∧ Below B w wr) (fun i _ => 10 - (intOf i).toNat)
      case atStart => exact ⟨0, by omega, rfl, oB, hb⟩
      case round =>
        clear oB hb
        obtain ⟨j, hj, rfl, oB, hb⟩ := hrel
        by_cases hjl : j < 10
        · have hlx : (0 : Int) ≤ (j : Int) := by omega
          have hlx2 : (j : Int) < 10 := by omega
          have hl10 : (bv (filL R j)).length = 10 := by rw [length_bv, len_filL]
          have cj := oB.at_ (i := j) (bv_at (l := filL R j) (by rw [len_filL]; exact hjl))
          rw [filL_at R j hjl] at cj
          have gj := oB.free j (by omega)
          have lB := oB.lt
          cases ht : tiedB R j with
          | true =>
            rw [ht, if_pos (by simp)] at cj
            have HS := Lib.hid (filL_has ht)
            have t0 : (((letr (mate R j : Int)).toNat : Int) == 45) = false := by
              have := u8_ne (letr_no_dash (mate R j : Int))
              rw [bne_iff_ne] at this
              rw [beq_eq_false_iff_ne]; exact this
            clear ht
            generalize letr (mate R j : Int) = b at *
            go_wp2
            go_roundw
            case rel => exact ⟨j + 1, by omega, by go_num, by rw [HS.out]; exact oB, hb⟩
            case measure => simp [intOf]; omega
          | false =>
            rw [ht, if_neg (by simp)] at cj
            have HS := Lib.hid (filL_not ht)
            have t0 : ((((45 : UInt8).toNat : Int)) == 45) = true := rfl
            clear ht
            go_wp2_with fail
            have hv2 : (97 + (j : Int)) = ((letr (j : Int)).toNat : Int) := by have := letr_toNat (j : Int); omega
            refine ⟨⟨j + 1, by omega, by go_num, ?_, hb.setCell (Nat.le_refl B) _⟩, by simp [intOf]; omega⟩
            rw [HS.out, ← bv_set, hv2]
            exact oB.set_ (by omega) _
        · have hj' : j = 10 := by omega
          subst hj'
          have hcv := oB.conv (P := Tryz.prog) 47 9 5 Tryz.underlying47 Tryz.underlying5 Tryz.underlying9 (n := 10) (len_filL R 10).symm ca
          rw [filL_ten] at hcv
          go_wp2
          go_ret2
          exact ⟨by rw [HT.out]; rfl, by rw [HB.out]; exact hb⟩
end Go.Proofs.YtdmnkcmkpjmfaaaGreat
