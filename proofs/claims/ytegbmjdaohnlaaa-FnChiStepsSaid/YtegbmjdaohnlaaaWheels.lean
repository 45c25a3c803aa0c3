/- Contracts of the functions that look at wheels of bits and at teleprinter machines. -/
import Derived.Test.YtegbmjdaohnlaaaLetters
import Derived.Deep.RegionWith
namespace Go.Proofs.Ytegbmjdaohnlaaa
open Go.RowKit

theorem l15Bits_any (s : ByteArray) (w : World) (hs : s.size ≤ 4294967296) :
    Calls Try.prog 47 #[.string s] w fun e w' => e = .returned (.bool (bitsB s)) ∧ w = w' := by
  go_enter Try.func47, Try.ntmps47
  go_wp2
  go_loop [3] (fun i => ∃ k : Nat, k ≤ s.size ∧ i = .int .i64 k ∧ allTo isBit s k) (fun i => s.size - (intOf i).toNat)
  case atStart => exact ⟨0, Nat.zero_le _, rfl, allTo_zero _ _⟩
  case round =>
    obtain ⟨k, hk, rfl, ha⟩ := hrel
    by_cases hlt : k < s.size
    · have hb := byte_lt s[k]
      by_cases h0 : s[k].toNat = 48
      · have t0 : ((s[k].toNat : Int) != 48) = false := by simp [h0]
        have H0 := Lib.hid h0
        clear h0
        go_wp2
        go_round
        case rel => exact ⟨k + 1, by omega, by go_num, allTo_succ ha hlt (by simp [isBit, H0.out])⟩
        case measure => simp [intOf]; omega
      · have t0 : ((s[k].toNat : Int) != 48) = true := by rw [bne_iff_ne]; omega
        by_cases h1 : s[k].toNat = 49
        · have t1 : ((s[k].toNat : Int) != 49) = false := by simp [h1]
          have H1 := Lib.hid h1
          clear h1
          go_wp2
          go_round
          case rel => exact ⟨k + 1, by omega, by go_num, allTo_succ ha hlt (by simp [isBit, H1.out])⟩
          case measure => simp [intOf]; omega
        · have t1 : ((s[k].toNat : Int) != 49) = true := by rw [bne_iff_ne]; omega
          go_wp2
          go_ret
          exact ⟨ret_bool (bitsB_no hlt (by simp [isBit, h0, h1])).symm, rfl⟩
    · go_wp2_with (go_at_call 63; ((with_reducible refine (l1In_any _ _ _ _).mono ?_); rintro e w' ⟨rfl, rfl⟩))
      go_ret
      exact ⟨ret_bool (by
        by_cases h2 : 2 ≤ s.size
        · by_cases h9 : s.size ≤ 9
          · rw [bitsB_yes h2 h9 ha (by omega)]; simp; omega
          · simp [bitsB, h9]; omega
        · simp [bitsB, h2]; omega), rfl⟩

theorem wheelValid_any (s : ByteArray) (w : World) (hs : s.size ≤ 4294967296) :
    Calls Try.prog 45 #[.string s] w fun e w' => e = .returned (.bool (bitsB s)) ∧ w = w' := by
  by_cases h2 : 2 ≤ s.size
  · by_cases h9 : s.size ≤ 9
    · go_enter Try.func45, Try.ntmps45
      go_wp2
      go_loop [14] (fun i => ∃ k : Nat, k ≤ s.size ∧ i = .int .i64 k ∧ allTo isBit s k) (fun i => s.size - (intOf i).toNat)
      case atStart => exact ⟨0, Nat.zero_le _, rfl, allTo_zero _ _⟩
      case round =>
        obtain ⟨k, hk, rfl, ha⟩ := hrel
        by_cases hlt : k < s.size
        · have hb := byte_lt s[k]
          by_cases h0 : s[k].toNat = 48
          · have t0 : ((s[k].toNat : Int) != 48) = false := by simp [h0]
            have H0 := Lib.hid h0
            clear h0
            go_wp2
            go_round
            case rel => exact ⟨k + 1, by omega, by go_num, allTo_succ ha hlt (by simp [isBit, H0.out])⟩
            case measure => simp [intOf]; omega
          · have t0 : ((s[k].toNat : Int) != 48) = true := by rw [bne_iff_ne]; omega
            by_cases h1 : s[k].toNat = 49
            · have t1 : ((s[k].toNat : Int) != 49) = false := by simp [h1]
              have H1 := Lib.hid h1
              clear h1
              go_wp2
              go_round
              case rel => exact ⟨k + 1, by omega, by go_num, allTo_succ ha hlt (by simp [isBit, H1.out])⟩
              case measure => simp [intOf]; omega
            · have t1 : ((s[k].toNat : Int) != 49) = true := by rw [bne_iff_ne]; omega
              go_wp2
              go_ret
              exact ⟨ret_bool (bitsB_no hlt (by simp [isBit, h0, h1])).symm, rfl⟩
        · go_wp2
          go_ret
          exact ⟨ret_bool (bitsB_yes h2 h9 ha (by omega)).symm, rfl⟩
    · go_enter Try.func45, Try.ntmps45
      go_wp2
      go_ret
      exact ⟨ret_bool (by simp [bitsB, h9]), rfl⟩
  · go_enter Try.func45, Try.ntmps45
    go_wp2
    go_ret
    exact ⟨ret_bool (by simp [bitsB, h2]), rfl⟩

theorem l16Wheels_any (a : Option Addr) (c : Nat) (ss : List ByteArray) (w : World) (h : Reads w w.heap.size a (sv ss)) (hz : ∀ s ∈ ss, s.size ≤ 4294967296) (hl : ss.length ≤ 4294967296) :
    Calls Try.prog 46 #[.slice a ss.length c] w fun e w' => e = .returned (.bool (ss.length == 3 && ss.all bitsB)) ∧ w = w' := by
  by_cases h3 : ss.length = 3
  · match ss, h3 with
    | [s0, s1, s2], _ =>
    obtain ⟨b, off, rfl, hb, hc⟩ := h.open_ (by simp [sv])
    have c0 : w.cell? ⟨b, off, none⟩ = some (.string s0) := hc 0 (by simp [sv])
    have c1 : w.cell? ⟨b, off + 1, none⟩ = some (.string s1) := hc 1 (by simp [sv])
    have c2 : w.cell? ⟨b, off + 2, none⟩ = some (.string s2) := hc 2 (by simp [sv])
    have z0 : s0.size ≤ 4294967296 := hz _ (by simp)
    have z1 : s1.size ≤ 4294967296 := hz _ (by simp)
    have z2 : s2.size ≤ 4294967296 := hz _ (by simp)
    clear hc h hz
    cases h0 : bitsB s0 <;> cases h1 : bitsB s1 <;> cases h2 : bitsB s2
    all_goals
      go_enter Try.func46, Try.ntmps46
      go_wp2_with (go_at_call 47; ((with_reducible refine (l15Bits_any _ _ (by assumption)).mono ?_); rintro e w' ⟨rfl, rfl⟩))
      go_ret
      exact ⟨ret_bool (by simp [h0, h1, h2]), rfl⟩
  · have hne : ((ss.length : Int) == 3) = false := by rw [beq_eq_false_iff_ne]; omega
    go_enter Try.func46, Try.ntmps46
    go_wp2
    go_ret
    exact ⟨ret_bool (by simp [h3]), rfl⟩
theorem Reads.alloc_ {w : World} {a : Option Addr} {xs : List Value} (h : Reads w w.heap.size a xs) (o : Obj) : Reads (w.alloc o) (w.alloc o).heap.size a xs :=
  (h.keep fun p hp => World.cell?_alloc_lt w o p hp).more (by simp)

theorem specTeleValid_any (a1 a2 : Option Addr) (c1 c2 : Nat) (chi psi : List ByteArray) (m : ByteArray) (w : World) (h1 : Reads w w.heap.size a1 (sv chi)) (h2 : Reads w w.heap.size a2 (sv psi))
    (z1 : ∀ s ∈ chi, s.size ≤ 4294967296) (z2 : ∀ s ∈ psi, s.size ≤ 4294967296) (z3 : m.size ≤ 4294967296) (l1 : chi.length ≤ 4294967296) (l2 : psi.length ≤ 4294967296) :
    Calls Try.prog 22 #[.agg #[.slice a1 chi.length c1, .slice a2 psi.length c2, .string m]] w fun e w' => e = .returned (.bool (teleB chi psi m)) ∧ Below w.heap.size w w' := by
  have r1 := fun o => h1.alloc_ o
  have r2 := fun o => h2.alloc_ o
  have Z1 := Lib.hid z1
  have Z2 := Lib.hid z2
  clear h1 h2 z1 z2
  cases t1 : (chi.length == 3 && chi.all bitsB) <;> cases t2 : (psi.length == 3 && psi.all bitsB) <;> cases t3 : bitsB m
  all_goals
    have T : Hid (teleB chi psi m = ((chi.length == 3 && chi.all bitsB) && (psi.length == 3 && psi.all bitsB) && bitsB m)) := rfl
    rw [t1, t2, t3] at T
    generalize hq1 : (chi.length == 3 && chi.all bitsB) = q1 at t1
    generalize hq2 : (psi.length == 3 && psi.all bitsB) = q2 at t2
    have Hq1 := Lib.hid hq1
    have Hq2 := Lib.hid hq2
    subst t1 t2
    clear hq1 hq2
    go_enter Try.func22, Try.ntmps22
    go_wp2_with (first | (go_at_call_of 46 (Value.slice a1 chi.length c1); ((with_reducible refine (l16Wheels_any a1 c1 chi _ (r1 _) Z1.out l1).mono ?_); rintro e w' ⟨rfl, rfl⟩; rw [Hq1.out])) | (go_at_call_of 46 (Value.slice a2 psi.length c2); ((with_reducible refine (l16Wheels_any a2 c2 psi _ (r2 _) Z2.out l2).mono ?_); rintro e w' ⟨rfl, rfl⟩; rw [Hq2.out])) | (go_at_call 47; ((with_reducible refine (l15Bits_any _ _ (by assumption)).mono ?_); rintro e w' ⟨rfl, rfl⟩)))
    go_ret
    exact ⟨ret_bool T.out.symm, (Below.refl _ _).alloc (Nat.le_refl _) _⟩
/-- The first k wheels of both lists are wheels. -/
def wheelsTo (chi psi : List ByteArray) (k : Nat) : Prop := ∀ j (h1 : j < chi.length) (h2 : j < psi.length), j < k → bitsB chi[j] = true ∧ bitsB psi[j] = true
theorem wheelsTo_succ {chi psi : List ByteArray} {k : Nat} (h : wheelsTo chi psi k) (h1 : k < chi.length) (h2 : k < psi.length) (b1 : bitsB chi[k] = true) (b2 : bitsB psi[k] = true) : wheelsTo chi psi (k + 1) := by
  intro j hj1 hj2 hlt
  by_cases e : j = k
  · subst e; exact ⟨b1, b2⟩
  · exact h j hj1 hj2 (by omega)
theorem teleB_yes {chi psi : List ByteArray} {m : ByteArray} {k : Nat} (h : wheelsTo chi psi k) (l1 : chi.length = 3) (l2 : psi.length = 3) (hk : 3 ≤ k) (hm : bitsB m = true) : teleB chi psi m = true := by
  have a1 : chi.all bitsB = true := by
    rw [List.all_eq_true]; intro x hx
    obtain ⟨j, hj, rfl⟩ := List.getElem_of_mem hx
    exact (h j hj (by omega) (by omega)).1
  have a2 : psi.all bitsB = true := by
    rw [List.all_eq_true]; intro x hx
    obtain ⟨j, hj, rfl⟩ := List.getElem_of_mem hx
    exact (h j (by omega) hj (by omega)).2
  simp [teleB, l1, l2, a1, a2, hm]
theorem teleB_no1 {chi psi : List ByteArray} {m : ByteArray} {k : Nat} (h1 : k < chi.length) (b : bitsB chi[k] = false) : teleB chi psi m = false := by
  have : chi.all bitsB = false := by
    rw [List.all_eq_false]; exact ⟨chi[k], List.getElem_mem _, by simp [b]⟩
  simp [teleB, this]
theorem teleB_no2 {chi psi : List ByteArray} {m : ByteArray} {k : Nat} (h1 : k < psi.length) (b : bitsB psi[k] = false) : teleB chi psi m = false := by
  have : psi.all bitsB = false := by
    rw [List.all_eq_false]; exact ⟨psi[k], List.getElem_mem _, by simp [b]⟩
  simp [teleB, this]

theorem implTeleValid_any (a1 a2 : Option Addr) (c1 c2 : Nat) (chi psi : List ByteArray) (m : ByteArray) (w : World) (h1 : Reads w w.heap.size a1 (sv chi)) (h2 : Reads w w.heap.size a2 (sv psi))
    (z1 : ∀ s ∈ chi, s.size ≤ 4294967296) (z2 : ∀ s ∈ psi, s.size ≤ 4294967296) (z3 : m.size ≤ 4294967296) (l1 : chi.length ≤ 4294967296) (l2 : psi.length ≤ 4294967296) :
    Calls Try.prog 21 #[.agg #[.slice a1 chi.length c1, .slice a2 psi.length c2, .string m]] w fun e w' => e = .returned (.bool (teleB chi psi m)) ∧ Below w.heap.size w w' := by
  by_cases n1 : chi.length = 3
  · have t1 : ((chi.length : Int) != 3) = false := by simp [n1]
    by_cases n2 : psi.length = 3
    · have t2 : ((psi.length : Int) != 3) = false := by simp [n2]
      cases hm : bitsB m
      · have T : Hid (teleB chi psi m = false) := by show _ = _; simp [teleB, hm]
        clear n1 n2
        go_enter Try.func21, Try.ntmps21
        go_wp2_with (go_at_call 45; ((with_reducible refine (wheelValid_any _ _ (by omega)).mono ?_); rintro e w' ⟨rfl, rfl⟩))
        go_ret
        exact ⟨ret_bool T.out.symm, (Below.refl _ _).alloc (Nat.le_refl _) _⟩
      · obtain ⟨b1, off1, rfl, hb1, hc1⟩ := h1.open_ (by rw [length_sv]; omega)
        obtain ⟨b2, off2, rfl, hb2, hc2⟩ := h2.open_ (by rw [length_sv]; omega)
        have Z1 := Lib.hid z1
        have Z2 := Lib.hid z2
        have HC1 := Lib.hid hc1
        have HC2 := Lib.hid hc2
        have N1 := Lib.hid n1
        have N2 := Lib.hid n2
        have g1 : 3 ≤ chi.length := by omega
        have g2 : 3 ≤ psi.length := by omega
        clear hc1 hc2 z1 z2 h1 h2 n1 n2
        go_enter Try.func21, Try.ntmps21
        go_wp2_with (go_at_call 45; ((with_reducible refine (wheelValid_any _ _ (by omega)).mono ?_); rintro e w' ⟨rfl, rfl⟩))
        go_loop [20] (fun i => ∃ k : Nat, k ≤ 3 ∧ i = .int .i64 k ∧ wheelsTo chi psi k) (fun i => 3 - (intOf i).toNat)
        case atStart => exact ⟨0, Nat.zero_le _, rfl, fun _ _ _ h => absurd h (by omega)⟩
        case round =>
          obtain ⟨k, hk, rfl, ha⟩ := hrel
          by_cases hlt : k < 3
          · have k1 : k < chi.length := by omega
            have k2 : k < psi.length := by omega
            have d1 := HC1.out k (by rw [length_sv]; exact k1)
            have d2 := HC2.out k (by rw [length_sv]; exact k2)
            rw [sv_at k1] at d1
            rw [sv_at k2] at d2
            have y1 := Z1.out _ (List.getElem_mem k1)
            have y2 := Z2.out _ (List.getElem_mem k2)
            cases e1 : bitsB chi[k]
            · go_wp2_with (go_at_call 45; ((with_reducible refine (wheelValid_any _ _ (by assumption)).mono ?_); rintro e w' ⟨rfl, rfl⟩))
              go_ret
              exact ⟨ret_bool (teleB_no1 k1 e1).symm, (Below.refl _ _).alloc (Nat.le_refl _) _⟩
            · cases e2 : bitsB psi[k]
              · go_wp2_with (go_at_call 45; ((with_reducible refine (wheelValid_any _ _ (by assumption)).mono ?_); rintro e w' ⟨rfl, rfl⟩))
                go_ret
                exact ⟨ret_bool (teleB_no2 k2 e2).symm, (Below.refl _ _).alloc (Nat.le_refl _) _⟩
              · go_wp2_with (go_at_call 45; ((with_reducible refine (wheelValid_any _ _ (by assumption)).mono ?_); rintro e w' ⟨rfl, rfl⟩))
                go_round
                case rel => exact ⟨k + 1, by omega, by go_num, wheelsTo_succ ha k1 k2 e1 e2⟩
                case measure => simp [intOf]; omega
          · go_wp2
            go_ret
            exact ⟨ret_bool (teleB_yes ha N1.out N2.out (by omega) hm).symm, (Below.refl _ _).alloc (Nat.le_refl _) _⟩
    · have t2 : ((psi.length : Int) != 3) = true := by rw [bne_iff_ne]; omega
      have T : Hid (teleB chi psi m = false) := by show _ = _; simp [teleB, n2]
      clear n1 n2
      go_enter Try.func21, Try.ntmps21
      go_wp2
      go_ret
      exact ⟨ret_bool T.out.symm, (Below.refl _ _).alloc (Nat.le_refl _) _⟩
  · have t1 : ((chi.length : Int) != 3) = true := by rw [bne_iff_ne]; omega
    have T : Hid (teleB chi psi m = false) := by show _ = _; simp [teleB, n1]
    clear n1
    go_enter Try.func21, Try.ntmps21
    go_wp2
    go_ret
    exact ⟨ret_bool T.out.symm, (Below.refl _ _).alloc (Nat.le_refl _) _⟩
end Go.Proofs.Ytegbmjdaohnlaaa
