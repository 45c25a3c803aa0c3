/- Contracts of the program's functions that ask whether rotors, wheels and machines are valid. -/
import Derived.Test.YtaplndmgbinhcaaGreatMachV
import Derived.IntWalk
namespace Go.Proofs.YtaplndmgbinhcaaGreat
open Go.RowKit

theorem bel_drewN {B : Nat} {a w : World} (h : Below B a w) (n : Nat) : Below B a (w.drewN n) := ⟨h.os, h.tape, h.output, h.size, h.block⟩
/-- The first k bytes ascend. -/
def ascTo (s : ByteArray) (k : Nat) : Prop := ∀ j, j + 1 < k → j + 1 < s.size → (L s).getD j 0 < (L s).getD (j + 1) 0
theorem ascTo_one (s : ByteArray) : ascTo s 1 := fun j h _ => absurd h (by omega)
theorem ascTo_succ {s : ByteArray} {k : Nat} (h : ascTo s k) (h1 : 1 ≤ k) (hk : k < s.size) (hlt : s[k - 1].toNat < s[k].toNat) : ascTo s (k + 1) := by
  intro j hj hs
  by_cases e : j + 1 = k
  · obtain rfl : k = j + 1 := e.symm
    have hlt' : (L s).getD j 0 < (L s).getD (j + 1) 0 := by
      rw [show (L s).getD j 0 = s[j] from byteAt_get (by omega), show (L s).getD (j + 1) 0 = s[j + 1] from byteAt_get hs]
      exact UInt8.lt_iff_toNat_lt.2 (by simpa using hlt)
    exact hlt'
  · exact h j (by omega) hs
theorem ascB_yes {s : ByteArray} {k : Nat} (h : ascTo s k) (hk : s.size ≤ k) : ascB s = true := by
  simp only [ascB, List.all_eq_true, List.mem_range, decide_eq_true_eq]
  exact fun j hj => h j (by omega) (by omega)
theorem ascB_no {s : ByteArray} {k : Nat} (h1 : 1 ≤ k) (hk : k < s.size) (hge : s[k].toNat ≤ s[k - 1].toNat) : ascB s = false := by
  cases e : ascB s
  · rfl
  · simp only [ascB, List.all_eq_true, List.mem_range, decide_eq_true_eq] at e
    have := e (k - 1) (by omega)
    rw [show (L s).getD (k - 1) 0 = s[k - 1] from byteAt_get (by omega), show k - 1 + 1 = k by omega, show (L s).getD k 0 = s[k] from byteAt_get hk] at this
    have := UInt8.lt_iff_toNat_lt.1 this
    omega
theorem rotorB_of {r : Rot} (h1 : permB r.wiring = true) (h2 : r.notches.size ≤ 3) (h3 : wordB r.notches = true) : rotorB r = ascB r.notches := by simp [rotorB, h1, h2, h3]

theorem implRotorValid_any (r : Rot) (w : World) (hr : SzR r) :
    Calls Tryz.prog 49 #[.agg #[.string r.wiring, .string r.notches]] w fun e w' => e = .returned (.bool (rotorB r)) ∧ Below w.heap.size w w' := by
  have h1 := hr.1
  have h2 := hr.2
  have o0 := Own.new w (rv r) 70
  have hb0 := (Below.refl w.heap.size w).alloc (Nat.le_refl _) (.cells (rv r).toArray 70)
  go_enter Tryz.func49, Tryz.ntmps49
  go_wp2_with fail
  refine (implPermValid_any _ _ h1).mono ?_
  rintro e w1 ⟨rfl, hb1⟩
  have o1 := o0.below hb1 o0.lt
  have c0 := o1.at_ (i := 0) rfl
  have c1 := o1.at_ (i := 1) rfl
  have hb : Below w.heap.size w w1 := bt hb0 hb1
  clear o0 hb0 hb1 o1
  cases hp : permB r.wiring
  · have HF := Lib.hid (show rotorB r = false by simp [rotorB, hp])
    go_wp2
    go_ret
    exact ⟨ret_bool HF.out.symm, hb⟩
  · by_cases h3 : r.notches.size ≤ 3
    · have hq : decide ((3 : Int) < (r.notches.size : Int)) = false := by simp; omega
      cases hw : wordB r.notches
      · have HF := Lib.hid (show rotorB r = false by simp [rotorB, hw])
        go_wp2_with (go_at_call 26; ((with_reducible refine (implWordValid_any _ _ h2).mono ?_); rintro e w' ⟨rfl, rfl⟩))
        go_ret
        exact ⟨ret_bool HF.out.symm, hb⟩
      · have HF := Lib.hid (rotorB_of hp h3 hw)
        go_wp2_with (go_at_call 26; ((with_reducible refine (implWordValid_any _ _ h2).mono ?_); rintro e w' ⟨rfl, rfl⟩))
        clear hp hw
        go_loopw [3] (fun i wr => ∃ k n : Nat, k ≤ 3 ∧ i = .int .i64 ((k : Int) + 1) ∧ ascTo r.notches (k + 1) ∧ wr = w1.drewN n) (fun i _ => 4 - (intOf i).toNat)
        case atStart => exact ⟨0, 0, by omega, rfl, ascTo_one _, rfl⟩
        case round =>
          obtain ⟨k, n, hk4, rfl, ha, rfl⟩ := hrel
          by_cases hlt : k + 1 < r.notches.size
          · have q1 : (k : Int) < (r.notches.size : Int) := by omega
            have q1' : k < r.notches.size := by omega
            have q2 : (k : Int) + 1 < (r.notches.size : Int) := by omega
            have HW := Lib.hid (show IntKind.i64.wrap (k : Int) = (k : Int) from IntWalk.i64_in _ (by omega))
            by_cases hc : r.notches[k + 1].toNat ≤ r.notches[k].toNat
            · have HN := Lib.hid (ascB_no (k := k + 1) (by omega) hlt hc)
              have hd : decide (r.notches[k + 1].toNat ≤ r.notches[k].toNat) = true := by simp; omega
              clear hc
              go_wp2_with fail
              have hw1 := HW.out
              have hw2 : (0 : Int) ≤ (k : Int) + 1 := by omega
              have hw3 : ((k : Int) + 1).toNat = k + 1 := by omega
              go_quiet (fail)
              clear hw1
              go_wp2
              go_ret
              exact ⟨ret_bool (by rw [HF.out, HN.out]), bel_drewN (bel_drewN hb _) _⟩
            · have HA := Lib.hid (ascTo_succ ha (by omega) hlt (by simpa using hc))
              have hd : decide (r.notches[k + 1].toNat ≤ r.notches[k].toNat) = false := by simp; omega
              clear hc
              go_wp2_with fail
              have hw1 := HW.out
              have hw2 : (0 : Int) ≤ (k : Int) + 1 := by omega
              have hw3 : ((k : Int) + 1).toNat = k + 1 := by omega
              go_quiet (fail)
              clear hw1
              go_wp2
              go_roundw
              case rel => exact ⟨k + 1, _, by omega, by go_num, HA.out, rfl⟩
              case measure => simp [intOf]; omega
          · go_wp2
            go_ret
            refine ⟨ret_bool ?_, bel_drewN hb n⟩
            rw [HF.out, ascB_yes ha (by omega)]
    · have HF := Lib.hid (show rotorB r = false by simp [rotorB, h3])
      have hq : 3 < r.notches.size := by omega
      go_wp2
      go_ret
      exact ⟨ret_bool HF.out.symm, hb⟩

/-- The first k rotors are valid. -/
def rotTo (rs : List Rot) (k : Nat) : Prop := ∀ j (h : j < rs.length), j < k → rotorB rs[j] = true
theorem rotTo_succ {rs : List Rot} {k : Nat} (h : rotTo rs k) (hk : k < rs.length) (hb : rotorB rs[k] = true) : rotTo rs (k + 1) := fun j hj hlt => by
  by_cases e : j = k
  · subst e; exact hb
  · exact h j hj (by omega)
theorem rotTo_all {rs : List Rot} {k : Nat} (h : rotTo rs k) (hk : rs.length ≤ k) : rs.all rotorB = true := by
  rw [List.all_eq_true]
  intro r hr
  obtain ⟨j, hj, rfl⟩ := List.getElem_of_mem hr
  exact h j hj (by omega)
theorem rotTo_no {rs : List Rot} {k : Nat} (hk : k < rs.length) (hb : rotorB rs[k] = false) : rs.all rotorB = false := by
  rw [List.all_eq_false]
  exact ⟨_, List.getElem_mem hk, by rw [hb]; simp⟩
/-- The cells of rotor k. -/
theorem WhlAt.cells {w : World} {B : Nat} {a : Option Addr} {n : Nat} {x : Whl} (h : WhlAt w B a n x) (h0 : 0 < x.rotors.length) : ∃ b off, a = some ⟨b, off, none⟩ ∧ b < B ∧ Cells w b off (rvs x.rotors) :=
  h.reads.cells (by rw [len_rvs]; omega)
theorem rot_cells {w : World} {b off : Nat} {rs : List Rot} (h : Cells w b off (rvs rs)) {k : Nat} (hk : k < rs.length) : w.cell? ⟨b, off + k * 2, none⟩ = some (.string rs[k].wiring) ∧ w.cell? ⟨b, off + k * 2 + 1, none⟩ = some (.string rs[k].notches) := by
  refine ⟨?_, ?_⟩
  · rw [Nat.mul_comm]; exact h.at_ (rvs_at0 rs k hk)
  · rw [Nat.add_assoc, Nat.mul_comm]; exact h.at_ (rvs_at1 rs k hk)

theorem implWheelsValid_any (a : Option Addr) (n c : Nat) (x : Whl) (w : World) (h : WhlAt w w.heap.size a n x) :
    Calls Tryz.prog 31 #[.agg #[.slice a n c, .string x.refl]] w fun e w' => e = .returned (.bool (wheelsB x)) ∧ Below w.heap.size w w' := by
  have hn := h.len
  subst hn
  have hrf := h.refl
  have o0 := Own.new w [.slice a x.rotors.length c, .string x.refl] 25
  have hb0 := (Below.refl w.heap.size w).alloc (Nat.le_refl _) (.cells [.slice a x.rotors.length c, .string x.refl].toArray 25)
  by_cases h1 : x.rotors.length < 1
  · have HF := Lib.hid (show wheelsB x = false by simp [wheelsB]; omega)
    have hq : decide ((x.rotors.length : Int) < 1) = true := by simp; omega
    go_enter Tryz.func31, Tryz.ntmps31
    go_wp2
    go_ret
    exact ⟨ret_bool HF.out.symm, hb0⟩
  · have hq1 : decide ((x.rotors.length : Int) < 1) = false := by simp; omega
    by_cases h3 : 3 < x.rotors.length
    · have HF := Lib.hid (show wheelsB x = false by simp [wheelsB]; omega)
      have hq : decide ((3 : Int) < (x.rotors.length : Int)) = true := by simp; omega
      go_enter Tryz.func31, Tryz.ntmps31
      go_wp2
      go_ret
      exact ⟨ret_bool HF.out.symm, hb0⟩
    · have hq3 : decide ((3 : Int) < (x.rotors.length : Int)) = false := by simp; omega
      go_enter Tryz.func31, Tryz.ntmps31
      go_wp2_with fail
      refine (implReflectorValid_any _ _ hrf).mono ?_
      rintro e w1 ⟨rfl, hb1⟩
      have o1 := o0.below hb1 o0.lt
      have c0 := o1.at_ (i := 0) rfl
      have hb : Below w.heap.size w w1 := bt hb0 hb1
      have hz := hb.size
      have h' := h.below hb (Nat.le_refl _)
      clear o0 hb0 hb1 o1
      cases hr : reflB x.refl
      · have HF := Lib.hid (show wheelsB x = false by simp [wheelsB, hr])
        go_wp2
        go_ret
        exact ⟨ret_bool HF.out.symm, hb⟩
      · have HF := Lib.hid (show wheelsB x = x.rotors.all rotorB by simp [wheelsB, hr]; omega)
        clear hr
        go_wp2
        go_loopw [4, 24] (fun _ i wr => ∃ k : Nat, k ≤ x.rotors.length ∧ i = .int .i64 k ∧ rotTo x.rotors k ∧ Below w.heap.size w wr) (fun _ i _ => x.rotors.length - (intOf i).toNat)
        case atStart => exact ⟨0, by omega, rfl, fun _ _ h => absurd h (by omega), hb⟩
        case round =>
          clear hb hz h'
          obtain ⟨k, hk, rfl, ha, hb⟩ := hrel
          by_cases hlt : k < x.rotors.length
          · obtain ⟨b, off, rfl, hbl, hc⟩ := h.cells (by omega)
            have hc' := hc.below hb hbl
            obtain ⟨f0, f1⟩ := rot_cells hc' hlt
            have hsz := h.rot _ (List.getElem_mem hlt)
            have q2 : (k : Int) < (x.rotors.length : Int) := by omega
            go_wp2_with fail
            refine (implRotorValid_any _ _ hsz).mono ?_
            rintro e w2 ⟨rfl, hb2⟩
            have hb' : Below w.heap.size w w2 := bt (hb.alloc hb.size _) hb2
            clear hb hb2
            cases hv : rotorB x.rotors[k]
            · have HN := Lib.hid (rotTo_no hlt hv)
              clear hv
              go_wp2
              go_ret
              exact ⟨ret_bool (by rw [HF.out, HN.out]), hb'⟩
            · have HA := Lib.hid (rotTo_succ ha hlt hv)
              clear hv
              go_wp2
              go_roundw
              case rel => exact ⟨k + 1, by omega, by go_num, HA.out, hb'⟩
              case measure => simp [intOf]; omega
          · go_wp2
            go_ret
            exact ⟨ret_bool (by rw [HF.out, rotTo_all ha (by omega)]), hb⟩

theorem WhlAt.alloc_ {w : World} {a : Option Addr} {n : Nat} {x : Whl} (h : WhlAt w w.heap.size a n x) (o : Obj) : WhlAt (w.alloc o) (w.alloc o).heap.size a n x := (h.alloc (Nat.le_refl _) o).more (by simp)
theorem MachAt.alloc_ {w : World} {a : Option Addr} {n : Nat} {m : Mach} (h : MachAt w w.heap.size a n m) (o : Obj) : MachAt (w.alloc o) (w.alloc o).heap.size a n m := (h.alloc (Nat.le_refl _) o).more (by simp)

theorem windowsValid_any (a : Option Addr) (n c : Nat) (x : Whl) (v : ByteArray) (w : World) (h : WhlAt w w.heap.size a n x) (hv : v.size ≤ 4294967296) :
    Calls Tryz.prog 16 #[.agg #[.slice a n c, .string x.refl], .string v] w fun e w' => e = .returned (.bool (fitB x v)) ∧ Below w.heap.size w w' := by
  have o0 := Own.new w [.slice a n c, .string x.refl] 25
  have hb0 := (Below.refl w.heap.size w).alloc (Nat.le_refl _) (.cells [.slice a n c, .string x.refl].toArray 25)
  have h' := h.alloc_ (.cells [.slice a n c, .string x.refl].toArray 25)
  have hn := h.len
  subst hn
  go_enter Tryz.func16, Tryz.ntmps16
  go_wp2_with fail
  refine (implWheelsValid_any _ _ _ _ _ h').mono ?_
  rintro e w1 ⟨rfl, hb1⟩
  have o1 := o0.below hb1 o0.lt
  have c0 := o1.at_ (i := 0) rfl
  have hb : Below w.heap.size w w1 := bt hb0 hb1
  clear o0 hb0 hb1 o1 h'
  cases hw : wheelsB x
  · have HF := Lib.hid (show fitB x v = false by simp [fitB, hw])
    go_wp2
    go_ret
    exact ⟨ret_bool HF.out.symm, hb⟩
  · by_cases he : v.size = x.rotors.length
    · have hq : ((v.size : Int) == (x.rotors.length : Int)) = true := by simp [he]
      have HF := Lib.hid (show fitB x v = wordB v by simp [fitB, hw, he])
      clear hw he
      go_wp2_with (go_at_call 26; ((with_reducible refine (implWordValid_any _ _ hv).mono ?_); rintro e w' ⟨rfl, rfl⟩))
      go_ret
      exact ⟨ret_bool HF.out.symm, hb⟩
    · have hq : ((v.size : Int) == (x.rotors.length : Int)) = false := by simp; omega
      have HF := Lib.hid (show fitB x v = false by simp [fitB, he])
      clear hw he
      go_wp2
      go_ret
      exact ⟨ret_bool HF.out.symm, hb⟩

end Go.Proofs.YtaplndmgbinhcaaGreat
