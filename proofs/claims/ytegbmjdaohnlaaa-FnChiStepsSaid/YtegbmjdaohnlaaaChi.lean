/- Contracts of the functions on the first wheels. -/
import Derived.Test.YtegbmjdaohnlaaaMotor
namespace Go.Proofs.Ytegbmjdaohnlaaa
open Go.RowKit

/-- The bit of a wheel after some steps. -/
def wBit (s : ByteArray) (i : Nat) : Nat := (wAt s i).toNat - 48
theorem wBit_le {s : ByteArray} (h : bitsB s = true) (i : Nat) : wBit s i ≤ 1 := by have := wAt_bit h i; unfold wBit; omega
/-- The letter of three wheels after some steps. -/
def chiN (s0 s1 s2 : ByteArray) (i : Nat) : Nat := wBit s0 i + 2 * wBit s1 i + 4 * wBit s2 i
def chiL (s0 s1 s2 : ByteArray) (i : Nat) : UInt8 := letr (chiN s0 s1 s2 i : Nat)

set_option maxRecDepth 100000 in
set_option maxHeartbeats 2000000 in
theorem bitsAt_any (a : Option Addr) (c : Nat) (s0 s1 s2 : ByteArray) (i : Nat) (w : World) (h : Reads w w.heap.size a (sv [s0, s1, s2])) (h0 : bitsB s0 = true) (h1 : bitsB s1 = true) (h2 : bitsB s2 = true) (hi : i ≤ 4294967296) :
    Calls Try.prog 61 #[.slice a 3 c, .int .i64 (i : Int)] w fun e w' => e = .returned (.int .u8 ((chiL s0 s1 s2 i).toNat : Int)) ∧ w = w' := by
  obtain ⟨b, off, rfl, hb, hc⟩ := h.open_ (by simp [sv])
  have c0 : w.cell? ⟨b, off, none⟩ = some (.string s0) := hc 0 (by simp [sv])
  have c1 : w.cell? ⟨b, off + 1, none⟩ = some (.string s1) := hc 1 (by simp [sv])
  have c2 : w.cell? ⟨b, off + 2, none⟩ = some (.string s2) := hc 2 (by simp [sv])
  have p0 : 0 < s0.size := by have := bitsB_size h0; omega
  have p1 : 0 < s1.size := by have := bitsB_size h1; omega
  have p2 : 0 < s2.size := by have := bitsB_size h2; omega
  have z0 : s0.size ≤ 9 := (bitsB_size h0).2
  have z1 : s1.size ≤ 9 := (bitsB_size h1).2
  have z2 : s2.size ≤ 9 := (bitsB_size h2).2
  have e0 := wAt_eq p0 i
  have e1 := wAt_eq p1 i
  have e2 := wAt_eq p2 i
  have l0 := Nat.mod_lt i p0
  have l1 := Nat.mod_lt i p1
  have l2 := Nat.mod_lt i p2
  have hL : Hid (chiL s0 s1 s2 i = letr ((((wAt s0 i).toNat - 48) + 2 * ((wAt s1 i).toNat - 48) + 4 * ((wAt s2 i).toNat - 48) : Nat) : Int)) := rfl
  have o00 : bits .or .i64 0 0 = 0 := by decide
  have o01 : bits .or .i64 0 1 = 1 := by decide
  have o02 : bits .or .i64 0 2 = 2 := by decide
  have o12 : bits .or .i64 1 2 = 3 := by decide
  have o10 : bits .or .i64 1 0 = 1 := by decide
  have o20 : bits .or .i64 2 0 = 2 := by decide
  have o30 : bits .or .i64 3 0 = 3 := by decide
  have o04 : bits .or .i64 0 4 = 4 := by decide
  have o14 : bits .or .i64 1 4 = 5 := by decide
  have o24 : bits .or .i64 2 4 = 6 := by decide
  have o34 : bits .or .i64 3 4 = 7 := by decide
  rcases wAt_bit h0 i with k0 | k0 <;> rcases wAt_bit h1 i with k1 | k1 <;> rcases wAt_bit h2 i with k2 | k2
  all_goals
    rw [k0, k1, k2] at hL
    rw [e0] at k0
    rw [e1] at k1
    rw [e2] at k2
  all_goals
    clear e0 e1 e2 hc h h0 h1 h2
    go_enter Try.func61, Try.ntmps61
    go_wp2_with fail
    refine wp_loop_rounds 4 ?_
    rw [rounds_succ]
    go_wp2_with fail
    rw [rounds_succ]
    go_wp2_with fail
    rw [rounds_succ]
    go_wp2_with fail
    rw [rounds_succ]
    go_wp2_with (go_at_call 64; ((with_reducible refine (implLetter_any _ _ (by omega) (by omega)).mono ?_); rintro e w' ⟨rfl, rfl⟩))
    go_ret
    exact ⟨by rw [hL.out]; rfl, rfl⟩

theorem l16Letter_any (a : Option Addr) (c : Nat) (s0 s1 s2 : ByteArray) (i : Nat) (w : World) (h : Reads w w.heap.size a (sv [s0, s1, s2])) (h0 : bitsB s0 = true) (h1 : bitsB s1 = true) (h2 : bitsB s2 = true) (hi : i ≤ 4294967296) :
    Calls Try.prog 62 #[.slice a 3 c, .int .i64 (i : Int)] w fun e w' => e = .returned (.string (S [chiL s0 s1 s2 i])) ∧ Below w.heap.size w w' := by
  obtain ⟨b, off, rfl, hb, hc⟩ := h.open_ (by simp [sv])
  have c0 : w.cell? ⟨b, off, none⟩ = some (.string s0) := hc 0 (by simp [sv])
  have c1 : w.cell? ⟨b, off + 1, none⟩ = some (.string s1) := hc 1 (by simp [sv])
  have c2 : w.cell? ⟨b, off + 2, none⟩ = some (.string s2) := hc 2 (by simp [sv])
  have k0 := wAt_bit h0 i
  have k1 := wAt_bit h1 i
  have k2 := wAt_bit h2 i
  have hL : Hid (chiL s0 s1 s2 i = letr (((wAt s0 i).toNat : Int) - 48 + 2 * (((wAt s1 i).toNat : Int) - 48) + 4 * (((wAt s2 i).toNat : Int) - 48))) := by
    show _ = _
    unfold chiL chiN wBit
    congr 1
    omega
  have u1 : IntKind.i64.wrap (2 * (((wAt s1 i).toNat : Int) - 48)) = 2 * (((wAt s1 i).toNat : Int) - 48) := IntWalk.i64_in _ (by omega)
  have u2 : IntKind.i64.wrap (((wAt s0 i).toNat : Int) - 48 + 2 * (((wAt s1 i).toNat : Int) - 48)) = ((wAt s0 i).toNat : Int) - 48 + 2 * (((wAt s1 i).toNat : Int) - 48) := IntWalk.i64_in _ (by omega)
  have u3 : IntKind.i64.wrap (4 * (((wAt s2 i).toNat : Int) - 48)) = 4 * (((wAt s2 i).toNat : Int) - 48) := IntWalk.i64_in _ (by omega)
  have u4 : IntKind.i64.wrap (((wAt s0 i).toNat : Int) - 48 + 2 * (((wAt s1 i).toNat : Int) - 48) + 4 * (((wAt s2 i).toNat : Int) - 48)) = ((wAt s0 i).toNat : Int) - 48 + 2 * (((wAt s1 i).toNat : Int) - 48) + 4 * (((wAt s2 i).toNat : Int) - 48) := IntWalk.i64_in _ (by omega)
  have C1 : ∀ c : Cls w.heap.size w, c.w.cell? ⟨b, off, none⟩ = some (.string s0) := fun c => (c.cell b off hb).trans c0
  have C2 : ∀ c : Cls w.heap.size w, c.w.cell? ⟨b, off + 1, none⟩ = some (.string s1) := fun c => (c.cell b (off + 1) hb).trans c1
  have C3 : ∀ c : Cls w.heap.size w, c.w.cell? ⟨b, off + 2, none⟩ = some (.string s2) := fun c => (c.cell b (off + 2) hb).trans c2
  clear hc h k0 k1 k2
  go_enter Try.func62, Try.ntmps62
  go_wp2_with fail
  refine wp_region_cls (by kernel_rfl) (by kernel_rfl) ?_
  repeat (go_big_quiet_step (first | (go_at_call 59; exact cls_same (l16Bit_any _ i _ (by assumption) hi)) | (go_at_call 41; exact cls_of (Nat.le_refl _) (l1Letter_any _ _))))
  refine wpQuiet_nil ?_
  intro wc hbc
  go_wp2
  go_ret
  exact ⟨ret_str (by rw [hL.out]), hbc⟩
end Go.Proofs.Ytegbmjdaohnlaaa
