/- Contracts of the functions on the motor wheel. -/
import Derived.Test.YtegbmjdaohnlaaaWheels
import Derived.Test.YtegbmjdaohnlaaaDraw
import Derived.Test.YtegbmjdaohnlaaaTapeMath
import Derived.Deep.AppendLies
namespace Go.Proofs.Ytegbmjdaohnlaaa
open Go.RowKit

theorem info_int' : (Try.prog.info? 3).map (fun i => (i.zero, i.size, i.bytes)) = some (some (.int .i64 0), 1, 8) := by kernel_rfl

theorem bdrewN {B : Nat} {a w : World} (h : Below B a w) (n : Nat) : Below B a (w.drewN n) := ⟨h.os, h.tape, h.output, h.size, h.block⟩
/-- A valid machine and a length. -/
def telenB (chi psi : List ByteArray) (m : ByteArray) (n : Int) : Bool := teleB chi psi m && decide (0 ≤ n) && decide (n ≤ 200)
/-- The byte of a wheel after some steps. -/
def wAt (s : ByteArray) (i : Nat) : UInt8 := bAt s (i % s.size)
theorem wAt_eq {s : ByteArray} (h : 0 < s.size) (i : Nat) : wAt s i = s[i % s.size]'(Nat.mod_lt _ h) := bAt_eq (Nat.mod_lt _ h)
theorem wAt_bit {s : ByteArray} (h : bitsB s = true) (i : Nat) : (wAt s i).toNat = 48 ∨ (wAt s i).toNat = 49 := by
  have hz := (bitsB_size h).1
  rw [wAt_eq (by omega)]
  exact bitsB_at h _ _
theorem telenB_parts {chi psi : List ByteArray} {m : ByteArray} {n : Int} (h : telenB chi psi m n = true) : teleB chi psi m = true ∧ 0 ≤ n ∧ n ≤ 200 := by
  simp [telenB] at h; exact ⟨h.1.1, h.1.2, h.2⟩
theorem teleB_motor {chi psi : List ByteArray} {m : ByteArray} (h : teleB chi psi m = true) : bitsB m = true := by simp [teleB] at h; exact h.2

section
variable (a1 a2 : Option Addr) (c1 c2 : Nat) (chi psi : List ByteArray) (m : ByteArray)
/-- A machine as a value. -/
abbrev teleV : Value := .agg #[.slice a1 chi.length c1, .slice a2 psi.length c2, .string m]
abbrev teleC : List Value := [.slice a1 chi.length c1, .slice a2 psi.length c2, .string m]
end
/-- The lists of a machine are read and small. -/
structure TeleR (w : World) (a1 a2 : Option Addr) (chi psi : List ByteArray) (m : ByteArray) : Prop where
  r1 : Reads w w.heap.size a1 (sv chi)
  r2 : Reads w w.heap.size a2 (sv psi)
  s1 : ∀ s ∈ chi, s.size ≤ 4294967296
  s2 : ∀ s ∈ psi, s.size ≤ 4294967296
  s3 : m.size ≤ 4294967296
  l1 : chi.length ≤ 4294967296
  l2 : psi.length ≤ 4294967296
theorem TeleR.below {w w' : World} {a1 a2 : Option Addr} {chi psi : List ByteArray} {m : ByteArray} (h : TeleR w a1 a2 chi psi m) (hb : Below w.heap.size w w') : TeleR w' a1 a2 chi psi m :=
  ⟨(h.r1.below hb (Nat.le_refl _)).more hb.size, (h.r2.below hb (Nat.le_refl _)).more hb.size, h.s1, h.s2, h.s3, h.l1, h.l2⟩
theorem TeleR.impl {w : World} {a1 a2 : Option Addr} {chi psi : List ByteArray} {m : ByteArray} (h : TeleR w a1 a2 chi psi m) (c1 c2 : Nat) :
    Calls Try.prog 21 #[teleV a1 a2 c1 c2 chi psi m] w fun e w' => e = .returned (.bool (teleB chi psi m)) ∧ Below w.heap.size w w' :=
  implTeleValid_any a1 a2 c1 c2 chi psi m w h.r1 h.r2 h.s1 h.s2 h.s3 h.l1 h.l2
theorem TeleR.spec {w : World} {a1 a2 : Option Addr} {chi psi : List ByteArray} {m : ByteArray} (h : TeleR w a1 a2 chi psi m) (c1 c2 : Nat) :
    Calls Try.prog 22 #[teleV a1 a2 c1 c2 chi psi m] w fun e w' => e = .returned (.bool (teleB chi psi m)) ∧ Below w.heap.size w w' :=
  specTeleValid_any a1 a2 c1 c2 chi psi m w h.r1 h.r2 h.s1 h.s2 h.s3 h.l1 h.l2
theorem TeleR.alloc {w : World} {a1 a2 : Option Addr} {chi psi : List ByteArray} {m : ByteArray} (h : TeleR w a1 a2 chi psi m) (o : Obj) : TeleR (w.alloc o) a1 a2 chi psi m :=
  h.below ((Below.refl _ _).alloc (Nat.le_refl _) _)

theorem teleLength_any (a1 a2 : Option Addr) (c1 c2 : Nat) (chi psi : List ByteArray) (m : ByteArray) (n : Int) (w : World) (h : TeleR w a1 a2 chi psi m) :
    Calls Try.prog 56 #[teleV a1 a2 c1 c2 chi psi m, .int .i64 n] w fun e w' => e = .returned (.bool (telenB chi psi m n)) ∧ Below w.heap.size w w' := by
  cases ht : teleB chi psi m <;> by_cases h0 : 0 ≤ n <;> by_cases h2 : n ≤ 200
  all_goals try (exfalso; omega)
  all_goals
    go_enter Try.func56, Try.ntmps56
    go_wp2_with fail
    refine ((h.alloc _).impl c1 c2).mono ?_
    rintro e w1 ⟨rfl, hb1⟩
    rw [ht]
    go_wp2
    go_ret
    exact ⟨ret_bool (by simp [telenB, ht, h0, h2]), bt ((Below.refl _ _).alloc (Nat.le_refl _) _) hb1⟩

theorem l16Fits_any (a1 a2 : Option Addr) (c1 c2 : Nat) (chi psi : List ByteArray) (m : ByteArray) (n : Int) (w : World) (h : TeleR w a1 a2 chi psi m) :
    Calls Try.prog 58 #[teleV a1 a2 c1 c2 chi psi m, .int .i64 n] w fun e w' => e = .returned (.bool (telenB chi psi m n)) ∧ Below w.heap.size w w' := by
  cases ht : teleB chi psi m
  all_goals
    go_enter Try.func58, Try.ntmps58
    go_wp2_with fail
    refine ((h.alloc _).spec c1 c2).mono ?_
    rintro e w1 ⟨rfl, hb1⟩
    rw [ht]
    go_wp2_with (go_at_call 63; ((with_reducible refine (l1In_any _ _ _ _).mono ?_); rintro e w' ⟨rfl, rfl⟩))
    go_ret
    exact ⟨ret_bool (by simp [telenB, ht]), bt ((Below.refl _ _).alloc (Nat.le_refl _) _) hb1⟩

theorem l16Bit_any (s : ByteArray) (i : Nat) (w : World) (hs : bitsB s = true) (hi : i ≤ 4294967296) :
    Calls Try.prog 59 #[.string s, .int .i64 (i : Int)] w fun e w' => e = .returned (.int .i64 (((wAt s i).toNat : Int) - 48)) ∧ w = w' := by
  have hz := bitsB_size hs
  have hp : 0 < s.size := by omega
  have hw := Lib.hid (wAt_eq hp i)
  have hlt := Nat.mod_lt i hp
  have hb := byte_lt (s[i % s.size]'hlt)
  go_enter Try.func59, Try.ntmps59
  go_wp2
  go_ret
  exact ⟨ret_int (by rw [hw.out]), rfl⟩

theorem motorMoves_any (a1 a2 : Option Addr) (c1 c2 : Nat) (chi psi : List ByteArray) (m : ByteArray) (i : Nat) (w : World) (hs : bitsB m = true) (hi : i ≤ 4294967296) :
    Calls Try.prog 57 #[teleV a1 a2 c1 c2 chi psi m, .int .i64 (i : Int)] w fun e w' => e = .returned (.bool ((wAt m i).toNat == 49)) ∧ Below w.heap.size w w' := by
  have hz := bitsB_size hs
  have hp : 0 < m.size := by omega
  have hw := Lib.hid (wAt_eq hp i)
  have hlt := Nat.mod_lt i hp
  have hb := byte_lt (m[i % m.size]'hlt)
  have q1 : (0 : Int) ≤ (i : Int) % (m.size : Int) := by omega
  have q2 : (i : Int) % (m.size : Int) < (m.size : Int) := Int.emod_lt_of_pos _ (by omega)
  have q3 : ((i : Int) % (m.size : Int)).toNat = i % m.size := by omega
  have q4 : (1 : Int) ≤ (m.size : Int) := by omega
  go_enter Try.func57, Try.ntmps57
  go_wp2_with fail
  go_quiet (fail)
  go_wp2
  go_ret
  refine ⟨ret_bool ?_, bdrewN ((Below.refl _ _).alloc (Nat.le_refl _) _) _⟩
  rw [hw.out, Bool.eq_iff_iff]; simp; omega

/-- The stops among the first k places. -/
def stopsTo (m : ByteArray) (k : Nat) : List Int := ((List.range k).filter fun i => (wAt m i).toNat == 48).map fun i : Nat => (i : Int)
theorem stopsTo_yes {m : ByteArray} {k : Nat} (h : (wAt m k).toNat = 48) : stopsTo m (k + 1) = stopsTo m k ++ [(k : Int)] := by
  simp [stopsTo, List.range_succ, List.filter_append, h]
theorem stopsTo_no {m : ByteArray} {k : Nat} (h : (wAt m k).toNat ≠ 48) : stopsTo m (k + 1) = stopsTo m k := by
  simp [stopsTo, List.range_succ, List.filter_append, h]
theorem stopsTo_len (m : ByteArray) (k : Nat) : (stopsTo m k).length ≤ k := by
  have := List.length_filter_le (fun i => (wAt m i).toNat == 48) (List.range k)
  simpa [stopsTo] using this
/-- The stops of a machine. -/
def stops (chi psi : List ByteArray) (m : ByteArray) (n : Int) : List Int := if telenB chi psi m n = true then stopsTo m (n - 1).toNat else []

/-- A slice of numbers that the call owns from 'base' on. -/
def OwnI (w : World) (base : Nat) (v : Value) (ns : List Int) : Prop := w.ownsRow base 3 1 v ns.length (iv ns)
theorem OwnI.val {w : World} {base : Nat} {v : Value} {ns : List Int} (h : OwnI w base v ns) : ∃ a c, v = .slice a ns.length c ∧ Reads w w.heap.size a (iv ns) := by
  rcases h.2 with ⟨rfl, h0⟩ | ⟨g, cap, cur, rfl, hb, hh, hn, hm, hs, ht⟩
  · exact ⟨none, 0, by rw [h0], .inl (List.eq_nil_of_length_eq_zero (by rw [length_iv]; exact h0))⟩
  · refine ⟨_, _, rfl, .inr ⟨g, 0, rfl, ?_, fun i hi => ?_⟩⟩
    · rcases Nat.lt_or_ge g w.heap.size with h1 | h1
      · exact h1
      · rw [Array.getElem?_eq_none h1] at hh; cases hh
    · rw [Nat.zero_add, cell_of_row w g i cur _ _ hh]
      rw [← ht]
      have : i < ns.length * 1 := by rw [length_iv] at hi; omega
      rw [List.getElem?_take_of_lt this]
      simp
theorem OwnI.below {w w' : World} {base : Nat} {v : Value} {ns : List Int} (h : OwnI w base v ns) (hb : Below w.heap.size w w') : OwnI w' base v ns :=
  World.ownsRow.kept h (row := none) ⟨hb.os, hb.tape, hb.output, hb.size, fun i hi _ => hb.block i hi⟩ (by
    cases e : v.ownBlock with
    | none => exact .inl rfl
    | some g => exact .inr (by simp))
theorem OwnI.snoc {w3 : World} {base gg cap : Nat} {ns : List Int} {n : Int} (h : w3.ownsRow base 3 1 (.slice (some ⟨gg, 0, none⟩) (ns.length + 1) cap) (ns.length + 1) (iv ns ++ [.int .i64 n])) : OwnI w3 base (.slice (some ⟨gg, 0, none⟩) (ns.length + 1) cap) (ns ++ [n]) := by
  unfold OwnI
  simpa [iv] using h

theorem farI {w : World} {base B : Nat} {v : Value} {ns : List Int} (h : OwnI w base v ns) (hB : B < base) : some B ≠ v.ownBlock := by
  intro e
  have := (World.ownsRow.lt h B e.symm).1
  omega
/-- What a function that answers numbers leaves. -/
def IntsPost (ns : List Int) (w : World) (e : Ending) (w' : World) : Prop := ∃ a c, e = .returned (.slice a ns.length c) ∧ Reads w' w'.heap.size a (iv ns) ∧ Below w.heap.size w w'

set_option maxHeartbeats 1000000 in
theorem implMotorStops_any (a1 a2 : Option Addr) (c1 c2 : Nat) (chi psi : List ByteArray) (m : ByteArray) (n : Int) (w : World) (h : TeleR w a1 a2 chi psi m) :
    Calls Try.prog 33 #[teleV a1 a2 c1 c2 chi psi m, .int .i64 n] w (IntsPost (stops chi psi m n) w) := by
  obtain ⟨i0, hi0, hz0, hz1, hz2⟩ := info_parts info_int'
  cases hb : telenB chi psi m n
  · have hst : stops chi psi m n = [] := by simp [stops, hb]
    rw [hst]
    go_enter Try.func33, Try.ntmps33
    go_wp2_with fail
    refine (teleLength_any a1 a2 c1 c2 chi psi m n _ (h.alloc _)).mono ?_
    rintro e w1 ⟨rfl, hb1⟩
    rw [hb]
    go_wp2
    go_ret
    exact ⟨none, 0, rfl, Reads.nil_, bt ((Below.refl _ _).alloc (Nat.le_refl _) _) hb1⟩
  · obtain ⟨ht, hn0, hn2⟩ := telenB_parts hb
    have hbm := teleB_motor ht
    obtain ⟨N, rfl⟩ := Int.eq_ofNat_of_zero_le hn0
    have hst : Hid (stops chi psi m N = stopsTo m (N - 1)) := by
      show _ = _
      simp [stops, hb]
    go_enter Try.func33, Try.ntmps33
    go_wp2_with fail
    have o0 := Own.new w (teleC a1 a2 c1 c2 chi psi m) 30
    refine (teleLength_any a1 a2 c1 c2 chi psi m N _ (h.alloc _)).mono ?_
    rintro e w1 ⟨rfl, hb1⟩
    have o1 := o0.below hb1 o0.lt
    have hbw : Below w.heap.size w w1 := bt ((Below.refl _ _).alloc (Nat.le_refl _) _) hb1
    have hs1 : w.heap.size < w1.heap.size := o1.lt
    clear o0 hb1
    rw [hb]
    go_wp2_with fail
    generalize hB0 : w.heap.size = B0 at *
    have HB0 := Lib.hid hB0
    clear hB0
    go_loopw [5, 6, 13] (fun v _ i wr => ∃ k : Nat, (k ≤ N - 1) ∧ i = .int .i64 k ∧ Own wr B0 (teleC a1 a2 c1 c2 chi psi m) ∧ OwnI wr (B0 + 1) v (stopsTo m k) ∧ Below B0 w wr ∧ B0 < wr.heap.size) (fun _ _ i _ => N - (intOf i).toNat)
    case atStart => exact ⟨0, by omega, rfl, o1, World.ownsRow_nil _ _ _ _, hbw, hs1⟩
    case round =>
      obtain ⟨k, hk, rfl, o2, hv, hbr, hlr⟩ := hrel
      have f0 := o2.at_ (i := 0) rfl
      have f1 := o2.at_ (i := 1) rfl
      have f2 := o2.at_ (i := 2) rfl
      by_cases hlt : k + 1 < N
      · by_cases hz : (wAt m k).toNat = 48
        · have hnot : ((wAt m k).toNat == 49) = false := by simp [hz]
          have hy := Lib.hid (stopsTo_yes hz)
          clear hz
          have hle := stopsTo_len m k
          go_wp2_with (first | (go_at_call 57; ((refine (motorMoves_any a1 a2 c1 c2 chi psi m k _ hbm (by omega)).mono ?_); rintro e w3 ⟨rfl, hb3⟩; have v3 := hv.below hb3; have o3 := o2.below hb3 o2.lt; have l3 : B0 < w3.heap.size := Nat.lt_of_lt_of_le hlr hb3.size)) | (at_builtin; refine wpList_append_lies _ (by rfl) _ _ _ (by rfl) (B0 + 1) 3 i0 _ 1 8 Try.underlying40 hi0 hz0 hz1 hz2 rfl (by omega) _ (stopsTo m k).length (iv (stopsTo m k)) (by rfl) (World.ownsRow.alloc v3 _) ⟨w3.heap.size, 0, none⟩ 1 1 [.int .i64 (k : Int)] (by rfl) (by rfl) (World.news_of_block (cs := #[.int .i64 (k : Int)]) (t := 3) (fr := (0, 0)) (heap_alloc_new w3 _)) (by simp [Value.oneCell']) (by omega) (by unfold maxLen; omega) (by omega) (by simp; omega) (w3.heap.size + 1) (by simp) ?_; intro gg cap w4 hown4 hg4 hat4 hlt4))
          go_roundw
          case rel =>
            refine ⟨k + 1, by omega, by go_num, (o3.alloc _).grown hg4 (farI v3 (by omega)), ?_, ?_, ?_⟩
            · rw [hy.out]; exact OwnI.snoc hown4
            · exact ((hbr.trans (hb3.mono (by omega))).alloc (by omega) _).grown hg4 (by simp; omega) (fun g hg => by have := (World.ownsRow.lt v3 g hg).1; omega)
            · exact Nat.lt_of_lt_of_le (by simp; omega) hg4.size
          case measure => simp [intOf]; omega
        · have hnot : ((wAt m k).toNat == 49) = true := by have := wAt_bit hbm k; simp; omega
          have hy := Lib.hid (stopsTo_no hz)
          clear hz
          go_wp2_with (first | (go_at_call 57; ((refine (motorMoves_any a1 a2 c1 c2 chi psi m k _ hbm (by omega)).mono ?_); rintro e w3 ⟨rfl, hb3⟩; have v3 := hv.below hb3; have o3 := o2.below hb3 o2.lt; have l3 : B0 < w3.heap.size := Nat.lt_of_lt_of_le hlr hb3.size)))
          go_roundw
          case rel => exact ⟨k + 1, by omega, by go_num, o3, by rw [hy.out]; exact v3, hbr.trans (hb3.mono (by omega)), l3⟩
          case measure => simp [intOf]; omega
      · have hk1 : k = N - 1 := by omega
        subst hk1
        obtain ⟨a, c, rfl, hrd⟩ := hv.val
        go_wp2
        go_ret
        refine ⟨a, c, ?_, ?_, HB0.out.symm ▸ hbr⟩
        · rw [hst.out]; rfl
        · rw [hst.out]; exact hrd
end Go.Proofs.Ytegbmjdaohnlaaa
