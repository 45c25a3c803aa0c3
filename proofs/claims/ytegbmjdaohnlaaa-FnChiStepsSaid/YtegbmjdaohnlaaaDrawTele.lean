/- Contracts of the functions that draw teleprinter machines. -/
import Derived.Test.YtegbmjdaohnlaaaDrawTape
import Derived.Test.YtegbmjdaohnlaaaWheels
import Derived.Deep.RegionHeld3
import Derived.Deep.RegionLaw
import Derived.Deep.AppendLies
import Derived.Deep.DeepCutAuto
namespace Go.Proofs.Ytegbmjdaohnlaaa
open Go.RowKit

theorem info_str' : (Try.prog.info? 9).map (fun i => (i.zero, i.size, i.bytes)) = some (some (.string ⟨#[]⟩), 1, 16) := by kernel_rfl

/-- A slice of strings that the call owns from 'base' on. -/
def OwnS (w : World) (base : Nat) (v : Value) (ss : List ByteArray) : Prop := w.ownsRow base 9 1 v ss.length (sv ss)
theorem OwnS.val {w : World} {base : Nat} {v : Value} {ss : List ByteArray} (h : OwnS w base v ss) : ∃ a c, v = .slice a ss.length c ∧ Reads w w.heap.size a (sv ss) := by
  rcases h.2 with ⟨rfl, h0⟩ | ⟨g, cap, cur, rfl, hb, hh, hn, hm, hs, ht⟩
  · exact ⟨none, 0, by rw [h0], .inl (List.eq_nil_of_length_eq_zero (by rw [length_sv]; exact h0))⟩
  · refine ⟨_, _, rfl, .inr ⟨g, 0, rfl, ?_, fun i hi => ?_⟩⟩
    · rcases Nat.lt_or_ge g w.heap.size with h1 | h1
      · exact h1
      · rw [Array.getElem?_eq_none h1] at hh; cases hh
    · rw [Nat.zero_add, cell_of_row w g i cur _ _ hh]
      rw [← ht]
      have : i < ss.length * 1 := by rw [length_sv] at hi; omega
      rw [List.getElem?_take_of_lt this]
      simp
theorem OwnS.keep {w w' : World} {base : Nat} {v : Value} {ss : List ByteArray} (h : OwnS w base v ss) {row : Option Nat} (hg : w.grownBy w' row) (hne : v.ownBlock = none ∨ v.ownBlock ≠ row) : OwnS w' base v ss := World.ownsRow.kept h hg hne

/-- What the drawing of a machine leaves in the call's own memory, from block 'base' on. -/
structure TeleOwn (w : World) (base : Nat) (v1 v2 : Value) (chi psi : List ByteArray) : Prop where
  own1 : OwnS w base v1 chi
  own2 : OwnS w base v2 psi
  apart : ∀ g, v1.ownBlock = some g → v2.ownBlock ≠ some g
  small1 : ∀ s ∈ chi, s.size ≤ 1000
  small2 : ∀ s ∈ psi, s.size ≤ 1000
theorem ne_own {w : World} {base R : Nat} {v : Value} {ss : List ByteArray} (h : OwnS w base v ss) (hR : R < base) : v.ownBlock = none ∨ v.ownBlock ≠ some R := by
  cases e : v.ownBlock with
  | none => exact .inl rfl
  | some g => exact .inr (by have := (World.ownsRow.lt h g e).1; simp; omega)
theorem far_own {w : World} {base B : Nat} {v : Value} {ss : List ByteArray} (h : OwnS w base v ss) (hB : B < base) : some B ≠ v.ownBlock := by
  intro e
  have := (World.ownsRow.lt h B e.symm).1
  omega
theorem ownS_base {w : World} {base base' : Nat} {v : Value} {ss : List ByteArray} (h : OwnS w base v ss) (hb : base' ≤ base) : OwnS w base' v ss := by
  refine ⟨h.1, ?_⟩
  rcases h.2 with h2 | ⟨g, cap, cur, h1, h2, h3⟩
  · exact .inl h2
  · exact .inr ⟨g, cap, cur, h1, Nat.le_trans hb h2, h3⟩
theorem OwnS.nil_ (w : World) (base : Nat) : OwnS w base (.slice none 0 0) [] := World.ownsRow_nil w base 9 1

/-- One list of strings has got one string more, by an append that may have grown it. -/
theorem OwnS.snoc {w3 : World} {base gg cap : Nat} {ss : List ByteArray} {s : ByteArray} (h : w3.ownsRow base 9 1 (.slice (some ⟨gg, 0, none⟩) (ss.length + 1) cap) (ss.length + 1) (sv ss ++ [.string s])) : OwnS w3 base (.slice (some ⟨gg, 0, none⟩) (ss.length + 1) cap) (ss ++ [s]) := by
  unfold OwnS
  simpa [sv] using h
theorem OwnS.low {w : World} {base : Nat} {v : Value} {ss : List ByteArray} (h : OwnS w base v ss) {a : Addr} (ha : a.block < base) (u : Value) : OwnS (w.setCell a u) base v ss := ownsRow_setCell_below h ha u
/-- The world behind 'x = append(x, s)', x in a cell of block B: from wr by a call that moved the reader, the new block of s, the append, the store. -/
structure App (R B base i : Nat) (v1 : Value) (ss : List ByteArray) (s : ByteArray) (wr w2 w3 w4 : World) (gg cap : Nat) : Prop where
  hm2 : Moved R wr.drew w2
  hg3 : (w2.alloc (.cells #[.string s] 9)).grownBy w3 v1.ownBlock
  hown3 : w3.ownsRow base 9 1 (.slice (some ⟨gg, 0, none⟩) (ss.length + 1) cap) (ss.length + 1) (sv ss ++ [.string s])
  hat3 : v1.ownBlock = some gg ∨ gg = w2.heap.size + 1
  h4 : w4 = w3.setCell ⟨B, i, none⟩ (.slice (some ⟨gg, 0, none⟩) (ss.length + 1) cap)
section
variable {R B base i : Nat} {v1 : Value} {ss : List ByteArray} {s : ByteArray} {wr w2 w3 w4 : World} {gg cap : Nat}
theorem App.own (h : App R B base i v1 ss s wr w2 w3 w4 gg cap) (hB : B < base) : OwnS w4 base (.slice (some ⟨gg, 0, none⟩) (ss.length + 1) cap) (ss ++ [s]) := by
  rw [h.h4]; exact (OwnS.snoc h.hown3).low hB _
theorem App.other (h : App R B base i v1 ss s wr w2 w3 w4 gg cap) (hB : B < base) (hR : R < base) {v2 : Value} {tt : List ByteArray} (h2 : OwnS wr base v2 tt) (hap : ∀ g, v1.ownBlock = some g → v2.ownBlock ≠ some g) :
    OwnS w4 base v2 tt ∧ v2.ownBlock ≠ some gg := by
  have k2 : OwnS w2 base v2 tt := OwnS.keep (w := wr.drew) h2 h.hm2 (ne_own h2 hR)
  have k3 : OwnS w3 base v2 tt := OwnS.keep (World.ownsRow.alloc k2 _) h.hg3 (by
    cases e : v2.ownBlock with
    | none => exact .inl rfl
    | some g => exact .inr (fun e' => hap g (e'.symm ▸ rfl) e))
  refine ⟨by rw [h.h4]; exact k3.low hB _, fun e => ?_⟩
  rcases h.hat3 with e' | e'
  · exact hap gg e' e
  · have := (World.ownsRow.lt k2 gg e).2
    omega
theorem App.cells (h : App R B base i v1 ss s wr w2 w3 w4 gg cap) (h1 : OwnS wr base v1 ss) {g : Nat} {cs : List Value} (ho : Own wr g cs) (hg : g < base) (hgR : g ≠ R) (hgB : g ≠ B) : Own w4 g cs := by
  rw [h.h4]
  exact (((Own.grown (w := wr.drew) ho.drew h.hm2 (by simpa using hgR)).alloc _).grown h.hg3 (far_own h1 hg)).far (by simpa using hgB) _
theorem App.cell (h : App R B base i v1 ss s wr w2 w3 w4 gg cap) (h1 : OwnS wr base v1 ss) {cs : List Value} (ho : Own wr B cs) (hB : B < base) (hBR : B ≠ R) (hi : i < cs.length) : Own w4 B (cs.set i (.slice (some ⟨gg, 0, none⟩) (ss.length + 1) cap)) := by
  rw [h.h4]
  exact (((Own.grown (w := wr.drew) ho.drew h.hm2 (by simpa using hBR)).alloc _).grown h.hg3 (far_own h1 hB)).set_ hi _
theorem App.rd (h : App R B base i v1 ss s wr w2 w3 w4 gg cap) (h1 : OwnS wr base v1 ss) {c : Nat} (hr : Rd w2 R c) (hR : R < base) (hB : R < B) : Rd w4 R c := by
  rw [h.h4]
  refine ((hr.alloc _).grown h.hg3 (fun g hg => ?_)).far hB _
  have := (World.ownsRow.lt h1 g hg).1
  omega
theorem App.moved (h : App R B base i v1 ss s wr w2 w3 w4 gg cap) (h1 : OwnS wr base v1 ss) {w : World} (hm : Moved R w wr) (hB : w.heap.size ≤ B) (hb : w.heap.size ≤ base) : Moved R w w4 := by
  rw [h.h4]
  have m2 : Moved R w w2 := (hm.drew).trans h.hm2
  have m3 : Moved R w w3 := ⟨h.hg3.os.trans m2.os, h.hg3.tape.trans m2.tape, h.hg3.output.trans m2.output, Nat.le_trans m2.size (Nat.le_trans (by simp) h.hg3.size), fun k hk hne => by
    have hk2 := Nat.lt_of_lt_of_le hk m2.size
    rw [h.hg3.block k (by simp; omega) (fun e => by have := (World.ownsRow.lt h1 k e.symm).1; omega)]
    rw [Below.heap_alloc w2 _ k hk2]
    exact m2.block k hk hne⟩
  exact m3.set_ (.inr hB) _
end

set_option maxRecDepth 100000 in
set_option maxHeartbeats 2000000 in
theorem l16Some_any (R : Nat) (c : Nat) (w : World) (h : Rd w R c) (hc : c ≤ 1000000) :
    Calls Try.prog 65 #[.pointer (some ⟨R, 0, none⟩)] w fun e w' => ∃ v1 v2 chi psi m, e = .returned (.agg #[v1, v2, .string m]) ∧ chi.length = 3 ∧ psi.length = 3 ∧ m.size ≤ 9 ∧ TeleOwn w' w.heap.size v1 v2 chi psi ∧ Rd w' R (c + 200) ∧ Moved R w w' := by
  obtain ⟨i0, hi0, hz0, hz1, hz2⟩ := info_parts info_str'
  go_enter Try.func65, Try.ntmps65
  go_wp2_with fail
  refine (l15Wheel_any R c _ (h.alloc _) (by omega)).mono ?_
  rintro e w1 ⟨m, hm, rfl, hr1, hm1⟩
  have hRw := h.lt
  have b0 : Own w1 w.heap.size [Value.slice none 0 0, Value.slice none 0 0, .string ⟨#[]⟩] := (Own.new w [Value.slice none 0 0, Value.slice none 0 0, .string ⟨#[]⟩] 30).grown hm1 (by simp; omega)
  have b0lt := b0.lt
  have hmv : Moved R w w1 := ((Moved.refl R w).alloc _).trans hm1
  clear hm1
  go_wp2_with fail
  have b1 := Own.new w1 [Value.slice none 0 0, Value.slice none 0 0, .string m] 30
  have b0' := b0.alloc (.cells #[Value.slice none 0 0, Value.slice none 0 0, .string m] 30)
  have hr1' := hr1.alloc (.cells #[Value.slice none 0 0, Value.slice none 0 0, .string m] 30)
  have hmv' := hmv.alloc (.cells #[Value.slice none 0 0, Value.slice none 0 0, .string m] 30)
  generalize (w1.alloc (.cells #[Value.slice none 0 0, Value.slice none 0 0, .string m] 30)) = W1 at *
  generalize hB1 : w1.heap.size = B1 at *
  generalize hB0 : w.heap.size = B0 at *
  have HB0 := Lib.hid hB0
  clear hB1 b0 hr1 hmv hB0
  go_loopw [4] (fun i wr => ∃ (k : Nat) (v1 v2 : Value) (chi psi : List ByteArray), k ≤ 3 ∧ i = .int .i64 k ∧ chi.length = k ∧ psi.length = k ∧ Own wr B1 [v1, v2, .string m] ∧ Own wr B0 [Value.slice none 0 0, Value.slice none 0 0, .string ⟨#[]⟩] ∧ TeleOwn wr (B1 + 1) v1 v2 chi psi ∧ Rd wr R (c + 11 + 22 * k) ∧ Moved R w wr) (fun i _ => 3 - (intOf i).toNat)
  case atStart => exact ⟨0, _, _, [], [], by omega, rfl, rfl, rfl, b1, b0', ⟨OwnS.nil_ _ _, OwnS.nil_ _ _, by simp [Value.ownBlock], by simp, by simp⟩, hr1', hmv'⟩
  case round =>
    obtain ⟨k, v1, v2, chi, psi, hk, rfl, l1, l2, o1, o0, ht, hr, hmv⟩ := hrel
    by_cases hlt : k < 3
    · have f0 := o1.at_ (i := 0) rfl
      have f1 := o1.at_ (i := 1) rfl
      have r0 := o1.free 0 (by simp)
      have r1 := o1.free 1 (by simp)
      have lt1 := o1.lt
      have L1 := Lib.hid l1
      have L2 := Lib.hid l2
      clear l1 l2
      have hchi : chi.length ≤ 3 := by rw [L1.out]; omega
      have hpsi : psi.length ≤ 3 := by rw [L2.out]; omega
      go_upto_region 5 with fail
      go_cut [] (fun wx => ∃ (v1' : Value) (s : ByteArray), s.size ≤ 9 ∧ Own wx B1 [v1', v2, .string m] ∧ Own wx B0 [Value.slice none 0 0, Value.slice none 0 0, .string ⟨#[]⟩] ∧ TeleOwn wx (B1 + 1) v1' v2 (chi ++ [s]) psi ∧ Rd wx R (c + 11 + 22 * k + 11) ∧ Moved R w wx)
      case first =>
        go_region_law (first
          | (go_simp; go_at_call 69; refine (l15Wheel_any R _ _ hr.drew (by omega)).mono ?_; rintro e w2 ⟨s, hs, rfl, hr2, hm2⟩; have f0' : w2.cell? ⟨B1, 0, none⟩ = some v1 := (o1.drew.grown hm2 (by simp; omega)).at_ (i := 0) rfl; have q1 : OwnS w2 (B1 + 1) v1 chi := (OwnS.keep (w := wr.drew) ht.own1 hm2 (ne_own ht.own1 (by omega))); have lt2 : B1 < w2.heap.size := Nat.lt_of_lt_of_le lt1 hm2.size)
          | (refine step_append_lies _ (by rfl) _ _ _ (by rfl) (B1 + 1) 9 i0 _ 1 16 Try.underlying28 hi0 hz0 hz1 hz2 rfl (by omega) v1 chi.length (sv chi) (by rfl) (World.ownsRow.alloc q1 _) ⟨w2.heap.size, 0, none⟩ 1 1 [.string s] (by rfl) (by rfl) (World.news_of_block (cs := #[.string s]) (t := 9) (fr := (0, 0)) (heap_alloc_new w2 _)) (by simp [Value.oneCell']) (by omega) (by unfold maxLen; omega) (by omega) (by simp; omega) (w2.heap.size + 1) (by simp) ?_; intro gg cap w3 hown3 hg3 hat3 hlt3; have o3 : Own w3 B1 [v1, v2, .string m] := (((o1.drew.grown hm2 (by simp; omega)).alloc _).grown hg3 (far_own q1 (by omega))); have f3 : w3.cell? ⟨B1, 0, none⟩ = some v1 := o3.at_ (i := 0) rfl; have r3 := o3.free 0 (by simp)))
        all_goals
          go_wp2_with fail
          go_meet
          have ha : App R B1 (B1 + 1) 0 v1 chi s wr w2 w3 _ gg cap := ⟨hm2, hg3, hown3, hat3, rfl⟩
          have hoth := ha.other (by omega) (by omega) ht.own2 ht.apart
          refine ⟨_, s, hs, ha.cell ht.own1 o1 (by omega) (by omega) (by simp), ha.cells ht.own1 o0 (by omega) (by omega) (by omega), ⟨ha.own (by omega), hoth.1, ?_, ?_, ht.small2⟩, ha.rd ht.own1 hr2 (by omega) (by omega), ha.moved ht.own1 hmv (by rw [HB0.out]; omega) (by rw [HB0.out]; omega)⟩
          · intro g hg; simp [Value.ownBlock] at hg; subst hg; exact hoth.2
          · intro t ht'; simp at ht'; rcases ht' with ht' | rfl
            · exact ht.small1 t ht'
            · omega
      case rest =>
        obtain ⟨v1', s, hs, o1', o0', ht', hr', hmv''⟩ := hcut
        clear o1 o0 ht hr hmv f0 f1 r0 r1 lt1
        have f1 := o1'.at_ (i := 1) rfl
        have r1 := o1'.free 1 (by simp)
        have lt1 := o1'.lt
        go_wp2_with fail
        go_region_law (first
          | (go_simp; go_at_call 69; refine (l15Wheel_any R _ _ hr'.drew (by omega)).mono ?_; rintro e w2 ⟨s2, hs2, rfl, hr2, hm2⟩; have f1' : w2.cell? ⟨B1, 1, none⟩ = some v2 := (o1'.drew.grown hm2 (by simp; omega)).at_ (i := 1) rfl; have q1 : OwnS w2 (B1 + 1) v2 psi := (OwnS.keep (w := wc.drew) ht'.own2 hm2 (ne_own ht'.own2 (by omega))); have lt2 : B1 < w2.heap.size := Nat.lt_of_lt_of_le lt1 hm2.size)
          | (refine step_append_lies _ (by rfl) _ _ _ (by rfl) (B1 + 1) 9 i0 _ 1 16 Try.underlying28 hi0 hz0 hz1 hz2 rfl (by omega) v2 psi.length (sv psi) (by rfl) (World.ownsRow.alloc q1 _) ⟨w2.heap.size, 0, none⟩ 1 1 [.string s2] (by rfl) (by rfl) (World.news_of_block (cs := #[.string s2]) (t := 9) (fr := (0, 0)) (heap_alloc_new w2 _)) (by simp [Value.oneCell']) (by omega) (by unfold maxLen; omega) (by omega) (by simp; omega) (w2.heap.size + 1) (by simp) ?_; intro gg cap w3 hown3 hg3 hat3 hlt3; have o3 : Own w3 B1 [v1', v2, .string m] := (((o1'.drew.grown hm2 (by simp; omega)).alloc _).grown hg3 (far_own q1 (by omega))); have f3 : w3.cell? ⟨B1, 1, none⟩ = some v2 := o3.at_ (i := 1) rfl; have r3 := o3.free 1 (by simp)))
        all_goals
          go_wp2_with fail
          go_roundw
          case rel =>
            have ha : App R B1 (B1 + 1) 1 v2 psi s2 wc w2 w3 _ gg cap := ⟨hm2, hg3, hown3, hat3, rfl⟩
            have hoth := ha.other (by omega) (by omega) ht'.own1 (fun g hg he => ht'.apart g he hg)
            refine ⟨k + 1, _, _, chi ++ [s], psi ++ [s2], by omega, by go_num, by simp [L1.out], by simp [L2.out], ha.cell ht'.own2 o1' (by omega) (by omega) (by simp), ha.cells ht'.own2 o0' (by omega) (by omega) (by omega), ⟨hoth.1, ha.own (by omega), ?_, ht'.small1, ?_⟩, (ha.rd ht'.own2 hr2 (by omega) (by omega)).more (by omega), ha.moved ht'.own2 hmv'' (by rw [HB0.out]; omega) (by rw [HB0.out]; omega)⟩
            · intro g hg hg'; simp [Value.ownBlock] at hg'; subst hg'; exact hoth.2 hg
            · intro t ht4; simp at ht4; rcases ht4 with ht4 | rfl
              · exact ht'.small2 t ht4
              · omega
          case measure => simp [intOf]; omega
    · have hk3 : k = 3 := by omega
      subst hk3
      have L1 := Lib.hid l1
      have L2 := Lib.hid l2
      clear l1 l2
      have f0 := o1.at_ (i := 0) rfl
      have f1 := o1.at_ (i := 1) rfl
      have f2 := o1.at_ (i := 2) rfl
      have e0 := o0.at_ (i := 0) rfl
      have e1 := o0.at_ (i := 1) rfl
      have e2 := o0.at_ (i := 2) rfl
      have r0 := o0.free 0 (by simp)
      have r1 := o0.free 1 (by simp)
      have r2 := o0.free 2 (by simp)
      obtain ⟨a1, q1, rfl, -⟩ := ht.own1.val
      obtain ⟨a2, q2, rfl, -⟩ := ht.own2.val
      go_wp2
      refine bodyPost_ret (v := .agg #[.slice a1 chi.length q1, .slice a2 psi.length q2, .string m]) (by simp [results, Try.results65, go_sem, e0, e1, e2]) rfl ?_
      refine ⟨_, _, chi, psi, m, rfl, L1.out, L2.out, hm, ⟨?_, ?_, ht.apart, ht.small1, ht.small2⟩, ?_, ?_⟩
      · exact ownS_base (((ht.own1.low (a := ⟨B0, 0, none⟩) (by simp; omega) _).low (a := ⟨B0, 1, none⟩) (by simp; omega) _).low (a := ⟨B0, 2, none⟩) (by simp; omega) _) (by rw [HB0.out]; omega)
      · exact ownS_base (((ht.own2.low (a := ⟨B0, 0, none⟩) (by simp; omega) _).low (a := ⟨B0, 1, none⟩) (by simp; omega) _).low (a := ⟨B0, 2, none⟩) (by simp; omega) _) (by rw [HB0.out]; omega)
      · exact (((hr.far (p := ⟨B0, 0, none⟩) hRw _).far (p := ⟨B0, 1, none⟩) hRw _).far (p := ⟨B0, 2, none⟩) hRw _).more (by omega)
      · have hge : w.heap.size ≤ B0 := by rw [HB0.out]; omega
        exact ((hmv.set_ (.inr hge) _).set_ (.inr hge) _).set_ (.inr hge) _
end Go.Proofs.Ytegbmjdaohnlaaa
