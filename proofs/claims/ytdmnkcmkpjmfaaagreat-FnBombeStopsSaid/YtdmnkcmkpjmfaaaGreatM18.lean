/- Several of my texts in one: ExM, OpenR, OpenM, ExI, Imp, ImpL. -/
import Derived.Test.YtdmnkcmkpjmfaaaGreatM17
import Derived.OpenShut
import Derived.Deep.Slices
import Derived.Deep.Fields
import Derived.ChangeSame
import Derived.Lib.SmallJoins
import Derived.ChangeSlices
import Derived.SliceStrings
import Derived.Deep.Strs
import Derived.Test.YtdmnkcmkpjmfaaaGreatM1
/- Contracts of the laws' own functions on machines: sizes, copies, comparison, marks. -/
namespace Go.Proofs.YtdmnkcmkpjmfaaaGreat
open Go.RowKit

/-- A machine is small. -/
structure SmM (m : Mach) : Prop where
  whl : SmW m.wheels
  rings : m.rings.size ≤ 1048576
  plugs : m.plugs.size ≤ 1048576
theorem SmM.at_ {m : Mach} (h : SmM m) {w : World} {B : Nat} {a : Option Addr} (hr : Reads w B a (rvs m.wheels.rotors)) : MachAt w B a m.wheels.rotors.length m :=
  ⟨h.whl.at_ hr, by have := h.rings; omega, by have := h.plugs; omega⟩
def SzM (m : Mach) (left : Int) (w : World) (e : Ending) (w' : World) : Prop :=
  ∃ q : Int, e = .returned (.int .i64 q) ∧ Below w.heap.size w w' ∧ (q = -1 ∨ (0 ≤ q ∧ q ≤ left ∧ SmM m))
theorem szMachine_any (a : Option Addr) (c : Nat) (m : Mach) (left : Int) (w : World) (h : Reads w w.heap.size a (rvs m.wheels.rotors)) (hz : BigR m.wheels.rotors) (hr : m.wheels.refl.size ≤ 9223372036854775807) (hg : m.rings.size ≤ 9223372036854775807) (hp : m.plugs.size ≤ 9223372036854775807) (h0 : 0 ≤ left) (h1 : left ≤ 1048576) :
    Calls Tryz.prog 21 #[.agg #[.slice a m.wheels.rotors.length c, .string m.wheels.refl, .string m.rings, .string m.plugs], .int .i64 left] w (SzM m left w) := by
  have o0 := Own.new w [.slice a m.wheels.rotors.length c, .string m.wheels.refl, .string m.rings, .string m.plugs] 26
  have hb0 := (Below.refl w.heap.size w).alloc (Nat.le_refl _) (.cells [.slice a m.wheels.rotors.length c, .string m.wheels.refl, .string m.rings, .string m.plugs].toArray 26)
  have h' : Reads (w.alloc (.cells [.slice a m.wheels.rotors.length c, .string m.wheels.refl, .string m.rings, .string m.plugs].toArray 26)) (w.alloc (.cells [.slice a m.wheels.rotors.length c, .string m.wheels.refl, .string m.rings, .string m.plugs].toArray 26)).heap.size a (rvs m.wheels.rotors) := (h.below hb0 (Nat.le_refl _)).more hb0.size
  go_enter Tryz.func21, Tryz.ntmps21
  go_wp2_with fail
  refine (szWheels_any a c m.wheels left _ h' hz hr h0 h1).mono ?_
  rintro e w1 ⟨q, rfl, hb1, hq⟩
  have o1 := o0.below hb1 o0.lt
  have c1 := o1.at_ (i := 1) rfl
  have c2 := o1.at_ (i := 2) rfl
  have c3 := o1.at_ (i := 3) rfl
  have hb' := bt hb0 hb1
  clear o0 hb0 h' hb1 h
  rcases hq with rfl | ⟨p0, p1, p2⟩
  · go_wp2
    go_ret
    exact ⟨-1, rfl, hb', .inl rfl⟩
  · have HP := Lib.hid p2
    clear p2
    by_cases hs : q < m.rings.size
    · go_wp2
      go_ret
      exact ⟨-1, rfl, hb', .inl rfl⟩
    · by_cases hs2 : q - m.rings.size < m.plugs.size
      · go_wp2
        go_ret
        exact ⟨-1, rfl, hb', .inl rfl⟩
      · go_wp2
        go_ret
        exact ⟨q - m.rings.size - m.plugs.size, rfl, hb', .inr ⟨by omega, by omega, HP.out, by omega, by omega⟩⟩

/-- A new machine: its rotors lie in a block of their own. -/
def NewM (m : Mach) (w : World) (e : Ending) (w' : World) : Prop :=
  ∃ g, w.heap.size ≤ g ∧ e = .returned (.agg #[.slice (some ⟨g, 0, none⟩) m.wheels.rotors.length m.wheels.rotors.length, .string m.wheels.refl, .string m.rings, .string m.plugs]) ∧ Own w' g (rvs m.wheels.rotors) ∧ Below w.heap.size w w'
set_option maxHeartbeats 1000000 in
theorem toMachine_any (a : Option Addr) (c : Nat) (m : Mach) (w : World) (h : Reads w w.heap.size a (rvs m.wheels.rotors)) (hs : SmM m) :
    Calls Tryz.prog 24 #[.agg #[.slice a m.wheels.rotors.length c, .string m.wheels.refl, .string m.rings, .string m.plugs]] w (NewM m w) := by
  have H := Lib.hid h
  have HS := Lib.hid hs
  clear h hs
  go_enter Tryz.func24, Tryz.ntmps24
  go_wp2_with fail
  obtain ⟨W, hW⟩ : ∃ W, W = (((w.alloc (Obj.cells #[Value.slice a m.wheels.rotors.length c, .string m.wheels.refl, .string m.rings, .string m.plugs] 26)).alloc (Obj.cells #[Value.slice none 0 0, .string ⟨#[]⟩, .string ⟨#[]⟩, .string ⟨#[]⟩] 36)).alloc (Obj.cells #[Value.slice none 0 0, .string ⟨#[]⟩, .string ⟨#[]⟩, .string ⟨#[]⟩] 36)) := ⟨_, rfl⟩
  have o0 : Own W w.heap.size [Value.slice a m.wheels.rotors.length c, .string m.wheels.refl, .string m.rings, .string m.plugs] := by
    rw [hW]; exact ((Own.new w _ _).alloc _).alloc _
  have o1 : Own W (w.heap.size + 1) [Value.slice none 0 0, .string ⟨#[]⟩, .string ⟨#[]⟩, .string ⟨#[]⟩] := by
    rw [hW]; have := (Own.new (w.alloc (Obj.cells #[Value.slice a m.wheels.rotors.length c, .string m.wheels.refl, .string m.rings, .string m.plugs] 26)) [Value.slice none 0 0, .string ⟨#[]⟩, .string ⟨#[]⟩, .string ⟨#[]⟩] 36).alloc (Obj.cells #[Value.slice none 0 0, .string ⟨#[]⟩, .string ⟨#[]⟩, .string ⟨#[]⟩] 36); simpa using this
  have o2 : Own W (w.heap.size + 1 + 1) [Value.slice none 0 0, .string ⟨#[]⟩, .string ⟨#[]⟩, .string ⟨#[]⟩] := by
    rw [hW]; have := Own.new ((w.alloc (Obj.cells #[Value.slice a m.wheels.rotors.length c, .string m.wheels.refl, .string m.rings, .string m.plugs] 26)).alloc (Obj.cells #[Value.slice none 0 0, .string ⟨#[]⟩, .string ⟨#[]⟩, .string ⟨#[]⟩] 36)) [Value.slice none 0 0, .string ⟨#[]⟩, .string ⟨#[]⟩, .string ⟨#[]⟩] 36; simpa using this
  have hb : Below w.heap.size w W := by
    rw [hW]; exact (((Below.refl _ _).alloc (Nat.le_refl _) _).alloc (by simp) _).alloc (by simp; omega) _
  rw [← hW]
  clear hW
  generalize hB2 : w.heap.size + 1 + 1 = B2 at *
  generalize hB1 : w.heap.size + 1 = B1 at *
  generalize hB0 : w.heap.size = B0 at *
  have g1 : B0 < B1 := by omega
  have g2 : B1 < B2 := by omega
  have HB0 := Lib.hid hB0
  clear hB0 hB1 hB2
  have hR : Reads W W.heap.size a (rvs m.wheels.rotors) := by
    exact (H.out.below hb (Nat.le_refl _)).more (by have := o0.lt; omega)
  refine (toWheels_any a c m.wheels W hR HS.out.whl).mono ?_
  rintro e w1 ⟨g, hg, rfl, og, hb1⟩
  have k0 := o0.below hb1 o0.lt
  have k1 := o1.below hb1 o1.lt
  have k2 := o2.below hb1 o2.lt
  have l2 := o2.lt
  have kb : Below B0 w w1 := hb.trans (hb1.mono (by omega))
  clear o0 o1 o2 hb hb1 hR
  have f0 := k2.at_ (i := 0) rfl
  have f1 := k2.at_ (i := 1) rfl
  have f2 := k2.at_ (i := 2) rfl
  have f3 := k2.at_ (i := 3) rfl
  have r0 := k2.free 0 (by simp)
  have r1 := k2.free 1 (by simp)
  have r2 := k2.free 2 (by simp)
  have r3 := k2.free 3 (by simp)
  have c2 := k0.at_ (i := 2) rfl
  have c3 := k0.at_ (i := 3) rfl
  have e0 := k1.at_ (i := 0) rfl
  have e1 := k1.at_ (i := 1) rfl
  have e2 := k1.at_ (i := 2) rfl
  have e3 := k1.at_ (i := 3) rfl
  have s0 := k1.free 0 (by simp)
  have s1 := k1.free 1 (by simp)
  have s2 := k1.free 2 (by simp)
  have s3 := k1.free 3 (by simp)
  have n1 : ¬ B1 = B2 := by omega
  have n2 : ¬ B2 = B1 := by omega
  have n3 : ¬ B2 = B0 := by omega
  have n4 : ¬ B0 = B2 := by omega
  go_wp2
  refine bodyPost_ret (v := .agg #[.slice (some ⟨g, 0, none⟩) m.wheels.rotors.length m.wheels.rotors.length, .string m.wheels.refl, .string m.rings, .string m.plugs]) (by simp [results, Tryz.results24, go_sem, e0, e1, e2, e3]) rfl ?_
  have ge1 : g ≠ B1 := by omega
  have ge2 : g ≠ B2 := by omega
  refine ⟨g, by have := HB0.out; omega, rfl, ?_, ?_⟩
  · repeat' (with_reducible first | exact og | refine Own.far ?_ ?_ _)
    all_goals (simp; omega)
  · rw [HB0.out]
    repeat' (with_reducible first | exact kb | refine Below.setCell ?_ ?_ _)
    all_goals (simp; omega)

theorem eqMachine_any (a b : Option Addr) (c d : Nat) (m : Mach) (w : World) (h1 : Reads w w.heap.size a (rvs m.wheels.rotors)) (h2 : Reads w w.heap.size b (rvs m.wheels.rotors)) (hl : m.wheels.rotors.length ≤ 1048576) :
    Calls Tryz.prog 28 #[.agg #[.slice a m.wheels.rotors.length c, .string m.wheels.refl, .string m.rings, .string m.plugs], .agg #[.slice b m.wheels.rotors.length d, .string m.wheels.refl, .string m.rings, .string m.plugs]] w fun e w' => e = .returned (.bool true) ∧ Below w.heap.size w w' := by
  have o0 := fun o => (Own.new w [.slice a m.wheels.rotors.length c, .string m.wheels.refl, .string m.rings, .string m.plugs] 36).alloc o
  have o1 := fun A => Own.new (w.alloc A) [.slice b m.wheels.rotors.length d, .string m.wheels.refl, .string m.rings, .string m.plugs] 36
  have hb0 := fun A B => ((Below.refl w.heap.size w).alloc (Nat.le_refl _) A).alloc (by simp) B
  have R1 := Lib.hid (fun A B => (h1.below (hb0 A B) (Nat.le_refl _)).more (hb0 A B).size)
  have R2 := Lib.hid (fun A B => (h2.below (hb0 A B) (Nat.le_refl _)).more (hb0 A B).size)
  simp only [World.size_alloc] at o1
  clear h1 h2
  go_enter Tryz.func28, Tryz.ntmps28
  go_wp2_with fail
  refine (eqWheels_any a b c d m.wheels _ (R1.out _ _) (R2.out _ _) hl).mono ?_
  rintro e w1 ⟨rfl, hb1⟩
  have k0 := (o0 _).below hb1 (o0 _).lt
  have k1 := (o1 _).below hb1 (o1 _).lt
  have f1 := k0.at_ (i := 2) rfl
  have f2 := k0.at_ (i := 3) rfl
  have g1 := k1.at_ (i := 2) rfl
  have g2 := k1.at_ (i := 3) rfl
  have kb := bt (hb0 _ _) hb1
  clear o0 o1 hb0 hb1 R1 R2
  go_wp2
  go_ret
  exact ⟨rfl, kb⟩

theorem markMachine_to (g c : Nat) (m : Mach) (k : Nat) (w : World) (h : Own w g (rvs m.wheels.rotors)) (hl : m.wheels.rotors.length ≤ 1048576) (h1 : 1 ≤ k) (hk : k ≤ 1000000) :
    Calls Tryz.prog 30 #[.agg #[.slice (some ⟨g, 0, none⟩) m.wheels.rotors.length c, .string m.wheels.refl, .string m.rings, .string m.plugs], .int .i64 (k : Int)] w (MarkTo g (k + 2 * m.wheels.rotors.length) w) := by
  have h' := fun o => h.alloc o
  have hb0 := fun A => (Below.refl w.heap.size w).alloc (Nat.le_refl _) A
  go_enter Tryz.func30, Tryz.ntmps30
  go_wp2_with fail
  refine (markWheels_to g c m.wheels k _ (h' _) hl h1 (by omega)).mono ?_
  rintro e w1 ⟨rfl, hg⟩
  have hb := hb0 (.cells #[.slice (some ⟨g, 0, none⟩) m.wheels.rotors.length c, .string m.wheels.refl, .string m.rings, .string m.plugs] 36)
  clear h' hb0
  go_wp2
  go_ret
  exact ⟨rfl, grown_trans ⟨hb.os, hb.tape, hb.output, hb.size, fun i hi _ => hb.block i hi⟩ hg⟩
end Go.Proofs.YtdmnkcmkpjmfaaaGreat

/- Arguments that are slices of rotors, as the walks want them. -/
namespace Go.Proofs.YtdmnkcmkpjmfaaaGreat
open Go.ChangeShapes Go.WideShapes Go.Deep Go.RowKit

section
variable {H : Type} {enc : TypeId × Value → H} {P : Program} {w : World} {base : Nat} {spare : Nat → Bool} {held : Bool}
theorem open_slice_fields {t e : TypeId} {fs : Array Field} {fuel : Nat} {cs : List Value} {x : DataW H × List MemPlace} (ht : P.underlying t = some (.slice e)) (he : P.underlying e = some (.struct fs))
    (hone : oneCellFields P fs = true) (hC : P.cellsOf e = fs.size) (h : DataW.trod enc P w base spare held fuel t cs = some x) :
    (cs = [.slice none 0 0] ∧ x = (.nil, [])) ∨
    ∃ (a : Addr) (len cap m : Nat), cs = [.slice (some a) len cap] ∧ len ≤ cap ∧ cap ≤ maxLen ∧ m = (if spare a.block then cap else len) ∧
      ∀ i, i < m → ∀ (j : Nat) (f : Field), fs[j]? = some f → ∃ (v : Value) (y : DataW H × List MemPlace) (n : Nat), w.cell? (a.add (i * fs.size + j)) = some v ∧ DataW.trod enc P w base spare held n f.type [v] = some y := by
  rcases open_slice ht h with h0 | ⟨a, len, cap, m, n, D, Pl, hcs, hb, hl, hm, hmm, hx, hi⟩
  · exact .inl h0
  · refine .inr ⟨a, len, cap, m, hcs, hl, hm, hmm, fun i him j f hj => ?_⟩
    obtain ⟨cs', hc, ht'⟩ := hi i him
    rw [hC] at hc
    obtain ⟨ys, n', hn', hy, hlen, hyl, hf⟩ := DataW.trod_struct he ht'
    obtain ⟨_, hcl, hat⟩ := World.cells?_some hc
    obtain ⟨ho, hk⟩ := hone_of hone j f hj
    have hjl : j < fs.size := (Array.getElem?_eq_some_iff.1 hj).1
    have hcell := hat j hjl
    have hv : cs'[j]? = some (cs'[j]'(by omega)) := List.getElem?_eq_getElem (by omega)
    have h1 := hf j f hj
    rw [ho, hk] at h1
    have hone' : (cs'.drop j).take 1 = [cs'[j]'(by omega)] := by
      rw [List.drop_eq_getElem_cons (by omega)]
      rfl
    rw [hone'] at h1
    have hys : ys[j]? = some (ys[j]'(by omega)) := List.getElem?_eq_getElem (by omega)
    refine ⟨_, _, n', ?_, h1.trans hys⟩
    rw [← Go.Deep.add_add, hcell, hv]
end
theorem choose_list {α : Type} {Q : Nat → α → Prop} : ∀ n : Nat, (∀ i, i < n → ∃ r, Q i r) → ∃ rs : List α, rs.length = n ∧ ∀ i (h : i < rs.length), Q i rs[i]
  | 0, _ => ⟨[], rfl, fun i h => absurd h (by simp)⟩
  | n + 1, h => by
    obtain ⟨rs, hl, hr⟩ := choose_list n fun i hi => h i (by omega)
    obtain ⟨r, hq⟩ := h n (by omega)
    refine ⟨rs ++ [r], by simp [hl], fun i hi => ?_⟩
    by_cases e : i < rs.length
    · rw [List.getElem_append_left e]; exact hr i e
    · have : i = rs.length := by simp at hi; omega
      subst this
      simp [hl, hq]
theorem rots_open {H : Type} {enc : TypeId × Value → H} {w : World} {fuel : Nat} {v : Value} {x : DataW H × List MemPlace}
    (h : DataW.trod enc Tryz.prog w 0 (fun _ => true) true fuel 22 [v] = some x) :
    ∃ (a : Option Addr) (cap : Nat) (rs : List Rot), v = .slice a rs.length cap ∧ Reads w w.heap.size a (rvs rs) ∧ BigR rs := by
  rcases open_slice_fields Tryz.underlying22 Tryz.underlying165 (by kernel_rfl) (by kernel_rfl) h with ⟨hcs, _⟩ | ⟨a, len, cap, m, hcs, hl, hm, hmm, hf⟩
  · simp at hcs
    exact ⟨none, 0, [], by rw [hcs]; rfl, Reads.nil_, ⟨by simp, by simp⟩⟩
  · simp at hcs
    simp at hmm
    unfold maxLen at hm
    obtain ⟨rs, hrl, hr⟩ := choose_list (Q := fun i (r : Rot) => w.cell? (a.add (i * 2)) = some (.string r.wiring) ∧ w.cell? (a.add (i * 2 + 1)) = some (.string r.notches) ∧ r.wiring.size ≤ 9223372036854775807 ∧ r.notches.size ≤ 9223372036854775807) len fun i hi => by
      obtain ⟨v0, y0, n0, c0, t0⟩ := hf i (by omega) 0 _ rfl
      obtain ⟨v1, y1, n1, c1, t1⟩ := hf i (by omega) 1 _ rfl
      obtain ⟨s0, e0, _, hs0⟩ := DataW.trod_string Tryz.underlying9 t0
      obtain ⟨s1, e1, _, hs1⟩ := DataW.trod_string Tryz.underlying9 t1
      simp at e0 e1
      subst e0
      subst e1
      exact ⟨⟨s0, s1⟩, c0, c1, hs0, hs1⟩
    refine ⟨some a, cap, rs, by rw [hrl]; exact hcs, ?_, fun r hm => ?_, by omega⟩
    · by_cases h0 : len = 0
      · left
        rw [List.eq_nil_of_length_eq_zero (hrl.trans h0)]; rfl
      · obtain ⟨b, off, sp⟩ := a
        have h1 := (hr 0 (by omega)).1
        have hsp : sp = none := by simpa [Addr.add] using World.cell?_spot h1
        subst hsp
        have hb : b < w.heap.size := by
          rcases Nat.lt_or_ge b w.heap.size with hlt | hge
          · exact hlt
          · simp [Addr.add, World.cell?, Array.getElem?_eq_none hge] at h1
        refine .inr ⟨b, off, rfl, hb, fun i hi => ?_⟩
        rw [len_rvs] at hi
        have hk : i / 2 < rs.length := by omega
        obtain ⟨k0, k1, _⟩ := hr (i / 2) hk
        rw [add_none] at k0 k1
        rcases Nat.mod_two_eq_zero_or_one i with e | e
        · have := rvs_at0 rs (i / 2) hk
          rw [show 2 * (i / 2) = i by omega] at this
          rw [this, ← k0, show i / 2 * 2 = i by omega]
        · have := rvs_at1 rs (i / 2) hk
          rw [show 2 * (i / 2) + 1 = i by omega] at this
          rw [this, ← k1, show i / 2 * 2 + 1 = i by omega]
    · obtain ⟨j, hj, rfl⟩ := List.getElem_of_mem hm
      obtain ⟨_, _, k2, k3⟩ := hr j hj
      exact ⟨k2, k3⟩
end Go.Proofs.YtdmnkcmkpjmfaaaGreat

/- Arguments that are machines, lists of strings and lists of numbers, as the walks want them. -/
namespace Go.Proofs.YtdmnkcmkpjmfaaaGreat
open Go.ChangeShapes Go.WideShapes Go.Deep Go.RowKit Go.Joins

theorem add_none' (b off i : Nat) : (Addr.add ⟨b, off, none⟩ i) = ⟨b, off + i, none⟩ := by
  unfold Addr.add
  split
  · rename_i hi0; subst hi0; rfl
  · rfl
theorem strs_open {H : Type} {enc : TypeId × Value → H} {w : World} {fuel : Nat} {v : Value} {x : DataW H × List MemPlace}
    (h : DataW.trod enc Tryz.prog w 0 (fun _ => true) true fuel 30 [v] = some x) :
    ∃ (a : Option Addr) (cap : Nat) (ss : List ByteArray), v = .slice a ss.length cap ∧ Reads w w.heap.size a (sv ss) ∧ (∀ s ∈ ss, s.size ≤ 9223372036854775807) ∧ ss.length ≤ 9223372036854775807 := by
  rcases open_strings Tryz.underlying30 Tryz.underlying9 (by kernel_rfl) h with ⟨hcs, _⟩ | ⟨a, len, cap, ss, hcs, _, hl, hm, hz, _, hcell, hws⟩
  · simp at hcs
    exact ⟨none, 0, [], by rw [hcs]; rfl, Reads.nil_, by simp, by simp⟩
  · simp at hcs
    simp at hz
    unfold maxLen at hm hws
    have hlen : (ss.take len).length = len := by simp; omega
    refine ⟨some a, cap, ss.take len, by rw [hlen]; exact hcs, ?_, fun s hs => hws s (List.mem_of_mem_take hs), by rw [hlen]; omega⟩
    by_cases h0 : len = 0
    · left; rw [h0]; rfl
    · obtain ⟨b, off, sp⟩ := a
      have h1 := hcell 0 (by omega)
      have hsp : sp = none := by simpa [Addr.add] using World.cell?_spot h1
      subst hsp
      have hb : b < w.heap.size := by
        rcases Nat.lt_or_ge b w.heap.size with hlt | hge
        · exact hlt
        · simp [Addr.add, World.cell?, Array.getElem?_eq_none hge] at h1
      refine .inr ⟨b, off, rfl, hb, fun i hi => ?_⟩
      rw [length_sv, hlen] at hi
      have h2 := hcell i (by omega)
      have hi' : i < ss.length := by omega
      rw [sv_at (by rw [hlen]; exact hi), List.getElem_take]
      have e1 : ss.getD i ByteArray.empty = ss[i] := by simp [List.getD, List.getElem?_eq_getElem hi']
      rw [e1, add_none'] at h2
      exact h2
theorem str_open {H : Type} {enc : TypeId × Value → H} {w : World} {fuel : Nat} {v : Value} {x : DataW H × List MemPlace}
    (h : DataW.trod enc Tryz.prog w 0 (fun _ => true) true fuel 9 [v] = some x) : ∃ m : ByteArray, v = .string m ∧ m.size ≤ 9223372036854775807 := by
  obtain ⟨m, e2, _, hm⟩ := DataW.trod_string Tryz.underlying9 h
  simp at e2
  exact ⟨m, e2, hm⟩
set_option maxRecDepth 100000 in
theorem mach_open {H : Type} {enc : TypeId × Value → H} {w : World} {r : Reach} {b0 : Nat} {v : Value} {d : DataW H} {p : List MemPlace} (hv : Value.okWide Tryz.prog w r b0 26 v)
    (h : DataW.Trod enc Tryz.prog w 0 (fun _ => true) true 26 v d p) :
    ∃ (a : Option Addr) (c : Nat) (m : Mach), v = .agg #[.slice a m.wheels.rotors.length c, .string m.wheels.refl, .string m.rings, .string m.plugs] ∧ Reads w w.heap.size a (rvs m.wheels.rotors) ∧ BigR m.wheels.rotors ∧
      m.wheels.refl.size ≤ 9223372036854775807 ∧ m.rings.size ≤ 9223372036854775807 ∧ m.plugs.size ≤ 9223372036854775807 := by
  obtain ⟨cs, rfl, hsz⟩ := okWide_struct Tryz.underlying26 hv
  have e4 : Tryz.prog.cellsOf 26 = 4 := by kernel_rfl
  rw [e4] at hsz
  obtain ⟨c0, c1, c2, c3, rfl⟩ := array4 hsz
  obtain ⟨fuel, hf⟩ := h
  obtain ⟨y0, y1, y2, n, _, _, h0, h1, h2⟩ := trod_struct3 Tryz.underlying26 hf
  have eW : Tryz.prog.cellsOf 24 = 2 := by kernel_rfl
  have eS : Tryz.prog.cellsOf 9 = 1 := by kernel_rfl
  have eR : Tryz.prog.cellsOf 22 = 1 := by kernel_rfl
  have h0' : DataW.trod enc Tryz.prog w 0 (fun _ => true) true n 24 [c0, c1] = some y0 := by simpa [Value.cells, eW] using h0
  have h1' : DataW.trod enc Tryz.prog w 0 (fun _ => true) true n 9 [c2] = some y1 := by simpa [Value.cells, eS] using h1
  have h2' : DataW.trod enc Tryz.prog w 0 (fun _ => true) true n 9 [c3] = some y2 := by simpa [Value.cells, eS] using h2
  obtain ⟨z0, z1, n2, _, _, g0, g1⟩ := trod_struct2 Tryz.underlying24 h0'
  have g0' : DataW.trod enc Tryz.prog w 0 (fun _ => true) true n2 22 [c0] = some z0 := by simpa [Value.cells, eR] using g0
  have g1' : DataW.trod enc Tryz.prog w 0 (fun _ => true) true n2 9 [c1] = some z1 := by simpa [Value.cells, eS] using g1
  obtain ⟨a, cap, rs, rfl, hr, hz⟩ := rots_open g0'
  obtain ⟨s1, rfl, b1⟩ := str_open g1'
  obtain ⟨s2, rfl, b2⟩ := str_open h1'
  obtain ⟨s3, rfl, b3⟩ := str_open h2'
  exact ⟨a, cap, ⟨⟨rs, s1⟩, s2, s3⟩, rfl, hr, hz, b1, b2, b3⟩
end Go.Proofs.YtdmnkcmkpjmfaaaGreat

/- Contracts of the laws' own functions on lists of numbers, and the marks of a list of strings of its own. -/
namespace Go.Proofs.YtdmnkcmkpjmfaaaGreat
open Go.RowKit

/-- A list of strings is marked where it lies. -/
theorem markStringS_own (g c k : Nat) (n : Nat) (cs : List Value) (w : World) (h : Own w g cs) (hcs : cs.length = n) (hl : n ≤ 1048576) (h1 : 1 ≤ k) (hk : k ≤ 10000000) :
    Calls Tryz.prog 32 #[.slice (some ⟨g, 0, none⟩) n c, .int .i64 (k : Int)] w (MarkTo g (k + n) w) := by
  have HC := Lib.hid hcs
  clear hcs
  go_enter Tryz.func32, Tryz.ntmps32
  go_wp2
  go_loopw [1, 5] (fun m i wr => ∃ (j : Nat) (cs : List Value), j ≤ n ∧ cs.length = n ∧ i = .int .i64 j ∧ m = .int .i64 ((k + j : Nat) : Int) ∧ Own wr g cs ∧ w.grownBy wr (some g)) (fun _ i _ => n - (intOf i).toNat)
  case atStart => exact ⟨0, cs, Nat.zero_le _, HC.out, rfl, rfl, h, World.grownBy.refl w _⟩
  case round =>
    clear h HC
    obtain ⟨j, cs, hj, hcs, rfl, rfl, ho, hb⟩ := hrel
    have HC := Lib.hid hcs
    clear hcs
    by_cases hlt : j < n
    · have hlt0 := ho.lt
      have q1 : (j : Int) < (n : Int) := by omega
      go_wp2_with fail
      refine (markText_any (k + j) _ (by omega) (by omega)).mono ?_
      rintro e w1 ⟨rfl, hb1⟩
      have o1 := ho.below hb1 ho.lt
      obtain ⟨y1, f1⟩ := o1.some_ (i := j) (by rw [HC.out]; omega)
      have f2 := o1.free j (by rw [HC.out]; omega)
      have o2 := o1.set_ (i := j) (by rw [HC.out]; omega) (.string (mkT (k + j)))
      have g1 : w.grownBy (w1.setCell ⟨g, j, none⟩ (.string (mkT (k + j)))) (some g) :=
        grown_trans hb (grown_trans ⟨hb1.os, hb1.tape, hb1.output, hb1.size, fun i hi _ => hb1.block i hi⟩ (grown_setCell w1 g j _))
      clear o1 hb1 hb ho
      go_wp2
      go_roundw
      case rel => exact ⟨j + 1, _, by omega, by rw [List.length_set, HC.out], by go_num, by go_num, o2, g1⟩
      case measure => simp [intOf]; omega
    · have hj' : j = n := by omega
      subst hj'
      go_wp2
      go_ret
      exact ⟨ret_int (by omega), hb⟩




/-- What a walk keeps: the memory below, blocks of its own, and lists that are read. -/
structure Kept (w0 w : World) (ows : List (Nat × List Value)) (rds : List (Nat × Option Addr × List Value)) : Prop where
  bel : Below w0.heap.size w0 w
  own : ∀ o ∈ ows, Own w o.1 o.2
  rds : ∀ r ∈ rds, r.1 ≤ w.heap.size ∧ Reads w r.1 r.2.1 r.2.2
section
variable {w0 w w' : World} {ows : List (Nat × List Value)} {rds : List (Nat × Option Addr × List Value)} {o : Nat × List Value}
theorem Kept.below (h : Kept w0 w ows rds) (hb : Below w.heap.size w w') : Kept w0 w' ows rds :=
  ⟨bt h.bel hb, fun o ho => (h.own o ho).below hb (h.own o ho).lt, fun r hr => ⟨Nat.le_trans (h.rds r hr).1 hb.size, (h.rds r hr).2.below hb (h.rds r hr).1⟩⟩
theorem Kept.grown (h : Kept w0 w ows rds) {g : Nat} (gr : w.grownBy w' (some g)) (hg : w0.heap.size ≤ g) (ho : ∀ o ∈ ows, o.1 ≠ g) (hr : ∀ r ∈ rds, r.1 ≤ g) : Kept w0 w' ows rds :=
  ⟨h.bel.grown gr h.bel.size (fun k hk => by cases hk; exact hg), fun o hm => (h.own o hm).grown gr (by have := ho o hm; simp; omega), fun r hm => ⟨Nat.le_trans (h.rds r hm).1 gr.size, (h.rds r hm).2.grown gr (h.rds r hm).1 (hr r hm)⟩⟩
theorem Kept.low (h : Kept w0 w ows rds) {C : Nat} (hb : Below C w w') (ho : ∀ o ∈ ows, o.1 < C) (hr : ∀ r ∈ rds, r.1 ≤ C) (hC : w0.heap.size ≤ C) : Kept w0 w' ows rds :=
  ⟨h.bel.trans (hb.mono hC), fun o hm => (h.own o hm).below hb (ho o hm), fun r hm => ⟨Nat.le_trans (h.rds r hm).1 hb.size, (h.rds r hm).2.below hb (hr r hm)⟩⟩
theorem Kept.addO (h : Kept w0 w ows rds) {g : Nat} {xs : List Value} (ho : Own w g xs) : Kept w0 w ((g, xs) :: ows) rds :=
  ⟨h.bel, fun o hm => by rcases List.mem_cons.1 hm with rfl | hm; exact ho; exact h.own o hm, h.rds⟩
theorem Kept.addR (h : Kept w0 w ows rds) {C : Nat} {a : Option Addr} {xs : List Value} (hr : Reads w C a xs) (hC : C ≤ w.heap.size) : Kept w0 w ows ((C, a, xs) :: rds) :=
  ⟨h.bel, h.own, fun r hm => by rcases List.mem_cons.1 hm with rfl | hm; exact ⟨hC, hr⟩; exact h.rds r hm⟩
theorem Kept.subO {ows' : List (Nat × List Value)} (h : Kept w0 w ows rds) (hs : ows' ⊆ ows) : Kept w0 w ows' rds := ⟨h.bel, fun o hm => h.own o (hs hm), h.rds⟩
theorem Kept.tailO (h : Kept w0 w (o :: ows) rds) : Kept w0 w ows rds := h.subO (List.subset_cons_self _ _)
theorem Kept.o0 {g : Nat} {xs : List Value} (h : Kept w0 w ((g, xs) :: ows) rds) : Own w g xs := h.own (g, xs) (by simp)
theorem Kept.o1 {p0 : Nat × List Value} {g : Nat} {xs : List Value} (h : Kept w0 w (p0 :: (g, xs) :: ows) rds) : Own w g xs := h.own (g, xs) (by simp)
theorem Kept.o2 {p0 p1 : Nat × List Value} {g : Nat} {xs : List Value} (h : Kept w0 w (p0 :: p1 :: (g, xs) :: ows) rds) : Own w g xs := h.own (g, xs) (by simp)
theorem Kept.o3 {p0 p1 p2 : Nat × List Value} {g : Nat} {xs : List Value} (h : Kept w0 w (p0 :: p1 :: p2 :: (g, xs) :: ows) rds) : Own w g xs := h.own (g, xs) (by simp)
theorem Kept.o4 {p0 p1 p2 p3 : Nat × List Value} {g : Nat} {xs : List Value} (h : Kept w0 w (p0 :: p1 :: p2 :: p3 :: (g, xs) :: ows) rds) : Own w g xs := h.own (g, xs) (by simp)
theorem Kept.at_ {C : Nat} {a : Option Addr} {xs : List Value} (h : Kept w0 w ows rds) (hm : (C, a, xs) ∈ rds) : Reads w w.heap.size a xs := (h.rds _ hm).2.more (h.rds _ hm).1
theorem Kept.r0 {C : Nat} {a : Option Addr} {xs : List Value} (h : Kept w0 w ows ((C, a, xs) :: rds)) : Reads w w.heap.size a xs := h.at_ (C := C) (by simp)
theorem Kept.r1 {p0 : Nat × Option Addr × List Value} {C : Nat} {a : Option Addr} {xs : List Value} (h : Kept w0 w ows (p0 :: (C, a, xs) :: rds)) : Reads w w.heap.size a xs := h.at_ (C := C) (by simp)
theorem Kept.r2 {p0 p1 : Nat × Option Addr × List Value} {C : Nat} {a : Option Addr} {xs : List Value} (h : Kept w0 w ows (p0 :: p1 :: (C, a, xs) :: rds)) : Reads w w.heap.size a xs := h.at_ (C := C) (by simp)
theorem Kept.r3 {p0 p1 p2 : Nat × Option Addr × List Value} {C : Nat} {a : Option Addr} {xs : List Value} (h : Kept w0 w ows (p0 :: p1 :: p2 :: (C, a, xs) :: rds)) : Reads w w.heap.size a xs := h.at_ (C := C) (by simp)
theorem Kept.r4 {p0 p1 p2 p3 : Nat × Option Addr × List Value} {C : Nat} {a : Option Addr} {xs : List Value} (h : Kept w0 w ows (p0 :: p1 :: p2 :: p3 :: (C, a, xs) :: rds)) : Reads w w.heap.size a xs := h.at_ (C := C) (by simp)
end
theorem drewN_below {B : Nat} {w : World} (n : Nat) : Below B w (w.drewN n) := ⟨rfl, rfl, rfl, Nat.le_refl _, fun _ _ => rfl⟩
theorem keep8 {w6 w7 : World} {B0 B5 : Nat} {x0 x1 x2 x3 y0 y1 y2 y3 : Value} (f0 : w6.cell? ⟨B0, 0, none⟩ = some x0) (f1 : w6.cell? ⟨B0, 1, none⟩ = some x1) (f2 : w6.cell? ⟨B0, 2, none⟩ = some x2) (f3 : w6.cell? ⟨B0, 3, none⟩ = some x3)
    (g0 : w6.cell? ⟨B5, 0, none⟩ = some y0) (g1 : w6.cell? ⟨B5, 1, none⟩ = some y1) (g2 : w6.cell? ⟨B5, 2, none⟩ = some y2) (g3 : w6.cell? ⟨B5, 3, none⟩ = some y3)
    (lt0 : B0 < w6.heap.size) (lt5 : B5 < w6.heap.size) (hb : Below w6.drew.heap.size w6.drew w7) :
    w7.cell? ⟨B0, 0, none⟩ = some x0 ∧ w7.cell? ⟨B0, 1, none⟩ = some x1 ∧ w7.cell? ⟨B0, 2, none⟩ = some x2 ∧ w7.cell? ⟨B0, 3, none⟩ = some x3 ∧ w7.cell? ⟨B5, 0, none⟩ = some y0 ∧ w7.cell? ⟨B5, 1, none⟩ = some y1 ∧ w7.cell? ⟨B5, 2, none⟩ = some y2 ∧ w7.cell? ⟨B5, 3, none⟩ = some y3 :=
  ⟨(hb.cell (p := ⟨B0, 0, none⟩) lt0).trans f0, (hb.cell (p := ⟨B0, 1, none⟩) lt0).trans f1, (hb.cell (p := ⟨B0, 2, none⟩) lt0).trans f2, (hb.cell (p := ⟨B0, 3, none⟩) lt0).trans f3,
    (hb.cell (p := ⟨B5, 0, none⟩) lt5).trans g0, (hb.cell (p := ⟨B5, 1, none⟩) lt5).trans g1, (hb.cell (p := ⟨B5, 2, none⟩) lt5).trans g2, (hb.cell (p := ⟨B5, 3, none⟩) lt5).trans g3⟩
end Go.Proofs.YtdmnkcmkpjmfaaaGreat

/- What follows from a pair: the least set of pairs that is closed under the wires. -/
namespace Go.Proofs.YtdmnkcmkpjmfaaaGreat

/-- A wire: from a letter, to a letter, by a key. -/
structure Wire where
  f : Nat
  t : Nat
  p : Nat → Nat
/-- A pair follows from a pair if it is in each set that has this pair, is symmetric, and is closed under the wires. -/
def Imp (G : List Wire) (x y a b : Nat) : Prop :=
  ∀ R : Nat → Nat → Prop, R x y → (∀ a b, R a b → R b a) → (∀ r ∈ G, ∀ b, R r.f b → R r.t (r.p b)) → R a b
theorem Imp.base {G : List Wire} {x y : Nat} : Imp G x y x y := fun _ h _ _ => h
theorem Imp.symm {G : List Wire} {x y a b : Nat} (h : Imp G x y a b) : Imp G x y b a := fun R h0 h1 h2 => h1 _ _ (h R h0 h1 h2)
theorem Imp.step {G : List Wire} {x y : Nat} {r : Wire} {b : Nat} (hr : r ∈ G) (h : Imp G x y r.f b) : Imp G x y r.t (r.p b) := fun R h0 h1 h2 => h2 r hr b (h R h0 h1 h2)
theorem Imp.ind {G : List Wire} {x y : Nat} {motive : (a b : Nat) → Imp G x y a b → Prop} (base : motive x y Imp.base)
    (symm : ∀ {a b : Nat} (h : Imp G x y a b), motive a b h → motive b a h.symm)
    (step : ∀ {r : Wire} {b : Nat} (hr : r ∈ G) (h : Imp G x y r.f b), motive r.f b h → motive r.t (r.p b) (Imp.step hr h))
    {a b : Nat} (h : Imp G x y a b) : motive a b h :=
  (h (fun a b => ∃ k : Imp G x y a b, motive a b k) ⟨.base, base⟩ (fun _ _ ⟨k, m⟩ => ⟨k.symm, symm k m⟩) (fun _ hr _ ⟨k, m⟩ => ⟨.step hr k, step hr k m⟩)).elim fun _ m => m
/-- The wires stay among the ten letters. -/
def GOk (G : List Wire) : Prop := ∀ r ∈ G, r.f < 10 ∧ r.t < 10 ∧ ∀ b, b < 10 → r.p b < 10
theorem Imp.lt {G : List Wire} {x y a b : Nat} (hG : GOk G) (hx : x < 10) (hy : y < 10) (h : Imp G x y a b) : a < 10 ∧ b < 10 := by
  induction h using Imp.ind with
  | base => exact ⟨hx, hy⟩
  | symm _ ih => exact ⟨ih.2, ih.1⟩
  | step hr _ ih => exact ⟨(hG _ hr).2.1, (hG _ hr).2.2 _ ih.2⟩
open Classical in
/-- Whether a pair follows. -/
noncomputable def impB (G : List Wire) (x y a b : Nat) : Bool := decide (Imp G x y a b)
theorem impB_iff {G : List Wire} {x y a b : Nat} : impB G x y a b = true ↔ Imp G x y a b := by simp [impB]
theorem impB_symm (G : List Wire) (x y a b : Nat) : impB G x y a b = impB G x y b a := by
  rw [Bool.eq_iff_iff, impB_iff, impB_iff]; exact ⟨.symm, .symm⟩

/-- A set with one more pair. -/
def addR (R : Nat → Nat → Bool) (x y a b : Nat) : Bool := R a b || ((a == x && b == y) || (a == y && b == x))
theorem addR_old {R : Nat → Nat → Bool} {x y a b : Nat} (h : R a b = true) : addR R x y a b = true := by simp [addR, h]
theorem addR_new (R : Nat → Nat → Bool) (x y : Nat) : addR R x y x y = true := by simp [addR]
theorem addR_cases {R : Nat → Nat → Bool} {x y a b : Nat} (h : addR R x y a b = true) : R a b = true ∨ (a = x ∧ b = y) ∨ (a = y ∧ b = x) := by
  simpa [addR] using h
theorem addR_symm {R : Nat → Nat → Bool} (hs : ∀ a b, R a b = R b a) (x y a b : Nat) : addR R x y a b = addR R x y b a := by
  simp only [addR]
  rw [hs a b]
  congr 1
  rw [Bool.or_comm, Bool.and_comm (a == y), Bool.and_comm (a == x)]
theorem addR_same {R : Nat → Nat → Bool} (hs : ∀ a b, R a b = R b a) {x y : Nat} (h : R x y = true) : addR R x y = R := by
  funext a b
  rw [Bool.eq_iff_iff]
  refine ⟨fun h' => ?_, addR_old⟩
  rcases addR_cases h' with h' | ⟨rfl, rfl⟩ | ⟨rfl, rfl⟩
  · exact h'
  · exact h
  · rw [hs]; exact h

/-- What holds between the rounds of the search: 'todo' tells the pairs whose wires are being followed. -/
structure WInv (G : List Wire) (x y : Nat) (R : Nat → Nat → Bool) (work : List (Nat × Nat)) (todo : Nat → Nat → Prop) : Prop where
  sym : ∀ a b, R a b = R b a
  inn : ∀ a b, R a b = true → Imp G x y a b
  base : R x y = true
  wk : ∀ q ∈ work, R q.1 q.2 = true
  done : ∀ a b, R a b = true → (a, b) ∈ work ∨ todo a b ∨ ∀ r ∈ G, r.f = a → R r.t (r.p b) = true
section
variable {G : List Wire} {x y : Nat} {R : Nat → Nat → Bool} {work : List (Nat × Nat)}
theorem WInv.start : WInv G x y (addR (fun _ _ => false) x y) [(x, y), (y, x)] (fun _ _ => False) := by
  refine ⟨fun a b => addR_symm (fun _ _ => rfl) x y a b, fun a b h => ?_, addR_new _ _ _, fun q hq => ?_, fun a b h => ?_⟩
  · rcases addR_cases h with h | ⟨rfl, rfl⟩ | ⟨rfl, rfl⟩
    · cases h
    · exact .base
    · exact .symm .base
  · simp only [List.mem_cons, List.not_mem_nil, or_false] at hq
    rcases hq with rfl | rfl
    · exact addR_new _ _ _
    · rw [addR_symm (fun _ _ => rfl)]; exact addR_new _ _ _
  · rcases addR_cases h with h | ⟨rfl, rfl⟩ | ⟨rfl, rfl⟩
    · cases h
    · exact .inl (by simp)
    · exact .inl (by simp)
theorem WInv.pop {a0 b0 : Nat} (h : WInv G x y R (work ++ [(a0, b0)]) (fun _ _ => False)) : WInv G x y R work (fun a b => a = a0 ∧ b = b0) := by
  refine ⟨h.sym, h.inn, h.base, fun q hq => h.wk q (by simp [hq]), fun a b hab => ?_⟩
  rcases h.done a b hab with h1 | h1 | h1
  · simp only [List.mem_append, List.mem_singleton, Prod.mk.injEq] at h1
    rcases h1 with h1 | h1
    · exact .inl h1
    · exact .inr (.inl h1)
  · exact h1.elim
  · exact .inr (.inr h1)
theorem WInv.pop_in {a0 b0 : Nat} (h : WInv G x y R (work ++ [(a0, b0)]) (fun _ _ => False)) : R a0 b0 = true := h.wk (a0, b0) (by simp)
theorem WInv.add {todo : Nat → Nat → Prop} (h : WInv G x y R work todo) {r : Wire} {b : Nat} (hr : r ∈ G) (hb : R r.f b = true) : WInv G x y (addR R r.t (r.p b)) (work ++ [(r.t, r.p b), (r.p b, r.t)]) todo := by
  have hi : Imp G x y r.t (r.p b) := .step hr (h.inn _ _ hb)
  refine ⟨fun a b => addR_symm h.sym _ _ a b, fun a c hac => ?_, addR_old h.base, fun q hq => ?_, fun a c hac => ?_⟩
  · rcases addR_cases hac with h1 | ⟨rfl, rfl⟩ | ⟨rfl, rfl⟩
    · exact h.inn _ _ h1
    · exact hi
    · exact .symm hi
  · simp only [List.mem_append, List.mem_cons, List.not_mem_nil, or_false] at hq
    rcases hq with hq | rfl | rfl
    · exact addR_old (h.wk q hq)
    · exact addR_new _ _ _
    · rw [addR_symm h.sym]; exact addR_new _ _ _
  · rcases addR_cases hac with h1 | ⟨rfl, rfl⟩ | ⟨rfl, rfl⟩
    · rcases h.done a c h1 with h2 | h2 | h2
      · exact .inl (by simp [h2])
      · exact .inr (.inl h2)
      · exact .inr (.inr fun q hq hf => addR_old (h2 q hq hf))
    · exact .inl (by simp)
    · exact .inl (by simp)
theorem WInv.fin {a0 b0 : Nat} (h : WInv G x y R work (fun a b => a = a0 ∧ b = b0)) (hd : ∀ r ∈ G, r.f = a0 → R r.t (r.p b0) = true) : WInv G x y R work (fun _ _ => False) := by
  refine ⟨h.sym, h.inn, h.base, h.wk, fun a b hab => ?_⟩
  rcases h.done a b hab with h1 | ⟨rfl, rfl⟩ | h1
  · exact .inl h1
  · exact .inr (.inr hd)
  · exact .inr (.inr h1)
theorem WInv.end_ (h : WInv G x y R [] (fun _ _ => False)) : R = impB G x y := by
  funext a b
  rw [Bool.eq_iff_iff, impB_iff]
  refine ⟨h.inn a b, fun hi => ?_⟩
  induction hi using Imp.ind with
  | base => exact h.base
  | symm _ ih => rw [h.sym]; exact ih
  | step hr _ ih =>
    rcases h.done _ _ ih with h1 | h1 | h1
    · cases h1
    · exact h1.elim
    · exact h1 _ hr rfl
end

theorem filter_lt {α : Type} {P Q : α → Bool} : ∀ {l : List α} {y : α}, (∀ x, Q x = true → P x = true) → y ∈ l → P y = true → Q y = false → (l.filter Q).length < (l.filter P).length
  | z :: l, y, h, hy, hP, hQ => by
    have hle : (l.filter Q).length ≤ (l.filter P).length := by
      clear hy
      induction l with
      | nil => simp
      | cons u l ih =>
        by_cases hq : Q u = true
        · rw [List.filter_cons_of_pos hq, List.filter_cons_of_pos (h u hq)]; simpa using ih
        · rw [List.filter_cons_of_neg hq]
          by_cases hp : P u = true
          · rw [List.filter_cons_of_pos hp]; simp; omega
          · rw [List.filter_cons_of_neg hp]; exact ih
    rcases List.mem_cons.1 hy with rfl | hy
    · rw [List.filter_cons_of_neg (by simp [hQ]), List.filter_cons_of_pos hP]; simp; omega
    · have ih := filter_lt h hy hP hQ
      by_cases hq : Q z = true
      · rw [List.filter_cons_of_pos hq, List.filter_cons_of_pos (h z hq)]; simpa using ih
      · rw [List.filter_cons_of_neg hq]
        by_cases hp : P z = true
        · rw [List.filter_cons_of_pos hp]; simp; omega
        · rw [List.filter_cons_of_neg hp]; exact ih
/-- How many pairs are not in a set. -/
def miss (R : Nat → Nat → Bool) : Nat := ((List.range 100).filter fun i => !R (i / 10) (i % 10)).length
theorem miss_add {R : Nat → Nat → Bool} {x y : Nat} (hx : x < 10) (hy : y < 10) (h : R x y = false) : miss (addR R x y) < miss R := by
  refine filter_lt (y := x * 10 + y) (fun i hi => ?_) (by simp; omega) ?_ ?_
  · cases e : R (i / 10) (i % 10)
    · rfl
    · rw [addR_old e] at hi; cases hi
  · rw [show (x * 10 + y) / 10 = x by omega, show (x * 10 + y) % 10 = y by omega, h]; rfl
  · rw [show (x * 10 + y) / 10 = x by omega, show (x * 10 + y) % 10 = y by omega, addR_new]; rfl

/-- A pair, the lesser letter first. -/
def norm (x y : Nat) : Nat × Nat := if y < x then (y, x) else (x, y)
theorem norm_symm (x y : Nat) : norm x y = norm y x := by
  unfold norm
  by_cases h : y < x
  · rw [if_pos h, if_neg (by omega)]
  · by_cases h2 : x < y
    · rw [if_neg h, if_pos h2]
    · have : x = y := by omega
      subst this; rfl
theorem norm_le {x y : Nat} (h : x ≤ y) : norm x y = (x, y) := by unfold norm; rw [if_neg (by omega)]
theorem norm_ord (x y : Nat) : (norm x y).1 ≤ (norm x y).2 := by unfold norm; split <;> simp <;> omega
theorem norm_lt {x y : Nat} (hx : x < 10) (hy : y < 10) : (norm x y).1 < 10 ∧ (norm x y).2 < 10 := by unfold norm; split <;> simp <;> omega
theorem norm_cases (x y : Nat) : norm x y = (x, y) ∨ norm x y = (y, x) := by unfold norm; split <;> simp
/-- A list with one more pair, if it is not in it. -/
def addL (out : List (Nat × Nat)) (q : Nat × Nat) : List (Nat × Nat) := if q ∈ out then out else out ++ [q]
theorem addL_old {out : List (Nat × Nat)} {q z : Nat × Nat} (h : z ∈ out) : z ∈ addL out q := by unfold addL; split <;> simp [h]
theorem addL_new (out : List (Nat × Nat)) (q : Nat × Nat) : q ∈ addL out q := by unfold addL; split <;> simp_all
theorem addL_cases {out : List (Nat × Nat)} {q z : Nat × Nat} (h : z ∈ addL out q) : z ∈ out ∨ z = q := by
  unfold addL at h; split at h
  · exact .inl h
  · simpa using h
theorem addL_pre (out : List (Nat × Nat)) (q : Nat × Nat) : ∃ t, addL out q = out ++ t := by
  unfold addL; split
  · exact ⟨[], by simp⟩
  · exact ⟨[q], rfl⟩
/-- The pairs that follow from a pair by the wires of its first letter. -/
def fol (out : List (Nat × Nat)) (G : List Wire) (x y : Nat) : List (Nat × Nat) := G.foldl (fun o r => if r.f = x then addL o (norm r.t (r.p y)) else o) out
theorem fol_nil (out : List (Nat × Nat)) (x y : Nat) : fol out [] x y = out := rfl
theorem fol_cons (out : List (Nat × Nat)) (r : Wire) (G : List Wire) (x y : Nat) : fol out (r :: G) x y = fol (if r.f = x then addL out (norm r.t (r.p y)) else out) G x y := rfl
theorem fol_pre (x y : Nat) : ∀ (G : List Wire) (out : List (Nat × Nat)), ∃ t, fol out G x y = out ++ t
  | [], out => ⟨[], by simp [fol_nil]⟩
  | r :: G, out => by
    rw [fol_cons]
    obtain ⟨t, ht⟩ := fol_pre x y G (if r.f = x then addL out (norm r.t (r.p y)) else out)
    rw [ht]
    split
    · obtain ⟨u, hu⟩ := addL_pre out (norm r.t (r.p y))
      rw [hu]; exact ⟨u ++ t, by simp⟩
    · exact ⟨t, rfl⟩
theorem fol_old {out : List (Nat × Nat)} {G : List Wire} {x y : Nat} {z : Nat × Nat} (h : z ∈ out) : z ∈ fol out G x y := by
  obtain ⟨t, ht⟩ := fol_pre x y G out; rw [ht]; simp [h]
theorem fol_done (x y : Nat) : ∀ (G : List Wire) (out : List (Nat × Nat)), ∀ r ∈ G, r.f = x → norm r.t (r.p y) ∈ fol out G x y
  | q :: G, out, r, hr, hf => by
    rw [fol_cons]
    rcases List.mem_cons.1 hr with rfl | hr
    · rw [if_pos hf]; exact fol_old (addL_new _ _)
    · exact fol_done x y G _ r hr hf
theorem fol_in (x y : Nat) : ∀ (G : List Wire) (out : List (Nat × Nat)) (z : Nat × Nat), z ∈ fol out G x y → z ∈ out ∨ ∃ r ∈ G, r.f = x ∧ z = norm r.t (r.p y)
  | [], out, z, h => .inl h
  | r :: G, out, z, h => by
    rw [fol_cons] at h
    rcases fol_in x y G _ z h with h1 | ⟨q, hq, hf, e⟩
    · split at h1
      · rename_i hf
        rcases addL_cases h1 with h1 | h1
        · exact .inl h1
        · exact .inr ⟨r, by simp, hf, h1⟩
      · exact .inl h1
    · exact .inr ⟨q, by simp [hq], hf, e⟩
theorem addL_nodup {out : List (Nat × Nat)} (h : out.Nodup) (q : Nat × Nat) : (addL out q).Nodup := by
  unfold addL; split
  · exact h
  · rename_i hq
    rw [List.nodup_append]
    exact ⟨h, by simp, fun a ha b hb e => by simp at hb; subst hb; subst e; exact hq ha⟩
theorem fol_nodup (x y : Nat) : ∀ (G : List Wire) (out : List (Nat × Nat)), out.Nodup → (fol out G x y).Nodup
  | [], _, h => h
  | r :: G, out, h => by
    rw [fol_cons]
    refine fol_nodup x y G _ ?_
    split
    · exact addL_nodup h _
    · exact h

/-- What holds of the list of the pairs that are found: the first k are followed. -/
structure SInv (G : List Wire) (x y : Nat) (out : List (Nat × Nat)) (k : Nat) : Prop where
  inn : ∀ q ∈ out, Imp G x y q.1 q.2
  ord : ∀ q ∈ out, q.1 ≤ q.2
  base : norm x y ∈ out
  nodup : out.Nodup
  done : ∀ j (h : j < out.length), j < k → ∀ r ∈ G, (r.f = out[j].1 → norm r.t (r.p out[j].2) ∈ out) ∧ (r.f = out[j].2 → norm r.t (r.p out[j].1) ∈ out)
section
variable {G : List Wire} {x y : Nat} {out : List (Nat × Nat)} {k : Nat}
theorem Imp.norm {a b : Nat} (h : Imp G x y a b) : Imp G x y (norm a b).1 (norm a b).2 := by
  rcases norm_cases a b with e | e <;> rw [e]
  · exact h
  · exact h.symm
theorem SInv.start : SInv G x y [norm x y] 0 :=
  ⟨fun q hq => by simp at hq; subst hq; exact Imp.base.norm, fun q hq => by simp at hq; subst hq; exact norm_ord x y, by simp, by simp, fun j _ hj => absurd hj (by omega)⟩
theorem SInv.step (h : SInv G x y out k) (hk : k < out.length) : SInv G x y (fol (fol out G out[k].1 out[k].2) G out[k].2 out[k].1) (k + 1) := by
  have hi := h.inn _ (List.getElem_mem hk)
  obtain ⟨t, ht⟩ := fol_pre out[k].1 out[k].2 G out
  obtain ⟨u, hu⟩ := fol_pre out[k].2 out[k].1 G (fol out G out[k].1 out[k].2)
  have hall : ∀ z, z ∈ fol (fol out G out[k].1 out[k].2) G out[k].2 out[k].1 → z ∈ out ∨ ∃ r ∈ G, ∃ b, Imp G x y r.f b ∧ z = Go.Proofs.YtdmnkcmkpjmfaaaGreat.norm r.t (r.p b) := by
    intro z hz
    rcases fol_in _ _ _ _ _ hz with h1 | ⟨r, hr, hf, e⟩
    · rcases fol_in _ _ _ _ _ h1 with h2 | ⟨r, hr, hf, e⟩
      · exact .inl h2
      · exact .inr ⟨r, hr, _, hf ▸ hi, e⟩
    · exact .inr ⟨r, hr, _, hf ▸ hi.symm, e⟩
  refine ⟨fun q hq => ?_, fun q hq => ?_, fol_old (fol_old h.base), fol_nodup _ _ _ _ (fol_nodup _ _ _ _ h.nodup), fun j hj hjk r hr => ?_⟩
  · rcases hall q hq with h1 | ⟨r, hr, b, hb, rfl⟩
    · exact h.inn q h1
    · exact (Imp.step hr hb).norm
  · rcases hall q hq with h1 | ⟨r, hr, b, hb, rfl⟩
    · exact h.ord q h1
    · exact norm_ord _ _
  · have hjo : j < out.length := by omega
    have e : (fol (fol out G out[k].1 out[k].2) G out[k].2 out[k].1)[j] = out[j] := by
      have e1 : fol (fol out G out[k].1 out[k].2) G out[k].2 out[k].1 = out ++ (t ++ u) := by rw [hu, ht]; simp
      simp only [e1]
      rw [List.getElem_append_left hjo]
    rw [e]
    by_cases ej : j = k
    · subst ej
      exact ⟨fun hf => fol_old (fol_done _ _ G out r hr hf), fun hf => fol_done _ _ G _ r hr hf⟩
    · have := h.done j hjo (by omega) r hr
      exact ⟨fun hf => fol_old (fol_old (this.1 hf)), fun hf => fol_old (fol_old (this.2 hf))⟩
theorem SInv.end_ (h : SInv G x y out k) (hk : out.length ≤ k) (a b : Nat) : norm a b ∈ out ↔ Imp G x y a b := by
  refine ⟨fun hm => ?_, fun hi => ?_⟩
  · have := h.inn _ hm
    rcases norm_cases a b with e | e <;> rw [e] at this
    · exact this
    · exact this.symm
  · induction hi using Imp.ind with
    | base => exact h.base
    | symm _ ih => rw [norm_symm]; exact ih
    | @step r b hr _ ih =>
      obtain ⟨j, hj, e⟩ := List.getElem_of_mem ih
      have hd := h.done j hj (by omega) r hr
      rw [e] at hd
      rcases norm_cases r.f b with e2 | e2 <;> rw [e2] at hd
      · exact hd.1 rfl
      · exact hd.2 rfl
theorem nodup_range : ∀ (n : Nat) (l : List Nat), l.Nodup → (∀ x ∈ l, x < n) → l.length ≤ n
  | 0, l, _, h => by
    cases l with
    | nil => simp
    | cons a l => exact absurd (h a (by simp)) (by omega)
  | n + 1, l, hn, h => by
    by_cases hm : n ∈ l
    · have := nodup_range n (l.erase n) (hn.erase n) (fun x hx => by
        have h1 := (hn.mem_erase_iff).1 hx
        have := h x h1.2
        omega)
      rw [List.length_erase_of_mem hm] at this
      omega
    · have := nodup_range n l hn (fun x hx => by
        have h1 := h x hx
        have h2 : x ≠ n := fun e => hm (e ▸ hx)
        omega)
      omega
theorem nodup_pairs {l : List (Nat × Nat)} (hn : l.Nodup) (h : ∀ q ∈ l, q.1 < 10 ∧ q.2 < 10) : l.length ≤ 100 := by
  have h1 : (l.map fun q => q.1 * 10 + q.2).Nodup := by
    rw [List.Nodup, List.pairwise_map]
    refine List.Pairwise.imp_of_mem ?_ hn
    intro a b ha hb hne e
    have := h a ha; have := h b hb
    exact hne (Prod.ext (by omega) (by omega))
  have h3 := nodup_range 100 _ h1 (fun z hz => by
    obtain ⟨q, hq, rfl⟩ := List.mem_map.1 hz
    have := h q hq
    omega)
  simpa using h3
theorem SInv.few (h : SInv G x y out k) (hG : GOk G) (hx : x < 10) (hy : y < 10) : out.length ≤ 100 := nodup_pairs h.nodup fun q hq => (h.inn q hq).lt hG hx hy
end
end Go.Proofs.YtdmnkcmkpjmfaaaGreat

/- Laws of the pairs that follow: backwards, with more wires, and what a plugboard that keeps the wires tells. -/
namespace Go.Proofs.YtdmnkcmkpjmfaaaGreat

section
variable {G : List Wire} {x y a b c d : Nat}
theorem Imp.trans (h : Imp G x y a b) (k : Imp G a b c d) : Imp G x y c d := by
  induction k using Imp.ind with
  | base => exact h
  | symm _ ih => exact ih.symm
  | step hr _ ih => exact .step hr ih
theorem Imp.turn (h : Imp G x y a b) : Imp G y x a b := Imp.trans (Imp.symm Imp.base) h
theorem Imp.mono {G' : List Wire} (hs : ∀ r ∈ G, r ∈ G') (h : Imp G x y a b) : Imp G' x y a b := by
  induction h using Imp.ind with
  | base => exact .base
  | symm _ ih => exact ih.symm
  | step hr _ ih => exact .step (hs _ hr) ih
/-- Each wire has its way back. -/
def GSym (G : List Wire) : Prop := ∀ r ∈ G, ∃ q ∈ G, q.f = r.t ∧ q.t = r.f ∧ ∀ b, b < 10 → q.p (r.p b) = b
theorem Imp.back (hG : GOk G) (hS : GSym G) (hx : x < 10) (hy : y < 10) (h : Imp G x y a b) : Imp G a b x y := by
  induction h using Imp.ind with
  | base => exact .base
  | symm _ ih => exact ih.turn
  | @step r b hr hi ih =>
    obtain ⟨q, hq, e1, e2, e3⟩ := hS r hr
    have hb := (hi.lt hG hx hy).2
    have h1 : Imp G r.t (r.p b) q.t (q.p (r.p b)) := .step hq (by rw [e1]; exact .base)
    rw [e2, e3 b hb] at h1
    exact h1.trans ih
theorem Imp.same (hG : GOk G) (hS : GSym G) (hx : x < 10) (hy : y < 10) (h : Imp G x y a b) : impB G a b = impB G x y := by
  funext c d
  rw [Bool.eq_iff_iff, impB_iff, impB_iff]
  exact ⟨h.trans, (h.back hG hS hx hy).trans⟩
theorem impB_turn (G : List Wire) (x y : Nat) : impB G y x = impB G x y := by
  funext c d
  rw [Bool.eq_iff_iff, impB_iff, impB_iff]
  exact ⟨Imp.turn, Imp.turn⟩
theorem impB_mem {G G' : List Wire} (h : ∀ r, r ∈ G ↔ r ∈ G') (x y : Nat) : impB G x y = impB G' x y := by
  funext c d
  rw [Bool.eq_iff_iff, impB_iff, impB_iff]
  exact ⟨.mono fun r hr => (h r).1 hr, .mono fun r hr => (h r).2 hr⟩
/-- If a plugboard keeps the wires, only its pairs follow from its pairs. -/
theorem Imp.true_ {s : Nat → Nat} (hG : GOk G) (hl : ∀ a, a < 10 → s a < 10) (hs : ∀ a, a < 10 → s (s a) = a) (hk : ∀ r ∈ G, r.p (s r.f) = s r.t) (hx : x < 10) (h : Imp G x (s x) a b) : b = s a := by
  have hlt : ∀ a b, Imp G x (s x) a b → a < 10 := fun a b h => (h.lt hG hx (hl x hx)).1
  induction h using Imp.ind with
  | base => rfl
  | @symm a b h ih => rw [ih, hs a (hlt a b h)]
  | @step r b hr _ ih => rw [ih, hk r hr]
end

/-- No letter is in pairs with different letters. -/
def oneB (R : Nat → Nat → Bool) : Bool := (List.range 10).all fun a => (List.range 10).all fun b => (List.range 10).all fun c => !(R a b && R a c) || b == c
theorem oneB_iff {R : Nat → Nat → Bool} : oneB R = true ↔ ∀ a b c, a < 10 → b < 10 → c < 10 → R a b = true → R a c = true → b = c := by
  simp only [oneB, List.all_eq_true, List.mem_range, Bool.or_eq_true, Bool.not_eq_true', Bool.and_eq_false_iff, beq_iff_eq]
  constructor
  · intro h a b c ha hb hc h1 h2
    rcases h a ha b hb c hc with (h | h) | h
    · rw [h1] at h; cases h
    · rw [h2] at h; cases h
    · exact h
  · intro h a ha b hb c hc
    by_cases h1 : R a b = true
    · by_cases h2 : R a c = true
      · exact .inr (h a b c ha hb hc h1 h2)
      · exact .inl (.inr (by simpa using h2))
    · exact .inl (.inl (by simpa using h1))
/-- The partner of a letter, or the letter itself. -/
def mate (R : Nat → Nat → Bool) (a : Nat) : Nat := ((List.range 10).find? fun b => R a b).getD a
theorem mate_lt {R : Nat → Nat → Bool} {a : Nat} (ha : a < 10) : mate R a < 10 := by
  unfold mate
  cases e : (List.range 10).find? fun b => R a b with
  | none => exact ha
  | some b => have := List.mem_of_find?_eq_some e; simpa using this
theorem mate_in {R : Nat → Nat → Bool} {a b : Nat} (hb : b < 10) (h : R a b = true) : R a (mate R a) = true := by
  unfold mate
  cases e : (List.range 10).find? fun b => R a b with
  | none => rw [List.find?_eq_none] at e; exact absurd h (e b (by simpa using hb))
  | some c => exact List.find?_some e
theorem mate_eq {R : Nat → Nat → Bool} {a b : Nat} (hone : oneB R = true) (ha : a < 10) (hb : b < 10) (h : R a b = true) : mate R a = b :=
  oneB_iff.1 hone a _ b ha (mate_lt ha) hb (mate_in hb h) h
theorem mate_none {R : Nat → Nat → Bool} {a : Nat} (h : ∀ b, b < 10 → R a b = false) : mate R a = a := by
  unfold mate
  rw [List.find?_eq_none.2 (fun b hb => by rw [h b (by simpa using hb)]; simp)]
  rfl
theorem mate_mate {R : Nat → Nat → Bool} (hs : ∀ a b, R a b = R b a) (hone : oneB R = true) {a : Nat} (ha : a < 10) : mate R (mate R a) = a := by
  by_cases h : ∃ b, b < 10 ∧ R a b = true
  · obtain ⟨b, hb, h⟩ := h
    rw [mate_eq hone ha hb h]
    exact mate_eq hone hb ha (by rw [hs]; exact h)
  · have hn : mate R a = a := mate_none fun b hb => by
      rw [Bool.eq_false_iff]; exact fun e => h ⟨b, hb, e⟩
    rw [hn, hn]
end Go.Proofs.YtdmnkcmkpjmfaaaGreat
