/- Several of my texts in one: DrawB, DrawM2, ProdS, DayQ, Fix, Rep, Ints. -/
import Derived.Test.YtdmnkcmkpjmfaaaGreatM15
import Derived.Test.YtdmnkcmkpjmfaaaGreatM7
import Derived.Test.YtdmnkcmkpjmfaaaGreatM13
import Derived.Test.YtdmnkcmkpjmfaaaGreatM5
import Derived.Test.YtdmnkcmkpjmfaaaGreatM11
import Derived.Test.YtdmnkcmkpjmfaaaGreatM9
import Derived.Test.YtdmnkcmkpjmfaaaGreatM10
import Derived.Test.YtdmnkcmkpjmfaaaGreatM3
/- Menus turned into ones that are sometimes not valid. -/
namespace Go.Proofs.YtdmnkcmkpjmfaaaGreat
open Go.RowKit

def SmT (ms : List Lnk) : Prop := ∀ x ∈ ms, x.p.size ≤ 10 ∧ x.c.size ≤ 10
theorem lks_set : ∀ (ms : List Lnk) (k : Nat) (h : k < ms.length),
    (∀ s, (lks ms).set (k * 3) (.string s) = lks (ms.set k ⟨s, ms[k].c, ms[k].k⟩)) ∧ (∀ s, (lks ms).set (k * 3 + 1) (.string s) = lks (ms.set k ⟨ms[k].p, s, ms[k].k⟩)) ∧ (∀ n, (lks ms).set (k * 3 + 2) (.int .i64 n) = lks (ms.set k ⟨ms[k].p, ms[k].c, n⟩))
  | x :: ms, 0, _ => ⟨fun _ => rfl, fun _ => rfl, fun _ => rfl⟩
  | x :: ms, k + 1, h => by
    have ih := lks_set ms k (by simpa using h)
    rw [show (k + 1) * 3 = k * 3 + 1 + 1 + 1 by omega]
    refine ⟨fun s => ?_, fun s => ?_, fun n => ?_⟩
    · simp only [lks, List.set_cons_succ, ih.1, List.getElem_cons_succ]
    · rw [show k * 3 + 1 + 1 + 1 + 1 = (k * 3 + 1) + 1 + 1 + 1 by omega]
      simp only [lks, List.set_cons_succ, ih.2.1, List.getElem_cons_succ]
    · rw [show k * 3 + 1 + 1 + 1 + 2 = (k * 3 + 2) + 1 + 1 + 1 by omega]
      simp only [lks, List.set_cons_succ, ih.2.2, List.getElem_cons_succ]
theorem smT_set {ms : List Lnk} (h : SmT ms) {k : Nat} {x : Lnk} (hp : x.p.size ≤ 10) (hc : x.c.size ≤ 10) : SmT (ms.set k x) := by
  intro y hy
  rcases List.mem_or_eq_of_mem_set hy with h1 | rfl
  · exact h y h1
  · exact ⟨hp, hc⟩
theorem one_lks : ∀ (ms : List Lnk), ∀ u ∈ lks ms, u.oneCell' = true
  | [], u, h => by cases h
  | x :: ms, u, h => by
    simp only [lks, List.mem_cons] at h
    rcases h with rfl | rfl | rfl | h
    · rfl
    · rfl
    · rfl
    · exact one_lks ms u h
theorem Tu.below2 {R g B : Nat} {a b c : World} (h : Tu R g a b) (k : Below B b c) (hB : a.heap.size ≤ B) : Tu R g a c :=
  ⟨k.os.trans h.os, k.tape.trans h.tape, k.output.trans h.output, Nat.le_trans h.size k.size, fun i hi h1 h2 => (k.block i (by omega)).trans (h.block i hi h1 h2)⟩
/-- What such a turning leaves. -/
def MenB (R g c : Nat) (w : World) (e : Ending) (w' : World) : Prop :=
  ∃ (ms : List Lnk) (a : Option Addr) (cap : Nat), e = .returned (.slice a ms.length cap) ∧ SmT ms ∧ (ms.length ≤ 24 ∧ ms.length ≤ cap) ∧ Reads w' w'.heap.size a (lks ms) ∧ (∀ ad, a = some ad → ad.block = g ∨ w.heap.size ≤ ad.block) ∧ Rd w' R c ∧ Tu R g w w'
set_option maxRecDepth 100000 in
set_option maxHeartbeats 2000000 in
theorem l12Bad_any (R g cm base : Nat) (ms : List Lnk) (c : Nat) (w : World) (h : Rd w R c) (hc : c ≤ 6000000) (h1 : 1 ≤ ms.length) (h12 : ms.length ≤ 12) (hsm : SmT ms) (hown : OwR w base 72 3 (.slice (some ⟨g, 0, none⟩) ms.length cm) ms.length (lks ms)) (hRg : R < g) :
    Calls Tryz.prog 132 #[.pointer (some ⟨R, 0, none⟩), .slice (some ⟨g, 0, none⟩) ms.length cm] w (MenB R g (c + 5) w) := by
  have lg := (World.ownsRow.lt hown g rfl).2
  have hcm : ms.length ≤ cm := by obtain ⟨_, c', e1, e2, -⟩ := OwR.val hown; cases e1; exact e2
  have og0 := OwR.own hown
  have HSM := Lib.hid hsm
  clear hsm hown
  go_enter Tryz.func132, Tryz.ntmps132
  go_wp2_with fail
  refine (pick_any R _ c _ h (by omega) (by omega) (by omega)).mono ?_
  rintro e w1 ⟨z, rfl, hz0, hz1, _, hr1, hm1⟩
  have hzl := hz1 (by omega)
  have og1 := og0.grown hm1 (by simp; omega)
  have ht1 := (Tu.refl R g w).moved hm1
  clear h og0 hm1 hz1
  obtain ⟨k, rfl⟩ := Int.eq_ofNat_of_zero_le hz0
  have hk : k < ms.length := by omega
  have q1 : (0 : Int) ≤ (k : Int) := by omega
  have q2 : (k : Int) < (ms.length : Int) := by omega
  go_wp2_with fail
  refine (pick_any R _ _ _ hr1 (by omega) (by omega) (by omega)).mono ?_
  rintro e w2 ⟨v, rfl, hv0, _, _, hr2, hm2⟩
  have og2 := og1.grown hm2 (by simp; omega)
  have ht2 := ht1.moved hm2
  clear og1 ht1 hr1 hm2
  have hll := len_lks ms
  have HST := Lib.hid (lks_set ms k hk)
  have hxk := HSM.out ms[k] (List.getElem_mem hk)
  have hz := ht2.size
  by_cases e0 : v = 0
  · have t0 : (v == 0) = true := by simp [e0]
    clear e0
    have c1 := og2.at_ (lks_at1 ms k hk)
    have c0 := og2.at_ (lks_at0 ms k hk)
    have b0 := og2.free (k * 3) (by omega)
    have og3 := og2.set_ (i := k * 3) (by omega) (.string ms[k].c)
    rw [HST.out.1] at og3
    have HS2 := Lib.hid (smT_set (k := k) (x := ⟨ms[k].c, ms[k].c, ms[k].k⟩) HSM.out hxk.2 hxk.2)
    have HLN : Hid ((ms.set k ⟨ms[k].c, ms[k].c, ms[k].k⟩).length = ms.length) := Lib.hid (List.length_set ..)
    generalize ms.set k ⟨ms[k].c, ms[k].c, ms[k].k⟩ = ms' at *
    generalize ms[k].c = y at *
    go_wp2
    go_ret
    exact ⟨ms', some ⟨g, 0, none⟩, cm, by rw [HLN.out]; rfl, HS2.out, ⟨by rw [HLN.out]; omega, by rw [HLN.out]; exact hcm⟩, Reads.of_own og3 og3.lt, fun ad e => by cases e; exact .inl rfl, (hr2.far (p := ⟨g, k * 3, none⟩) hRg _).more (by omega), ht2.set_ (.inr (.inl rfl)) _⟩
  · have t0 : (v == 0) = false := by simp [e0]
    clear e0
    by_cases e1 : v = 1
    · have t1 : (v == 1) = true := by simp [e1]
      clear e1
      have og3 := og2.alloc (.cells [.int .i64 0, .int .i64 61, .int .i64 (-1), .int .i64 1].toArray 3)
      have hr3 := hr2.alloc (.cells [.int .i64 0, .int .i64 61, .int .i64 (-1), .int .i64 1].toArray 3)
      have ht3 := ht2.alloc (.cells [.int .i64 0, .int .i64 61, .int .i64 (-1), .int .i64 1].toArray 3)
      have lR := hr2.lt
      go_wp2_with fail
      refine (num_any R _ _ _ [0, 61, -1, 1] _ _ rfl (Own.new _ _ _) (by simp) (by omega) hr3 (by omega) (by simp)).mono ?_
      rintro e w4 ⟨y, -, rfl, hr4, hm4⟩
      have og4 := og3.grown hm4 (by simp; omega)
      have ht4 := ht3.moved hm4
      clear og2 og3 hr3 ht2 ht3 hm4 hr2
      have c2 := og4.at_ (lks_at2 ms k hk)
      have b0 := og4.free (k * 3 + 2) (by omega)
      have og5 := og4.set_ (i := k * 3 + 2) (by omega) (.int .i64 y)
      rw [HST.out.2.2] at og5
      have HS2 := Lib.hid (smT_set (k := k) (x := ⟨ms[k].p, ms[k].c, y⟩) HSM.out hxk.1 hxk.2)
      have HLN : Hid ((ms.set k ⟨ms[k].p, ms[k].c, y⟩).length = ms.length) := Lib.hid (List.length_set ..)
      generalize ms.set k ⟨ms[k].p, ms[k].c, y⟩ = ms' at *
      go_wp2
      go_ret
      exact ⟨ms', some ⟨g, 0, none⟩, cm, by rw [HLN.out]; rfl, HS2.out, ⟨by rw [HLN.out]; omega, by rw [HLN.out]; exact hcm⟩, Reads.of_own og5 og5.lt, fun ad e => by cases e; exact .inl rfl, (hr4.far (p := ⟨g, k * 3 + 2, none⟩) hRg _).more (by omega), ht4.set_ (.inr (.inl rfl)) _⟩
    · have t1 : (v == 1) = false := by simp [e1]
      clear e1
      by_cases e2 : v = 2
      · have t2 : (v == 2) = true := by simp [e2]
        clear e2
        have og3 := og2.alloc (.cells [.string ⟨#[]⟩, .string ⟨#[107]⟩, .string ⟨#[97, 98]⟩].toArray 9)
        have hr3 := hr2.alloc (.cells [.string ⟨#[]⟩, .string ⟨#[107]⟩, .string ⟨#[97, 98]⟩].toArray 9)
        have ht3 := ht2.alloc (.cells [.string ⟨#[]⟩, .string ⟨#[107]⟩, .string ⟨#[97, 98]⟩].toArray 9)
        have lR := hr2.lt
        go_wp2_with fail
        refine (of_any R _ _ _ [⟨#[]⟩, ⟨#[107]⟩, ⟨#[97, 98]⟩] _ _ rfl (Own.new _ _ _) (by simp) (by omega) hr3 (by omega) (by simp)).mono ?_
        rintro e w4 ⟨y, hy, rfl, hr4, hm4⟩
        have hys : y.size ≤ 10 := by
          simp only [List.mem_cons, List.not_mem_nil, or_false] at hy
          rcases hy with rfl | rfl | rfl <;> decide
        have og4 := og3.grown hm4 (by simp; omega)
        have ht4 := ht3.moved hm4
        clear og2 og3 hr3 ht2 ht3 hm4 hr2 hy
        have c2 := og4.at_ (lks_at1 ms k hk)
        have b0 := og4.free (k * 3 + 1) (by omega)
        have og5 := og4.set_ (i := k * 3 + 1) (by omega) (.string y)
        rw [HST.out.2.1] at og5
        have HS2 := Lib.hid (smT_set (k := k) (x := ⟨ms[k].p, y, ms[k].k⟩) HSM.out hxk.1 hys)
        have HLN : Hid ((ms.set k ⟨ms[k].p, y, ms[k].k⟩).length = ms.length) := Lib.hid (List.length_set ..)
        generalize ms.set k ⟨ms[k].p, y, ms[k].k⟩ = ms' at *
        go_wp2
        go_ret
        exact ⟨ms', some ⟨g, 0, none⟩, cm, by rw [HLN.out]; rfl, HS2.out, ⟨by rw [HLN.out]; omega, by rw [HLN.out]; exact hcm⟩, Reads.of_own og5 og5.lt, fun ad e => by cases e; exact .inl rfl, (hr4.far (p := ⟨g, k * 3 + 1, none⟩) hRg _).more (by omega), ht4.set_ (.inr (.inl rfl)) _⟩
      · have t2 : (v == 2) = false := by simp [e2]
        clear e2
        by_cases e3 : v = 3
        · have t3 : (v == 3) = true := by simp [e3]
          clear e3
          have og3 := og2.alloc (.cells #[] 72)
          have hr3 := hr2.alloc (.cells #[] 72)
          have ht3 := ht2.alloc (.cells #[] 72)
          have z3 : OwR (w2.alloc (.cells #[] 72)) w2.heap.size 72 3 (.slice (some ⟨w2.heap.size, 0, none⟩) 0 0) 0 [] := World.ownsRow_lit (base := w2.heap.size) (e := 72) (size := 3) w2 #[] 0 (Nat.le_refl _) (by unfold maxLen; omega) (by simp)
          have hn1 : ∀ j u, (lks ms)[j]? = some u → (w2.alloc (.cells #[] 72)).cell? ((⟨g, 0, none⟩ : Addr).add j) = some u := fun j u hu => by
            rw [add_none, Nat.zero_add, og3.cell j (List.getElem?_eq_some_iff.1 hu).1]; exact hu
          have hl1 : (lks ms).length = ms.length * 3 := by omega
          have hz3 : w2.heap.size ≤ (w2.alloc (.cells #[] 72)).heap.size := by simp
          have lg2 : g < w2.heap.size := og2.lt
          have lR := hr2.lt
          clear og2 hr2 ht2
          go_wp2_with (first | (at_builtin; ((with_reducible refine wl_pushs 38 72 inf_lnk Tryz.underlying38 rfl (by omega) z3 hz3 hl1 hn1 (one_lks ms) (by omega) (by omega) (by omega) rfl rfl ?_); intro g5 cap5 w5 o5 b5 k5; simp only [Nat.zero_add, List.nil_append] at o5 ⊢; have z5 := b5.size; have og5 := og3.below b5 lg2; have hn2 : ∀ j u, (lks ms)[j]? = some u → w5.cell? ((⟨g, 0, none⟩ : Addr).add j) = some u := fun j u hu => by rw [add_none, Nat.zero_add, og5.cell j (List.getElem?_eq_some_iff.1 hu).1]; exact hu)) | (at_builtin; ((with_reducible refine wl_pushs 38 72 inf_lnk Tryz.underlying38 rfl (by omega) o5 (Nat.le_trans hz3 z5) hl1 hn2 (one_lks ms) (by omega) (by omega) (by omega) rfl rfl ?_); intro g6 cap6 w6 o6 b6 k6; have z6 := b6.size)))
          go_ret
          have hb6 := b5.trans b6
          have hrow : OwR w6 w2.heap.size 72 3 (.slice (some ⟨g6, 0, none⟩) (ms.length + ms.length) cap6) (ms.length + ms.length) (lks ms ++ lks ms) := o6
          have hg6 := (World.ownsRow.lt o6 g6 rfl).1
          have oo := OwR.own hrow
          rw [← lks_append] at oo
          have hc6 : ms.length + ms.length ≤ cap6 := by obtain ⟨_, c', e1, e2, -⟩ := OwR.val hrow; cases e1; exact e2
          refine ⟨ms ++ ms, some ⟨g6, 0, none⟩, cap6, by rw [List.length_append]; rfl, fun x hx => ?_, ⟨by rw [List.length_append]; omega, by rw [List.length_append]; exact hc6⟩, Reads.of_own oo oo.lt, fun ad e => by cases e; exact .inr (by simp only; omega), (hr3.below hb6 lR).more (by omega), ht3.below2 hb6 hz⟩
          rcases List.mem_append.1 hx with h1 | h1
          · exact HSM.out x h1
          · exact HSM.out x h1
        · have t3 : (v == 3) = false := by simp [e3]
          clear e3
          by_cases e4 : v = 4
          · have t4 : (v == 4) = true := by simp [e4]
            clear e4
            have q5 : (0 : Int) ≤ (cm : Int) := by omega
            go_wp2
            go_ret
            refine ⟨[], some ⟨g, 0, none⟩, cm, rfl, (show SmT [] from fun x hx => by cases hx), ⟨by simp, by simp⟩, Reads.nil_, fun ad e => ?_, hr2.more (by omega), ht2⟩
            cases e; exact .inl rfl
          · have t4 : (v == 4) = false := by simp [e4]
            clear e4
            go_wp2
            go_ret
            exact ⟨ms, some ⟨g, 0, none⟩, cm, rfl, HSM.out, by omega, Reads.of_own og2 og2.lt, fun ad e => by cases e; exact .inl rfl, hr2.more (by omega), ht2⟩
end Go.Proofs.YtdmnkcmkpjmfaaaGreat

/- What CheckMenu is drawn. -/
namespace Go.Proofs.YtdmnkcmkpjmfaaaGreat
open Go.RowKit

theorem Moved.tu {R g : Nat} {a b c : World} (h : Moved R a b) (t : Tu R g b c) (hg : a.heap.size ≤ g) : Moved R a c :=
  ⟨t.os.trans h.os, t.tape.trans h.tape, t.output.trans h.output, Nat.le_trans h.size t.size, fun i hi hr => (t.block i (Nat.lt_of_lt_of_le hi h.size) (by simpa using hr) (by omega)).trans (h.block i hi hr)⟩
theorem Reads.tu {R g : Nat} {a b : World} {x : Option Addr} {xs : List Value} (h : Reads a a.heap.size x xs) (t : Tu R g a b) (hx : ∀ ad, x = some ad → ad.block ≠ R ∧ ad.block ≠ g) : Reads b b.heap.size x xs := by
  rcases h with h | ⟨k, off, rfl, hk, hc⟩
  · exact .inl h
  · refine .inr ⟨k, off, rfl, Nat.lt_of_lt_of_le hk t.size, fun i hi => ?_⟩
    rw [← hc i hi]
    have := hx _ rfl
    exact World.cell?_of_block (w := a) (t.block k hk this.1 this.2)
/-- A machine, windows and a menu, sometimes not valid. -/
def OpnL (R c : Nat) (w : World) (e : Ending) (w' : World) : Prop :=
  ∃ (m : Mach) (v : ByteArray) (ms : List Lnk) (a am : Option Addr) (cap cm : Nat), SmallM m ∧ v.size ≤ 300 ∧ SmT ms ∧ (ms.length ≤ 24 ∧ ms.length ≤ cm) ∧
    e = .returned (.tuple #[.agg #[.slice a m.wheels.rotors.length cap, .string m.wheels.refl, .string m.rings, .string m.plugs], .string v, .slice am ms.length cm]) ∧
    Reads w' w'.heap.size a (rvs m.wheels.rotors) ∧ Reads w' w'.heap.size am (lks ms) ∧ (∀ ad, a = some ad → w.heap.size < ad.block) ∧ (∀ ad, am = some ad → w.heap.size < ad.block) ∧ Rd w' R c ∧ Moved R w w'
set_option maxRecDepth 100000 in
set_option maxHeartbeats 2000000 in
theorem l13Open_any (R : Nat) (c : Nat) (w : World) (h : Rd w R c) (hc : c ≤ 4000000) :
    Calls Tryz.prog 85 #[.pointer (some ⟨R, 0, none⟩)] w (OpnL R (c + 1000) w) := by
  have hltR := h.lt
  have o0 := Own.new w [.slice none 0 0, .string ⟨#[]⟩, .string ⟨#[]⟩, .string ⟨#[]⟩] 36
  have hr0 := h.alloc (.cells #[.slice none 0 0, .string ⟨#[]⟩, .string ⟨#[]⟩, .string ⟨#[]⟩] 36)
  have hm0 := (Moved.refl R w).alloc (.cells #[.slice none 0 0, .string ⟨#[]⟩, .string ⟨#[]⟩, .string ⟨#[]⟩] 36)
  go_enter Tryz.func85, Tryz.ntmps85
  go_wp2_with fail
  refine (l13Some_any R c _ hr0 (by omega)).mono ?_
  rintro e w2 ⟨m, v, ms, g, cp, gm, cm, hx, hset, rfl, hown2, hg, hl1, hl12, hsm, hrow2, hgg, hgm, hr2, hm2⟩
  have o2 := o0.grown hm2 (by simp; omega)
  have hmw2 := hm0.trans hm2
  have hv3 := setB_3 hset
  have hv1 := setB_1 hset
  rw [World.size_alloc] at hown2 hg hrow2 hgm
  clear o0 hr0 hm0 hm2 h
  generalize hB0 : w.heap.size = B0 at *
  have HB0 := Lib.hid hB0
  clear hB0
  have HSM : Hid (SmT ms) := Lib.hid hsm
  clear hsm
  have p2 := Own.new w2 [.slice (some ⟨g, 0, none⟩) m.wheels.rotors.length cp, .string m.wheels.refl, .string m.rings, .string m.plugs] 36
  have o3 := o2.alloc (.cells [.slice (some ⟨g, 0, none⟩) m.wheels.rotors.length cp, .string m.wheels.refl, .string m.rings, .string m.plugs].toArray 36)
  have hr3 := hr2.alloc (.cells [.slice (some ⟨g, 0, none⟩) m.wheels.rotors.length cp, .string m.wheels.refl, .string m.rings, .string m.plugs].toArray 36)
  have hown3 := World.ownsRow.alloc hown2 (.cells [.slice (some ⟨g, 0, none⟩) m.wheels.rotors.length cp, .string m.wheels.refl, .string m.rings, .string m.plugs].toArray 36)
  have hrow3 := World.ownsRow.alloc hrow2 (.cells [.slice (some ⟨g, 0, none⟩) m.wheels.rotors.length cp, .string m.wheels.refl, .string m.rings, .string m.plugs].toArray 36)
  have hm3 := hmw2.alloc (.cells [.slice (some ⟨g, 0, none⟩) m.wheels.rotors.length cp, .string m.wheels.refl, .string m.rings, .string m.plugs].toArray 36)
  have l2 := o2.lt
  have lg := (World.ownsRow.lt hown2 g rfl).2
  have lgm := (World.ownsRow.lt hrow2 gm rfl).2
  have f0 := p2.at_ (i := 0) rfl
  have f1 := p2.at_ (i := 1) rfl
  have f2 := p2.at_ (i := 2) rfl
  have f3 := p2.at_ (i := 3) rfl
  have hzW : (w2.alloc (.cells [.slice (some ⟨g, 0, none⟩) m.wheels.rotors.length cp, .string m.wheels.refl, .string m.rings, .string m.plugs].toArray 36)).heap.size = w2.heap.size + 1 := by simp
  have HZW := Lib.hid hzW
  clear hzW
  go_wp2_with fail
  generalize (w2.alloc (.cells [.slice (some ⟨g, 0, none⟩) m.wheels.rotors.length cp, .string m.wheels.refl, .string m.rings, .string m.plugs].toArray 36)) = W2 at *
  generalize w2.heap.size = B2 at *
  clear o2 hr2 hown2 hrow2 hmw2
  have hrow3' : OwR W2 (B0 + 1) 72 3 (.slice (some ⟨gm, 0, none⟩) ms.length cm) ms.length (lks ms) := hrow3
  refine (l8Bad_any R g cp _ m v _ _ hr3 (by omega) hx hset hown3 (by omega)).mono ?_
  rintro e w6 ⟨m6, a6, cap6, hm6, rfl, hrd6, hbl6, hr6, ht6⟩
  have hW2 := HZW.out
  have o6 := o3.tu ht6 (by omega) (by omega)
  have hrow6 := OwR.same hrow3' (ht6.block gm (by omega) (by omega) hgg)
  have hmw6 := hm3.tu ht6 (by rw [HB0.out]; omega)
  have hbl : ∀ ad, a6 = some ad → B0 < ad.block ∧ ad.block ≠ R ∧ ad.block ≠ gm := fun ad h => by
    have h1 := hbl6 ad h
    omega
  have HBL := Lib.hid hbl
  have HM := Lib.hid hm6
  have hz6 := ht6.size
  clear f0 f1 f2 f3 p2 o3 hr3 hown3 hrow3 hrow3' hm3 ht6 hm6 hbl6 hbl
  go_wp2_with fail
  refine (l8Off_any R v _ _ hr6 (by omega) hv1 (by omega)).mono ?_
  rintro e w7 ⟨v7, hv7, rfl, hr7, hm7⟩
  have o7 := o6.grown hm7 (by simp; omega)
  have hrow7 := OwR.movedR hrow6 hm7 (by simp [Value.ownBlock]; omega)
  have hmw7 := hmw6.trans hm7
  have hrd7 := Reads.moved hrd6 hm7 (fun ad h => (HBL.out ad h).2.1) (Nat.le_refl _)
  have hz7 := hm7.size
  clear o6 hrow6 hmw6 hrd6 hr6 hm7
  go_wp2_with fail
  refine (l12Bad_any R gm cm _ ms _ _ hr7 (by omega) hl1 hl12 HSM.out hrow7 (by omega)).mono ?_
  rintro e w8 ⟨ms8, a8, cap8, rfl, hsm8, hl8, hrd8, hbl8, hr8, ht8⟩
  have o8 := o7.tu ht8 (by omega) (by omega)
  have hmw8 := hmw7.tu ht8 (by rw [HB0.out]; omega)
  have hra8 := hrd7.tu ht8 (fun ad h => (HBL.out ad h).2)
  have hb8 : ∀ ad, a8 = some ad → B0 < ad.block := fun ad h => by
    have h1 := hbl8 ad h
    omega
  have HB8 := Lib.hid hb8
  have HS8 := Lib.hid hsm8
  have HR8 := Lib.hid hrd8
  have HA8 := Lib.hid hra8
  clear o7 hrow7 hmw7 hrd7 hr7 ht8 hbl8 hb8 hsm8 hrd8 hra8
  have c0 := o8.at_ (i := 0) rfl
  have c1 := o8.at_ (i := 1) rfl
  have c2 := o8.at_ (i := 2) rfl
  have c3 := o8.at_ (i := 3) rfl
  have b0 := o8.free 0 (by simp)
  have b1 := o8.free 1 (by simp)
  have b2 := o8.free 2 (by simp)
  have b3 := o8.free 3 (by simp)
  go_wp2
  have oz := o8.set4 (.slice a6 m6.wheels.rotors.length cap6) (.string m6.wheels.refl) (.string m6.rings) (.string m6.plugs)
  have k0 := oz.at_ (i := 0) rfl
  have k1 := oz.at_ (i := 1) rfl
  have k2 := oz.at_ (i := 2) rfl
  have k3 := oz.at_ (i := 3) rfl
  refine bodyPost_ret (v := .tuple #[.agg #[.slice a6 m6.wheels.rotors.length cap6, .string m6.wheels.refl, .string m6.rings, .string m6.plugs], .string v7, .slice a8 ms8.length cap8]) (by unfold set4 at *; simp [results, Tryz.results85, go_sem, k0, k1, k2, k3]) rfl ?_
  refine ⟨m6, v7, ms8, a6, a8, cap6, cap8, HM.out, hv7, HS8.out, hl8, rfl, ?_, ?_, fun ad h => by rw [HB0.out]; exact (HBL.out ad h).1, fun ad h => by rw [HB0.out]; exact HB8.out ad h, (hr8.set4 (by omega) _ _ _ _).more (by omega), hmw8.set4 (by rw [HB0.out]; exact Nat.le_refl _) _ _ _ _⟩
  · show Reads (set4 w8 B0 _ _ _ _) (set4 w8 B0 _ _ _ _).heap.size _ _
    rw [size_set4]
    exact HA8.out.set4 (fun ad h => by have := (HBL.out ad h).1; omega) _ _ _ _
  · show Reads (set4 w8 B0 _ _ _ _) (set4 w8 B0 _ _ _ _).heap.size _ _
    rw [size_set4]
    exact HR8.out.set4 (fun ad h => by have := HB8.out ad h; omega) _ _ _ _
/-- What CheckMenu is drawn. -/
def DrawnL (w : World) (e : Ending) (w' : World) : Prop :=
  ∃ (m : Mach) (v : ByteArray) (ms : List Lnk) (a am : Option Addr) (cap cm : Nat), DrawnM w m a w' ∧ v.size ≤ 300 ∧ SmT ms ∧ (ms.length ≤ 24 ∧ ms.length ≤ cm) ∧ Reads w' w'.heap.size am (lks ms) ∧
    e = .returned (.tuple #[.agg #[.slice a m.wheels.rotors.length cap, .string m.wheels.refl, .string m.rings, .string m.plugs], .string v, .slice am ms.length cm])
theorem Reads.mvB {R B : Nat} {w w' : World} {a : Option Addr} {xs : List Value} (h : Reads w B a xs) (hB : B ≤ w.heap.size) (hm : Moved R w w') (ha : ∀ ad, a = some ad → ad.block ≠ R) : Reads w' B a xs := by
  rcases h with h | ⟨k, off, rfl, hk, hc⟩
  · exact .inl h
  · refine .inr ⟨k, off, rfl, hk, fun i hi => ?_⟩
    rw [← hc i hi]
    exact World.cell?_of_block (w := w) (hm.block k (by omega) (by have := ha _ rfl; simpa using this))
theorem Reads.setB {B : Nat} {w : World} {a : Option Addr} {xs : List Value} (h : Reads w B a xs) {p : Addr} (hp : B ≤ p.block) (u : Value) : Reads (w.setCell p u) B a xs :=
  h.keep fun q hq => World.cell?_of_block (w := w) (Below.heap_setCell w p u q.block (by omega))
set_option maxRecDepth 100000 in
set_option maxHeartbeats 2000000 in
theorem DrawCheckMenu_any (a0 : Option Addr) (len cap : Nat) (zs : List Int) (w : World) (h : IsRow .u8 w a0 len cap zs) (hl : len ≤ 1048576) :
    Calls Tryz.prog 34 #[.slice a0 len cap] w (DrawnL w) := by
  have o0 := Own.new w [.slice none 0 0, .string ⟨#[]⟩, .string ⟨#[]⟩, .string ⟨#[]⟩] 36
  have hb0 := (Below.refl w.heap.size w).alloc (Nat.le_refl _) (.cells #[.slice none 0 0, .string ⟨#[]⟩, .string ⟨#[]⟩, .string ⟨#[]⟩] 36)
  go_enter Tryz.func34, Tryz.ntmps34
  go_wp2_with fail
  refine (l21Open_any a0 len cap zs _ (h.alloc_ _) hl).mono ?_
  rintro e w1 ⟨rfl, hr1, hb1⟩
  have o1 := o0.below hb1 o0.lt
  have hbw1 := bt hb0 hb1
  rw [World.size_alloc] at hr1
  clear o0 hb0 hb1 h
  go_wp2_with fail
  generalize hB0 : w.heap.size = B0 at *
  have HB0 := Lib.hid hB0
  clear hB0
  refine (l13Open_any (B0 + 1) 0 _ hr1 (by omega)).mono ?_
  rintro e w2 ⟨m6, v, ms, a6, am, cap6, cm, hsm, hv, hst, hl24, rfl, hrd, hrm, hbl, hbm, hr2, hm2⟩
  have l1 := hr1.lt
  have o2 := o1.grown hm2 (by simp)
  have hbw2 : Below B0 w w2 := hbw1.trans (hm2.toBelow (by omega) (by omega))
  have HBL : Hid (∀ ad, a6 = some ad → B0 + 1 < ad.block) := Lib.hid (fun ad e => by have := hbl ad e; omega)
  have HBM : Hid (∀ ad, am = some ad → B0 + 1 < ad.block) := Lib.hid (fun ad e => by have := hbm ad e; omega)
  have HSM := Lib.hid hsm
  have HST := Lib.hid hst
  have hz12 := hm2.size
  clear o1 hr1 hbw1 hm2 hbl hbm hsm hst
  have l2 := o2.lt
  have hb22 : Below w2.heap.size w2 (w2.alloc (.cells [.slice a6 m6.wheels.rotors.length cap6, .string m6.wheels.refl, .string m6.rings, .string m6.plugs].toArray 36)) := (Below.refl _ _).alloc (Nat.le_refl _) _
  have p2 := Own.new w2 [.slice a6 m6.wheels.rotors.length cap6, .string m6.wheels.refl, .string m6.rings, .string m6.plugs] 36
  have o3 := o2.alloc (.cells [.slice a6 m6.wheels.rotors.length cap6, .string m6.wheels.refl, .string m6.rings, .string m6.plugs].toArray 36)
  have hr3 := hr2.alloc (.cells [.slice a6 m6.wheels.rotors.length cap6, .string m6.wheels.refl, .string m6.rings, .string m6.plugs].toArray 36)
  have hrd3 := hrd.below hb22 (Nat.le_refl _)
  have hrm3 := hrm.below hb22 (Nat.le_refl _)
  have hbw3 := hbw2.alloc (by omega) (.cells [.slice a6 m6.wheels.rotors.length cap6, .string m6.wheels.refl, .string m6.rings, .string m6.plugs].toArray 36)
  have hz3 : (w2.alloc (.cells [.slice a6 m6.wheels.rotors.length cap6, .string m6.wheels.refl, .string m6.rings, .string m6.plugs].toArray 36)).heap.size = w2.heap.size + 1 := by simp
  have HZ3 := Lib.hid hz3
  clear o2 hr2 hrd hrm hbw2 hb22 hz3
  go_wp2_with fail
  generalize (w2.alloc (.cells [.slice a6 m6.wheels.rotors.length cap6, .string m6.wheels.refl, .string m6.rings, .string m6.plugs].toArray 36)) = W2 at *
  generalize w2.heap.size = B2 at *
  refine (pick_any (B0 + 1) _ _ _ hr3 (by omega) (by omega) (by omega)).mono ?_
  rintro e w3 ⟨x, rfl, _, _, _, hr4, hm4⟩
  have hz := HZ3.out
  have p4 := p2.grown hm4 (by simp; omega)
  have o4 := o3.grown hm4 (by simp)
  have hrd4 := hrd3.mvB (by omega) hm4 (fun ad e => by have := HBL.out ad e; omega)
  have hrm4 := hrm3.mvB (by omega) hm4 (fun ad e => by have := HBM.out ad e; omega)
  have hbw4 := hbw3.trans (hm4.toBelow (by omega) (by omega))
  have l4 := p4.lt
  clear p2 o3 hr3 hrd3 hrm3 hbw3 hm4
  go_upto_if 19 with (fail)
  go_cut [] (fun wr => ∃ p : ByteArray, p.size ≤ 300 ∧ Own wr B2 [.slice a6 m6.wheels.rotors.length cap6, .string m6.wheels.refl, .string m6.rings, .string p] ∧ Own wr B0 [.slice none 0 0, .string ⟨#[]⟩, .string ⟨#[]⟩, .string ⟨#[]⟩] ∧ Reads wr B2 a6 (rvs m6.wheels.rotors) ∧ Reads wr B2 am (lks ms) ∧ Below B0 w wr)
  case first =>
    by_cases e0 : x = 0
    · have t0 : (x == 0) = true := by simp [e0]
      clear e0
      go_wp2_with fail
      refine (l4Any_any (B0 + 1) _ _ hr4 (by omega)).mono ?_
      rintro e w5 ⟨s, hs, rfl, hr5, hm5⟩
      have hss : s.size ≤ 300 := by rw [permB_size (plugB_perm hs)]; omega
      have p5 := p4.grown hm5 (by simp; omega)
      have o5 := o4.grown hm5 (by simp)
      have hrd5 := hrd4.mvB (by omega) hm5 (fun ad e => by have := HBL.out ad e; omega)
      have hrm5 := hrm4.mvB (by omega) hm5 (fun ad e => by have := HBM.out ad e; omega)
      have hbw5 := hbw4.trans (hm5.toBelow (by omega) (by omega))
      clear p4 o4 hr4 hrd4 hrm4 hbw4 hm5
      have f3 := p5.at_ (i := 3) rfl
      have b3 := p5.free 3 (by simp)
      go_wp2_with fail
      go_meet
      exact ⟨s, hss, p5.set_ (i := 3) (by simp) (.string s), o5.far (by simp; omega) _, hrd5.setB (Nat.le_refl _) _, hrm5.setB (Nat.le_refl _) _, hbw5.setCell (by simp; omega) _⟩
    · have t0 : (x == 0) = false := by simp [e0]
      clear e0
      go_wp2_with fail
      go_meet
      exact ⟨m6.plugs, HSM.out.plugs, p4, o4, hrd4, hrm4, hbw4⟩
  case rest =>
    clear p4 o4 hr4 hrd4 hrm4 hbw4 l4
    obtain ⟨p, hp, p4, o4, hrd4, hrm4, hbw4⟩ := hcut
    have l4 := p4.lt
    have HRD := Lib.hid hrd4
    have HRM := Lib.hid hrm4
    clear hrd4 hrm4
    have f0 := p4.at_ (i := 0) rfl
    have f1 := p4.at_ (i := 1) rfl
    have f2 := p4.at_ (i := 2) rfl
    have f3 := p4.at_ (i := 3) rfl
    have c0 := o4.at_ (i := 0) rfl
    have c1 := o4.at_ (i := 1) rfl
    have c2 := o4.at_ (i := 2) rfl
    have c3 := o4.at_ (i := 3) rfl
    have b0 := o4.free 0 (by simp)
    have b1 := o4.free 1 (by simp)
    have b2 := o4.free 2 (by simp)
    have b3 := o4.free 3 (by simp)
    go_wp2
    have oz := o4.set4 (.slice a6 m6.wheels.rotors.length cap6) (.string m6.wheels.refl) (.string m6.rings) (.string p)
    have k0 := oz.at_ (i := 0) rfl
    have k1 := oz.at_ (i := 1) rfl
    have k2 := oz.at_ (i := 2) rfl
    have k3 := oz.at_ (i := 3) rfl
    refine bodyPost_ret (v := .tuple #[.agg #[.slice a6 m6.wheels.rotors.length cap6, .string m6.wheels.refl, .string m6.rings, .string p], .string v, .slice am ms.length cm]) (by unfold set4 at *; simp [results, Tryz.results34, go_sem, k0, k1, k2, k3]) rfl ?_
    refine ⟨⟨m6.wheels, m6.rings, p⟩, v, ms, a6, am, cap6, cm, ⟨⟨HSM.out.whl, HSM.out.rings, hp⟩, ?_, ?_, ?_⟩, hv, HST.out, hl24, ?_, rfl⟩
    · show Reads (set4 wc B0 _ _ _ _) (set4 wc B0 _ _ _ _).heap.size _ _
      rw [size_set4]
      exact (HRD.out.more (by omega)).set4 (fun ad h => by have := HBL.out ad h; omega) _ _ _ _
    · intro ad h
      rw [HB0.out]
      have := HBL.out ad h; omega
    · rw [HB0.out]
      exact bel_set4 hbw4 (Nat.le_refl _) _ _ _ _
    · show Reads (set4 wc B0 _ _ _ _) (set4 wc B0 _ _ _ _).heap.size _ _
      rw [size_set4]
      exact (HRM.out.more (by omega)).set4 (fun ad h => by have := HBM.out ad h; omega) _ _ _ _
end Go.Proofs.YtdmnkcmkpjmfaaaGreat

/- The day products of the specification. -/
namespace Go.Proofs.YtdmnkcmkpjmfaaaGreat
open Go.RowKit

/-- The products as words. -/
def prodS (m : Mach) (v : ByteArray) (k : Nat) : List ByteArray := (List.range k).map fun i => wd (prodP m v i)
theorem len_prodS (m : Mach) (v : ByteArray) (k : Nat) : (prodS m v k).length = k := by simp [prodS]
theorem prodS_snoc (m : Mach) (v : ByteArray) (k : Nat) : prodS m v (k + 1) = prodS m v k ++ [wd (prodP m v k)] := by simp [prodS, List.range_succ]
theorem at_keyS2 (m : Mach) (v : ByteArray) {n k : Nat} (h : k < n) : (sv (keyS m v n))[k]? = some (.string (wd (keyN m v k))) := by
  simp [sv, keyS, h]
theorem OwR.lt1 {w : World} {base n sz g B : Nat} {e : TypeId} {v : Value} {xs : List Value} (_h : OwR w base e sz v n xs) (hg : g < w.heap.size) (hB : B ≤ g) : B ≤ w.drew.heap.size := by
  show B ≤ w.heap.size
  omega
/-- What DayProducts answers. -/
def prodT (m : Mach) (v : ByteArray) : List ByteArray := if setB m v = true then prodS m v v.size else []

end Go.Proofs.YtdmnkcmkpjmfaaaGreat

/- DayProducts of the program. -/
namespace Go.Proofs.YtdmnkcmkpjmfaaaGreat
open Go.RowKit

theorem pv_len10 {m : Mach} (h : machB m = true) (v : ByteArray) (k : Nat) : (pv (prodP m v k)).length = 10 := size_pv10 (isP_prod h v k)
theorem pvs_cells {m : Mach} {v : ByteArray} {w : World} {g q k : Nat} (hm : machB m = true) (h : Cells w g 0 (pvs m v q)) (hk : k < q) : Cells w g (k * 10) (pv (prodP m v k)) := by
  have hL : ∀ x ∈ (List.range q).map (fun k => pv (prodP m v k)), x.length = 10 := by
    intro x hx
    obtain ⟨i, -, rfl⟩ := List.mem_map.1 hx
    exact pv_len10 hm v i
  have hf := flat_at _ k hL (by simpa using hk)
  have h1 := h.sub (k * 10) 10 (by
    have : (pvs m v q).length = q * 10 := by
      unfold pvs
      rw [List.length_flatten, List.map_map]
      have : (List.range q).map (List.length ∘ fun k => pv (prodP m v k)) = List.replicate q 10 := by
        rw [List.eq_replicate_iff]
        refine ⟨by simp, fun x hx => ?_⟩
        obtain ⟨y, -, rfl⟩ := List.mem_map.1 hx
        exact pv_len10 hm v y
      rw [this, List.sum_replicate_nat]
    omega)
  rw [Nat.zero_add] at h1
  unfold pvs at h1
  rw [hf] at h1
  simpa using h1
end Go.Proofs.YtdmnkcmkpjmfaaaGreat

/- Whether a permutation fixes a letter; whether a word may be a double indicator. -/
namespace Go.Proofs.YtdmnkcmkpjmfaaaGreat
open Go.RowKit

/-- What HasRepeat answers. -/
def hasB (m : Mach) (g : ByteArray) (p : Int) : Bool := setB m g && (decide (0 ≤ p) && (decide (p < g.size) && fixB (prodP m g p.toNat)))
end Go.Proofs.YtdmnkcmkpjmfaaaGreat

/- The places in which a double indicator repeats its letters. -/
namespace Go.Proofs.YtdmnkcmkpjmfaaaGreat
open Go.RowKit

/-- The places below k with equal letters in both halves. -/
def repL (s : ByteArray) (n k : Nat) : List Nat := (List.range k).filter fun i => (L s)[i]? == (L s)[i + n]?
theorem repL_snoc (s : ByteArray) (n k : Nat) : repL s n (k + 1) = repL s n k ++ (if (L s)[k]? == (L s)[k + n]? then [k] else []) := by
  simp only [repL, List.range_succ, List.filter_append]
  congr 1
  by_cases h : ((L s)[k]? == (L s)[k + n]?) = true <;> simp [h]
theorem repL_len (s : ByteArray) (n k : Nat) : (repL s n k).length ≤ k := by
  have := List.length_filter_le (fun i => (L s)[i]? == (L s)[i + n]?) (List.range k)
  simpa [repL] using this
theorem repL_zero (s : ByteArray) (n : Nat) : repL s n 0 = [] := rfl
end Go.Proofs.YtdmnkcmkpjmfaaaGreat

/- Lists of numbers compared (for seats without the tapes). -/
namespace Go.Proofs.YtdmnkcmkpjmfaaaGreat
open Go.RowKit

end Go.Proofs.YtdmnkcmkpjmfaaaGreat
