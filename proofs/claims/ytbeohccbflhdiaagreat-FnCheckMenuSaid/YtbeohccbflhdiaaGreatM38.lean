/- Several of my texts in one: DrawB, DrawM2, CkW. -/
import Derived.Test.YtbeohccbflhdiaaGreatM37
import Derived.Test.YtbeohccbflhdiaaGreatM7
import Derived.Test.YtbeohccbflhdiaaGreatM17
import Derived.Test.YtbeohccbflhdiaaGreatM5
import Derived.Test.YtbeohccbflhdiaaGreatM16
import Derived.Test.YtbeohccbflhdiaaGreatM15
/- Menus turned into ones that are sometimes not valid. -/
namespace Go.Proofs.YtbeohccbflhdiaaGreat
open Go.RowKit

def SmT (ms : List Lnk) : Prop := ∀ x ∈ ms, x.p.size ≤ 10 ∧ x.c.size ≤ 10
theorem lks_set : ∀ (ms : List Lnk) (k : Nat) (h : k < ms.length),
    (∀ s, (lks ms).set (k * 3) (.string s) = lks (ms.set k ⟨s, ms[k].c, ms[k].k⟩)) ∧ (∀ s, (lks ms).set (k * 3 + 1) (.string s) = lks (ms.set k ⟨ms[k].p, s, ms[k].k⟩)) ∧ (∀ n, (lks ms).set (k * 3 + 2) (.int .i64 n) = lks (ms.set k ⟨ms[k].p, ms[k].c, n⟩))
  | x :: ms, 0, _ => ⟨fun _ => rfl, fun _ => rfl, fun _ => rfl⟩
  | x :: ms, k + 1, h => by
    have ih := lks_set ms k (by simpa using h)
    rw [show (k + 1) * 3 = k * 3 + 1 + 1 + 1 by omega]
    refine ⟨fun s => ?_, fun s => ?_, fun n => ?_⟩
    · simp only [lks, List.set_cons_succ, ih.1, List.getElem_cons_succ]
    · rw [show k * 3 + 1 + 1 + 1 + 1 = (k * 3 + 1) + 1 + 1 + 1 by omega]
      simp only [lks, List.set_cons_succ, ih.2.1, List.getElem_cons_succ]
    · rw [show k * 3 + 1 + 1 + 1 + 2 = (k * 3 + 2) + 1 + 1 + 1 by omega]
      simp only [lks, List.set_cons_succ, ih.2.2, List.getElem_cons_succ]
theorem smT_set {ms : List Lnk} (h : SmT ms) {k : Nat} {x : Lnk} (hp : x.p.size ≤ 10) (hc : x.c.size ≤ 10) : SmT (ms.set k x) := by
  intro y hy
  rcases List.mem_or_eq_of_mem_set hy with h1 | rfl
  · exact h y h1
  · exact ⟨hp, hc⟩
theorem one_lks : ∀ (ms : List Lnk), ∀ u ∈ lks ms, u.oneCell' = true
  | [], u, h => by cases h
  | x :: ms, u, h => by
    simp only [lks, List.mem_cons] at h
    rcases h with rfl | rfl | rfl | h
    · rfl
    · rfl
    · rfl
    · exact one_lks ms u h
theorem Tu.below2 {R g B : Nat} {a b c : World} (h : Tu R g a b) (k : Below B b c) (hB : a.heap.size ≤ B) : Tu R g a c :=
  ⟨k.os.trans h.os, k.tape.trans h.tape, k.output.trans h.output, Nat.le_trans h.size k.size, fun i hi h1 h2 => (k.block i (by omega)).trans (h.block i hi h1 h2)⟩
/-- What such a turning leaves. -/
def MenB (R g c : Nat) (w : World) (e : Ending) (w' : World) : Prop :=
  ∃ (ms : List Lnk) (a : Option Addr) (cap : Nat), e = .returned (.slice a ms.length cap) ∧ SmT ms ∧ ms.length ≤ 24 ∧ Reads w' w'.heap.size a (lks ms) ∧ (∀ ad, a = some ad → ad.block = g ∨ w.heap.size ≤ ad.block) ∧ Rd w' R c ∧ Tu R g w w'
set_option maxRecDepth 100000 in
set_option maxHeartbeats 2000000 in
theorem l12Bad_any (R g cm base : Nat) (ms : List Lnk) (c : Nat) (w : World) (h : Rd w R c) (hc : c ≤ 6000000) (h1 : 1 ≤ ms.length) (h12 : ms.length ≤ 12) (hsm : SmT ms) (hown : OwR w base 70 3 (.slice (some ⟨g, 0, none⟩) ms.length cm) ms.length (lks ms)) (hRg : R < g) :
    Calls Tryz.prog 141 #[.pointer (some ⟨R, 0, none⟩), .slice (some ⟨g, 0, none⟩) ms.length cm] w (MenB R g (c + 5) w) := by
  have lg := (World.ownsRow.lt hown g rfl).2
  have hcm : ms.length ≤ cm := by obtain ⟨_, c', e1, e2, -⟩ := OwR.val hown; cases e1; exact e2
  have og0 := OwR.own hown
  have HSM := Lib.hid hsm
  clear hsm hown
  go_enter Tryz.func141, Tryz.ntmps141
  go_wp2_with fail
  refine (pick_any R _ c _ h (by omega) (by omega) (by omega)).mono ?_
  rintro e w1 ⟨z, rfl, hz0, hz1, _, hr1, hm1⟩
  have hzl := hz1 (by omega)
  have og1 := og0.grown hm1 (by simp; omega)
  have ht1 := (Tu.refl R g w).moved hm1
  clear h og0 hm1 hz1
  obtain ⟨k, rfl⟩ := Int.eq_ofNat_of_zero_le hz0
  have hk : k < ms.length := by omega
  have q1 : (0 : Int) ≤ (k : Int) := by omega
  have q2 : (k : Int) < (ms.length : Int) := by omega
  go_wp2_with fail
  refine (pick_any R _ _ _ hr1 (by omega) (by omega) (by omega)).mono ?_
  rintro e w2 ⟨v, rfl, hv0, _, _, hr2, hm2⟩
  have og2 := og1.grown hm2 (by simp; omega)
  have ht2 := ht1.moved hm2
  clear og1 ht1 hr1 hm2
  have hll := len_lks ms
  have HST := Lib.hid (lks_set ms k hk)
  have hxk := HSM.out ms[k] (List.getElem_mem hk)
  have hz := ht2.size
  by_cases e0 : v = 0
  · have t0 : (v == 0) = true := by simp [e0]
    clear e0
    have c1 := og2.at_ (lks_at1 ms k hk)
    have c0 := og2.at_ (lks_at0 ms k hk)
    have b0 := og2.free (k * 3) (by omega)
    have og3 := og2.set_ (i := k * 3) (by omega) (.string ms[k].c)
    rw [HST.out.1] at og3
    have HS2 := Lib.hid (smT_set (k := k) (x := ⟨ms[k].c, ms[k].c, ms[k].k⟩) HSM.out hxk.2 hxk.2)
    have HLN : Hid ((ms.set k ⟨ms[k].c, ms[k].c, ms[k].k⟩).length = ms.length) := Lib.hid (List.length_set ..)
    generalize ms.set k ⟨ms[k].c, ms[k].c, ms[k].k⟩ = ms' at *
    generalize ms[k].c = y at *
    go_wp2
    go_ret
    exact ⟨ms', some ⟨g, 0, none⟩, cm, by rw [HLN.out]; rfl, HS2.out, by rw [HLN.out]; omega, Reads.of_own og3 og3.lt, fun ad e => by cases e; exact .inl rfl, (hr2.far (p := ⟨g, k * 3, none⟩) hRg _).more (by omega), ht2.set_ (.inr (.inl rfl)) _⟩
  · have t0 : (v == 0) = false := by simp [e0]
    clear e0
    by_cases e1 : v = 1
    · have t1 : (v == 1) = true := by simp [e1]
      clear e1
      have og3 := og2.alloc (.cells [.int .i64 0, .int .i64 61, .int .i64 (-1), .int .i64 1].toArray 3)
      have hr3 := hr2.alloc (.cells [.int .i64 0, .int .i64 61, .int .i64 (-1), .int .i64 1].toArray 3)
      have ht3 := ht2.alloc (.cells [.int .i64 0, .int .i64 61, .int .i64 (-1), .int .i64 1].toArray 3)
      have lR := hr2.lt
      go_wp2_with fail
      refine (num_any R _ _ _ [0, 61, -1, 1] _ _ rfl (Own.new _ _ _) (by simp) (by omega) hr3 (by omega) (by simp)).mono ?_
      rintro e w4 ⟨y, -, rfl, hr4, hm4⟩
      have og4 := og3.grown hm4 (by simp; omega)
      have ht4 := ht3.moved hm4
      clear og2 og3 hr3 ht2 ht3 hm4 hr2
      have c2 := og4.at_ (lks_at2 ms k hk)
      have b0 := og4.free (k * 3 + 2) (by omega)
      have og5 := og4.set_ (i := k * 3 + 2) (by omega) (.int .i64 y)
      rw [HST.out.2.2] at og5
      have HS2 := Lib.hid (smT_set (k := k) (x := ⟨ms[k].p, ms[k].c, y⟩) HSM.out hxk.1 hxk.2)
      have HLN : Hid ((ms.set k ⟨ms[k].p, ms[k].c, y⟩).length = ms.length) := Lib.hid (List.length_set ..)
      generalize ms.set k ⟨ms[k].p, ms[k].c, y⟩ = ms' at *
      go_wp2
      go_ret
      exact ⟨ms', some ⟨g, 0, none⟩, cm, by rw [HLN.out]; rfl, HS2.out, by rw [HLN.out]; omega, Reads.of_own og5 og5.lt, fun ad e => by cases e; exact .inl rfl, (hr4.far (p := ⟨g, k * 3 + 2, none⟩) hRg _).more (by omega), ht4.set_ (.inr (.inl rfl)) _⟩
    · have t1 : (v == 1) = false := by simp [e1]
      clear e1
      by_cases e2 : v = 2
      · have t2 : (v == 2) = true := by simp [e2]
        clear e2
        have og3 := og2.alloc (.cells [.string ⟨#[]⟩, .string ⟨#[107]⟩, .string ⟨#[97, 98]⟩].toArray 9)
        have hr3 := hr2.alloc (.cells [.string ⟨#[]⟩, .string ⟨#[107]⟩, .string ⟨#[97, 98]⟩].toArray 9)
        have ht3 := ht2.alloc (.cells [.string ⟨#[]⟩, .string ⟨#[107]⟩, .string ⟨#[97, 98]⟩].toArray 9)
        have lR := hr2.lt
        go_wp2_with fail
        refine (of_any R _ _ _ [⟨#[]⟩, ⟨#[107]⟩, ⟨#[97, 98]⟩] _ _ rfl (Own.new _ _ _) (by simp) (by omega) hr3 (by omega) (by simp)).mono ?_
        rintro e w4 ⟨y, hy, rfl, hr4, hm4⟩
        have hys : y.size ≤ 10 := by
          simp only [List.mem_cons, List.not_mem_nil, or_false] at hy
          rcases hy with rfl | rfl | rfl <;> decide
        have og4 := og3.grown hm4 (by simp; omega)
        have ht4 := ht3.moved hm4
        clear og2 og3 hr3 ht2 ht3 hm4 hr2 hy
        have c2 := og4.at_ (lks_at1 ms k hk)
        have b0 := og4.free (k * 3 + 1) (by omega)
        have og5 := og4.set_ (i := k * 3 + 1) (by omega) (.string y)
        rw [HST.out.2.1] at og5
        have HS2 := Lib.hid (smT_set (k := k) (x := ⟨ms[k].p, y, ms[k].k⟩) HSM.out hxk.1 hys)
        have HLN : Hid ((ms.set k ⟨ms[k].p, y, ms[k].k⟩).length = ms.length) := Lib.hid (List.length_set ..)
        generalize ms.set k ⟨ms[k].p, y, ms[k].k⟩ = ms' at *
        go_wp2
        go_ret
        exact ⟨ms', some ⟨g, 0, none⟩, cm, by rw [HLN.out]; rfl, HS2.out, by rw [HLN.out]; omega, Reads.of_own og5 og5.lt, fun ad e => by cases e; exact .inl rfl, (hr4.far (p := ⟨g, k * 3 + 1, none⟩) hRg _).more (by omega), ht4.set_ (.inr (.inl rfl)) _⟩
      · have t2 : (v == 2) = false := by simp [e2]
        clear e2
        by_cases e3 : v = 3
        · have t3 : (v == 3) = true := by simp [e3]
          clear e3
          have og3 := og2.alloc (.cells #[] 70)
          have hr3 := hr2.alloc (.cells #[] 70)
          have ht3 := ht2.alloc (.cells #[] 70)
          have z3 : OwR (w2.alloc (.cells #[] 70)) w2.heap.size 70 3 (.slice (some ⟨w2.heap.size, 0, none⟩) 0 0) 0 [] := World.ownsRow_lit (base := w2.heap.size) (e := 70) (size := 3) w2 #[] 0 (Nat.le_refl _) (by unfold maxLen; omega) (by simp)
          have hn1 : ∀ j u, (lks ms)[j]? = some u → (w2.alloc (.cells #[] 70)).cell? ((⟨g, 0, none⟩ : Addr).add j) = some u := fun j u hu => by
            rw [add_none, Nat.zero_add, og3.cell j (List.getElem?_eq_some_iff.1 hu).1]; exact hu
          have hl1 : (lks ms).length = ms.length * 3 := by omega
          have hz3 : w2.heap.size ≤ (w2.alloc (.cells #[] 70)).heap.size := by simp
          have lg2 : g < w2.heap.size := og2.lt
          have lR := hr2.lt
          clear og2 hr2 ht2
          go_wp2_with (first | (at_builtin; ((with_reducible refine wl_pushs 66 70 inf_lnk Tryz.underlying66 rfl (by omega) z3 hz3 hl1 hn1 (one_lks ms) (by omega) (by omega) (by omega) rfl rfl ?_); intro g5 cap5 w5 o5 b5 k5; simp only [Nat.zero_add, List.nil_append] at o5 ⊢; have z5 := b5.size; have og5 := og3.below b5 lg2; have hn2 : ∀ j u, (lks ms)[j]? = some u → w5.cell? ((⟨g, 0, none⟩ : Addr).add j) = some u := fun j u hu => by rw [add_none, Nat.zero_add, og5.cell j (List.getElem?_eq_some_iff.1 hu).1]; exact hu)) | (at_builtin; ((with_reducible refine wl_pushs 66 70 inf_lnk Tryz.underlying66 rfl (by omega) o5 (Nat.le_trans hz3 z5) hl1 hn2 (one_lks ms) (by omega) (by omega) (by omega) rfl rfl ?_); intro g6 cap6 w6 o6 b6 k6; have z6 := b6.size)))
          go_ret
          have hb6 := b5.trans b6
          have hrow : OwR w6 w2.heap.size 70 3 (.slice (some ⟨g6, 0, none⟩) (ms.length + ms.length) cap6) (ms.length + ms.length) (lks ms ++ lks ms) := o6
          have hg6 := (World.ownsRow.lt o6 g6 rfl).1
          have oo := OwR.own hrow
          rw [← lks_append] at oo
          refine ⟨ms ++ ms, some ⟨g6, 0, none⟩, cap6, by rw [List.length_append]; rfl, fun x hx => ?_, by rw [List.length_append]; omega, Reads.of_own oo oo.lt, fun ad e => by cases e; exact .inr (by simp only; omega), (hr3.below hb6 lR).more (by omega), ht3.below2 hb6 hz⟩
          rcases List.mem_append.1 hx with h1 | h1
          · exact HSM.out x h1
          · exact HSM.out x h1
        · have t3 : (v == 3) = false := by simp [e3]
          clear e3
          by_cases e4 : v = 4
          · have t4 : (v == 4) = true := by simp [e4]
            clear e4
            have q5 : (0 : Int) ≤ (cm : Int) := by omega
            go_wp2
            go_ret
            refine ⟨[], some ⟨g, 0, none⟩, cm, rfl, (show SmT [] from fun x hx => by cases hx), by simp, Reads.nil_, fun ad e => ?_, hr2.more (by omega), ht2⟩
            cases e; exact .inl rfl
          · have t4 : (v == 4) = false := by simp [e4]
            clear e4
            go_wp2
            go_ret
            exact ⟨ms, some ⟨g, 0, none⟩, cm, rfl, HSM.out, by omega, Reads.of_own og2 og2.lt, fun ad e => by cases e; exact .inl rfl, hr2.more (by omega), ht2⟩
end Go.Proofs.YtbeohccbflhdiaaGreat

/- What CheckMenu is drawn. -/
namespace Go.Proofs.YtbeohccbflhdiaaGreat
open Go.RowKit

theorem Moved.tu {R g : Nat} {a b c : World} (h : Moved R a b) (t : Tu R g b c) (hg : a.heap.size ≤ g) : Moved R a c :=
  ⟨t.os.trans h.os, t.tape.trans h.tape, t.output.trans h.output, Nat.le_trans h.size t.size, fun i hi hr => (t.block i (Nat.lt_of_lt_of_le hi h.size) (by simpa using hr) (by omega)).trans (h.block i hi hr)⟩
theorem Reads.tu {R g : Nat} {a b : World} {x : Option Addr} {xs : List Value} (h : Reads a a.heap.size x xs) (t : Tu R g a b) (hx : ∀ ad, x = some ad → ad.block ≠ R ∧ ad.block ≠ g) : Reads b b.heap.size x xs := by
  rcases h with h | ⟨k, off, rfl, hk, hc⟩
  · exact .inl h
  · refine .inr ⟨k, off, rfl, Nat.lt_of_lt_of_le hk t.size, fun i hi => ?_⟩
    rw [← hc i hi]
    have := hx _ rfl
    exact World.cell?_of_block (w := a) (t.block k hk this.1 this.2)
/-- A machine, windows and a menu, sometimes not valid. -/
def OpnL (R c : Nat) (w : World) (e : Ending) (w' : World) : Prop :=
  ∃ (m : Mach) (v : ByteArray) (ms : List Lnk) (a am : Option Addr) (cap cm : Nat), SmallM m ∧ v.size ≤ 300 ∧ SmT ms ∧ ms.length ≤ 24 ∧
    e = .returned (.tuple #[.agg #[.slice a m.wheels.rotors.length cap, .string m.wheels.refl, .string m.rings, .string m.plugs], .string v, .slice am ms.length cm]) ∧
    Reads w' w'.heap.size a (rvs m.wheels.rotors) ∧ Reads w' w'.heap.size am (lks ms) ∧ (∀ ad, a = some ad → w.heap.size < ad.block) ∧ (∀ ad, am = some ad → w.heap.size < ad.block) ∧ Rd w' R c ∧ Moved R w w'
set_option maxRecDepth 100000 in
set_option maxHeartbeats 2000000 in
theorem l13Open_any (R : Nat) (c : Nat) (w : World) (h : Rd w R c) (hc : c ≤ 4000000) :
    Calls Tryz.prog 115 #[.pointer (some ⟨R, 0, none⟩)] w (OpnL R (c + 1000) w) := by
  have hltR := h.lt
  have o0 := Own.new w [.slice none 0 0, .string ⟨#[]⟩, .string ⟨#[]⟩, .string ⟨#[]⟩] 27
  have hr0 := h.alloc (.cells #[.slice none 0 0, .string ⟨#[]⟩, .string ⟨#[]⟩, .string ⟨#[]⟩] 27)
  have hm0 := (Moved.refl R w).alloc (.cells #[.slice none 0 0, .string ⟨#[]⟩, .string ⟨#[]⟩, .string ⟨#[]⟩] 27)
  go_enter Tryz.func115, Tryz.ntmps115
  go_wp2_with fail
  refine (l13Some_any R c _ hr0 (by omega)).mono ?_
  rintro e w2 ⟨m, v, ms, g, cp, gm, cm, hx, hset, rfl, hown2, hg, hl1, hl12, hsm, hrow2, hgg, hgm, hr2, hm2⟩
  have o2 := o0.grown hm2 (by simp; omega)
  have hmw2 := hm0.trans hm2
  have hv3 := setB_3 hset
  have hv1 := setB_1 hset
  rw [World.size_alloc] at hown2 hg hrow2 hgm
  clear o0 hr0 hm0 hm2 h
  generalize hB0 : w.heap.size = B0 at *
  have HB0 := Lib.hid hB0
  clear hB0
  have HSM : Hid (SmT ms) := Lib.hid hsm
  clear hsm
  have p2 := Own.new w2 [.slice (some ⟨g, 0, none⟩) m.wheels.rotors.length cp, .string m.wheels.refl, .string m.rings, .string m.plugs] 27
  have o3 := o2.alloc (.cells [.slice (some ⟨g, 0, none⟩) m.wheels.rotors.length cp, .string m.wheels.refl, .string m.rings, .string m.plugs].toArray 27)
  have hr3 := hr2.alloc (.cells [.slice (some ⟨g, 0, none⟩) m.wheels.rotors.length cp, .string m.wheels.refl, .string m.rings, .string m.plugs].toArray 27)
  have hown3 := World.ownsRow.alloc hown2 (.cells [.slice (some ⟨g, 0, none⟩) m.wheels.rotors.length cp, .string m.wheels.refl, .string m.rings, .string m.plugs].toArray 27)
  have hrow3 := World.ownsRow.alloc hrow2 (.cells [.slice (some ⟨g, 0, none⟩) m.wheels.rotors.length cp, .string m.wheels.refl, .string m.rings, .string m.plugs].toArray 27)
  have hm3 := hmw2.alloc (.cells [.slice (some ⟨g, 0, none⟩) m.wheels.rotors.length cp, .string m.wheels.refl, .string m.rings, .string m.plugs].toArray 27)
  have l2 := o2.lt
  have lg := (World.ownsRow.lt hown2 g rfl).2
  have lgm := (World.ownsRow.lt hrow2 gm rfl).2
  have f0 := p2.at_ (i := 0) rfl
  have f1 := p2.at_ (i := 1) rfl
  have f2 := p2.at_ (i := 2) rfl
  have f3 := p2.at_ (i := 3) rfl
  have hzW : (w2.alloc (.cells [.slice (some ⟨g, 0, none⟩) m.wheels.rotors.length cp, .string m.wheels.refl, .string m.rings, .string m.plugs].toArray 27)).heap.size = w2.heap.size + 1 := by simp
  have HZW := Lib.hid hzW
  clear hzW
  go_wp2_with fail
  generalize (w2.alloc (.cells [.slice (some ⟨g, 0, none⟩) m.wheels.rotors.length cp, .string m.wheels.refl, .string m.rings, .string m.plugs].toArray 27)) = W2 at *
  generalize w2.heap.size = B2 at *
  clear o2 hr2 hown2 hrow2 hmw2
  have hrow3' : OwR W2 (B0 + 1) 70 3 (.slice (some ⟨gm, 0, none⟩) ms.length cm) ms.length (lks ms) := hrow3
  refine (l8Bad_any R g cp _ m v _ _ hr3 (by omega) hx hset hown3 (by omega)).mono ?_
  rintro e w6 ⟨m6, a6, cap6, hm6, rfl, hrd6, hbl6, hr6, ht6⟩
  have hW2 := HZW.out
  have o6 := o3.tu ht6 (by omega) (by omega)
  have hrow6 := OwR.same hrow3' (ht6.block gm (by omega) (by omega) hgg)
  have hmw6 := hm3.tu ht6 (by rw [HB0.out]; omega)
  have hbl : ∀ ad, a6 = some ad → B0 < ad.block ∧ ad.block ≠ R ∧ ad.block ≠ gm := fun ad h => by
    have h1 := hbl6 ad h
    omega
  have HBL := Lib.hid hbl
  have HM := Lib.hid hm6
  have hz6 := ht6.size
  clear f0 f1 f2 f3 p2 o3 hr3 hown3 hrow3 hrow3' hm3 ht6 hm6 hbl6 hbl
  go_wp2_with fail
  refine (l8Off_any R v _ _ hr6 (by omega) hv1 (by omega)).mono ?_
  rintro e w7 ⟨v7, hv7, rfl, hr7, hm7⟩
  have o7 := o6.grown hm7 (by simp; omega)
  have hrow7 := OwR.movedR hrow6 hm7 (by simp [Value.ownBlock]; omega)
  have hmw7 := hmw6.trans hm7
  have hrd7 := Reads.moved hrd6 hm7 (fun ad h => (HBL.out ad h).2.1) (Nat.le_refl _)
  have hz7 := hm7.size
  clear o6 hrow6 hmw6 hrd6 hr6 hm7
  go_wp2_with fail
  refine (l12Bad_any R gm cm _ ms _ _ hr7 (by omega) hl1 hl12 HSM.out hrow7 (by omega)).mono ?_
  rintro e w8 ⟨ms8, a8, cap8, rfl, hsm8, hl8, hrd8, hbl8, hr8, ht8⟩
  have o8 := o7.tu ht8 (by omega) (by omega)
  have hmw8 := hmw7.tu ht8 (by rw [HB0.out]; omega)
  have hra8 := hrd7.tu ht8 (fun ad h => (HBL.out ad h).2)
  have hb8 : ∀ ad, a8 = some ad → B0 < ad.block := fun ad h => by
    have h1 := hbl8 ad h
    omega
  have HB8 := Lib.hid hb8
  have HS8 := Lib.hid hsm8
  have HR8 := Lib.hid hrd8
  have HA8 := Lib.hid hra8
  clear o7 hrow7 hmw7 hrd7 hr7 ht8 hbl8 hb8 hsm8 hrd8 hra8
  have c0 := o8.at_ (i := 0) rfl
  have c1 := o8.at_ (i := 1) rfl
  have c2 := o8.at_ (i := 2) rfl
  have c3 := o8.at_ (i := 3) rfl
  have b0 := o8.free 0 (by simp)
  have b1 := o8.free 1 (by simp)
  have b2 := o8.free 2 (by simp)
  have b3 := o8.free 3 (by simp)
  go_wp2
  have oz := o8.set4 (.slice a6 m6.wheels.rotors.length cap6) (.string m6.wheels.refl) (.string m6.rings) (.string m6.plugs)
  have k0 := oz.at_ (i := 0) rfl
  have k1 := oz.at_ (i := 1) rfl
  have k2 := oz.at_ (i := 2) rfl
  have k3 := oz.at_ (i := 3) rfl
  refine bodyPost_ret (v := .tuple #[.agg #[.slice a6 m6.wheels.rotors.length cap6, .string m6.wheels.refl, .string m6.rings, .string m6.plugs], .string v7, .slice a8 ms8.length cap8]) (by unfold set4 at *; simp [results, Tryz.results115, go_sem, k0, k1, k2, k3]) rfl ?_
  refine ⟨m6, v7, ms8, a6, a8, cap6, cap8, HM.out, hv7, HS8.out, hl8, rfl, ?_, ?_, fun ad h => by rw [HB0.out]; exact (HBL.out ad h).1, fun ad h => by rw [HB0.out]; exact HB8.out ad h, (hr8.set4 (by omega) _ _ _ _).more (by omega), hmw8.set4 (by rw [HB0.out]; exact Nat.le_refl _) _ _ _ _⟩
  · show Reads (set4 w8 B0 _ _ _ _) (set4 w8 B0 _ _ _ _).heap.size _ _
    rw [size_set4]
    exact HA8.out.set4 (fun ad h => by have := (HBL.out ad h).1; omega) _ _ _ _
  · show Reads (set4 w8 B0 _ _ _ _) (set4 w8 B0 _ _ _ _).heap.size _ _
    rw [size_set4]
    exact HR8.out.set4 (fun ad h => by have := HB8.out ad h; omega) _ _ _ _
/-- What CheckMenu is drawn. -/
def DrawnL (w : World) (e : Ending) (w' : World) : Prop :=
  ∃ (m : Mach) (v : ByteArray) (ms : List Lnk) (a am : Option Addr) (cap cm : Nat), DrawnM w m a w' ∧ v.size ≤ 300 ∧ SmT ms ∧ ms.length ≤ 24 ∧ Reads w' w'.heap.size am (lks ms) ∧
    e = .returned (.tuple #[.agg #[.slice a m.wheels.rotors.length cap, .string m.wheels.refl, .string m.rings, .string m.plugs], .string v, .slice am ms.length cm])
theorem Reads.mvB {R B : Nat} {w w' : World} {a : Option Addr} {xs : List Value} (h : Reads w B a xs) (hB : B ≤ w.heap.size) (hm : Moved R w w') (ha : ∀ ad, a = some ad → ad.block ≠ R) : Reads w' B a xs := by
  rcases h with h | ⟨k, off, rfl, hk, hc⟩
  · exact .inl h
  · refine .inr ⟨k, off, rfl, hk, fun i hi => ?_⟩
    rw [← hc i hi]
    exact World.cell?_of_block (w := w) (hm.block k (by omega) (by have := ha _ rfl; simpa using this))
theorem Reads.setB {B : Nat} {w : World} {a : Option Addr} {xs : List Value} (h : Reads w B a xs) {p : Addr} (hp : B ≤ p.block) (u : Value) : Reads (w.setCell p u) B a xs :=
  h.keep fun q hq => World.cell?_of_block (w := w) (Below.heap_setCell w p u q.block (by omega))
set_option maxRecDepth 100000 in
set_option maxHeartbeats 2000000 in
theorem DrawCheckMenu_any (a0 : Option Addr) (len cap : Nat) (zs : List Int) (w : World) (h : IsRow .u8 w a0 len cap zs) (hl : len ≤ 1048576) :
    Calls Tryz.prog 62 #[.slice a0 len cap] w (DrawnL w) := by
  have o0 := Own.new w [.slice none 0 0, .string ⟨#[]⟩, .string ⟨#[]⟩, .string ⟨#[]⟩] 27
  have hb0 := (Below.refl w.heap.size w).alloc (Nat.le_refl _) (.cells #[.slice none 0 0, .string ⟨#[]⟩, .string ⟨#[]⟩, .string ⟨#[]⟩] 27)
  go_enter Tryz.func62, Tryz.ntmps62
  go_wp2_with fail
  refine (l21Open_any a0 len cap zs _ (h.alloc_ _) hl).mono ?_
  rintro e w1 ⟨rfl, hr1, hb1⟩
  have o1 := o0.below hb1 o0.lt
  have hbw1 := bt hb0 hb1
  rw [World.size_alloc] at hr1
  clear o0 hb0 hb1 h
  go_wp2_with fail
  generalize hB0 : w.heap.size = B0 at *
  have HB0 := Lib.hid hB0
  clear hB0
  refine (l13Open_any (B0 + 1) 0 _ hr1 (by omega)).mono ?_
  rintro e w2 ⟨m6, v, ms, a6, am, cap6, cm, hsm, hv, hst, hl24, rfl, hrd, hrm, hbl, hbm, hr2, hm2⟩
  have l1 := hr1.lt
  have o2 := o1.grown hm2 (by simp)
  have hbw2 : Below B0 w w2 := hbw1.trans (hm2.toBelow (by omega) (by omega))
  have HBL : Hid (∀ ad, a6 = some ad → B0 + 1 < ad.block) := Lib.hid (fun ad e => by have := hbl ad e; omega)
  have HBM : Hid (∀ ad, am = some ad → B0 + 1 < ad.block) := Lib.hid (fun ad e => by have := hbm ad e; omega)
  have HSM := Lib.hid hsm
  have HST := Lib.hid hst
  have hz12 := hm2.size
  clear o1 hr1 hbw1 hm2 hbl hbm hsm hst
  have l2 := o2.lt
  have hb22 : Below w2.heap.size w2 (w2.alloc (.cells [.slice a6 m6.wheels.rotors.length cap6, .string m6.wheels.refl, .string m6.rings, .string m6.plugs].toArray 27)) := (Below.refl _ _).alloc (Nat.le_refl _) _
  have p2 := Own.new w2 [.slice a6 m6.wheels.rotors.length cap6, .string m6.wheels.refl, .string m6.rings, .string m6.plugs] 27
  have o3 := o2.alloc (.cells [.slice a6 m6.wheels.rotors.length cap6, .string m6.wheels.refl, .string m6.rings, .string m6.plugs].toArray 27)
  have hr3 := hr2.alloc (.cells [.slice a6 m6.wheels.rotors.length cap6, .string m6.wheels.refl, .string m6.rings, .string m6.plugs].toArray 27)
  have hrd3 := hrd.below hb22 (Nat.le_refl _)
  have hrm3 := hrm.below hb22 (Nat.le_refl _)
  have hbw3 := hbw2.alloc (by omega) (.cells [.slice a6 m6.wheels.rotors.length cap6, .string m6.wheels.refl, .string m6.rings, .string m6.plugs].toArray 27)
  have hz3 : (w2.alloc (.cells [.slice a6 m6.wheels.rotors.length cap6, .string m6.wheels.refl, .string m6.rings, .string m6.plugs].toArray 27)).heap.size = w2.heap.size + 1 := by simp
  have HZ3 := Lib.hid hz3
  clear o2 hr2 hrd hrm hbw2 hb22 hz3
  go_wp2_with fail
  generalize (w2.alloc (.cells [.slice a6 m6.wheels.rotors.length cap6, .string m6.wheels.refl, .string m6.rings, .string m6.plugs].toArray 27)) = W2 at *
  generalize w2.heap.size = B2 at *
  refine (pick_any (B0 + 1) _ _ _ hr3 (by omega) (by omega) (by omega)).mono ?_
  rintro e w3 ⟨x, rfl, _, _, _, hr4, hm4⟩
  have hz := HZ3.out
  have p4 := p2.grown hm4 (by simp; omega)
  have o4 := o3.grown hm4 (by simp)
  have hrd4 := hrd3.mvB (by omega) hm4 (fun ad e => by have := HBL.out ad e; omega)
  have hrm4 := hrm3.mvB (by omega) hm4 (fun ad e => by have := HBM.out ad e; omega)
  have hbw4 := hbw3.trans (hm4.toBelow (by omega) (by omega))
  have l4 := p4.lt
  clear p2 o3 hr3 hrd3 hrm3 hbw3 hm4
  go_upto_if 19 with (fail)
  go_cut [] (fun wr => ∃ p : ByteArray, p.size ≤ 300 ∧ Own wr B2 [.slice a6 m6.wheels.rotors.length cap6, .string m6.wheels.refl, .string m6.rings, .string p] ∧ Own wr B0 [.slice none 0 0, .string ⟨#[]⟩, .string ⟨#[]⟩, .string ⟨#[]⟩] ∧ Reads wr B2 a6 (rvs m6.wheels.rotors) ∧ Reads wr B2 am (lks ms) ∧ Below B0 w wr)
  case first =>
    by_cases e0 : x = 0
    · have t0 : (x == 0) = true := by simp [e0]
      clear e0
      go_wp2_with fail
      refine (l4Any_any (B0 + 1) _ _ hr4 (by omega)).mono ?_
      rintro e w5 ⟨s, hs, rfl, hr5, hm5⟩
      have hss : s.size ≤ 300 := by rw [permB_size (plugB_perm hs)]; omega
      have p5 := p4.grown hm5 (by simp; omega)
      have o5 := o4.grown hm5 (by simp)
      have hrd5 := hrd4.mvB (by omega) hm5 (fun ad e => by have := HBL.out ad e; omega)
      have hrm5 := hrm4.mvB (by omega) hm5 (fun ad e => by have := HBM.out ad e; omega)
      have hbw5 := hbw4.trans (hm5.toBelow (by omega) (by omega))
      clear p4 o4 hr4 hrd4 hrm4 hbw4 hm5
      have f3 := p5.at_ (i := 3) rfl
      have b3 := p5.free 3 (by simp)
      go_wp2_with fail
      go_meet
      exact ⟨s, hss, p5.set_ (i := 3) (by simp) (.string s), o5.far (by simp; omega) _, hrd5.setB (Nat.le_refl _) _, hrm5.setB (Nat.le_refl _) _, hbw5.setCell (by simp; omega) _⟩
    · have t0 : (x == 0) = false := by simp [e0]
      clear e0
      go_wp2_with fail
      go_meet
      exact ⟨m6.plugs, HSM.out.plugs, p4, o4, hrd4, hrm4, hbw4⟩
  case rest =>
    clear p4 o4 hr4 hrd4 hrm4 hbw4 l4
    obtain ⟨p, hp, p4, o4, hrd4, hrm4, hbw4⟩ := hcut
    have l4 := p4.lt
    have HRD := Lib.hid hrd4
    have HRM := Lib.hid hrm4
    clear hrd4 hrm4
    have f0 := p4.at_ (i := 0) rfl
    have f1 := p4.at_ (i := 1) rfl
    have f2 := p4.at_ (i := 2) rfl
    have f3 := p4.at_ (i := 3) rfl
    have c0 := o4.at_ (i := 0) rfl
    have c1 := o4.at_ (i := 1) rfl
    have c2 := o4.at_ (i := 2) rfl
    have c3 := o4.at_ (i := 3) rfl
    have b0 := o4.free 0 (by simp)
    have b1 := o4.free 1 (by simp)
    have b2 := o4.free 2 (by simp)
    have b3 := o4.free 3 (by simp)
    go_wp2
    have oz := o4.set4 (.slice a6 m6.wheels.rotors.length cap6) (.string m6.wheels.refl) (.string m6.rings) (.string p)
    have k0 := oz.at_ (i := 0) rfl
    have k1 := oz.at_ (i := 1) rfl
    have k2 := oz.at_ (i := 2) rfl
    have k3 := oz.at_ (i := 3) rfl
    refine bodyPost_ret (v := .tuple #[.agg #[.slice a6 m6.wheels.rotors.length cap6, .string m6.wheels.refl, .string m6.rings, .string p], .string v, .slice am ms.length cm]) (by unfold set4 at *; simp [results, Tryz.results62, go_sem, k0, k1, k2, k3]) rfl ?_
    refine ⟨⟨m6.wheels, m6.rings, p⟩, v, ms, a6, am, cap6, cm, ⟨⟨HSM.out.whl, HSM.out.rings, hp⟩, ?_, ?_, ?_⟩, hv, HST.out, hl24, ?_, rfl⟩
    · show Reads (set4 wc B0 _ _ _ _) (set4 wc B0 _ _ _ _).heap.size _ _
      rw [size_set4]
      exact (HRD.out.more (by omega)).set4 (fun ad h => by have := HBL.out ad h; omega) _ _ _ _
    · intro ad h
      rw [HB0.out]
      have := HBL.out ad h; omega
    · rw [HB0.out]
      exact bel_set4 hbw4 (Nat.le_refl _) _ _ _ _
    · show Reads (set4 wc B0 _ _ _ _) (set4 wc B0 _ _ _ _).heap.size _ _
      rw [size_set4]
      exact (HRM.out.more (by omega)).set4 (fun ad h => by have := HBM.out ad h; omega) _ _ _ _
end Go.Proofs.YtbeohccbflhdiaaGreat

/- The walk of the law that a menu is kept exactly if each key makes its letters. -/
namespace Go.Proofs.YtbeohccbflhdiaaGreat
open Go.RowKit

theorem SmT.smL {ms : List Lnk} (h : SmT ms) : SmL ms := fun x hx => by have := h x hx; omega
theorem one_S {s : ByteArray} (h : s.size = 1) : s = S [s[0]'(by omega)] := by
  refine L_inj ?_
  rw [L_S]
  refine List.ext_getElem (by rw [size_L]; simpa using h) fun i h1 h2 => ?_
  have : i = 0 := by simp at h2; omega
  subst this
  rw [← getElem_L]; rfl
/-- What ApplyPerm makes of a link's first letter. -/
theorem app_chk {m : Mach} {v : ByteArray} {x : Lnk} {k : Nat} (h : machB m = true) (h1 : x.p.size = 1) (h2 : x.c.size = 1) (hw : wordB (x.p ++ x.c) = true) (hk : x.k.toNat - 1 = k) :
    ((appV (wd (keyN m v k)) x.p).toList == x.c.toList) = chk1 m v x := by
  have hwt := word_two hw
  obtain ⟨e1, e2, -⟩ := lk_letter h1 hwt.1
  obtain ⟨e4, e5, -⟩ := lk_letter h2 hwt.2
  have hp := isP_keyN h v k
  have hl := hp.at_lt e2
  have ha : appV (wd (keyN m v k)) x.p = S [letr (pAt (keyN m v k) (lkA x.p) : Int)] := by
    rw [one_S h1]
    have hi : isL (x.p[0]'(by omega)) = true := hwt.1 _ (by rw [getElem_L]; exact List.getElem_mem _)
    rw [app_one hp hi e1, ← one_S h1]
  have hc : x.c = S [letr (lkA x.c : Int)] := by
    have h3 := one_S h2
    have hi : isL (x.c[0]'(by omega)) = true := hwt.2 _ (by rw [getElem_L]; exact List.getElem_mem _)
    have h5 := (isL_iff _).1 hi
    have h6 : letr (dig (x.c[0]'(by omega))) = x.c[0]'(by omega) := letr_dig ⟨h5.1, h5.2⟩
    rw [e4] at h6
    rw [h6]; exact h3
  unfold chk1
  rw [hk, ha, Bool.eq_iff_iff, beq_iff_eq, beq_iff_eq, toList_L, toList_L]
  constructor
  · intro e
    have e6 := L_inj e
    rw [hc] at e6
    have e7 := congrArg L e6
    rw [L_S, L_S] at e7
    have e8 := congrArg dig (List.cons.inj e7).1
    rw [dig_letr, dig_letr] at e8
    omega
  · intro e
    rw [e, ← hc]
theorem all_takeL {P : Lnk → Bool} {gs : List Lnk} {k : Nat} (h : k < gs.length) : (gs.take (k + 1)).all P = ((gs.take k).all P && P gs[k]) := by
  rw [List.take_succ_eq_append_getElem h, List.all_append]; simp
/-- What the laws of menus are drawn, at a world. -/
structure LAt (w : World) (B : Nat) (a1 : Option Addr) (cap1 : Nat) (m : Mach) (am : Option Addr) (ms : List Lnk) : Prop where
  box : Own w B [.slice a1 m.wheels.rotors.length cap1, .string m.wheels.refl, .string m.rings, .string m.plugs]
  mach : MachAt w w.heap.size a1 m.wheels.rotors.length m
  menu : Reads w w.heap.size am (lks ms)
theorem LAt.below {w w' : World} {B : Nat} {a1 : Option Addr} {cap1 : Nat} {m : Mach} {am : Option Addr} {ms : List Lnk} (h : LAt w B a1 cap1 m am ms) (hb : Below w.heap.size w w') : LAt w' B a1 cap1 m am ms :=
  ⟨h.box.below hb h.box.lt, (h.mach.below hb (Nat.le_refl _)).more hb.size, (h.menu.below hb (Nat.le_refl _)).more hb.size⟩
set_option maxRecDepth 100000 in
set_option maxHeartbeats 4000000 in
theorem checkMenu_walk (a : Option Addr) (len cap : Nat) (zs : List Int) (w : World) (h : IsRow .u8 w a len cap zs) :
    Calls Tryz.prog 17 #[.slice a len cap] w fun e w' => e = .returned (.bool true) ∧ Below w.heap.size w w' := by
  have hlen : len ≤ 9223372036854775807 := by
    rcases h with ⟨_, rfl, _⟩ | ⟨x, _, hl, hm, _⟩
    · omega
    · unfold maxLen at hm; omega
  by_cases hl : 1048576 < len
  · go_enter Tryz.func17, Tryz.ntmps17
    go_wp2
    go_ret
    exact ⟨rfl, Below.refl _ _⟩
  · go_enter Tryz.func17, Tryz.ntmps17
    go_wp2_with fail
    refine (DrawCheckMenu_any a len cap zs _ h (by omega)).mono ?_
    rintro e w1 ⟨m, v, ms, a1, am, cap1, cm, ⟨hsm, hrd, -, hb1⟩, hv, hst, hl24, hrm, rfl⟩
    have o1 := Own.new w1 [.slice a1 m.wheels.rotors.length cap1, .string m.wheels.refl, .string m.rings, .string m.plugs] 27
    have hba : Below w1.heap.size w1 (w1.alloc (.cells [.slice a1 m.wheels.rotors.length cap1, .string m.wheels.refl, .string m.rings, .string m.plugs].toArray 27)) := (Below.refl _ _).alloc (Nat.le_refl _) _
    have hb1' := hb1.alloc hb1.size (.cells [.slice a1 m.wheels.rotors.length cap1, .string m.wheels.refl, .string m.rings, .string m.plugs].toArray 27)
    have A1 : LAt (w1.alloc (.cells [.slice a1 m.wheels.rotors.length cap1, .string m.wheels.refl, .string m.rings, .string m.plugs].toArray 27)) w1.heap.size a1 cap1 m am ms := ⟨o1, (hsm.at_ hrd).alloc_ _, (hrm.below hba (Nat.le_refl _)).more hba.size⟩
    have hsl := hst.smL
    clear hrd hb1 h hsm hrm hba o1
    go_wp2_with fail
    generalize (w1.alloc (.cells [.slice a1 m.wheels.rotors.length cap1, .string m.wheels.refl, .string m.rings, .string m.plugs].toArray 27)) = W1 at *
    generalize w1.heap.size = B1 at *
    refine (implCheckMenu_any a1 _ cap1 m v am cm ms _ A1.mach (by omega) A1.menu hsl (by omega)).mono ?_
    rintro e w2 ⟨rfl, hb2⟩
    have A2 := A1.below hb2
    have hbw2 := bt hb1' hb2
    clear A1 hb1' hb2
    have nsp := fun W h1 h2 => specCheckMenu_any a1 m.wheels.rotors.length cap1 m v am cm ms W h1 (by omega) h2 (by omega)
    have nmv := fun W h2 => implMenuValid_any am cm ms W h2 hsl (by omega)
    have HT : Hid (chkT m v ms = (setB m v && (menuB ms && ms.all (chk1 m v)))) := Lib.hid rfl
    generalize chkT m v ms = T at *
    have f0 := A2.box.at_ (i := 0) rfl
    have f1 := A2.box.at_ (i := 1) rfl
    have f2 := A2.box.at_ (i := 2) rfl
    have f3 := A2.box.at_ (i := 3) rfl
    have tne : (T != T) = false := by simp
    go_wp2_with fail
    refine (nsp _ A2.mach A2.menu).mono ?_
    rintro e w3 ⟨rfl, hb3⟩
    have A3 := A2.below hb3
    have hbw3 := bt hbw2 hb3
    clear A2 hbw2 hb3 f0 f1 f2 f3
    have f0 := A3.box.at_ (i := 0) rfl
    have f1 := A3.box.at_ (i := 1) rfl
    have f2 := A3.box.at_ (i := 2) rfl
    have f3 := A3.box.at_ (i := 3) rfl
    go_wp2_with fail
    refine (rcFits_any a1 _ cap1 m v _ A3.mach (by omega)).mono ?_
    rintro e w4 ⟨rfl, hb4⟩
    have A4 := A3.below hb4
    have hbw4 := bt hbw3 hb4
    clear A3 hbw3 hb4 f0 f1 f2 f3
    have f0 := A4.box.at_ (i := 0) rfl
    have f1 := A4.box.at_ (i := 1) rfl
    have f2 := A4.box.at_ (i := 2) rfl
    have f3 := A4.box.at_ (i := 3) rfl
    cases h1 : setB m v with
    | false =>
      have hT : T = false := by rw [HT.out, h1]; rfl
      subst hT
      clear HT
      go_wp2_with fail
      refine (nsp _ A4.mach A4.menu).mono ?_
      rintro e w5 ⟨rfl, hb5⟩
      have A5 := A4.below hb5
      have hbw5 := bt hbw4 hb5
      clear A4 hbw4 hb5 f0 f1 f2 f3
      have f0 := A5.box.at_ (i := 0) rfl
      have f1 := A5.box.at_ (i := 1) rfl
      have f2 := A5.box.at_ (i := 2) rfl
      have f3 := A5.box.at_ (i := 3) rfl
      go_wp2_with fail
      have hrf := rcFits_any a1 _ cap1 m v _ A5.mach (by omega)
      rw [h1] at hrf
      refine hrf.mono ?_
      rintro e w6 ⟨rfl, hb6⟩
      clear hrf h1
      go_wp2
      go_ret
      exact ⟨by simp, bt hbw5 hb6⟩
    | true =>
      go_wp2_with fail
      refine (nmv _ A4.menu).mono ?_
      rintro e w5 ⟨rfl, hb5⟩
      have A5 := A4.below hb5
      have hbw5 := bt hbw4 hb5
      clear A4 hbw4 hb5 f0 f1 f2 f3
      have f0 := A5.box.at_ (i := 0) rfl
      have f1 := A5.box.at_ (i := 1) rfl
      have f2 := A5.box.at_ (i := 2) rfl
      have f3 := A5.box.at_ (i := 3) rfl
      cases h2 : menuB ms with
      | false =>
        have hT : T = false := by rw [HT.out, h1, h2]; rfl
        subst hT
        clear HT
        go_wp2_with fail
        refine (nsp _ A5.mach A5.menu).mono ?_
        rintro e w6 ⟨rfl, hb6⟩
        have A6 := A5.below hb6
        have hbw6 := bt hbw5 hb6
        clear A5 hbw5 hb6 f0 f1 f2 f3
        have f0 := A6.box.at_ (i := 0) rfl
        have f1 := A6.box.at_ (i := 1) rfl
        have f2 := A6.box.at_ (i := 2) rfl
        have f3 := A6.box.at_ (i := 3) rfl
        go_wp2_with fail
        have hrf := rcFits_any a1 _ cap1 m v _ A6.mach (by omega)
        rw [h1] at hrf
        refine hrf.mono ?_
        rintro e w7 ⟨rfl, hb7⟩
        have A7 := A6.below hb7
        have hbw7 := bt hbw6 hb7
        clear A6 hbw6 hb7 hrf f0 f1 f2 f3
        go_wp2_with fail
        have hmv := nmv _ A7.menu
        rw [h2] at hmv
        refine hmv.mono ?_
        rintro e w8 ⟨rfl, hb8⟩
        clear hmv h1 h2
        go_wp2
        go_ret
        exact ⟨by simp, bt hbw7 hb8⟩
      | true =>
        have hT : T = ms.all (chk1 m v) := by rw [HT.out, h1, h2]; rfl
        have HTA := Lib.hid hT
        clear hT HT nsp nmv tne
        have hmb := setB_mach h1
        have hasc := menuB_asc h2
        have hone := hasc.one
        have hfew := hasc.few
        have HOK := Lib.hid (fun i (hi : i < ms.length) => okLnk_iff.1 (okFrom_asc ms 0 (menuB_ok h2).2.2 i hi))
        have HA := Lib.hid hasc
        obtain ⟨j, hj⟩ : ∃ j, ms.length = j + 1 := ⟨ms.length - 1, by omega⟩
        have hsub : IntKind.i64.wrap ((ms.length : Int) - 1) = (j : Int) := by rw [IntWalk.i64_in _ (by omega)]; omega
        obtain ⟨N, hN⟩ : ∃ N, N = kat ms j := ⟨_, rfl⟩
        have hN1 : 1 ≤ N := by rw [hN]; exact hasc.lo _ (by omega)
        have hN60 : N ≤ 60 := by rw [hN]; exact hasc.hi _ (by omega)
        have HLL : Hid (∀ i, i < ms.length → kat ms i ≤ N) := Lib.hid (fun i hi => by
          have := hasc.le_last (ms.length - 1 - i) i (by omega)
          rw [show ms.length - 1 = j by omega, ← hN] at this
          exact this)
        obtain ⟨b, off, rfl, hbl, hcl⟩ := A5.menu.open_ (by rw [len_lks]; omega)
        have cl := hcl (j * 3 + 2) (by rw [len_lks]; omega)
        rw [lks_at2 _ _ (show j < ms.length by omega), ← Nat.add_assoc, hasc.pos j (by omega), ← hN] at cl
        have q0 : (0 : Int) ≤ (j : Int) := by omega
        have q0' : (j : Int) < (ms.length : Int) := by omega
        have lo := A5.box.lt
        have d0 := fun (cc : Cls w5.heap.size w5) => (cc.cell B1 0 lo).trans f0
        have d1 := fun (cc : Cls w5.heap.size w5) => (cc.cell B1 1 lo).trans f1
        have d2 := fun (cc : Cls w5.heap.size w5) => (cc.cell B1 2 lo).trans f2
        have d3 := fun (cc : Cls w5.heap.size w5) => (cc.cell B1 3 lo).trans f3
        have d4 := fun (cc : Cls w5.heap.size w5) => (cc.cell b (off + j * 3 + 2) hbl).trans cl
        clear hcl hasc hj hN h2 f0 f1 f2 f3 cl
        go_wp2_with fail
        refine wp_region_cls_tail 9 (by kernel_rfl) (by kernel_rfl) ?_
        simp only [List.take_succ_cons, List.take_zero, List.drop_succ_cons, List.drop_zero]
        repeat (go_big_quiet_step (first | fail))
        refine wpQuiet_nil ?_
        intro wc hbc
        have A6 := A5.below hbc
        have hbw6 := bt hbw5 hbc
        clear A5 hbw5 d0 d1 d2 d3 d4 hbc lo
        go_wp2_with fail
        have hkp := implKeyPerms_any a1 _ cap1 m v (N : Int) _ A6.mach (by omega)
        rw [keyT_yes h1 hN60] at hkp
        refine hkp.mono ?_
        rintro e w7 ⟨lv, rfl, hol, hb7⟩
        rw [len_keyS] at hol
        obtain ⟨al, cl2, rfl, hlc2, -, hgl⟩ := hol.val
        obtain ⟨gK, rfl, -, ok⟩ := hgl.resolve_left (by omega)
        have hrm7 := (A6.menu.below hb7 (Nat.le_refl _)).more hb7.size
        have hbw7 := bt hbw6 hb7
        clear A6 hbw6 hb7 hkp hol hgl
        go_wp2_with fail
        go_loopw [7, 9] (fun gd i wr => ∃ (k : Nat) (y : Bool), k ≤ ms.length ∧ i = .int .i64 k ∧ gd = .bool y ∧ y = (ms.take k).all (chk1 m v) ∧ Own wr gK (sv (keyS m v N)) ∧ Reads wr wr.heap.size (some ⟨b, off, none⟩) (lks ms) ∧ Below w.heap.size w wr) (fun _ i _ => ms.length - (intOf i).toNat)
        case atStart => exact ⟨0, true, Nat.zero_le _, rfl, rfl, by simp, ok, hrm7, hbw7⟩
        case round =>
          clear ok hrm7 hbw7 hbl
          obtain ⟨k, y, hk, rfl, rfl, hy, ok, hrm, hb⟩ := hrel
          have HY := Lib.hid hy
          clear hy
          by_cases hlt : k < ms.length
          · obtain ⟨b', off', hbb, hbl, hcl⟩ := hrm.open_ (by rw [len_lks]; omega)
            cases hbb
            have c0 := hcl (k * 3) (by rw [len_lks]; omega)
            have c1 := hcl (k * 3 + 1) (by rw [len_lks]; omega)
            have c2 := hcl (k * 3 + 2) (by rw [len_lks]; omega)
            rw [lks_at0 _ _ hlt] at c0
            rw [lks_at1 _ _ hlt, ← Nat.add_assoc] at c1
            rw [lks_at2 _ _ hlt, ← Nat.add_assoc, HA.out.pos k hlt] at c2
            have hlo := HA.out.lo k hlt
            have hll := HLL.out k hlt
            have hok := HOK.out k hlt
            have hps := HA.out.pos k hlt
            obtain ⟨d, hd⟩ : ∃ d : Nat, kat ms k = d + 1 := ⟨kat ms k - 1, by omega⟩
            have hsub : IntKind.i64.wrap (((kat ms k : Nat) : Int) - 1) = (d : Int) := by rw [IntWalk.i64_in _ (by omega)]; omega
            have ck := ok.at_ (at_keyS m v (n := N) (k := d) (by omega))
            have hac := app_chk (m := m) (v := v) (x := ms[k]) (k := d) hmb hok.1 hok.2.1 hok.2.2.1 (by rw [hps, hd]; omega)
            have HAT := Lib.hid (all_takeL (P := chk1 m v) hlt)
            have hx1 := hok.1
            clear hok hps hcl
            generalize ms[k] = x at *
            obtain ⟨xp, xc, xk⟩ := x
            simp only at c0 c1 hac hx1
            have lk := ok.lt
            have d0 := fun (cc : Cls wr.heap.size wr) => (cc.cell b (off + k * 3) hbl).trans c0
            have d1 := fun (cc : Cls wr.heap.size wr) => (cc.cell b (off + k * 3 + 1) hbl).trans c1
            have d2 := fun (cc : Cls wr.heap.size wr) => (cc.cell b (off + k * 3 + 2) hbl).trans c2
            have d3 := fun (cc : Cls wr.heap.size wr) => (cc.cell gK d lk).trans ck
            have hz1 : (wd (keyN m v d)).size ≤ 10 := by rw [size_wd, (isP_keyN hmb v d).len]; exact Nat.le_refl _
            have n1 := fun W => implApplyPerm_any (wd (keyN m v d)) xp W (by omega) (by omega)
            have q1 : (0 : Int) ≤ (k : Int) := by omega
            have q2 : (k : Int) < (ms.length : Int) := by omega
            have q3 : (0 : Int) ≤ (d : Int) := by omega
            have q4 : (d : Int) < (N : Int) := by omega
            clear c0 c1 c2 ck hlo hll hd hx1 hz1
            generalize kat ms k = kk at *
            generalize appV (wd (keyN m v d)) xp = ap at *
            generalize wd (keyN m v d) = yk at *
            generalize chk1 m v ⟨xp, xc, xk⟩ = ck1 at *
            cases y with
            | true =>
              go_wp2_with fail
              refine wp_region_cls (by kernel_rfl) (by kernel_rfl) ?_
              repeat (go_big_quiet_step (first | (go_at_call 40; with_reducible exact cls_of (Nat.le_refl _) (n1 _))))
              refine wpQuiet_nil ?_
              intro wc hbc
              go_wp2
              go_roundw
              case rel => exact ⟨k + 1, ck1, by omega, by go_num, by first | rfl | (rw [← hac]) | simp [hac], by rw [HAT.out, ← HY.out, Bool.true_and], ok.below hbc lk, (hrm.below hbc (Nat.le_refl _)).more hbc.size, bt hb hbc⟩
              case measure => simp [intOf]; omega
            | false =>
              go_wp2_with fail
              refine wp_region_cls (by kernel_rfl) (by kernel_rfl) ?_
              repeat (go_big_quiet_step (first | (go_at_call 40; with_reducible exact cls_of (Nat.le_refl _) (n1 _))))
              refine wpQuiet_nil ?_
              intro wc hbc
              go_wp2
              go_roundw
              case rel => exact ⟨k + 1, false, by omega, by go_num, rfl, by rw [HAT.out, ← HY.out, Bool.false_and], ok.below hbc lk, (hrm.below hbc (Nat.le_refl _)).more hbc.size, bt hb hbc⟩
              case measure => simp [intOf]; omega
          · have hk' : k = ms.length := by omega
            have hTy : T = y := by rw [HTA.out, HY.out, hk', List.take_length]
            subst hTy
            have teq : (T == T) = true := by simp
            clear HTA HY
            go_wp2
            go_ret
            exact ⟨by simp, hb⟩
end Go.Proofs.YtbeohccbflhdiaaGreat
