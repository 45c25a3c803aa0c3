/- Several of my texts in one: Draw7b, DrawTape, Draw8, Draw9, DrawO, DrawV2. -/
import Derived.Test.YtnnblmibonnpcaaGreatM9
import Derived.Test.YtnnblmibonnpcaaGreatM5
/- Contracts of the functions that draw wheels and windows from an input. -/
namespace Go.Proofs.YtnnblmibonnpcaaGreat
open Go.RowKit

/-- Wheels and windows, drawn from an input. -/
def DrawnW (w : World) (e : Ending) (w' : World) : Prop :=
  ∃ (x : Whl) (u : ByteArray) (a : Option Addr) (cap : Nat), SmallW x ∧ u.size ≤ 300 ∧ e = .returned (.tuple #[.agg #[.slice a x.rotors.length cap, .string x.refl], .string u]) ∧ Reads w' w'.heap.size a (rvs x.rotors) ∧ (∀ ad, a = some ad → w.heap.size ≤ ad.block) ∧ Below w.heap.size w w'

end Go.Proofs.YtnnblmibonnpcaaGreat

/- Contracts of the functions that draw wheels, tapes and numbers. -/
namespace Go.Proofs.YtnnblmibonnpcaaGreat
open Go.RowKit

/-- What the drawing of a string leaves: a string of at most m bytes. -/
def StrPost (R : Nat) (m : Nat) (c : Nat) (w : World) (e : Ending) (w' : World) : Prop :=
  ∃ s : ByteArray, s.size ≤ m ∧ e = .returned (.string s) ∧ Rd w' R c ∧ Moved R w w'

theorem many_step (s k : Nat) : s * k = (s + s) * (k / 2) + (if k % 2 = 1 then s else 0) := by
  have e : ∀ q, (s + s) * q = s * (2 * q) := fun q => by rw [← Nat.two_mul, Nat.mul_assoc 2 s q, Nat.mul_left_comm]
  rcases Nat.mod_two_eq_zero_or_one k with h | h
  · rw [e, if_neg (by omega), show 2 * (k / 2) = k by omega, Nat.add_zero]
  · rw [e, if_pos h, ← Nat.mul_succ, show (2 * (k / 2)).succ = k by omega]

/-- What the drawing of a number leaves. -/
def IntPost (R : Nat) (P : Int → Prop) (c : Nat) (w : World) (e : Ending) (w' : World) : Prop :=
  ∃ n : Int, P n ∧ e = .returned (.int .i64 n) ∧ Rd w' R c ∧ Moved R w w'
def Is64 (n : Int) : Prop := -9223372036854775808 ≤ n ∧ n ≤ 9223372036854775807
end Go.Proofs.YtnnblmibonnpcaaGreat

/- Contracts of the functions that draw words and windows, from an input. -/
namespace Go.Proofs.YtnnblmibonnpcaaGreat
open Go.RowKit

/-- A string of at most n bytes. -/
def Sh (n : Nat) (s : ByteArray) : Prop := s.size ≤ n
theorem StrP.mono {R : Nat} {P Q : ByteArray → Prop} {c c' : Nat} {w : World} {e : Ending} {w' : World} (h : StrP R P c w e w') (hc : c ≤ c') (hP : ∀ s, P s → Q s) : StrP R Q c' w e w' := by
  obtain ⟨s, h1, h2, h3, h4⟩ := h
  exact ⟨s, hP s h1, h2, h3.more hc, h4⟩

theorem l8Off_any (R : Nat) (u : ByteArray) (c : Nat) (w : World) (h : Rd w R c) (hc : c ≤ 9000000) (h1 : 1 ≤ u.size) (hu : u.size ≤ 200) :
    Calls Tryz.prog 33 #[.pointer (some ⟨R, 0, none⟩), .string u] w (StrP R (Sh 300) (c + 2) w) := by
  have s1 := sl_1 u h1
  have z1 : (u.extract 1 u.size).size ≤ 200 := by simp only [ByteArray.size_extract]; omega
  go_enter Tryz.func33, Tryz.ntmps33
  go_wp2_with fail
  refine (pick_any R _ c _ h (by omega) (by omega) (by omega)).mono ?_
  rintro e w1 ⟨v, rfl, hv0, hv1, _, hr1, hm1⟩
  clear hv1 h
  by_cases e0 : v = 0
  · have t0 : (v == 0) = true := by simp [e0]
    clear e0 s1
    go_wp2
    go_ret
    refine ⟨u ++ ⟨#[97]⟩, ?_, rfl, hr1.more (by omega), hm1⟩
    unfold Sh; rw [ByteArray.size_append]; have : (⟨#[97]⟩ : ByteArray).size = 1 := rfl; omega
  · have t0 : (v == 0) = false := by simp [e0]
    by_cases e1 : v = 1
    · have t1 : (v == 1) = true := by simp [e1]
      clear e0 e1
      generalize u.extract 1 u.size = ux at *
      go_wp2
      go_ret
      refine ⟨ux ++ ⟨#[107]⟩, ?_, rfl, hr1.more (by omega), hm1⟩
      unfold Sh; rw [ByteArray.size_append]; have : (⟨#[107]⟩ : ByteArray).size = 1 := rfl; omega
    · have t1 : (v == 1) = false := by simp [e1]
      clear e0 e1 s1
      go_wp2
      go_ret
      exact ⟨u, by unfold Sh; omega, rfl, hr1.more (by omega), hm1⟩
end Go.Proofs.YtnnblmibonnpcaaGreat

/- Contracts of the functions that draw machines, from an input. -/
namespace Go.Proofs.YtnnblmibonnpcaaGreat
open Go.RowKit

/-- A good machine and windows, drawn. -/
def FitM (R : Nat) (c : Nat) (w : World) (e : Ending) (w' : World) : Prop :=
  ∃ (m : Mach) (u : ByteArray) (g cp : Nat), GoodW3 m.wheels ∧ setB m u = true ∧ e = .returned (.tuple #[.agg #[.slice (some ⟨g, 0, none⟩) m.wheels.rotors.length cp, .string m.wheels.refl, .string m.rings, .string m.plugs], .string u]) ∧
    OwR w' w.heap.size 73 2 (.slice (some ⟨g, 0, none⟩) m.wheels.rotors.length cp) m.wheels.rotors.length (rvs m.wheels.rotors) ∧ w.heap.size < g ∧ Rd w' R c ∧ Moved R w w'
/-- A machine whose strings are short. -/
structure SmallM (m : Mach) : Prop where
  whl : SmallW m.wheels
  rings : m.rings.size ≤ 300
  plugs : m.plugs.size ≤ 300
theorem SmallM.at_ {m : Mach} (h : SmallM m) {w : World} {B : Nat} {a : Option Addr} (hr : Reads w B a (rvs m.wheels.rotors)) : MachAt w B a m.wheels.rotors.length m :=
  ⟨h.whl.at_ hr, by have := h.rings; omega, by have := h.plugs; omega⟩
theorem goodM {x : Whl} {u s p : ByteArray} (hx : GoodW3 x) (hu : Wd x.rotors.length u) (hs : Wd u.size s) (hp : plugB p = true) : setB ⟨x, s, p⟩ u = true := by
  refine setB_mk ?_ (by rw [hs.2]) hu.1
  simp only [machB, Bool.and_eq_true]
  exact ⟨fitB_iff.2 (hx.fit ⟨hs.1, by rw [hs.2, hu.2]⟩), hp⟩
/-- Four stores into one block. -/
def set4 (w : World) (b : Nat) (v0 v1 v2 v3 : Value) : World := (((w.setCell ⟨b, 0, none⟩ v0).setCell ⟨b, 1, none⟩ v1).setCell ⟨b, 2, none⟩ v2).setCell ⟨b, 3, none⟩ v3
theorem size_set4 (w : World) (b : Nat) (v0 v1 v2 v3 : Value) : (set4 w b v0 v1 v2 v3).heap.size = w.heap.size := by simp [set4, World.setCell]
theorem blk_set4 (w : World) (b : Nat) (v0 v1 v2 v3 : Value) {k : Nat} (h : k ≠ b) : (set4 w b v0 v1 v2 v3).heap[k]? = w.heap[k]? := by
  unfold set4
  rw [Below.heap_setCell _ _ _ _ (by simpa using h), Below.heap_setCell _ _ _ _ (by simpa using h), Below.heap_setCell _ _ _ _ (by simpa using h), Below.heap_setCell _ _ _ _ (by simpa using h)]
theorem Rd.set4 {w : World} {R c b : Nat} (h : Rd w R c) (hb : R < b) (v0 v1 v2 v3 : Value) : Rd (set4 w b v0 v1 v2 v3) R c := h.keep fun k hk => blk_set4 _ _ _ _ _ _ (by omega)
theorem Moved.set4 {R b : Nat} {a w : World} (h : Moved R a w) (hb : a.heap.size ≤ b) (v0 v1 v2 v3 : Value) : Moved R a (set4 w b v0 v1 v2 v3) :=
  (((h.set_ (p := ⟨b, 0, none⟩) (.inr hb) v0).set_ (p := ⟨b, 1, none⟩) (.inr hb) v1).set_ (p := ⟨b, 2, none⟩) (.inr hb) v2).set_ (p := ⟨b, 3, none⟩) (.inr hb) v3
theorem Tu.set4 {R g b : Nat} {a w : World} (h : Tu R g a w) (hb : a.heap.size ≤ b) (v0 v1 v2 v3 : Value) : Tu R g a (set4 w b v0 v1 v2 v3) :=
  (((h.set_ (p := ⟨b, 0, none⟩) (.inr (.inr hb)) v0).set_ (p := ⟨b, 1, none⟩) (.inr (.inr hb)) v1).set_ (p := ⟨b, 2, none⟩) (.inr (.inr hb)) v2).set_ (p := ⟨b, 3, none⟩) (.inr (.inr hb)) v3
theorem bel_set4 {B b : Nat} {a w : World} (h : Below B a w) (hb : B ≤ b) (v0 v1 v2 v3 : Value) : Below B a (set4 w b v0 v1 v2 v3) :=
  (((h.setCell (p := ⟨b, 0, none⟩) hb v0).setCell (p := ⟨b, 1, none⟩) hb v1).setCell (p := ⟨b, 2, none⟩) hb v2).setCell (p := ⟨b, 3, none⟩) hb v3
theorem Own.set4 {w : World} {b : Nat} {u0 u1 u2 u3 : Value} (h : Own w b [u0, u1, u2, u3]) (v0 v1 v2 v3 : Value) : Own (set4 w b v0 v1 v2 v3) b [v0, v1, v2, v3] :=
  (((h.set_ (i := 0) (by simp) v0).set_ (i := 1) (by simp) v1).set_ (i := 2) (by simp) v2).set_ (i := 3) (by simp) v3
theorem OwR.set4 {w : World} {base b n cap g sz : Nat} {e : TypeId} {xs : List Value} (h : OwR w base e sz (.slice (some ⟨g, 0, none⟩) n cap) n xs) (hb : g ≠ b) (v0 v1 v2 v3 : Value) : OwR (set4 w b v0 v1 v2 v3) base e sz (.slice (some ⟨g, 0, none⟩) n cap) n xs := by
  refine ⟨h.1, ?_⟩
  rcases h.2 with ⟨h0, _⟩ | ⟨g', cap', cur, hv, hg, hh, h1⟩
  · cases h0
  · cases hv
    exact .inr ⟨g, cap, cur, rfl, hg, (blk_set4 _ _ _ _ _ _ hb).trans hh, h1⟩
theorem Reads.set4 {w : World} {B b : Nat} {a : Option Addr} {xs : List Value} (h : Reads w B a xs) (hb : ∀ ad, a = some ad → ad.block ≠ b) (v0 v1 v2 v3 : Value) : Reads (set4 w b v0 v1 v2 v3) B a xs :=
  (((h.setOff (p := ⟨b, 0, none⟩) hb v0).setOff (p := ⟨b, 1, none⟩) hb v1).setOff (p := ⟨b, 2, none⟩) hb v2).setOff (p := ⟨b, 3, none⟩) hb v3

set_option maxRecDepth 100000 in
set_option maxHeartbeats 2000000 in
theorem l8Any_any (R : Nat) (c : Nat) (w : World) (h : Rd w R c) (hc : c ≤ 6000000) :
    Calls Tryz.prog 31 #[.pointer (some ⟨R, 0, none⟩)] w (FitM R (c + 600) w) := by
  have o0 := Own.new w [.slice none 0 0, .string ⟨#[]⟩, .string ⟨#[]⟩, .string ⟨#[]⟩] 27
  have hr0 := h.alloc (.cells #[.slice none 0 0, .string ⟨#[]⟩, .string ⟨#[]⟩, .string ⟨#[]⟩] 27)
  have hm0 := (Moved.refl R w).alloc (.cells #[.slice none 0 0, .string ⟨#[]⟩, .string ⟨#[]⟩, .string ⟨#[]⟩] 27)
  have hlt := h.lt
  go_enter Tryz.func31, Tryz.ntmps31
  go_wp2_with fail
  refine (l7Some_any R c _ hr0 (by omega)).mono ?_
  rintro e w1 ⟨x, u, g, cp, hx, hu, rfl, hown1, hg, hr1, hm1⟩
  have o1 := o0.grown hm1 (by simp; omega)
  have hmw1 := hm0.trans hm1
  clear o0 hr0 hm0 hm1 h
  rw [World.size_alloc] at hown1 hg
  have p1 := Own.new w1 [.slice (some ⟨g, 0, none⟩) x.rotors.length cp, .string x.refl] 25
  have o1' := o1.alloc (.cells [.slice (some ⟨g, 0, none⟩) x.rotors.length cp, .string x.refl].toArray 25)
  have hr1' := hr1.alloc (.cells [.slice (some ⟨g, 0, none⟩) x.rotors.length cp, .string x.refl].toArray 25)
  have hown1' := World.ownsRow.alloc hown1 (.cells [.slice (some ⟨g, 0, none⟩) x.rotors.length cp, .string x.refl].toArray 25)
  have hmw1' := hmw1.alloc (.cells [.slice (some ⟨g, 0, none⟩) x.rotors.length cp, .string x.refl].toArray 25)
  have lg := (World.ownsRow.lt hown1 g rfl).2
  have l1 := o1.lt
  have hu3 : u.size ≤ 3 := by rw [hu.2]; exact hx.2.1
  clear o1 hr1 hown1 hmw1
  go_wp2_with fail
  generalize (w1.alloc (.cells [.slice (some ⟨g, 0, none⟩) x.rotors.length cp, .string x.refl].toArray 25)) = W1 at *
  have z1 := p1.lt
  generalize hB1 : w1.heap.size = B1 at *
  generalize hB0 : w.heap.size = B0 at *
  have HB0 := Lib.hid hB0
  clear hB0 hB1
  have f0 := p1.at_ (i := 0) rfl
  have f1 := p1.at_ (i := 1) rfl
  go_region_held3 (fun w' => w'.cell? ⟨B1, 0, none⟩ = some (.slice (some ⟨g, 0, none⟩) x.rotors.length cp) ∧ w'.cell? ⟨B1, 1, none⟩ = some (.string x.refl)) (first | go_keep | exact ⟨k0, k1⟩ | exact ⟨j0, j1⟩)
    (first | (go_at_call 56; refine (l1Some_any R u.size _ _ hr1'.drew (by omega) (by omega)).mono ?_; rintro e w2 ⟨s, hs, rfl, hr2, hm2⟩; have p2 := p1.drew.grown hm2 (by simp; omega); have o2 := o1'.drew.grown hm2 (by simp; omega); have q2 := OwR.moved (w := W1.drew) hown1' hm2 (by omega); have hmw2 := hmw1'.drew.trans hm2; have k0 := p2.at_ (i := 0) rfl; have k1 := p2.at_ (i := 1) rfl) | (go_at_call 57; refine (l4Any_any R _ _ hr2 (by omega)).mono ?_; rintro e w3 ⟨t, ht, rfl, hr3, hm3⟩; have p3 := p2.grown hm3 (by simp; omega); have o3 := o2.grown hm3 (by simp; omega); have q3 := OwR.moved q2 hm3 (by omega); have hmw3 := hmw2.trans hm3; have j0 := p3.at_ (i := 0) rfl; have j1 := p3.at_ (i := 1) rfl; have c0 := o3.at_ (i := 0) rfl; have c1 := o3.at_ (i := 1) rfl; have c2 := o3.at_ (i := 2) rfl; have c3 := o3.at_ (i := 3) rfl; have d0 := o3.free 0 (by simp); have d1 := o3.free 1 (by simp); have d2 := o3.free 2 (by simp); have d3 := o3.free 3 (by simp); have hn : ¬ B1 = B0 := (by omega); have hn2 : ¬ B0 = B1 := (by omega)))
  have hset := goodM hx hu hs ht
  have HSET := Lib.hid hset
  have HX := Lib.hid hx
  clear hset hx hu hs ht k0 k1 j0 j1
  go_wp2
  have o4 := o3.set4 (.slice (some ⟨g, 0, none⟩) x.rotors.length cp) (.string x.refl) (.string s) (.string t)
  have k0 := o4.at_ (i := 0) rfl
  have k1 := o4.at_ (i := 1) rfl
  have k2 := o4.at_ (i := 2) rfl
  have k3 := o4.at_ (i := 3) rfl
  refine bodyPost_ret (v := .tuple #[.agg #[.slice (some ⟨g, 0, none⟩) x.rotors.length cp, .string x.refl, .string s, .string t], .string u]) (by unfold set4 at *; simp [results, Tryz.results31, go_sem, c0, c1, c2, c3]) rfl ?_
  refine ⟨⟨x, s, t⟩, u, g, cp, HX.out, HSET.out, rfl, ?_, by rw [HB0.out]; omega, (hr3.set4 (by omega) _ _ _ _).more (by omega), hmw3.set4 (by rw [HB0.out]; exact Nat.le_refl _) _ _ _ _⟩
  rw [HB0.out]
  exact World.ownsRow.mono (OwR.set4 q3 (by omega) _ _ _ _) (by omega)

/-- What the turning of a machine into a wrong one leaves. -/
def MchB (R g : Nat) (c : Nat) (w : World) (e : Ending) (w' : World) : Prop :=
  ∃ (m : Mach) (a : Option Addr) (cap : Nat), SmallM m ∧ e = .returned (.agg #[.slice a m.wheels.rotors.length cap, .string m.wheels.refl, .string m.rings, .string m.plugs]) ∧ Reads w' w'.heap.size a (rvs m.wheels.rotors) ∧ (∀ ad, a = some ad → ad.block = g ∨ w.heap.size ≤ ad.block) ∧ Rd w' R c ∧ Tu R g w w'
/-- The end of such a function. -/
theorem mchB_mk {R g c cap B0 : Nat} {a : Option Addr} {m : Mach} {w w1 : World} (hm : SmallM m) (hb : w.heap.size = B0) (hrd : Reads w1 w1.heap.size a (rvs m.wheels.rotors)) (hbl : ∀ ad, a = some ad → (ad.block = g ∨ B0 ≤ ad.block) ∧ ad.block ≠ B0 + 1) (hr : Rd w1 R c) (ht : Tu R g w w1) (hR : R < B0) :
    MchB R g c w (.returned (.agg #[.slice a m.wheels.rotors.length cap, .string m.wheels.refl, .string m.rings, .string m.plugs])) (set4 w1 (B0 + 1) (.slice a m.wheels.rotors.length cap) (.string m.wheels.refl) (.string m.rings) (.string m.plugs)) :=
  ⟨m, a, cap, hm, rfl, by rw [size_set4]; exact hrd.set4 (fun ad h => (hbl ad h).2) _ _ _ _, fun ad h => by rw [hb]; exact (hbl ad h).1, hr.set4 (by omega) _ _ _ _, ht.set4 (by omega) _ _ _ _⟩

set_option maxRecDepth 100000 in
set_option maxHeartbeats 2000000 in
theorem l8Bad_any (R g cp base : Nat) (m : Mach) (u : ByteArray) (c : Nat) (w : World) (h : Rd w R c) (hc : c ≤ 6000000) (hx : GoodW3 m.wheels) (hset : setB m u = true) (hown : OwR w base 73 2 (.slice (some ⟨g, 0, none⟩) m.wheels.rotors.length cp) m.wheels.rotors.length (rvs m.wheels.rotors)) (hRg : R < g) :
    Calls Tryz.prog 32 #[.pointer (some ⟨R, 0, none⟩), .agg #[.slice (some ⟨g, 0, none⟩) m.wheels.rotors.length cp, .string m.wheels.refl, .string m.rings, .string m.plugs]] w (MchB R g (c + 30) w) := by
  have hmb := setB_mach hset
  have hrs : m.rings.size ≤ 3 := by rw [(machB_fit hmb).size]; exact hx.2.1
  have hrs1 : 1 ≤ m.rings.size := by rw [(machB_fit hmb).size]; exact hx.1
  have hps : m.plugs.size ≤ 10 := by rw [permB_size (plugB_perm (machB_plug hmb))]; omega
  have hsm := Lib.hid hx.small
  have hgl := (World.ownsRow.lt hown g rfl).2
  obtain ⟨x, s, t⟩ := m
  simp only at hx hrs hrs1 hps hsm hown hgl ⊢
  have o0 := (Own.new w [.slice (some ⟨g, 0, none⟩) x.rotors.length cp, .string x.refl, .string s, .string t] 27).alloc (.cells #[.slice none 0 0, .string ⟨#[]⟩, .string ⟨#[]⟩, .string ⟨#[]⟩] 27)
  have p0 := Own.new (w.alloc (.cells #[.slice (some ⟨g, 0, none⟩) x.rotors.length cp, .string x.refl, .string s, .string t] 27)) [.slice none 0 0, .string ⟨#[]⟩, .string ⟨#[]⟩, .string ⟨#[]⟩] 27
  have hr0 := (h.alloc (.cells #[.slice (some ⟨g, 0, none⟩) x.rotors.length cp, .string x.refl, .string s, .string t] 27)).alloc (.cells #[.slice none 0 0, .string ⟨#[]⟩, .string ⟨#[]⟩, .string ⟨#[]⟩] 27)
  have hm0 := ((Tu.refl R g w).alloc (.cells #[.slice (some ⟨g, 0, none⟩) x.rotors.length cp, .string x.refl, .string s, .string t] 27)).alloc (.cells #[.slice none 0 0, .string ⟨#[]⟩, .string ⟨#[]⟩, .string ⟨#[]⟩] 27)
  have hown0 := World.ownsRow.alloc (World.ownsRow.alloc hown (.cells #[.slice (some ⟨g, 0, none⟩) x.rotors.length cp, .string x.refl, .string s, .string t] 27)) (.cells #[.slice none 0 0, .string ⟨#[]⟩, .string ⟨#[]⟩, .string ⟨#[]⟩] 27)
  rw [World.size_alloc] at p0
  have hlt := h.lt
  go_enter Tryz.func32, Tryz.ntmps32
  go_wp2_with fail
  refine (pick_any R _ c _ hr0 (by omega) (by omega) (by omega)).mono ?_
  rintro e w1 ⟨v, rfl, hv0, hv1, _, hr1, hm1⟩
  have o1 := o0.grown hm1 (by simp; omega)
  have p1 := p0.grown hm1 (by simp; omega)
  have hmw1 := hm0.moved hm1
  have hown1 := OwR.movedR hown0 hm1 (by simp [Value.ownBlock]; omega)
  clear hv1 o0 p0 hr0 hm0 hm1 h hown0 hown hset hmb
  generalize hB0 : w.heap.size = B0 at *
  have HB0 := Lib.hid hB0
  clear hB0
  have f0 := o1.at_ (i := 0) rfl
  have f1 := o1.at_ (i := 1) rfl
  have f2 := o1.at_ (i := 2) rfl
  have f3 := o1.at_ (i := 3) rfl
  have og1 := OwR.own hown1
  have lo := o1.lt
  have lp := p1.lt
  have e0 := o1.free 0 (by simp)
  have e1 := o1.free 1 (by simp)
  have e2 := o1.free 2 (by simp)
  have e3 := o1.free 3 (by simp)
  have c0 := p1.at_ (i := 0) rfl
  have c1 := p1.at_ (i := 1) rfl
  have c2 := p1.at_ (i := 2) rfl
  have c3 := p1.at_ (i := 3) rfl
  have b0 := p1.free 0 (by simp)
  have b1 := p1.free 1 (by simp)
  have b2 := p1.free 2 (by simp)
  have b3 := p1.free 3 (by simp)
  have hne : ¬ B0 = B0 + 1 := by omega
  have hne2 : ¬ B0 + 1 = B0 := by omega
  have hrd1 : Reads w1 w1.heap.size (some ⟨g, 0, none⟩) (rvs x.rotors) := Reads.of_own og1 og1.lt
  have hfar : ∀ (i : Nat) (y : Value), Reads (w1.setCell ⟨B0, i, none⟩ y) (w1.setCell ⟨B0, i, none⟩ y).heap.size (some ⟨g, 0, none⟩) (rvs x.rotors) := fun i y => by
    have := (og1.far (p := ⟨B0, i, none⟩) (by simp; omega) y)
    exact Reads.of_own this this.lt
  have HF := Lib.hid hfar
  have HB : Hid (∀ ad, some (⟨g, 0, none⟩ : Addr) = some ad → (ad.block = g ∨ B0 ≤ ad.block) ∧ ad.block ≠ B0 + 1) := fun ad h => by cases h; exact ⟨.inl rfl, by simp only; omega⟩
  clear hfar
  by_cases v0 : v = 0
  · have t0 : (v == 0) = true := by simp [v0]
    clear v0
    go_wp2_with fail
    refine (l6Bad_any R g cp base x _ _ hr1 (by omega) hx hown1 hRg).mono ?_
    rintro e w2 ⟨x2, a2, cap2, hx2, rfl, hrd2, hbl2, hr2, hm2⟩
    have o2 := o1.tu hm2 (by omega) (by omega)
    have p2 := p1.tu hm2 (by omega) (by omega)
    have hmw2 := hmw1.trans hm2
    have HX := Lib.hid hx2
    have HBL := Lib.hid hbl2
    clear f0 f1 f2 f3 e0 e1 e2 e3 c0 c1 c2 c3 b0 b1 b2 b3 o1 p1 hr1 hmw1 hown1 og1 hx2 hm2 hbl2 hrd1
    have f0 := o2.at_ (i := 0) rfl
    have f1 := o2.at_ (i := 1) rfl
    have f2 := o2.at_ (i := 2) rfl
    have f3 := o2.at_ (i := 3) rfl
    have e0 := o2.free 0 (by simp)
    have e1 := o2.free 1 (by simp)
    have p3 := (p2.far (p := ⟨B0, 0, none⟩) (by simp) (.slice a2 x2.rotors.length cap2)).far (p := ⟨B0, 1, none⟩) (by simp) (.string x2.refl)
    have c0 := p3.at_ (i := 0) rfl
    have c1 := p3.at_ (i := 1) rfl
    have c2 := p3.at_ (i := 2) rfl
    have c3 := p3.at_ (i := 3) rfl
    have b0 := p3.free 0 (by simp)
    have b1 := p3.free 1 (by simp)
    have b2 := p3.free 2 (by simp)
    have b3 := p3.free 3 (by simp)
    go_wp2
    have o4 := p3.set4 (.slice a2 x2.rotors.length cap2) (.string x2.refl) (.string s) (.string t)
    have k0 := o4.at_ (i := 0) rfl
    have k1 := o4.at_ (i := 1) rfl
    have k2 := o4.at_ (i := 2) rfl
    have k3 := o4.at_ (i := 3) rfl
    refine bodyPost_ret (v := .agg #[.slice a2 x2.rotors.length cap2, .string x2.refl, .string (s), .string t]) (by unfold set4 at *; simp [results, Tryz.results32, go_sem, k0, k1, k2, k3]) rfl ?_
    refine mchB_mk (c := c + 30) (m := ⟨x2, s, t⟩) ⟨HX.out, by show s.size ≤ 300; omega, by show t.size ≤ 300; omega⟩ HB0.out ?_ (fun ad h => ?_) (((hr2.far (by simp; omega) _).far (by simp; omega) _).more (by omega)) ((hmw2.set_ (.inr (.inr (by simp; rw [HB0.out]; omega))) _).set_ (.inr (.inr (by simp; rw [HB0.out]; omega))) _) (by omega)
    · refine Reads.more (B := w2.heap.size) ((Reads.setOff hrd2 (p := ⟨B0, 0, none⟩) (fun ad h => ?_) _).setOff (p := ⟨B0, 1, none⟩) (fun ad h => ?_) _) (by simp [World.setCell])
      · rcases HBL.out ad h with h | h
        · simp; omega
        · simp; omega
      · rcases HBL.out ad h with h | h
        · simp; omega
        · simp; omega
    · rcases HBL.out ad h with h | h
      · exact ⟨.inl h, by omega⟩
      · exact ⟨.inr (by omega), by omega⟩
  · have t0 : (v == 0) = false := by simp [v0]
    by_cases v1 : v = 1
    · have t1 : (v == 1) = true := by simp [v1]
      clear v0 v1
      go_wp2
      have o4 := (p1.far (p := ⟨B0, 2, none⟩) (by simp) (.string (s ++ ⟨#[97]⟩))).set4 (.slice (some ⟨g, 0, none⟩) x.rotors.length cp) (.string x.refl) (.string (s ++ ⟨#[97]⟩)) (.string t)
      have k0 := o4.at_ (i := 0) rfl
      have k1 := o4.at_ (i := 1) rfl
      have k2 := o4.at_ (i := 2) rfl
      have k3 := o4.at_ (i := 3) rfl
      refine bodyPost_ret (v := .agg #[.slice (some ⟨g, 0, none⟩) x.rotors.length cp, .string x.refl, .string (s ++ ⟨#[97]⟩), .string t]) (by unfold set4 at *; simp [results, Tryz.results32, go_sem, k0, k1, k2, k3]) rfl ?_
      refine mchB_mk (c := c + 30) (m := ⟨x, s ++ ⟨#[97]⟩, t⟩) ⟨hsm.out, ?_, by show t.size ≤ 300; omega⟩ HB0.out (HF.out _ _) HB.out ((hr1.far (by simp; omega) _).more (by omega)) (hmw1.set_ (.inr (.inr (by simp; rw [HB0.out]; omega))) _) (by omega)
      show (s ++ ⟨#[97]⟩ : ByteArray).size ≤ 300
      rw [ByteArray.size_append]; have : (⟨#[97]⟩ : ByteArray).size = 1 := rfl; omega
    · have t1 : (v == 1) = false := by simp [v1]
      by_cases v2 : v = 2
      · have t2 : (v == 2) = true := by simp [v2]
        clear v0 v1 v2
        go_wp2_with fail
        refine (l2Some_any R _ _ hr1 (by omega)).mono ?_
        rintro e w2 ⟨q, hq, rfl, hr2, hm2⟩
        have hq10 : q.size ≤ 300 := by have := permB_size hq; omega
        have o2 := o1.grown hm2 (by simp; omega)
        have p2 := p1.grown hm2 (by simp; omega)
        have og2 := og1.grown hm2 (by simp; omega)
        have hmw2 := hmw1.moved hm2
        have HQ := Lib.hid hq10
        clear f0 f1 f2 f3 e0 e1 e2 e3 c0 c1 c2 c3 b0 b1 b2 b3 o1 p1 hr1 hmw1 hown1 og1 hm2 hrd1 hq hq10 HF
        have f0 := o2.at_ (i := 0) rfl
        have f1 := o2.at_ (i := 1) rfl
        have f2 := o2.at_ (i := 2) rfl
        have f3 := o2.at_ (i := 3) rfl
        have e3 := o2.free 3 (by simp)
        have p3 := p2.far (p := ⟨B0, 3, none⟩) (by simp) (.string q)
        have c0 := p3.at_ (i := 0) rfl
        have c1 := p3.at_ (i := 1) rfl
        have c2 := p3.at_ (i := 2) rfl
        have c3 := p3.at_ (i := 3) rfl
        have b0 := p3.free 0 (by simp)
        have b1 := p3.free 1 (by simp)
        have b2 := p3.free 2 (by simp)
        have b3 := p3.free 3 (by simp)
        go_wp2
        have o4 := p3.set4 (.slice (some ⟨g, 0, none⟩) x.rotors.length cp) (.string x.refl) (.string s) (.string q)
        have k0 := o4.at_ (i := 0) rfl
        have k1 := o4.at_ (i := 1) rfl
        have k2 := o4.at_ (i := 2) rfl
        have k3 := o4.at_ (i := 3) rfl
        refine bodyPost_ret (v := .agg #[.slice (some ⟨g, 0, none⟩) x.rotors.length cp, .string x.refl, .string (s), .string q]) (by unfold set4 at *; simp [results, Tryz.results32, go_sem, k0, k1, k2, k3]) rfl ?_
        have og3 := og2.far (p := ⟨B0, 3, none⟩) (by simp; omega) (.string q)
        exact mchB_mk (c := c + 30) (m := ⟨x, s, q⟩) ⟨hsm.out, by show s.size ≤ 300; omega, HQ.out⟩ HB0.out (Reads.of_own og3 og3.lt) HB.out ((hr2.far (by simp; omega) _).more (by omega)) (hmw2.set_ (.inr (.inr (by simp; rw [HB0.out]; omega))) _) (by omega)
      · have t2 : (v == 2) = false := by simp [v2]
        by_cases v3 : v = 3
        · have t3 : (v == 3) = true := by simp [v3]
          clear v0 v1 v2 v3
          have s1 := sl_1 s hrs1
          have z1 : (s.extract 1 s.size).size ≤ 200 := by simp only [ByteArray.size_extract]; omega
          generalize s.extract 1 s.size = sx at *
          go_wp2
          have o4 := (p1.far (p := ⟨B0, 2, none⟩) (by simp) (.string (sx ++ ⟨#[107]⟩))).set4 (.slice (some ⟨g, 0, none⟩) x.rotors.length cp) (.string x.refl) (.string (sx ++ ⟨#[107]⟩)) (.string t)
          have k0 := o4.at_ (i := 0) rfl
          have k1 := o4.at_ (i := 1) rfl
          have k2 := o4.at_ (i := 2) rfl
          have k3 := o4.at_ (i := 3) rfl
          refine bodyPost_ret (v := .agg #[.slice (some ⟨g, 0, none⟩) x.rotors.length cp, .string x.refl, .string (sx ++ ⟨#[107]⟩), .string t]) (by unfold set4 at *; simp [results, Tryz.results32, go_sem, k0, k1, k2, k3]) rfl ?_
          refine mchB_mk (c := c + 30) (m := ⟨x, sx ++ ⟨#[107]⟩, t⟩) ⟨hsm.out, ?_, by show t.size ≤ 300; omega⟩ HB0.out (HF.out _ _) HB.out ((hr1.far (by simp; omega) _).more (by omega)) (hmw1.set_ (.inr (.inr (by simp; rw [HB0.out]; omega))) _) (by omega)
          show (sx ++ ⟨#[107]⟩ : ByteArray).size ≤ 300
          rw [ByteArray.size_append]; have : (⟨#[107]⟩ : ByteArray).size = 1 := rfl; omega
        · have t3 : (v == 3) = false := by simp [v3]
          clear v0 v1 v2 v3
          go_wp2
          have o4 := p1.set4 (.slice (some ⟨g, 0, none⟩) x.rotors.length cp) (.string x.refl) (.string s) (.string t)
          have k0 := o4.at_ (i := 0) rfl
          have k1 := o4.at_ (i := 1) rfl
          have k2 := o4.at_ (i := 2) rfl
          have k3 := o4.at_ (i := 3) rfl
          refine bodyPost_ret (v := .agg #[.slice (some ⟨g, 0, none⟩) x.rotors.length cp, .string x.refl, .string (s), .string t]) (by unfold set4 at *; simp [results, Tryz.results32, go_sem, k0, k1, k2, k3]) rfl ?_
          exact mchB_mk (c := c + 30) (m := ⟨x, s, t⟩) ⟨hsm.out, by show s.size ≤ 300; omega, by show t.size ≤ 300; omega⟩ HB0.out hrd1 HB.out (hr1.more (by omega)) hmw1 (by omega)

/-- A machine and strings, drawn from an input: what the law is handed. -/
def DrawnM (w : World) (m : Mach) (a : Option Addr) (w' : World) : Prop :=
  SmallM m ∧ Reads w' w'.heap.size a (rvs m.wheels.rotors) ∧ (∀ ad, a = some ad → w.heap.size ≤ ad.block) ∧ Below w.heap.size w w'
def DrawnE (w : World) (e : Ending) (w' : World) : Prop :=
  ∃ (m : Mach) (v u : ByteArray) (a : Option Addr) (cap : Nat), DrawnM w m a w' ∧ v.size ≤ 300 ∧ u.size ≤ 300 ∧
    e = .returned (.tuple #[.agg #[.slice a m.wheels.rotors.length cap, .string m.wheels.refl, .string m.rings, .string m.plugs], .string v, .string u])
end Go.Proofs.YtnnblmibonnpcaaGreat

/- The draw of a machine and two windows of it. -/
namespace Go.Proofs.YtnnblmibonnpcaaGreat
open Go.RowKit

theorem Tu.toMoved {R g : Nat} {a b : World} (h : Tu R g a b) (hg : a.heap.size ≤ g) : Moved R a b :=
  ⟨h.os, h.tape, h.output, h.size, fun k hk hne => h.block k hk (fun e => hne (by rw [e])) (by omega)⟩
/-- What lies apart from the reader stays when the reader moves. -/
theorem Reads.moved {R B : Nat} {w w' : World} {a : Option Addr} {xs : List Value} (h : Reads w w.heap.size a xs) (hm : Moved R w w') (ha : ∀ ad, a = some ad → ad.block ≠ R) (hB : w'.heap.size ≤ B) : Reads w' B a xs := by
  rcases h with h | ⟨b, off, he, hb, hc⟩
  · exact .inl h
  · refine .inr ⟨b, off, he, Nat.lt_of_lt_of_le (Nat.lt_of_lt_of_le hb hm.size) hB, fun i hi => ?_⟩
    rw [← hc i hi]
    exact World.cell?_of_block (w := w) (hm.block b hb (by
      have := ha _ he
      simp only at this
      simp; omega))
/-- A machine and two windows are drawn. -/
def Open9 (R c : Nat) (w : World) (e : Ending) (w' : World) : Prop :=
  ∃ (m : Mach) (s k : ByteArray) (a : Option Addr) (cap : Nat), SmallM m ∧ s.size ≤ 300 ∧ k.size ≤ 300 ∧
    e = .returned (.tuple #[.agg #[.slice a m.wheels.rotors.length cap, .string m.wheels.refl, .string m.rings, .string m.plugs], .string s, .string k]) ∧
    Reads w' w'.heap.size a (rvs m.wheels.rotors) ∧ (∀ ad, a = some ad → w.heap.size ≤ ad.block) ∧ Rd w' R c ∧ Moved R w w'
end Go.Proofs.YtnnblmibonnpcaaGreat

/- The contracts of DrawMachineOffsets and DrawDayProducts. -/
namespace Go.Proofs.YtnnblmibonnpcaaGreat
open Go.RowKit

def DrawnV (w : World) (e : Ending) (w' : World) : Prop :=
  ∃ (m : Mach) (v : ByteArray) (a : Option Addr) (cap : Nat), DrawnM w m a w' ∧ v.size ≤ 300 ∧
    e = .returned (.tuple #[.agg #[.slice a m.wheels.rotors.length cap, .string m.wheels.refl, .string m.rings, .string m.plugs], .string v])
set_option maxRecDepth 100000 in
set_option maxHeartbeats 2000000 in
theorem DrawMachineOffsets_any (a0 : Option Addr) (len cap : Nat) (zs : List Int) (w : World) (h : IsRow .u8 w a0 len cap zs) (hl : len ≤ 1048576) :
    Calls Tryz.prog 14 #[.slice a0 len cap] w (DrawnV w) := by
  have o0 := Own.new w [.slice none 0 0, .string ⟨#[]⟩, .string ⟨#[]⟩, .string ⟨#[]⟩] 27
  have hb0 := (Below.refl w.heap.size w).alloc (Nat.le_refl _) (.cells #[.slice none 0 0, .string ⟨#[]⟩, .string ⟨#[]⟩, .string ⟨#[]⟩] 27)
  go_enter Tryz.func14, Tryz.ntmps14
  go_wp2_with fail
  refine (l21Open_any a0 len cap zs _ (h.alloc_ _) hl).mono ?_
  rintro e w1 ⟨rfl, hr1, hb1⟩
  have o1 := o0.below hb1 o0.lt
  have hbw1 := bt hb0 hb1
  rw [World.size_alloc] at hr1
  clear o0 hb0 hb1 h
  go_wp2_with fail
  generalize hB0 : w.heap.size = B0 at *
  have HB0 := Lib.hid hB0
  clear hB0
  refine (l8Any_any (B0 + 1) 0 _ hr1 (by omega)).mono ?_
  rintro e w2 ⟨m, v, g, cp, hx, hset, rfl, hown2, hg, hr2, hm2⟩
  have l1 := hr1.lt
  have o2 := o1.grown hm2 (by simp)
  have hbw2 : Below B0 w w2 := hbw1.trans (hm2.toBelow (by omega) (by omega))
  have hv3 : v.size ≤ 3 := by rw [setB_len hset]; exact hx.2.1
  have hv1 : 1 ≤ v.size := by rw [setB_len hset]; exact hx.1
  clear o1 hr1 hbw1 hm2
  have p2 := Own.new w2 [.slice (some ⟨g, 0, none⟩) m.wheels.rotors.length cp, .string m.wheels.refl, .string m.rings, .string m.plugs] 27
  have o2' := o2.alloc (.cells [.slice (some ⟨g, 0, none⟩) m.wheels.rotors.length cp, .string m.wheels.refl, .string m.rings, .string m.plugs].toArray 27)
  have hr2' := hr2.alloc (.cells [.slice (some ⟨g, 0, none⟩) m.wheels.rotors.length cp, .string m.wheels.refl, .string m.rings, .string m.plugs].toArray 27)
  have hown2' := World.ownsRow.alloc hown2 (.cells [.slice (some ⟨g, 0, none⟩) m.wheels.rotors.length cp, .string m.wheels.refl, .string m.rings, .string m.plugs].toArray 27)
  have hbw2' := hbw2.alloc (by have := o2.lt; omega) (.cells [.slice (some ⟨g, 0, none⟩) m.wheels.rotors.length cp, .string m.wheels.refl, .string m.rings, .string m.plugs].toArray 27)
  have l2 := o2.lt
  have lr2 := hr2.lt
  have lg := (World.ownsRow.lt hown2 g rfl).2
  have hz2 : (w2.alloc (.cells [.slice (some ⟨g, 0, none⟩) m.wheels.rotors.length cp, .string m.wheels.refl, .string m.rings, .string m.plugs].toArray 27)).heap.size = w2.heap.size + 1 := by simp
  have HZ2 := Lib.hid hz2
  clear hz2
  have f0 := p2.at_ (i := 0) rfl
  have f1 := p2.at_ (i := 1) rfl
  have f2 := p2.at_ (i := 2) rfl
  have f3 := p2.at_ (i := 3) rfl
  go_wp2_with fail
  generalize (w2.alloc (.cells [.slice (some ⟨g, 0, none⟩) m.wheels.rotors.length cp, .string m.wheels.refl, .string m.rings, .string m.plugs].toArray 27)) = W2 at *
  generalize w2.heap.size = B2 at *
  clear o2 hr2 hown2 hbw2
  refine (l8Bad_any (B0 + 1) g cp _ m v _ _ hr2' (by omega) hx hset hown2' (by omega)).mono ?_
  rintro e w6 ⟨m6, a6, cap6, hm6, rfl, hrd6, hbl6, hr6, ht6⟩
  have o6 := o2'.tu ht6 (by omega) (by omega)
  have z2 := HZ2.out
  have hbw6 := hbw2'.trans (ht6.toBelow (by omega) (by omega) (by omega))
  have hbl : ∀ ad, a6 = some ad → B0 + 1 < ad.block := fun ad h => by
    have h1 := hbl6 ad h
    omega
  have HBL := Lib.hid hbl
  have HM := Lib.hid hm6
  clear f0 f1 f2 f3 p2 o2' hr2' hown2' hbw2' ht6 hm6 hbl6 hbl HZ2 z2
  go_wp2_with fail
  refine (l8Off_any (B0 + 1) v _ _ hr6 (by omega) hv1 (by omega)).mono ?_
  rintro e w9 ⟨v9, hv9, rfl, hr9, hm9⟩
  have z6 := o6.lt
  have o9 := o6.grown hm9 (by simp)
  have hbw9 := hbw6.trans (hm9.toBelow (by omega) (by omega))
  have hrd9 := Reads.moved hrd6 hm9 (fun ad h => by have := HBL.out ad h; omega) (Nat.le_refl _)
  clear o6 hrd6 hr6 hbw6 hm9
  have HRD := Lib.hid hrd9
  clear hrd9
  have c0 := o9.at_ (i := 0) rfl
  have c1 := o9.at_ (i := 1) rfl
  have c2 := o9.at_ (i := 2) rfl
  have c3 := o9.at_ (i := 3) rfl
  have b0 := o9.free 0 (by simp)
  have b1 := o9.free 1 (by simp)
  have b2 := o9.free 2 (by simp)
  have b3 := o9.free 3 (by simp)
  go_wp2
  have oz := o9.set4 (.slice a6 m6.wheels.rotors.length cap6) (.string m6.wheels.refl) (.string m6.rings) (.string m6.plugs)
  have k0 := oz.at_ (i := 0) rfl
  have k1 := oz.at_ (i := 1) rfl
  have k2 := oz.at_ (i := 2) rfl
  have k3 := oz.at_ (i := 3) rfl
  refine bodyPost_ret (v := .tuple #[.agg #[.slice a6 m6.wheels.rotors.length cap6, .string m6.wheels.refl, .string m6.rings, .string m6.plugs], .string v9]) (by unfold set4 at *; simp [results, Tryz.results14, go_sem, k0, k1, k2, k3]) rfl ?_
  refine ⟨m6, v9, a6, cap6, ⟨HM.out, ?_, ?_, ?_⟩, hv9, rfl⟩
  · show Reads (set4 w9 B0 _ _ _ _) (set4 w9 B0 _ _ _ _).heap.size _ _
    rw [size_set4]
    exact HRD.out.set4 (fun ad h => by have := HBL.out ad h; omega) _ _ _ _
  · intro ad h
    rw [HB0.out]
    have := HBL.out ad h; omega
  · rw [HB0.out]
    exact bel_set4 hbw9 (Nat.le_refl _) _ _ _ _
set_option maxRecDepth 100000 in
theorem DrawDayProducts_any (a0 : Option Addr) (len cap : Nat) (zs : List Int) (w : World) (h : IsRow .u8 w a0 len cap zs) (hl : len ≤ 1048576) :
    Calls Tryz.prog 5 #[.slice a0 len cap] w (DrawnV w) := by
  have o0 := Own.new w [.slice none 0 0, .string ⟨#[]⟩, .string ⟨#[]⟩, .string ⟨#[]⟩] 27
  have hb0 := (Below.refl w.heap.size w).alloc (Nat.le_refl _) (.cells #[.slice none 0 0, .string ⟨#[]⟩, .string ⟨#[]⟩, .string ⟨#[]⟩] 27)
  go_enter Tryz.func5, Tryz.ntmps5
  go_wp2_with fail
  refine (DrawMachineOffsets_any a0 len cap zs _ (h.alloc_ _) hl).mono ?_
  rintro e w9 ⟨m6, v9, a6, cap6, ⟨hm, hrd, hbl, hb9⟩, hv9, rfl⟩
  have o9 := o0.below hb9 o0.lt
  have hbw9 := bt hb0 hb9
  simp only [World.size_alloc] at hbl
  generalize hB0 : w.heap.size = B0 at *
  have HB0 := Lib.hid hB0
  clear hB0 o0 hb0 hb9 h
  have HRD := Lib.hid hrd
  have HBL := Lib.hid hbl
  clear hrd hbl
  have c0 := o9.at_ (i := 0) rfl
  have c1 := o9.at_ (i := 1) rfl
  have c2 := o9.at_ (i := 2) rfl
  have c3 := o9.at_ (i := 3) rfl
  have b0 := o9.free 0 (by simp)
  have b1 := o9.free 1 (by simp)
  have b2 := o9.free 2 (by simp)
  have b3 := o9.free 3 (by simp)
  go_wp2
  have oz := o9.set4 (.slice a6 m6.wheels.rotors.length cap6) (.string m6.wheels.refl) (.string m6.rings) (.string m6.plugs)
  have k0 := oz.at_ (i := 0) rfl
  have k1 := oz.at_ (i := 1) rfl
  have k2 := oz.at_ (i := 2) rfl
  have k3 := oz.at_ (i := 3) rfl
  refine bodyPost_ret (v := .tuple #[.agg #[.slice a6 m6.wheels.rotors.length cap6, .string m6.wheels.refl, .string m6.rings, .string m6.plugs], .string v9]) (by unfold set4 at *; simp [results, Tryz.results5, go_sem, k0, k1, k2, k3]) rfl ?_
  refine ⟨m6, v9, a6, cap6, ⟨hm, ?_, ?_, ?_⟩, hv9, rfl⟩
  · show Reads (set4 w9 B0 _ _ _ _) (set4 w9 B0 _ _ _ _).heap.size _ _
    rw [size_set4]
    exact HRD.out.set4 (fun ad h => by have := HBL.out ad h; omega) _ _ _ _
  · intro ad h
    rw [HB0.out]
    have := HBL.out ad h; omega
  · rw [HB0.out]
    exact bel_set4 hbw9 (Nat.le_refl _) _ _ _ _
end Go.Proofs.YtnnblmibonnpcaaGreat
