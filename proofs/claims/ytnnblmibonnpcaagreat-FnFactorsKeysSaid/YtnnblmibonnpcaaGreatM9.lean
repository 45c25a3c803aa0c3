/- Several of my texts in one: DrawY, DrawZ, Draw7, SpecE, SpecM. -/
import Derived.Test.YtnnblmibonnpcaaGreatM6
import Derived.Test.YtnnblmibonnpcaaGreatM4
import Derived.Test.YtnnblmibonnpcaaGreatM5
import Derived.Test.YtnnblmibonnpcaaGreatM3
import Derived.Test.YtnnblmibonnpcaaGreatM7
import Derived.Test.YtnnblmibonnpcaaGreatM8
/- The contract of the function that draws wrong wheels. -/
namespace Go.Proofs.YtnnblmibonnpcaaGreat
open Go.RowKit

/-- From w to w' only the blocks R and g have turned, and there is new memory. -/
structure Tu (R g : Nat) (w w' : World) : Prop where
  os : w'.os = w.os
  tape : w'.tape = w.tape
  output : w'.output = w.output
  size : w.heap.size ≤ w'.heap.size
  block : ∀ i, i < w.heap.size → i ≠ R → i ≠ g → w'.heap[i]? = w.heap[i]?
section
variable {R g : Nat} {a b c : World}
theorem Tu.refl (R g : Nat) (w : World) : Tu R g w w := ⟨rfl, rfl, rfl, Nat.le_refl _, fun _ _ _ _ => rfl⟩
theorem Tu.trans (h : Tu R g a b) (k : Tu R g b c) : Tu R g a c :=
  ⟨k.os.trans h.os, k.tape.trans h.tape, k.output.trans h.output, Nat.le_trans h.size k.size, fun i hi h1 h2 => (k.block i (Nat.lt_of_lt_of_le hi h.size) h1 h2).trans (h.block i hi h1 h2)⟩
theorem Tu.moved (h : Tu R g a b) (k : Moved R b c) : Tu R g a c :=
  ⟨k.os.trans h.os, k.tape.trans h.tape, k.output.trans h.output, Nat.le_trans h.size k.size, fun i hi h1 h2 => (k.block i (Nat.lt_of_lt_of_le hi h.size) (by simpa using h1)).trans (h.block i hi h1 h2)⟩
theorem Tu.below (h : Tu R g a b) (k : Below b.heap.size b c) : Tu R g a c :=
  ⟨k.os.trans h.os, k.tape.trans h.tape, k.output.trans h.output, Nat.le_trans h.size k.size, fun i hi h1 h2 => (k.block i (Nat.lt_of_lt_of_le hi h.size)).trans (h.block i hi h1 h2)⟩
theorem Tu.alloc (h : Tu R g a b) (o : Obj) : Tu R g a (b.alloc o) := h.below ((Below.refl _ _).alloc (Nat.le_refl _) o)
theorem Tu.drew (h : Tu R g a b) : Tu R g a b.drew := ⟨h.os, h.tape, h.output, h.size, h.block⟩
theorem Tu.set_ (h : Tu R g a b) {p : Addr} (hp : p.block = R ∨ p.block = g ∨ a.heap.size ≤ p.block) (u : Value) : Tu R g a (b.setCell p u) :=
  ⟨h.os, h.tape, h.output, by simpa [World.setCell] using h.size, fun i hi h1 h2 => (Below.heap_setCell b p u i (by
    rintro rfl
    rcases hp with hp | hp | hp
    · exact h1 hp
    · exact h2 hp
    · omega)).trans (h.block i hi h1 h2)⟩
theorem Tu.grown (h : Tu R g a b) {row : Option Nat} (k : b.grownBy c row) (hr : ∀ i, row = some i → i = g ∨ a.heap.size ≤ i) : Tu R g a c :=
  ⟨k.os.trans h.os, k.tape.trans h.tape, k.output.trans h.output, Nat.le_trans h.size k.size, fun i hi h1 h2 => (k.block i (Nat.lt_of_lt_of_le hi h.size) (fun e => by
    rcases hr i e.symm with e | e
    · exact h2 e
    · omega)).trans (h.block i hi h1 h2)⟩
theorem Tu.toBelow {B : Nat} (h : Tu R g a b) (h1 : B ≤ R) (h2 : B ≤ g) (hs : B ≤ a.heap.size) : Below B a b :=
  ⟨h.os, h.tape, h.output, h.size, fun k hk => h.block k (by omega) (by omega) (by omega)⟩
theorem Own.tu {k : Nat} {cs : List Value} (h : Own a k cs) (t : Tu R g a b) (h1 : k ≠ R) (h2 : k ≠ g) : Own b k cs := h.keep (Nat.lt_of_lt_of_le h.lt t.size) (t.block k h.lt h1 h2)
end

theorem rvs_get : ∀ (rs : List Rot) (i : Nat), i < 2 * rs.length → (rvs rs)[i]? = some (if i % 2 = 0 then .string (rs.getD (i / 2) ⟨⟨#[]⟩, ⟨#[]⟩⟩).wiring else .string (rs.getD (i / 2) ⟨⟨#[]⟩, ⟨#[]⟩⟩).notches)
  | rs, i, h => by
    have hk : i / 2 < rs.length := by omega
    rcases Nat.mod_two_eq_zero_or_one i with e | e
    · have := rvs_at0 rs (i / 2) hk
      rw [show 2 * (i / 2) = i by omega] at this
      rw [this, if_pos e]; simp [List.getD, List.getElem?_eq_getElem hk]
    · have := rvs_at1 rs (i / 2) hk
      rw [show 2 * (i / 2) + 1 = i by omega] at this
      rw [this, if_neg (by omega)]; simp [List.getD, List.getElem?_eq_getElem hk]
/-- Small wheels. -/
structure SmallW (x : Whl) : Prop where
  few : x.rotors.length ≤ 6
  rot : ∀ r ∈ x.rotors, RSz 1001 r
  refl : x.refl.size ≤ 1001
theorem SmallW.at_ {x : Whl} (h : SmallW x) {w : World} {B : Nat} {a : Option Addr} (hr : Reads w B a (rvs x.rotors)) : WhlAt w B a x.rotors.length x :=
  ⟨hr, rfl, by have := h.few; omega, fun r hr => ⟨by have := (h.rot r hr).1; omega, by have := (h.rot r hr).2; omega⟩, by have := h.refl; omega⟩
theorem permB_len {s : ByteArray} (h : permB s = true) : s.size = 10 := permB_size h
theorem rotorB_sz {r : Rot} (h : rotorB r = true) : r.wiring.size = 10 ∧ r.notches.size ≤ 3 := ⟨permB_size (rotorB_perm h), rotorB_notches h⟩
theorem GoodW3.small {x : Whl} (h : GoodW3 x) : SmallW x :=
  ⟨by have := h.2.1; omega, fun r hr => by have := rotorB_sz (h.2.2.1 r hr); exact ⟨by omega, by omega⟩, by have := permB_size (plugB_perm (reflB_plug h.2.2.2)); omega⟩
/-- What the turning of wheels into wrong ones leaves. -/
def WhlB (R g : Nat) (P : Whl → Prop) (c : Nat) (w : World) (e : Ending) (w' : World) : Prop :=
  ∃ (x : Whl) (a : Option Addr) (cap : Nat), P x ∧ e = .returned (.agg #[.slice a x.rotors.length cap, .string x.refl]) ∧ Reads w' w'.heap.size a (rvs x.rotors) ∧ (∀ ad, a = some ad → ad.block = g ∨ w.heap.size ≤ ad.block) ∧ Rd w' R c ∧ Tu R g w w'

set_option maxRecDepth 100000 in
set_option maxHeartbeats 2000000 in
theorem l6Bad_any (R g cp base : Nat) (x : Whl) (c : Nat) (w : World) (h : Rd w R c) (hc : c ≤ 7000000) (hx : GoodW3 x) (hown : OwR w base 73 2 (.slice (some ⟨g, 0, none⟩) x.rotors.length cp) x.rotors.length (rvs x.rotors)) (hRg : R < g) :
    Calls Tryz.prog 59 #[.pointer (some ⟨R, 0, none⟩), .agg #[.slice (some ⟨g, 0, none⟩) x.rotors.length cp, .string x.refl]] w (WhlB R g SmallW (c + 20) w) := by
  have hsm := Lib.hid hx.small
  obtain ⟨hN1, hN3, hrb, hrf⟩ := hx
  obtain ⟨rs, s⟩ := x
  simp only at hN1 hN3 hrb hrf hown hsm ⊢
  have HSM := Lib.hid hsm.out
  clear hsm
  have hs10 : s.size ≤ 10 := by rw [permB_size (plugB_perm (reflB_plug hrf))]; omega
  have HRB := Lib.hid hrb
  clear hrb hrf
  have hgl := (World.ownsRow.lt hown g rfl).2
  generalize hNN : rs.length = N at *
  have HNN := Lib.hid hNN
  clear hNN
  have o0 := (Own.new w [.slice (some ⟨g, 0, none⟩) N cp, .string s] 25).alloc (.cells #[.slice none 0 0, .string ⟨#[]⟩] 25)
  have p0 := Own.new (w.alloc (.cells #[.slice (some ⟨g, 0, none⟩) N cp, .string s] 25)) [.slice none 0 0, .string ⟨#[]⟩] 25
  have hr0 := (h.alloc (.cells #[.slice (some ⟨g, 0, none⟩) N cp, .string s] 25)).alloc (.cells #[.slice none 0 0, .string ⟨#[]⟩] 25)
  have hm0 := ((Tu.refl R g w).alloc (.cells #[.slice (some ⟨g, 0, none⟩) N cp, .string s] 25)).alloc (.cells #[.slice none 0 0, .string ⟨#[]⟩] 25)
  have hown0 := World.ownsRow.alloc (World.ownsRow.alloc hown (.cells #[.slice (some ⟨g, 0, none⟩) N cp, .string s] 25)) (.cells #[.slice none 0 0, .string ⟨#[]⟩] 25)
  rw [World.size_alloc] at p0
  have hlt := h.lt
  have f0 := o0.at_ (i := 0) rfl
  go_enter Tryz.func59, Tryz.ntmps59
  go_wp2_with fail
  refine (pick_any R _ c _ hr0 (by omega) (by omega) (by omega)).mono ?_
  rintro e w1 ⟨v, rfl, hv0, hv1, _, hr1, hm1⟩
  obtain ⟨k, rfl⟩ := Int.eq_ofNat_of_zero_le hv0
  have hk : k < N := by have := hv1 (by omega); omega
  have o1 := o0.grown hm1 (by simp; omega)
  have p1 := p0.grown hm1 (by simp; omega)
  have hmw1 := hm0.moved hm1
  have hown1 := OwR.movedR hown0 hm1 (by simp [Value.ownBlock]; omega)
  clear hv1 hv0 o0 p0 hr0 hm0 hm1 h f0 hown0 hown
  go_wp2_with fail
  refine (pick_any R _ _ _ hr1 (by omega) (by omega) (by omega)).mono ?_
  rintro e w2 ⟨v, rfl, hv0, hv1, _, hr2, hm2⟩
  have o2 := o1.grown hm2 (by simp; omega)
  have p2 := p1.grown hm2 (by simp; omega)
  have hmw2 := hmw1.moved hm2
  have hown2 := OwR.movedR hown1 hm2 (by simp [Value.ownBlock]; omega)
  clear hv1 o1 p1 hr1 hmw1 hm2 hown1
  generalize hB0 : w.heap.size = B0 at *
  have HB0 := Lib.hid hB0
  clear hB0
  have f0 := o2.at_ (i := 0) rfl
  have f1 := o2.at_ (i := 1) rfl
  have e0f := o2.free 0 (by simp)
  have e1f := o2.free 1 (by simp)
  have k0 := p2.at_ (i := 0) rfl
  have k1 := p2.at_ (i := 1) rfl
  have j0 := p2.free 0 (by simp)
  have j1 := p2.free 1 (by simp)
  have og2 := OwR.own hown2
  by_cases e0 : v = 0
  · have t0 : (v == 0) = true := by simp [e0]
    clear e0
    have c0 := og2.at_ (rvs_get0 (k := k) (show k < rs.length by rw [HNN.out]; exact hk))
    have c1 := og2.at_ (rvs_get1 (k := k) (show k < rs.length by rw [HNN.out]; exact hk))
    have hz := rotorB_sz (HRB.out _ (List.getElem_mem (show k < rs.length by rw [HNN.out]; exact hk)))
    have z1 : 1 ≤ (rs[k]'(by rw [HNN.out]; exact hk)).wiring.size := by omega
    have z2 : (rs[k]'(by rw [HNN.out]; exact hk)).wiring.size ≤ 1000 := by omega
    have z3 : (rs[k]'(by rw [HNN.out]; exact hk)).notches.size ≤ 1000 := by omega
    have q1 : (k : Int) < (N : Int) := by omega
    have q0 : (0 : Int) ≤ (k : Int) := by omega
    have t1 : (v == 1) = false := by simp only [beq_iff_eq] at t0; subst t0; rfl
    have t2 : (v == 2) = false := by simp only [beq_iff_eq] at t0; subst t0; rfl
    have t3 : (v == 3) = false := by simp only [beq_iff_eq] at t0; subst t0; rfl
    have hne1 : ¬ g = B0 := by omega
    have hne2 : ¬ g = B0 + 1 := by omega
    clear hz
    go_wp2_with fail
    go_region_law (first | (go_simp; go_at_call 81; refine (l5Bad_any R (rs[k]'(by rw [HNN.out]; exact hk)) _ _ hr2.drew (by omega) z1 z2 z3).mono ?_; rintro e w3 ⟨r, hrB, rfl, hr3, hm3⟩; have o3 := o2.drew.grown hm3 (by simp; omega); have p3 := p2.drew.grown hm3 (by simp; omega); have hown3 := OwR.movedR (w := w2.drew) hown2 hm3 (by simp [Value.ownBlock]; omega); have og3 := OwR.own hown3; have f3 := o3.at_ (i := 0) rfl; have f3' := o3.at_ (i := 1) rfl; have m0 := p3.at_ (i := 0) rfl; have m1 := p3.at_ (i := 1) rfl; have n0 := p3.free 0 (by simp); have n1 := p3.free 1 (by simp); obtain ⟨y0, b0⟩ := og3.some_ (i := k * 2) (by rw [len_rvs, HNN.out]; omega); obtain ⟨y1, b1⟩ := og3.some_ (i := k * 2 + 1) (by rw [len_rvs, HNN.out]; omega); have d0 := og3.free (k * 2) (by rw [len_rvs, HNN.out]; omega); have d1 := og3.free (k * 2 + 1) (by rw [len_rvs, HNN.out]; omega)))
    all_goals
      go_wp2
      refine bodyPost_ret (v := .agg #[.slice (some ⟨g, 0, none⟩) N cp, .string s]) (by simp [results, Tryz.results59, go_sem, m0, m1]) rfl ?_
      have hs1 := (og3.set_ (i := k * 2) (by rw [len_rvs, HNN.out]; omega) (.string r.wiring)).set_ (i := k * 2 + 1) (by rw [List.length_set, len_rvs, HNN.out]; omega) (.string r.notches)
      rw [rvs_set2 r (by rw [HNN.out]; exact hk)] at hs1
      have hs2 := (hs1.far (p := ⟨B0 + 1, 0, none⟩) (by simp; omega) (.slice (some ⟨g, 0, none⟩) N cp)).far (p := ⟨B0 + 1, 1, none⟩) (by simp; omega) (.string s)
      refine ⟨⟨rs.set k r, s⟩, some ⟨g, 0, none⟩, cp, ⟨by rw [List.length_set, HNN.out]; omega, set_all HSM.out.rot hrB, HSM.out.refl⟩, ?_, Reads.of_own hs2 hs2.lt, (fun ad h => by cases h; exact .inl rfl), (((((hr3.far (by simp; omega) _).far (by simp; omega) _).far (by simp; omega) _).far (by simp; omega) _).more (by omega)), ((((hmw2.drew.moved hm3).set_ (.inr (.inl rfl)) _).set_ (.inr (.inl rfl)) _).set_ (.inr (.inr (by simp; rw [HB0.out]; omega))) _).set_ (.inr (.inr (by simp; rw [HB0.out]; omega))) _⟩
      simp only [List.length_set, HNN.out]
  · have t0 : (v == 0) = false := by simp [e0]
    by_cases e1 : v = 1
    · have t1 : (v == 1) = true := by simp [e1]
      clear e0 e1
      go_wp2_with fail
      refine (l4Any_any R _ _ hr2 (by omega)).mono ?_
      rintro e w3 ⟨u, hu, rfl, hr3, hm3⟩
      have o3 := o2.grown hm3 (by simp; omega)
      have p3 := p2.grown hm3 (by simp; omega)
      have og3 := og2.grown hm3 (by simp; omega)
      have hmw3 := hmw2.moved hm3
      have hus : u.size ≤ 10 := by rw [permB_size (plugB_perm hu)]; omega
      clear o2 p2 og2 hm3 hr2 hu hown2 f0 f1 e0f e1f k0 k1 j0 j1 hmw2
      have f0 := o3.at_ (i := 0) rfl
      have f1 := o3.at_ (i := 1) rfl
      have g1 := o3.free 1 (by simp)
      have k0 := p3.at_ (i := 0) rfl
      have k1 := p3.at_ (i := 1) rfl
      have j0 := p3.free 0 (by simp)
      have j1 := p3.free 1 (by simp)
      go_wp2
      refine bodyPost_ret (v := .agg #[.slice (some ⟨g, 0, none⟩) N cp, .string u]) (by simp [results, Tryz.results59, go_sem, k0, k1]) rfl ?_
      have hs2 := ((og3.far (p := ⟨B0, 1, none⟩) (by simp; omega) (.string u)).far (p := ⟨B0 + 1, 0, none⟩) (by simp; omega) (.slice (some ⟨g, 0, none⟩) N cp)).far (p := ⟨B0 + 1, 1, none⟩) (by simp; omega) (.string u)
      refine ⟨⟨rs, u⟩, some ⟨g, 0, none⟩, cp, ⟨HSM.out.few, HSM.out.rot, by show u.size ≤ 1001; omega⟩, ?_, Reads.of_own hs2 hs2.lt, (fun ad h => by cases h; exact .inl rfl), ((((hr3.far (by simp; omega) _).far (by simp; omega) _).far (by simp; omega) _).more (by omega)), ((hmw3.set_ (.inr (.inr (by simp; rw [HB0.out]; omega))) _).set_ (.inr (.inr (by simp; rw [HB0.out]; omega))) _).set_ (.inr (.inr (by simp; rw [HB0.out]; omega))) _⟩
      simp only [HNN.out]
    · have t1 : (v == 1) = false := by simp [e1]
      by_cases e2 : v = 2
      · have t2 : (v == 2) = true := by simp [e2]
        clear e0 e1 e2
        go_wp2
        refine bodyPost_ret (v := .agg #[.slice none 0 0, .string s]) (by simp [results, Tryz.results59, go_sem, k0, k1]) rfl ?_
        refine ⟨⟨[], s⟩, none, 0, ⟨by simp, by simp, HSM.out.refl⟩, rfl, Reads.nil_, (fun ad h => by cases h), ((((hr2.far (by simp; omega) _).far (by simp; omega) _).far (by simp; omega) _).more (by omega)), ((hmw2.set_ (.inr (.inr (by simp; rw [HB0.out]; omega))) _).set_ (.inr (.inr (by simp; rw [HB0.out]; omega))) _).set_ (.inr (.inr (by simp; rw [HB0.out]; omega))) _⟩
      · have t2 : (v == 2) = false := by simp [e2]
        by_cases e3 : v = 3
        · have t3 : (v == 3) = true := by simp [e3]
          clear e0 e1 e2 e3
          obtain ⟨i0, hi0, hz0, hz1, hz2⟩ := info_parts inf_rotor
          have hcell : ∀ (j : Nat) u, (rvs rs)[j]? = some u → w2.cell? ((⟨g, 0, none⟩ : Addr).add j) = some u := fun j u hu => by
            rw [add_none, Nat.zero_add]; exact og2.at_ hu
          have hone : ∀ u ∈ rvs rs, u.oneCell' = true := by
            intro u hu
            obtain ⟨j, hj, rfl⟩ := List.getElem_of_mem hu
            have h1 := rvs_get rs j (by rw [len_rvs] at hj; exact hj)
            rw [List.getElem?_eq_getElem hj] at h1
            injection h1 with h1
            rw [h1]; split <;> rfl
          have HC := Lib.hid hcell
          have HO := Lib.hid hone
          clear hcell hone
          have hll : Hid ((rvs rs).length = N * 2) := by show _ = _; rw [len_rvs, HNN.out]; omega
          have lto := o2.lt
          have ltp := p2.lt
          have hbase : base ≤ w2.heap.size := by have := (World.ownsRow.lt hown2 g rfl).1; omega
          go_wp2_with (at_builtin; refine wpList_append_lies _ (by rfl) _ _ _ (by rfl) base 73 i0 _ 2 32 Tryz.underlying23 hi0 hz0 hz1 hz2 rfl (by omega) _ N (rvs rs) (by rfl) hown2 ⟨g, 0, none⟩ N cp (rvs rs) (by rfl) hll.out HC.out HO.out (by omega) (by unfold maxLen; omega) (by omega) hbase w2.heap.size rfl ?_; intro gg cap w4 q4 hg4 hat4 lt4; have o4 := o2.grown hg4 (by simp [Value.ownBlock]; omega); have p4 := p2.grown hg4 (by simp [Value.ownBlock]; omega); have x0 := o4.at_ (i := 0) rfl; have x1 := o4.at_ (i := 1) rfl; have y0 := o4.free 0 (by simp); have x2 := p4.at_ (i := 0) rfl; have x3 := p4.at_ (i := 1) rfl; have y2 := p4.free 0 (by simp); have y3 := p4.free 1 (by simp))
          refine bodyPost_ret (v := .agg #[.slice (some ⟨gg, 0, none⟩) (N + N) cap, .string s]) (by simp [results, Tryz.results59, go_sem, x2, x3]) rfl ?_
          have hggne : gg ≠ B0 ∧ gg ≠ B0 + 1 ∧ R < gg := by
            rcases hat4 with h | h
            · simp [Value.ownBlock] at h; omega
            · have := hr2.lt; omega
          have hggb : gg = g ∨ w.heap.size ≤ gg := by
            rcases hat4 with h | h
            · simp [Value.ownBlock] at h; exact .inl h.symm
            · rw [HB0.out]; exact .inr (by omega)
          have oq := OwR.own q4
          have hs2 := ((oq.far (p := ⟨B0, 0, none⟩) (by simp; omega) (.slice (some ⟨gg, 0, none⟩) (N + N) cap)).far (p := ⟨B0 + 1, 0, none⟩) (by simp; omega) (.slice (some ⟨gg, 0, none⟩) (N + N) cap)).far (p := ⟨B0 + 1, 1, none⟩) (by simp; omega) (.string s)
          have hr4 : Rd w4 R (c + 1 + 1) := hr2.grown hg4 (fun i hi => by simp [Value.ownBlock] at hi; omega)
          have hm4 : Tu R g w w4 := hmw2.grown hg4 (fun i hi => by simp [Value.ownBlock] at hi; exact .inl hi.symm)
          refine ⟨⟨rs ++ rs, s⟩, some ⟨gg, 0, none⟩, cap, ⟨by simp [HNN.out]; omega, fun r hr => by simp at hr; exact HSM.out.rot r hr, HSM.out.refl⟩, ?_, ?_, (fun ad h => by cases h; exact hggb), ((((hr4.far (by simp; omega) _).far (by simp; omega) _).far (by simp; omega) _).more (by omega)), ((hm4.set_ (.inr (.inr (by simp; rw [HB0.out]; omega))) _).set_ (.inr (.inr (by simp; rw [HB0.out]; omega))) _).set_ (.inr (.inr (by simp; rw [HB0.out]; omega))) _⟩
          · simp only [List.length_append, HNN.out]
          · simp only [rvs_append]
            exact Reads.of_own hs2 hs2.lt
        · have t3 : (v == 3) = false := by simp [e3]
          clear e0 e1 e2 e3
          go_wp2
          refine bodyPost_ret (v := .agg #[.slice (some ⟨g, 0, none⟩) N cp, .string s]) (by simp [results, Tryz.results59, go_sem, k0, k1]) rfl ?_
          have hs2 := (og2.far (p := ⟨B0 + 1, 0, none⟩) (by simp; omega) (.slice (some ⟨g, 0, none⟩) N cp)).far (p := ⟨B0 + 1, 1, none⟩) (by simp; omega) (.string s)
          refine ⟨⟨rs, s⟩, some ⟨g, 0, none⟩, cp, HSM.out, ?_, Reads.of_own hs2 hs2.lt, (fun ad h => by cases h; exact .inl rfl), (((hr2.far (by simp; omega) _).far (by simp; omega) _).more (by omega)), (hmw2.set_ (.inr (.inr (by simp; rw [HB0.out]; omega))) _).set_ (.inr (.inr (by simp; rw [HB0.out]; omega))) _⟩
          simp only [HNN.out]
end Go.Proofs.YtnnblmibonnpcaaGreat

/- Contracts of the functions that draw wheels with windows. -/
namespace Go.Proofs.YtnnblmibonnpcaaGreat
open Go.RowKit

/-- Some wheels in the cell of block B, their rotors in a row of the call's own. -/
structure InCell (wx : World) (B B0 g cp : Nat) (x : Whl) : Prop where
  good : GoodW3 x
  cell : Own wx B [.slice (some ⟨g, 0, none⟩) x.rotors.length cp, .string x.refl]
  row : OwR wx (B0 + 1) 73 2 (.slice (some ⟨g, 0, none⟩) x.rotors.length cp) x.rotors.length (rvs x.rotors)
  ne : g ≠ B
theorem InCell.moved {wx wy : World} {R B B0 g cp : Nat} {x : Whl} (h : InCell wx B B0 g cp x) (hm : Moved R wx wy) (h1 : R < B0) (h2 : B0 < B) : InCell wy B B0 g cp x :=
  ⟨h.good, h.cell.grown hm (by simp; omega), OwR.moved h.row hm (by omega), h.ne⟩
theorem InCell.drewN {wx : World} {B B0 g cp : Nat} {x : Whl} (h : InCell wx B B0 g cp x) (n : Nat) : InCell (wx.drewN n) B B0 g cp x := ⟨h.good, h.cell.drewN n, h.row, h.ne⟩

/-- What the drawing of wheels and windows leaves. -/
def FitP (R : Nat) (c : Nat) (w : World) (e : Ending) (w' : World) : Prop :=
  ∃ (x : Whl) (u : ByteArray) (g cp : Nat), GoodW3 x ∧ Wd x.rotors.length u ∧ e = .returned (.tuple #[.agg #[.slice (some ⟨g, 0, none⟩) x.rotors.length cp, .string x.refl], .string u]) ∧ OwR w' w.heap.size 73 2 (.slice (some ⟨g, 0, none⟩) x.rotors.length cp) x.rotors.length (rvs x.rotors) ∧ w.heap.size < g ∧ Rd w' R c ∧ Moved R w w'

set_option maxRecDepth 100000 in
set_option maxHeartbeats 2000000 in
theorem l7Some_any (R : Nat) (c : Nat) (w : World) (h : Rd w R c) (hc : c ≤ 6000000) :
    Calls Tryz.prog 55 #[.pointer (some ⟨R, 0, none⟩)] w (FitP R (c + 300) w) := by
  have o0 := Own.new w [.slice none 0 0, .string ⟨#[]⟩] 25
  have hr0 := h.alloc (.cells #[.slice none 0 0, .string ⟨#[]⟩] 25)
  have hm0 := (Moved.refl R w).alloc (.cells #[.slice none 0 0, .string ⟨#[]⟩] 25)
  have hlt := h.lt
  go_enter Tryz.func55, Tryz.ntmps55
  go_wp2_with fail
  refine (pick_any R _ c _ hr0 (by omega) (by omega) (by omega)).mono ?_
  rintro e w1 ⟨v, rfl, hv0, hv1, _, hr1, hm1⟩
  obtain ⟨n0, rfl⟩ := Int.eq_ofNat_of_zero_le hv0
  have hn0 : n0 < 6 := by have := hv1 (by omega); omega
  have o1 := o0.grown hm1 (by simp; omega)
  have hmw1 := hm0.trans hm1
  have z1 : w.heap.size < w1.heap.size := o1.lt
  clear hv1 hv0 o0 hr0 hm0 hm1 h
  obtain ⟨n1, hn1⟩ : ∃ n1 : Nat, n1 = 1 + (n0 + 2) / 3 := ⟨_, rfl⟩
  have hso := l6Some_any R n1 _ _ hr1 (by omega) (by omega)
  rw [show ((n1 : Nat) : Int) = 1 + ((n0 : Int) + 2) / 3 by omega] at hso
  have b1 : 1 ≤ n1 := by omega
  have b3 : n1 ≤ 3 := by omega
  clear hn1
  go_wp2_with fail
  refine hso.mono ?_
  rintro e w2 ⟨x, v, hx, rfl, hown2, hr2, hm2⟩
  have hg3 := hx.three b1 b3
  clear hx hso
  obtain ⟨va, cp, rfl, -, -, hva⟩ := OwR.val hown2
  obtain ⟨g, rfl, hg, -⟩ : ∃ g, va = some ⟨g, 0, none⟩ ∧ w1.heap.size ≤ g ∧ Own w2 g (rvs x.rotors) := by
    rcases hva with h0 | h0
    · have := hg3.1; omega
    · exact h0
  clear hva
  have hgl := (World.ownsRow.lt hown2 g rfl).2
  have o2 := o1.grown hm2 (by simp; omega)
  have hmw2 := hmw1.trans hm2
  have p2 := Own.new w2 [.slice (some ⟨g, 0, none⟩) x.rotors.length cp, .string x.refl] 25
  have o2' := o2.alloc (.cells [.slice (some ⟨g, 0, none⟩) x.rotors.length cp, .string x.refl].toArray 25)
  have hr2' := hr2.alloc (.cells [.slice (some ⟨g, 0, none⟩) x.rotors.length cp, .string x.refl].toArray 25)
  have hm2' := hmw2.alloc (.cells [.slice (some ⟨g, 0, none⟩) x.rotors.length cp, .string x.refl].toArray 25)
  have hown2' := World.ownsRow.mono (World.ownsRow.alloc hown2 (.cells [.slice (some ⟨g, 0, none⟩) x.rotors.length cp, .string x.refl].toArray 25)) (base' := w.heap.size + 1) (by omega)
  go_wp2_with fail
  generalize (w2.alloc (.cells [.slice (some ⟨g, 0, none⟩) x.rotors.length cp, .string x.refl].toArray 25)) = W2 at *
  generalize hB1 : w2.heap.size = B1 at *
  generalize hB0 : w.heap.size = B0 at *
  have HB0 := Lib.hid hB0
  have hin : InCell W2 B1 B0 g cp x := ⟨hg3, p2, hown2', by omega⟩
  have hB01 : B0 < B1 := by omega
  have hgB0 : B0 < g := by omega
  clear o2 hr2 hmw2 hB1 hB0 hown2 hown2' o1 hr1 hmw1 hm2 z1 hg p2
  refine (pick_any R _ _ _ hr2' (by omega) (by omega) (by omega)).mono ?_
  rintro e w3 ⟨v, rfl, hv0, hv1, _, hr3, hm3⟩
  have o3 := o2'.grown hm3 (by simp; omega)
  have hin3 := hin.moved hm3 hlt hB01
  have hmw3 := hm2'.trans hm3
  clear hv1 hm3 hr2' hm2' hin o2'
  go_upto_if 16 with (fail)
  go_cut [] (fun wx => ∃ (x : Whl) (g cp : Nat), InCell wx B1 B0 g cp x ∧ B0 < g ∧ Own wx B0 [.slice none 0 0, .string ⟨#[]⟩] ∧ Rd wx R (c + 210) ∧ Moved R w wx)
  case first =>
    by_cases e0 : v = 0
    · have t0 : (v == 0) = true := by simp [e0]
      clear e0
      go_wp2_with fail
      refine (l6Any_any R _ _ hr3 (by omega)).mono ?_
      rintro e w4 ⟨x4, v4, hx4, rfl, hown4, hr4, hm4⟩
      obtain ⟨va, cp4, rfl, -, -, hva⟩ := OwR.val hown4
      obtain ⟨g4, rfl, hg4, -⟩ : ∃ g, va = some ⟨g, 0, none⟩ ∧ w3.heap.size ≤ g ∧ Own w4 g (rvs x4.rotors) := by
        rcases hva with h0 | h0
        · have := hx4.1; omega
        · exact h0
      clear hva
      have l3 := hin3.cell.lt
      have o4 := o3.grown hm4 (by simp; omega)
      have p4 := hin3.cell.grown hm4 (by simp; omega)
      have f0 := p4.at_ (i := 0) rfl
      have f1 := p4.at_ (i := 1) rfl
      have g0 := p4.free 0 (by simp)
      have g1 := p4.free 1 (by simp)
      go_wp2_with fail
      go_meet
      refine ⟨x4, g4, cp4, ⟨hx4, (p4.set_ (i := 0) (by simp) _).set_ (i := 1) (by simp) _, ?_, by omega⟩, by omega, (o4.far (by simp; omega) _).far (by simp; omega) _, ((hr4.far (by simp; omega) _).far (by simp; omega) _).more (by omega), ((hmw3.trans hm4).set_ (.inr (by simp; rw [HB0.out]; omega)) _).set_ (.inr (by simp; rw [HB0.out]; omega)) _⟩
      exact World.ownsRow.mono (OwR.off (OwR.off hown4 (by simp [Value.ownBlock]; omega) _) (by simp [Value.ownBlock]; omega) _) (by omega)
    · have t0 : (v == 0) = false := by simp [e0]
      clear e0
      go_wp2_with fail
      go_meet
      exact ⟨x, g, cp, hin3, by omega, o3, hr3.more (by omega), hmw3⟩
  case rest =>
    clear hin3 hr3 hmw3 o3 hg3 hgl
    obtain ⟨x, g, cp, hin, hgB, o1, hr, hm⟩ := hcut
    have hN1 := hin.good.1
    have hN3 := hin.good.2.1
    have f0 := hin.cell.at_ (i := 0) rfl
    go_wp2_with fail
    refine (l1Some_any R x.rotors.length _ _ hr (by omega) (by omega)).mono ?_
    rintro e w4 ⟨u, hu, rfl, hr4, hm4⟩
    have hin4 := hin.moved hm4 hlt hB01
    have o4 := o1.grown hm4 (by simp; omega)
    have hmw4 := hm.trans hm4
    have HU := Lib.hid hu
    clear hin o1 hr hm hm4 f0 hu
    go_wp2_with fail
    go_loopw [5, 6] (fun o i wr => ∃ (k : Nat) (u : ByteArray), k ≤ x.rotors.length ∧ i = .int .i64 k ∧ o = .string u ∧ Wd x.rotors.length u ∧ InCell wr B1 B0 g cp x ∧ Own wr B0 [.slice none 0 0, .string ⟨#[]⟩] ∧ Rd wr R (c + 220 + k) ∧ Moved R w wr) (fun _ i _ => x.rotors.length - (intOf i).toNat)
    case atStart => exact ⟨0, u, by omega, rfl, rfl, HU.out, hin4, o4, hr4.more (by omega), hmw4⟩
    case round =>
      clear hin4 o4 hr4 hmw4 HU
      obtain ⟨k, u, hk, rfl, rfl, hu, hin, o1, hr, hm⟩ := hrel
      have hus := hu.2
      have HU := Lib.hid hu
      have hu1 : u.size ≤ x.rotors.length := by omega
      have hu2 : x.rotors.length ≤ u.size := by omega
      have l1 := hin.cell.lt
      clear hu hus
      by_cases hlt2 : k < x.rotors.length
      · have f0 := hin.cell.at_ (i := 0) rfl
        have og := OwR.own hin.row
        have c1 := og.at_ (rvs_get1 hlt2)
        have hnw : Hid (Nt x.rotors[k].notches) := by
          have hb := hin.good.2.2.1 _ (List.getElem_mem hlt2)
          simp only [rotorB, Bool.and_eq_true, decide_eq_true_eq] at hb
          exact ⟨hb.1.1.2, hb.1.2, hb.2⟩
        have hn3 : x.rotors[k].notches.size ≤ 3 := hnw.out.1
        have q1 : (k : Int) < (x.rotors.length : Int) := by omega
        have q0 : (0 : Int) ≤ (k : Int) := by omega
        by_cases h0 : 0 < x.rotors[k].notches.size
        · have tn : decide ((0 : Int) < (x.rotors[k].notches.size : Int)) = true := decide_eq_true (by omega)
          go_wp2_with fail
          refine (pick_any R _ _ _ hr (by omega) (by omega) (by omega)).mono ?_
          rintro e w5 ⟨v, rfl, hv0, hv1, _, hr5, hm5⟩
          have hin5 := hin.moved hm5 hlt hB01
          have o5 := o1.grown hm5 (by simp; omega)
          have hmw5 := hm.trans hm5
          clear hv1 hin o1 hr hm hm5 f0 c1 og
          by_cases e0 : v = 0
          · have t0 : (v == 0) = true := by simp [e0]
            clear e0
            have f0 := hin5.cell.at_ (i := 0) rfl
            have og := OwR.own hin5.row
            have c1 := og.at_ (rvs_get1 hlt2)
            have s1 := sl_to u k (by omega)
            have s2 := sl_to x.rotors[k].notches 1 (by omega)
            rw [show (((1 : Nat)) : Int) = 1 from rfl] at s2
            have s3 := sl_next u k (by omega)
            have HW := Lib.hid (Wd.app (Wd.app (HU.out.ext 0 k (by omega)) (Wd.ext (n := x.rotors[k].notches.size) ⟨hnw.out.2.1, rfl⟩ 0 1 (by omega)) (by omega)) (HU.out.ext (k + 1) u.size (by omega)) (by omega))
            have z1 : (u.extract 0 k).size ≤ 3 := by simp only [ByteArray.size_extract]; omega
            have z2 : (x.rotors[k].notches.extract 0 1).size ≤ 3 := by simp only [ByteArray.size_extract]; omega
            have z3 : (u.extract (k + 1) u.size).size ≤ 3 := by simp only [ByteArray.size_extract]; omega
            generalize u.extract 0 k = a1 at *
            generalize x.rotors[k].notches.extract 0 1 = a2 at *
            generalize u.extract (k + 1) u.size = a3 at *
            have y2 : ¬ 9223372036854775807 < a1.size + a2.size := by omega
            have y3 : ¬ 9223372036854775807 < a1.size + a2.size + a3.size := by omega
            have hk1 : IntKind.i64.wrap ((k : Int) + 1) = (k : Int) + 1 := IntWalk.i64_in _ (by omega)
            have HK := Lib.hid hk1
            clear hk1
            go_wp2_with fail
            have hk1 := HK.out
            go_quiet (fail)
            clear hk1
            go_wp2
            go_roundw
            case rel =>
              refine ⟨k + 1, a1 ++ a2 ++ a3, by omega, by go_num, rfl, ?_, hin5.drewN _, o5.drewN _, (hr5.more (by omega)).keep fun _ _ => rfl, hmw5.drewN _⟩
              have := HW.out
              rw [show k - 0 + (1 - 0) + (u.size - (k + 1)) = x.rotors.length by omega] at this
              exact this
            case measure => simp [intOf]; omega
          · have t0 : (v == 0) = false := by simp [e0]
            clear e0
            go_wp2
            go_roundw
            case rel => exact ⟨k + 1, u, by omega, by go_num, rfl, HU.out, hin5, o5, hr5.more (by omega), hmw5⟩
            case measure => simp [intOf]; omega
        · have tn : decide ((0 : Int) < (x.rotors[k].notches.size : Int)) = false := decide_eq_false (by omega)
          go_wp2
          go_roundw
          case rel => exact ⟨k + 1, u, by omega, by go_num, rfl, HU.out, hin, o1, hr.more (by omega), hm⟩
          case measure => simp [intOf]; omega
      · have f0 := hin.cell.at_ (i := 0) rfl
        have f1 := hin.cell.at_ (i := 1) rfl
        have h0 := o1.at_ (i := 0) rfl
        have h1 := o1.at_ (i := 1) rfl
        have g0 := o1.free 0 (by simp)
        have g1 := o1.free 1 (by simp)
        have hne : ¬ B0 = B1 := by omega
        go_wp2
        refine bodyPost_ret (v := .tuple #[.agg #[.slice (some ⟨g, 0, none⟩) x.rotors.length cp, .string x.refl], .string u]) (by simp [results, Tryz.results55, go_sem, h0, h1]) rfl ?_
        refine ⟨x, u, g, cp, hin.good, HU.out, rfl, ?_, by rw [HB0.out]; omega, ((hr.far (by simp; omega) _).far (by simp; omega) _).more (by omega), (hm.set_ (.inr (by simp; rw [HB0.out]; omega)) _).set_ (.inr (by simp; rw [HB0.out]; omega)) _⟩
        exact World.ownsRow.mono (OwR.far (OwR.far hin.row (by simp) _) (by simp) _) (by rw [HB0.out]; omega)
end Go.Proofs.YtnnblmibonnpcaaGreat

/- Contracts of the functions that draw wheels and windows that sometimes do not fit, from an input. -/
namespace Go.Proofs.YtnnblmibonnpcaaGreat
open Go.RowKit

theorem IsRow.alloc_ {k : IntKind} {w : World} {a : Option Addr} {len cap : Nat} {zs : List Int} (h : IsRow k w a len cap zs) (o : Obj) : IsRow k (w.alloc o) a len cap zs := by
  rcases h with h | ⟨x, h1, h2, h3, h4, h5, h6⟩
  · exact .inl h
  · exact .inr ⟨x, h1, h2, h3, h4, fun i hi => by
      have := h5 i hi
      rw [World.cell?_alloc_lt w o _ (World.block_lt_of_cell? w _ this)]
      exact this, h6⟩
theorem sl_1 (s : ByteArray) (h : 1 ≤ s.size) (W : World) : (Instr.slice 9 (.string s) (some (.int .i64 1)) none none).run Tryz.prog W = .ok (.string (s.extract 1 s.size)) W := sl_from s 1 h W
theorem Reads.setOff {w : World} {B : Nat} {a : Option Addr} {xs : List Value} (h : Reads w B a xs) {p : Addr} (hp : ∀ ad, a = some ad → ad.block ≠ p.block) (v : Value) : Reads (w.setCell p v) B a xs := by
  rcases h with h | ⟨b, off, rfl, hb, hc⟩
  · exact .inl h
  · refine .inr ⟨b, off, rfl, hb, fun i hi => ?_⟩
    rw [← hc i hi]
    exact World.cell?_of_block (Below.heap_setCell w p v b (hp _ rfl))
/-- What the turning of wheels and windows into wrong ones leaves. -/
def FitW (R g : Nat) (c : Nat) (w : World) (e : Ending) (w' : World) : Prop :=
  ∃ (x : Whl) (u : ByteArray) (a : Option Addr) (cap : Nat), SmallW x ∧ u.size ≤ 300 ∧ e = .returned (.tuple #[.agg #[.slice a x.rotors.length cap, .string x.refl], .string u]) ∧ Reads w' w'.heap.size a (rvs x.rotors) ∧ (∀ ad, a = some ad → ad.block = g ∨ w.heap.size ≤ ad.block) ∧ Rd w' R c ∧ Tu R g w w'

theorem FitB.step {x : Whl} {v : ByteArray} (h : FitB x v) : FitB x (stepW x v) := ⟨h.one, h.three, h.rot, h.refl, by rw [size_stepW]; exact h.size, word_stepW h.word⟩
theorem FitB.stepN {x : Whl} : ∀ (n : Nat) {v : ByteArray}, FitB x v → FitB x (stepN x n v)
  | 0, _, h => h
  | n + 1, _, h => FitB.stepN n h.step
theorem GoodW3.fit {x : Whl} {u : ByteArray} (h : GoodW3 x) (hu : Wd x.rotors.length u) : FitB x u := ⟨h.1, h.2.1, h.2.2.1, h.2.2.2, hu.2, hu.1⟩
end Go.Proofs.YtnnblmibonnpcaaGreat

/- The specification's permutations of rotors, wheels and machines. -/
namespace Go.Proofs.YtnnblmibonnpcaaGreat
open Go.RowKit

theorem wd_take_snoc {p : List Nat} {k : Nat} (h : k < p.length) : wd (p.take (k + 1)) = wd (p.take k) ++ S [letr (pAt p k : Int)] := by
  rw [List.take_succ_eq_append_getElem h, wd_snoc, pAt_get h]
theorem l2Image_wd (p : List Nat) (i : Nat) (w : World) (h : IsP p) (hi : i < 10) :
    Calls Tryz.prog 70 #[.string (wd p), .int .i64 i] w fun e w' => e = .returned (.int .i64 (pAt p i)) ∧ w = w' := by
  have := l2Image_any (wd p) i w (permB_wd h) hi
  rwa [dg_wd h.lt] at this
theorem l2Then_any (p q : List Nat) (w : World) (hp : IsP p) (hq : IsP q) :
    Calls Tryz.prog 40 #[.string (wd p), .string (wd q)] w fun e w' => e = .returned (.string (wd (thenP p q))) ∧ Below w.heap.size w w' := by
  have hl : (thenP p q).length ≤ 10 ∧ 10 ≤ (thenP p q).length := by rw [len_then, hp.len]; omega
  obtain ⟨hl, hl2⟩ := hl
  go_enter Tryz.func40, Tryz.ntmps40
  go_wp2
  go_loopw [5, 6] (fun o i wr => ∃ k : Nat, k ≤ 10 ∧ i = .int .i64 k ∧ o = .string (wd ((thenP p q).take k)) ∧ Below w.heap.size w wr) (fun _ i _ => 10 - (intOf i).toNat)
  case atStart => exact ⟨0, by omega, rfl, by simp [wd, S], Below.refl _ _⟩
  case round =>
    obtain ⟨k, hk, rfl, rfl, hb⟩ := hrel
    by_cases hlt : k < 10
    · have hx := hp.at_lt hlt
      have hy := hq.at_lt hx
      have HS := Lib.hid (wd_take_snoc (p := thenP p q) (k := k) (by omega))
      have HA := Lib.hid (at_then q (i := k) (by rw [hp.len]; exact hlt))
      have hsz : (wd ((thenP p q).take k)).size ≤ 10 := by rw [size_wd, List.length_take]; omega
      have hi1 := fun W => l2Image_wd p k W hp hlt
      have hi2 := fun W => l2Image_wd q (pAt p k) W hq hx
      generalize pAt q (pAt p k) = y at *
      generalize pAt p k = x at *
      have hs1 : (S [letr (y : Int)]).size ≤ 1 := by rw [size_S]; simp
      go_wp2_with (first | (go_at_call 70; ((with_reducible refine (hi1 _).mono ?_); rintro e w' ⟨rfl, rfl⟩)) | (go_at_call 70; ((with_reducible refine (hi2 _).mono ?_); rintro e w' ⟨rfl, rfl⟩)) | (go_at_call 69; ((with_reducible refine (l1Letter_any _ _).mono ?_); rintro e w1 ⟨rfl, hb1⟩)))
      go_roundw
      case rel => exact ⟨k + 1, by omega, by go_num, by rw [HS.out, HA.out], hb.trans (hb1.mono hb.size)⟩
      case measure => simp [intOf]; omega
    · have hk' : k = 10 := by omega
      subst hk'
      go_wp2
      go_ret
      exact ⟨ret_str (by rw [List.take_of_length_le (by omega)]), hb⟩
theorem l2Back_wd (p : List Nat) (w : World) (hp : IsP p) :
    Calls Tryz.prog 86 #[.string (wd p)] w fun e w' => e = .returned (.string (wd (backP p))) ∧ Below w.heap.size w w' := by
  have := l2Back_any (wd p) w (permB_wd hp)
  rwa [dg_wd hp.lt] at this
theorem l2Renamed_any (p q : List Nat) (w : World) (hp : IsP p) (hq : IsP q) :
    Calls Tryz.prog 88 #[.string (wd p), .string (wd q)] w fun e w' => e = .returned (.string (wd (conjP p q))) ∧ Below w.heap.size w w' := by
  have t1 := fun W => l2Then_any (backP q) p W hq.back hp
  have t2 := fun W => l2Then_any (thenP (backP q) p) q W (hq.back.then hp) hq
  have t3 := fun W => l2Back_wd q W hq
  have HC : Hid (conjP p q = thenP (thenP (backP q) p) q) := rfl
  rw [HC.out]
  generalize thenP (thenP (backP q) p) q = x1 at *
  generalize thenP (backP q) p = x2 at *
  generalize backP q = x3 at *
  go_enter Tryz.func88, Tryz.ntmps88
  go_wp2_with fail
  refine (t3 _).mono ?_
  rintro e w1 ⟨rfl, hb1⟩
  go_wp2_with fail
  refine (t1 _).mono ?_
  rintro e w2 ⟨rfl, hb2⟩
  go_wp2_with fail
  refine (t2 _).mono ?_
  rintro e w3 ⟨rfl, hb3⟩
  go_wp2
  go_ret
  exact ⟨rfl, bt (bt hb1 hb2) hb3⟩
theorem letr_turn (a o : Nat) (ho : o < 10) : letr (((a + (10 - o) % 10) % 10 : Nat) : Int) = letr ((a : Int) - (o : Int)) := by
  rw [← letr_mod ((a : Int) - (o : Int)), ← letr_mod (((a + (10 - o) % 10) % 10 : Nat) : Int)]
  congr 1
  omega
theorem l5At_any (s : ByteArray) (o : Nat) (w : World) (hp : permB s = true) (ho : o < 10) :
    Calls Tryz.prog 127 #[.string s, .int .i64 (o : Int)] w fun e w' => e = .returned (.string (wd (turnP (dg s) o))) ∧ Below w.heap.size w w' := by
  have hP := permB_isP hp
  have hT := hP.turn o
  have hl : (turnP (dg s) o).length ≤ 10 := by rw [hT.len]; omega
  have hl2 : 10 ≤ (turnP (dg s) o).length := by rw [hT.len]; omega
  go_enter Tryz.func127, Tryz.ntmps127
  go_wp2
  go_loopw [5, 6] (fun u i wr => ∃ k : Nat, k ≤ 10 ∧ i = .int .i64 k ∧ u = .string (wd ((turnP (dg s) o).take k)) ∧ Below w.heap.size w wr) (fun _ i _ => 10 - (intOf i).toNat)
  case atStart => exact ⟨0, by omega, rfl, by simp [wd, S], Below.refl _ _⟩
  case round =>
    obtain ⟨k, hk, rfl, rfl, hb⟩ := hrel
    by_cases hlt : k < 10
    · have HS := Lib.hid (wd_take_snoc (p := turnP (dg s) o) (k := k) (by omega))
      have HA := Lib.hid (at_turn hP o (i := k) hlt)
      have hsz : (wd ((turnP (dg s) o).take k)).size ≤ 10 := by rw [size_wd, List.length_take]; omega
      have hx : (k + o) % 10 < 10 := by omega
      have hy := hP.at_lt hx
      have hi1 := fun W => l2Image_any s ((k + o) % 10) W hp hx
      rw [show (((k + o) % 10 : Nat) : Int) = ((k : Int) + (o : Int)) % 10 by omega] at hi1
      have HL := Lib.hid (letr_turn (pAt (dg s) ((k + o) % 10)) o ho)
      generalize pAt (dg s) ((k + o) % 10) = y at *
      have hs1 : (S [letr ((y : Int) - (o : Int))]).size ≤ 1 := by rw [size_S]; simp
      go_wp2_with (first | (go_at_call 70; ((with_reducible refine (hi1 _).mono ?_); rintro e w' ⟨rfl, rfl⟩)) | (go_at_call 69; ((with_reducible refine (l1Letter_any _ _).mono ?_); rintro e w1 ⟨rfl, hb1⟩)))
      go_roundw
      case rel => exact ⟨k + 1, by omega, by go_num, by rw [HS.out, HA.out, HL.out], hb.trans (hb1.mono hb.size)⟩
      case measure => simp [intOf]; omega
    · have hk' : k = 10 := by omega
      subst hk'
      go_wp2
      go_ret
      exact ⟨ret_str (by rw [List.take_of_length_le (by omega)]), hb⟩
end Go.Proofs.YtnnblmibonnpcaaGreat

/- The specification's keys of a machine. -/
namespace Go.Proofs.YtnnblmibonnpcaaGreat
open Go.RowKit

set_option maxRecDepth 100000 in
theorem l6Through_any (a : Option Addr) (n c : Nat) (x : Whl) (v : ByteArray) (ob : Option Addr) (cb : Nat) (os : List Nat) (w : World) (h : WhlAt w w.heap.size a n x) (hf : FitB x v) (ho : Reads w w.heap.size ob (ov os)) (hlo : os.length = x.rotors.length) (h10 : ∀ o ∈ os, o < 10) :
    Calls Tryz.prog 113 #[.agg #[.slice a n c, .string x.refl], .slice ob os.length cb] w fun e w' => e = .returned (.string (wd (wayP idP x.rotors os))) ∧ Below w.heap.size w w' := by
  have h3 := hf.three
  have h1 := hf.one
  obtain ⟨b, off, rfl, hbl, hc⟩ := h.cells h1
  have hn := h.len
  subst hn
  obtain ⟨bo, oo, rfl, hbo, hco⟩ := ho.cells (by rw [length_ov]; omega)
  have o0 := Own.new w [.slice (some ⟨b, off, none⟩) x.rotors.length c, .string x.refl] 25
  have hb0 := (Below.refl w.heap.size w).alloc (Nat.le_refl _) (.cells [.slice (some ⟨b, off, none⟩) x.rotors.length c, .string x.refl].toArray 25)
  have HP := Lib.hid (fun k => isP_way isP_id (x.rotors.drop k) (os.drop k) (fun r hr => hf.perms r (List.mem_of_mem_drop hr)))
  have HWE := Lib.hid (way_end (p := idP) (rs := x.rotors) (os := os) (k := x.rotors.length) (Nat.le_refl _))
  have H10 := Lib.hid h10
  have hle : os.length ≤ x.rotors.length := by omega
  have hle' : x.rotors.length ≤ os.length := by omega
  clear h10 hlo
  go_enter Tryz.func113, Tryz.ntmps113
  go_wp2_with (go_at_call 82; ((with_reducible refine (specIdentityPerm_any _).mono ?_); rintro e w1 ⟨rfl, hb1⟩))
  have o1 := o0.below hb1 o0.lt
  have hb := bt hb0 hb1
  clear o0 hb0 hb1
  go_loopw [5, 6] (fun s i wr => ∃ k : Nat, k ≤ x.rotors.length ∧ i = .int .i64 ((k : Int) - 1) ∧ s = .string (wd (wayP idP (x.rotors.drop k) (os.drop k))) ∧ Own wr w.heap.size [.slice (some ⟨b, off, none⟩) x.rotors.length c, .string x.refl] ∧ Below w.heap.size w wr) (fun _ i _ => (intOf i + 1).toNat)
  case atStart => exact ⟨x.rotors.length, Nat.le_refl _, by congr 1; omega, by rw [HWE.out], o1, hb⟩
  case round =>
    clear o1 hb
    obtain ⟨k, hk, rfl, rfl, o1, hb⟩ := hrel
    rcases Nat.eq_zero_or_pos k with h0 | h0
    · subst h0
      go_wp2
      go_ret
      exact ⟨rfl, hb⟩
    · obtain ⟨j, rfl⟩ : ∃ j, k = j + 1 := ⟨k - 1, by omega⟩
      have hjr : j < x.rotors.length := by omega
      have hjo : j < os.length := by omega
      have HS := Lib.hid (way_drop (p := idP) hjr hjo)
      have hw := HP.out (j + 1)
      have hw' := HP.out j
      obtain ⟨o, ho'⟩ : ∃ o, o = os[j] := ⟨_, rfl⟩
      have ho10 : o < 10 := by rw [ho']; exact H10.out _ (List.getElem_mem _)
      have hpr := hf.perms _ (List.getElem_mem hjr)
      have hT := (permB_isP hpr).turn o
      have t1 := fun W => l5At_any x.rotors[j].wiring o W hpr ho10
      have t2 := fun W => l2Then_any (wayP idP (x.rotors.drop (j + 1)) (os.drop (j + 1))) (turnP (dg x.rotors[j].wiring) o) W hw hT
      obtain ⟨f0, -⟩ := rot_cells (hc.below hb hbl) hjr
      have f1 := (hco.below hb hbo).at_ (ov_at hjo)
      have f2 := o1.at_ (i := 0) rfl
      have hzz := hb.size
      have e0 : b < wr.heap.size := by omega
      have e1 : bo < wr.heap.size := by omega
      have e2 := o1.lt
      rw [← ho'] at f1 HS
      have KEY : Hid (wd (thenP (wayP idP (x.rotors.drop (j + 1)) (os.drop (j + 1))) (turnP (dg x.rotors[j].wiring) o)) = wd (wayP idP (x.rotors.drop j) (os.drop j))) := by
        show _ = _
        rw [HS.out]
      clear ho' HS hw'
      generalize wayP idP (x.rotors.drop (j + 1)) (os.drop (j + 1)) = wp at *
      generalize turnP (dg x.rotors[j].wiring) o = tp at *
      generalize thenP wp tp = x4 at *
      have d0 := fun (cc : Cls wr.heap.size wr) => (cc.cell b (off + j * 2) e0).trans f0
      have d1 := fun (cc : Cls wr.heap.size wr) => (cc.cell bo (oo + j) e1).trans f1
      have d2 := fun (cc : Cls wr.heap.size wr) => (cc.cell w.heap.size 0 e2).trans f2
      have q1 : (0 : Int) ≤ (j : Int) := by omega
      have q2 : (j : Int) < (x.rotors.length : Int) := by omega
      have q3 : (j : Int) < (os.length : Int) := by omega
      rw [show (((j + 1 : Nat)) : Int) - 1 = (j : Int) by omega]
      clear f0 f1 f2
      go_wp2_with fail
      refine wp_region_cls (by kernel_rfl) (by kernel_rfl) ?_
      repeat (go_big_quiet_step (first | (go_at_call 127; with_reducible exact cls_of (Nat.le_refl _) (t1 _)) | (go_at_call 40; with_reducible exact cls_of (Nat.le_refl _) (t2 _))))
      refine wpQuiet_nil ?_
      intro wc hbc
      go_wp2
      go_roundw
      case rel => exact ⟨j, by omega, by go_num, by rw [KEY.out], o1.below hbc o1.lt, bt hb hbc⟩
      case measure => simp [intOf]

theorem l6Scramble_any (a : Option Addr) (n c : Nat) (x : Whl) (v : ByteArray) (ob : Option Addr) (cb : Nat) (os : List Nat) (w : World) (h : WhlAt w w.heap.size a n x) (hf : FitB x v) (ho : Reads w w.heap.size ob (ov os)) (hlo : os.length = x.rotors.length) (h10 : ∀ o ∈ os, o < 10) :
    Calls Tryz.prog 89 #[.agg #[.slice a n c, .string x.refl], .slice ob os.length cb] w fun e w' => e = .returned (.string (wd (scrP x os))) ∧ Below w.heap.size w w' := by
  have o0 := Own.new w [.slice a n c, .string x.refl] 25
  have hb0 := (Below.refl w.heap.size w).alloc (Nat.le_refl _) (.cells [.slice a n c, .string x.refl].toArray 25)
  have h' := h.alloc_ (.cells [.slice a n c, .string x.refl].toArray 25)
  have ho' : Reads (w.alloc (.cells [.slice a n c, .string x.refl].toArray 25)) (w.alloc (.cells [.slice a n c, .string x.refl].toArray 25)).heap.size ob (ov os) := (ho.below hb0 (Nat.le_refl _)).more (by simp)
  have hpr := permB_isP (plugB_perm (reflB_plug hf.refl))
  have hpw := isP_way isP_id x.rotors os hf.perms
  have f0 := o0.at_ (i := 0) rfl
  have f1 := o0.at_ (i := 1) rfl
  have l0 := o0.lt
  have t1 := fun (cc : Cls (w.alloc (.cells [.slice a n c, .string x.refl].toArray 25)).heap.size (w.alloc (.cells [.slice a n c, .string x.refl].toArray 25))) => l6Through_any a n c x v ob cb os cc.w ((h'.below cc.bel (Nat.le_refl _)).more cc.bel.size) hf ((ho'.below cc.bel (Nat.le_refl _)).more cc.bel.size) hlo h10
  have t2 := fun W => l2Back_wd (wayP idP x.rotors os) W hpw
  have t3 := fun W => l2Renamed_any (dg x.refl) (backP (wayP idP x.rotors os)) W hpr hpw.back
  rw [wd_dg (permB_word (plugB_perm (reflB_plug hf.refl)))] at t3
  have HS : Hid (scrP x os = conjP (dg x.refl) (backP (wayP idP x.rotors os))) := rfl
  rw [HS.out]
  generalize conjP (dg x.refl) (backP (wayP idP x.rotors os)) = y1 at *
  generalize backP (wayP idP x.rotors os) = y2 at *
  generalize wayP idP x.rotors os = y3 at *
  clear hlo h10
  go_enter Tryz.func89, Tryz.ntmps89
  go_wp2_with fail
  generalize (w.alloc (.cells [.slice a n c, .string x.refl].toArray 25)) = W at *
  have d0 := fun (cc : Cls W.heap.size W) => (cc.cell w.heap.size 0 l0).trans f0
  have d1 := fun (cc : Cls W.heap.size W) => (cc.cell w.heap.size 1 l0).trans f1
  clear f0 f1
  refine wp_region_cls (by kernel_rfl) (by kernel_rfl) ?_
  repeat (go_big_quiet_step (first | (go_at_call 113; with_reducible exact cls_of (Nat.le_refl _) (t1 _)) | (go_at_call 86; with_reducible exact cls_of (Nat.le_refl _) (t2 _)) | (go_at_call 88; with_reducible exact cls_of (Nat.le_refl _) (t3 _))))
  refine wpQuiet_nil ?_
  intro wc hbc
  go_wp2
  go_ret
  exact ⟨rfl, bt hb0 hbc⟩

theorem ov_append (a b : List Nat) : ov (a ++ b) = ov a ++ ov b := by simp [ov]
set_option maxRecDepth 100000 in
set_option maxHeartbeats 1000000 in
theorem l8Offsets_any (a : Option Addr) (n c : Nat) (m : Mach) (v : ByteArray) (w : World) (hv : wordB v = true) (hr : wordB m.rings = true) (hs : v.size = m.rings.size) :
    Calls Tryz.prog 90 #[.agg #[.slice a n c, .string m.wheels.refl, .string m.rings, .string m.plugs], .string v] w (RowPost 3 1 (offs m.rings v).length (ov (offs m.rings v)) w) := by
  have hb : v.size ≤ 200 := wordB_size hv
  have hle : v.size ≤ m.rings.size := by omega
  have hle2 : m.rings.size ≤ 200 := by omega
  have Hlo := Lib.hid (len_offs m.rings v)
  have o0 := Own.new w [.slice a n c, .string m.wheels.refl, .string m.rings, .string m.plugs] 27
  have hb0 := (Below.refl w.heap.size w).alloc (Nat.le_refl _) (.cells [.slice a n c, .string m.wheels.refl, .string m.rings, .string m.plugs].toArray 27)
  clear hs
  go_enter Tryz.func90, Tryz.ntmps90
  go_wp2
  go_loopw [5, 6] (fun u i wr => ∃ k : Nat, k ≤ v.size ∧ i = .int .i64 k ∧ OwR wr (w.heap.size + 1) 3 1 u k (ov ((offs m.rings v).take k)) ∧ Own wr w.heap.size [.slice a n c, .string m.wheels.refl, .string m.rings, .string m.plugs] ∧ Below w.heap.size w wr) (fun _ i _ => v.size - (intOf i).toNat)
  case atStart =>
    refine ⟨0, Nat.zero_le _, rfl, ?_, o0.alloc _, hb0.alloc (by simp) _⟩
    have := World.ownsRow_lit (base := w.heap.size + 1) (e := 3) (size := 1) (w.alloc (.cells [.slice a n c, .string m.wheels.refl, .string m.rings, .string m.plugs].toArray 27)) #[] 0 (by simp) (by unfold maxLen; omega) (by simp)
    simpa [ov] using this
  case round =>
    clear o0 hb0
    obtain ⟨k, hk, rfl, hown, o0, hbel⟩ := hrel
    by_cases hlt : k < v.size
    · have hlt2 : k < m.rings.size := by omega
      have hd1 := wordB_at hv k hlt
      have hd2 := wordB_at hr k hlt2
      have n1 := fun W => l1Digit_any v k W (by omega) (by omega) (by omega)
      have n2 := fun W => l1Digit_any m.rings k W (by omega) (by omega) (by omega)
      rw [show v[(k : Int).toNat]'(by omega) = v[k] by simp] at n1
      rw [show m.rings[(k : Int).toNat]'(by omega) = m.rings[k] by simp] at n2
      obtain ⟨z, hz⟩ : ∃ z : Nat, (z : Int) = (dig v[k] - dig m.rings[k] + 10) % 10 := ⟨((dig v[k] - dig m.rings[k] + 10) % 10).toNat, by omega⟩
      have HZ : Hid ((offs m.rings v).take (k + 1) = (offs m.rings v).take k ++ [z]) := by
        show _ = _
        rw [List.take_succ_eq_append_getElem (by rw [Hlo.out]; exact hlt), offs_at hlt hlt2]
        congr 2; omega
      have f2 := o0.at_ (i := 2) rfl
      have hzz := hbel.size
      have lt0 := o0.lt
      generalize hD1 : dig v[k] = D1 at *
      generalize hD2 : dig m.rings[k] = D2 at *
      obtain ⟨a1, a2⟩ := hd1
      obtain ⟨b1, b2⟩ := hd2
      have hm1 : IntKind.i64.wrap (D1 - D2) = D1 - D2 := IntWalk.i64_in _ (by omega)
      have hm2 : IntKind.i64.wrap (D1 - D2 + 10) = D1 - D2 + 10 := IntWalk.i64_in _ (by omega)
      have hm3 : (D1 - D2 + 10).tmod 10 = (z : Int) := by rw [Int.tmod_eq_emod_of_nonneg (by omega)]; omega
      have Hz := Lib.hid hz
      clear hD1 hD2 hz
      go_wp2_with fail
      have hown' : OwR wr.drew (w.heap.size + 1) 3 1 u5 k (ov ((offs m.rings v).take k)) := hown
      go_region_held3 (fun w' => w'.cell? ⟨w.heap.size, 2, none⟩ = some (.string m.rings)) (first | go_keep | exact k2)
        (first | (go_at_call 66; ((with_reducible refine (n1 _).mono ?_); rintro e w' ⟨rfl, rfl⟩)) | (go_at_call 66; ((with_reducible refine (n2 _).mono ?_); rintro e w' ⟨rfl, rfl⟩)) | (refine st_push 56 3 info_int Tryz.underlying56 rfl (by omega) (by rfl) (by rfl) hown' (by simp; omega) rfl (by simp [Value.oneCell']) (by omega) (by omega) (by rfl) (by rfl) ?_; intro g cap w4 o4 b4 s4; have o5 := o0.drew.below b4 (by omega); have k2 := o5.at_ (i := 2) rfl))
      all_goals
        clear hm1 hm2 hm3
        go_wp2
        go_roundw
        case rel =>
          refine ⟨k + 1, by omega, by go_num, ?_, o5, (hbel.drew.trans (b4.mono (by omega)))⟩
          rw [HZ.out, ov_append]
          exact o4
        case measure => simp [intOf]; omega
    · have hk' : k = v.size := by omega
      subst hk'
      go_wp2
      go_ret
      rw [List.take_of_length_le (by rw [Hlo.out]; omega)] at hown
      refine ⟨_, rfl, ?_, hbel⟩
      rw [Hlo.out]
      exact World.ownsRow.mono hown (by omega)
end Go.Proofs.YtnnblmibonnpcaaGreat
