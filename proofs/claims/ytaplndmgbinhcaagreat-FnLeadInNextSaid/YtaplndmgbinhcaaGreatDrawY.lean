/- The contract of the function that draws wrong wheels. -/
import Derived.Test.YtaplndmgbinhcaaGreatDrawX
namespace Go.Proofs.YtaplndmgbinhcaaGreat
open Go.RowKit

/-- From w to w' only the blocks R and g have turned, and there is new memory. -/
structure Tu (R g : Nat) (w w' : World) : Prop where
  os : w'.os = w.os
  tape : w'.tape = w.tape
  output : w'.output = w.output
  size : w.heap.size ≤ w'.heap.size
  block : ∀ i, i < w.heap.size → i ≠ R → i ≠ g → w'.heap[i]? = w.heap[i]?
section
variable {R g : Nat} {a b c : World}
theorem Tu.refl (R g : Nat) (w : World) : Tu R g w w := ⟨rfl, rfl, rfl, Nat.le_refl _, fun _ _ _ _ => rfl⟩
theorem Tu.trans (h : Tu R g a b) (k : Tu R g b c) : Tu R g a c :=
  ⟨k.os.trans h.os, k.tape.trans h.tape, k.output.trans h.output, Nat.le_trans h.size k.size, fun i hi h1 h2 => (k.block i (Nat.lt_of_lt_of_le hi h.size) h1 h2).trans (h.block i hi h1 h2)⟩
theorem Tu.moved (h : Tu R g a b) (k : Moved R b c) : Tu R g a c :=
  ⟨k.os.trans h.os, k.tape.trans h.tape, k.output.trans h.output, Nat.le_trans h.size k.size, fun i hi h1 h2 => (k.block i (Nat.lt_of_lt_of_le hi h.size) (by simpa using h1)).trans (h.block i hi h1 h2)⟩
theorem Tu.below (h : Tu R g a b) (k : Below b.heap.size b c) : Tu R g a c :=
  ⟨k.os.trans h.os, k.tape.trans h.tape, k.output.trans h.output, Nat.le_trans h.size k.size, fun i hi h1 h2 => (k.block i (Nat.lt_of_lt_of_le hi h.size)).trans (h.block i hi h1 h2)⟩
theorem Tu.alloc (h : Tu R g a b) (o : Obj) : Tu R g a (b.alloc o) := h.below ((Below.refl _ _).alloc (Nat.le_refl _) o)
theorem Tu.drew (h : Tu R g a b) : Tu R g a b.drew := ⟨h.os, h.tape, h.output, h.size, h.block⟩
theorem Tu.set_ (h : Tu R g a b) {p : Addr} (hp : p.block = R ∨ p.block = g ∨ a.heap.size ≤ p.block) (u : Value) : Tu R g a (b.setCell p u) :=
  ⟨h.os, h.tape, h.output, by simpa [World.setCell] using h.size, fun i hi h1 h2 => (Below.heap_setCell b p u i (by
    rintro rfl
    rcases hp with hp | hp | hp
    · exact h1 hp
    · exact h2 hp
    · omega)).trans (h.block i hi h1 h2)⟩
theorem Tu.grown (h : Tu R g a b) {row : Option Nat} (k : b.grownBy c row) (hr : ∀ i, row = some i → i = g ∨ a.heap.size ≤ i) : Tu R g a c :=
  ⟨k.os.trans h.os, k.tape.trans h.tape, k.output.trans h.output, Nat.le_trans h.size k.size, fun i hi h1 h2 => (k.block i (Nat.lt_of_lt_of_le hi h.size) (fun e => by
    rcases hr i e.symm with e | e
    · exact h2 e
    · omega)).trans (h.block i hi h1 h2)⟩
theorem Tu.toBelow {B : Nat} (h : Tu R g a b) (h1 : B ≤ R) (h2 : B ≤ g) (hs : B ≤ a.heap.size) : Below B a b :=
  ⟨h.os, h.tape, h.output, h.size, fun k hk => h.block k (by omega) (by omega) (by omega)⟩
theorem Own.tu {k : Nat} {cs : List Value} (h : Own a k cs) (t : Tu R g a b) (h1 : k ≠ R) (h2 : k ≠ g) : Own b k cs := h.keep (Nat.lt_of_lt_of_le h.lt t.size) (t.block k h.lt h1 h2)
end

theorem rvs_get : ∀ (rs : List Rot) (i : Nat), i < 2 * rs.length → (rvs rs)[i]? = some (if i % 2 = 0 then .string (rs.getD (i / 2) ⟨⟨#[]⟩, ⟨#[]⟩⟩).wiring else .string (rs.getD (i / 2) ⟨⟨#[]⟩, ⟨#[]⟩⟩).notches)
  | rs, i, h => by
    have hk : i / 2 < rs.length := by omega
    rcases Nat.mod_two_eq_zero_or_one i with e | e
    · have := rvs_at0 rs (i / 2) hk
      rw [show 2 * (i / 2) = i by omega] at this
      rw [this, if_pos e]; simp [List.getD, List.getElem?_eq_getElem hk]
    · have := rvs_at1 rs (i / 2) hk
      rw [show 2 * (i / 2) + 1 = i by omega] at this
      rw [this, if_neg (by omega)]; simp [List.getD, List.getElem?_eq_getElem hk]
/-- Small wheels. -/
structure SmallW (x : Whl) : Prop where
  few : x.rotors.length ≤ 6
  rot : ∀ r ∈ x.rotors, RSz 1001 r
  refl : x.refl.size ≤ 1001
theorem SmallW.at_ {x : Whl} (h : SmallW x) {w : World} {B : Nat} {a : Option Addr} (hr : Reads w B a (rvs x.rotors)) : WhlAt w B a x.rotors.length x :=
  ⟨hr, rfl, by have := h.few; omega, fun r hr => ⟨by have := (h.rot r hr).1; omega, by have := (h.rot r hr).2; omega⟩, by have := h.refl; omega⟩
theorem permB_len {s : ByteArray} (h : permB s = true) : s.size = 10 := permB_size h
theorem rotorB_sz {r : Rot} (h : rotorB r = true) : r.wiring.size = 10 ∧ r.notches.size ≤ 3 := ⟨permB_size (rotorB_perm h), rotorB_notches h⟩
theorem GoodW3.small {x : Whl} (h : GoodW3 x) : SmallW x :=
  ⟨by have := h.2.1; omega, fun r hr => by have := rotorB_sz (h.2.2.1 r hr); exact ⟨by omega, by omega⟩, by have := permB_size (plugB_perm (reflB_plug h.2.2.2)); omega⟩
/-- What the turning of wheels into wrong ones leaves. -/
def WhlB (R g : Nat) (P : Whl → Prop) (c : Nat) (w : World) (e : Ending) (w' : World) : Prop :=
  ∃ (x : Whl) (a : Option Addr) (cap : Nat), P x ∧ e = .returned (.agg #[.slice a x.rotors.length cap, .string x.refl]) ∧ Reads w' w'.heap.size a (rvs x.rotors) ∧ (∀ ad, a = some ad → ad.block = g ∨ w.heap.size ≤ ad.block) ∧ Rd w' R c ∧ Tu R g w w'

set_option maxRecDepth 100000 in
set_option maxHeartbeats 2000000 in
theorem l6Bad_any (R g cp base : Nat) (x : Whl) (c : Nat) (w : World) (h : Rd w R c) (hc : c ≤ 7000000) (hx : GoodW3 x) (hown : OwR w base 70 2 (.slice (some ⟨g, 0, none⟩) x.rotors.length cp) x.rotors.length (rvs x.rotors)) (hRg : R < g) :
    Calls Tryz.prog 47 #[.pointer (some ⟨R, 0, none⟩), .agg #[.slice (some ⟨g, 0, none⟩) x.rotors.length cp, .string x.refl]] w (WhlB R g SmallW (c + 20) w) := by
  have hsm := Lib.hid hx.small
  obtain ⟨hN1, hN3, hrb, hrf⟩ := hx
  obtain ⟨rs, s⟩ := x
  simp only at hN1 hN3 hrb hrf hown hsm ⊢
  have HSM := Lib.hid hsm.out
  clear hsm
  have hs10 : s.size ≤ 10 := by rw [permB_size (plugB_perm (reflB_plug hrf))]; omega
  have HRB := Lib.hid hrb
  clear hrb hrf
  have hgl := (World.ownsRow.lt hown g rfl).2
  generalize hNN : rs.length = N at *
  have HNN := Lib.hid hNN
  clear hNN
  have o0 := (Own.new w [.slice (some ⟨g, 0, none⟩) N cp, .string s] 25).alloc (.cells #[.slice none 0 0, .string ⟨#[]⟩] 25)
  have p0 := Own.new (w.alloc (.cells #[.slice (some ⟨g, 0, none⟩) N cp, .string s] 25)) [.slice none 0 0, .string ⟨#[]⟩] 25
  have hr0 := (h.alloc (.cells #[.slice (some ⟨g, 0, none⟩) N cp, .string s] 25)).alloc (.cells #[.slice none 0 0, .string ⟨#[]⟩] 25)
  have hm0 := ((Tu.refl R g w).alloc (.cells #[.slice (some ⟨g, 0, none⟩) N cp, .string s] 25)).alloc (.cells #[.slice none 0 0, .string ⟨#[]⟩] 25)
  have hown0 := World.ownsRow.alloc (World.ownsRow.alloc hown (.cells #[.slice (some ⟨g, 0, none⟩) N cp, .string s] 25)) (.cells #[.slice none 0 0, .string ⟨#[]⟩] 25)
  rw [World.size_alloc] at p0
  have hlt := h.lt
  have f0 := o0.at_ (i := 0) rfl
  go_enter Tryz.func47, Tryz.ntmps47
  go_wp2_with fail
  refine (pick_any R _ c _ hr0 (by omega) (by omega) (by omega)).mono ?_
  rintro e w1 ⟨v, rfl, hv0, hv1, _, hr1, hm1⟩
  obtain ⟨k, rfl⟩ := Int.eq_ofNat_of_zero_le hv0
  have hk : k < N := by have := hv1 (by omega); omega
  have o1 := o0.grown hm1 (by simp; omega)
  have p1 := p0.grown hm1 (by simp; omega)
  have hmw1 := hm0.moved hm1
  have hown1 := OwR.movedR hown0 hm1 (by simp [Value.ownBlock]; omega)
  clear hv1 hv0 o0 p0 hr0 hm0 hm1 h f0 hown0 hown
  go_wp2_with fail
  refine (pick_any R _ _ _ hr1 (by omega) (by omega) (by omega)).mono ?_
  rintro e w2 ⟨v, rfl, hv0, hv1, _, hr2, hm2⟩
  have o2 := o1.grown hm2 (by simp; omega)
  have p2 := p1.grown hm2 (by simp; omega)
  have hmw2 := hmw1.moved hm2
  have hown2 := OwR.movedR hown1 hm2 (by simp [Value.ownBlock]; omega)
  clear hv1 o1 p1 hr1 hmw1 hm2 hown1
  generalize hB0 : w.heap.size = B0 at *
  have HB0 := Lib.hid hB0
  clear hB0
  have f0 := o2.at_ (i := 0) rfl
  have f1 := o2.at_ (i := 1) rfl
  have e0f := o2.free 0 (by simp)
  have e1f := o2.free 1 (by simp)
  have k0 := p2.at_ (i := 0) rfl
  have k1 := p2.at_ (i := 1) rfl
  have j0 := p2.free 0 (by simp)
  have j1 := p2.free 1 (by simp)
  have og2 := OwR.own hown2
  by_cases e0 : v = 0
  · have t0 : (v == 0) = true := by simp [e0]
    clear e0
    have c0 := og2.at_ (rvs_get0 (k := k) (show k < rs.length by rw [HNN.out]; exact hk))
    have c1 := og2.at_ (rvs_get1 (k := k) (show k < rs.length by rw [HNN.out]; exact hk))
    have hz := rotorB_sz (HRB.out _ (List.getElem_mem (show k < rs.length by rw [HNN.out]; exact hk)))
    have z1 : 1 ≤ (rs[k]'(by rw [HNN.out]; exact hk)).wiring.size := by omega
    have z2 : (rs[k]'(by rw [HNN.out]; exact hk)).wiring.size ≤ 1000 := by omega
    have z3 : (rs[k]'(by rw [HNN.out]; exact hk)).notches.size ≤ 1000 := by omega
    have q1 : (k : Int) < (N : Int) := by omega
    have q0 : (0 : Int) ≤ (k : Int) := by omega
    have t1 : (v == 1) = false := by simp only [beq_iff_eq] at t0; subst t0; rfl
    have t2 : (v == 2) = false := by simp only [beq_iff_eq] at t0; subst t0; rfl
    have t3 : (v == 3) = false := by simp only [beq_iff_eq] at t0; subst t0; rfl
    have hne1 : ¬ g = B0 := by omega
    have hne2 : ¬ g = B0 + 1 := by omega
    clear hz
    go_wp2_with fail
    go_region_law (first | (go_simp; go_at_call 69; refine (l5Bad_any R (rs[k]'(by rw [HNN.out]; exact hk)) _ _ hr2.drew (by omega) z1 z2 z3).mono ?_; rintro e w3 ⟨r, hrB, rfl, hr3, hm3⟩; have o3 := o2.drew.grown hm3 (by simp; omega); have p3 := p2.drew.grown hm3 (by simp; omega); have hown3 := OwR.movedR (w := w2.drew) hown2 hm3 (by simp [Value.ownBlock]; omega); have og3 := OwR.own hown3; have f3 := o3.at_ (i := 0) rfl; have f3' := o3.at_ (i := 1) rfl; have m0 := p3.at_ (i := 0) rfl; have m1 := p3.at_ (i := 1) rfl; have n0 := p3.free 0 (by simp); have n1 := p3.free 1 (by simp); obtain ⟨y0, b0⟩ := og3.some_ (i := k * 2) (by rw [len_rvs, HNN.out]; omega); obtain ⟨y1, b1⟩ := og3.some_ (i := k * 2 + 1) (by rw [len_rvs, HNN.out]; omega); have d0 := og3.free (k * 2) (by rw [len_rvs, HNN.out]; omega); have d1 := og3.free (k * 2 + 1) (by rw [len_rvs, HNN.out]; omega)))
    all_goals
      go_wp2
      refine bodyPost_ret (v := .agg #[.slice (some ⟨g, 0, none⟩) N cp, .string s]) (by simp [results, Tryz.results47, go_sem, m0, m1]) rfl ?_
      have hs1 := (og3.set_ (i := k * 2) (by rw [len_rvs, HNN.out]; omega) (.string r.wiring)).set_ (i := k * 2 + 1) (by rw [List.length_set, len_rvs, HNN.out]; omega) (.string r.notches)
      rw [rvs_set2 r (by rw [HNN.out]; exact hk)] at hs1
      have hs2 := (hs1.far (p := ⟨B0 + 1, 0, none⟩) (by simp; omega) (.slice (some ⟨g, 0, none⟩) N cp)).far (p := ⟨B0 + 1, 1, none⟩) (by simp; omega) (.string s)
      refine ⟨⟨rs.set k r, s⟩, some ⟨g, 0, none⟩, cp, ⟨by rw [List.length_set, HNN.out]; omega, set_all HSM.out.rot hrB, HSM.out.refl⟩, ?_, Reads.of_own hs2 hs2.lt, (fun ad h => by cases h; exact .inl rfl), (((((hr3.far (by simp; omega) _).far (by simp; omega) _).far (by simp; omega) _).far (by simp; omega) _).more (by omega)), ((((hmw2.drew.moved hm3).set_ (.inr (.inl rfl)) _).set_ (.inr (.inl rfl)) _).set_ (.inr (.inr (by simp; rw [HB0.out]; omega))) _).set_ (.inr (.inr (by simp; rw [HB0.out]; omega))) _⟩
      simp only [List.length_set, HNN.out]
  · have t0 : (v == 0) = false := by simp [e0]
    by_cases e1 : v = 1
    · have t1 : (v == 1) = true := by simp [e1]
      clear e0 e1
      go_wp2_with fail
      refine (l4Any_any R _ _ hr2 (by omega)).mono ?_
      rintro e w3 ⟨u, hu, rfl, hr3, hm3⟩
      have o3 := o2.grown hm3 (by simp; omega)
      have p3 := p2.grown hm3 (by simp; omega)
      have og3 := og2.grown hm3 (by simp; omega)
      have hmw3 := hmw2.moved hm3
      have hus : u.size ≤ 10 := by rw [permB_size (plugB_perm hu)]; omega
      clear o2 p2 og2 hm3 hr2 hu hown2 f0 f1 e0f e1f k0 k1 j0 j1 hmw2
      have f0 := o3.at_ (i := 0) rfl
      have f1 := o3.at_ (i := 1) rfl
      have g1 := o3.free 1 (by simp)
      have k0 := p3.at_ (i := 0) rfl
      have k1 := p3.at_ (i := 1) rfl
      have j0 := p3.free 0 (by simp)
      have j1 := p3.free 1 (by simp)
      go_wp2
      refine bodyPost_ret (v := .agg #[.slice (some ⟨g, 0, none⟩) N cp, .string u]) (by simp [results, Tryz.results47, go_sem, k0, k1]) rfl ?_
      have hs2 := ((og3.far (p := ⟨B0, 1, none⟩) (by simp; omega) (.string u)).far (p := ⟨B0 + 1, 0, none⟩) (by simp; omega) (.slice (some ⟨g, 0, none⟩) N cp)).far (p := ⟨B0 + 1, 1, none⟩) (by simp; omega) (.string u)
      refine ⟨⟨rs, u⟩, some ⟨g, 0, none⟩, cp, ⟨HSM.out.few, HSM.out.rot, by show u.size ≤ 1001; omega⟩, ?_, Reads.of_own hs2 hs2.lt, (fun ad h => by cases h; exact .inl rfl), ((((hr3.far (by simp; omega) _).far (by simp; omega) _).far (by simp; omega) _).more (by omega)), ((hmw3.set_ (.inr (.inr (by simp; rw [HB0.out]; omega))) _).set_ (.inr (.inr (by simp; rw [HB0.out]; omega))) _).set_ (.inr (.inr (by simp; rw [HB0.out]; omega))) _⟩
      simp only [HNN.out]
    · have t1 : (v == 1) = false := by simp [e1]
      by_cases e2 : v = 2
      · have t2 : (v == 2) = true := by simp [e2]
        clear e0 e1 e2
        go_wp2
        refine bodyPost_ret (v := .agg #[.slice none 0 0, .string s]) (by simp [results, Tryz.results47, go_sem, k0, k1]) rfl ?_
        refine ⟨⟨[], s⟩, none, 0, ⟨by simp, by simp, HSM.out.refl⟩, rfl, Reads.nil_, (fun ad h => by cases h), ((((hr2.far (by simp; omega) _).far (by simp; omega) _).far (by simp; omega) _).more (by omega)), ((hmw2.set_ (.inr (.inr (by simp; rw [HB0.out]; omega))) _).set_ (.inr (.inr (by simp; rw [HB0.out]; omega))) _).set_ (.inr (.inr (by simp; rw [HB0.out]; omega))) _⟩
      · have t2 : (v == 2) = false := by simp [e2]
        by_cases e3 : v = 3
        · have t3 : (v == 3) = true := by simp [e3]
          clear e0 e1 e2 e3
          obtain ⟨i0, hi0, hz0, hz1, hz2⟩ := info_parts inf_rotor
          have hcell : ∀ (j : Nat) u, (rvs rs)[j]? = some u → w2.cell? ((⟨g, 0, none⟩ : Addr).add j) = some u := fun j u hu => by
            rw [add_none, Nat.zero_add]; exact og2.at_ hu
          have hone : ∀ u ∈ rvs rs, u.oneCell' = true := by
            intro u hu
            obtain ⟨j, hj, rfl⟩ := List.getElem_of_mem hu
            have h1 := rvs_get rs j (by rw [len_rvs] at hj; exact hj)
            rw [List.getElem?_eq_getElem hj] at h1
            injection h1 with h1
            rw [h1]; split <;> rfl
          have HC := Lib.hid hcell
          have HO := Lib.hid hone
          clear hcell hone
          have hll : Hid ((rvs rs).length = N * 2) := by show _ = _; rw [len_rvs, HNN.out]; omega
          have lto := o2.lt
          have ltp := p2.lt
          have hbase : base ≤ w2.heap.size := by have := (World.ownsRow.lt hown2 g rfl).1; omega
          go_wp2_with (at_builtin; refine wpList_append_lies _ (by rfl) _ _ _ (by rfl) base 70 i0 _ 2 32 Tryz.underlying23 hi0 hz0 hz1 hz2 rfl (by omega) _ N (rvs rs) (by rfl) hown2 ⟨g, 0, none⟩ N cp (rvs rs) (by rfl) hll.out HC.out HO.out (by omega) (by unfold maxLen; omega) (by omega) hbase w2.heap.size rfl ?_; intro gg cap w4 q4 hg4 hat4 lt4; have o4 := o2.grown hg4 (by simp [Value.ownBlock]; omega); have p4 := p2.grown hg4 (by simp [Value.ownBlock]; omega); have x0 := o4.at_ (i := 0) rfl; have x1 := o4.at_ (i := 1) rfl; have y0 := o4.free 0 (by simp); have x2 := p4.at_ (i := 0) rfl; have x3 := p4.at_ (i := 1) rfl; have y2 := p4.free 0 (by simp); have y3 := p4.free 1 (by simp))
          refine bodyPost_ret (v := .agg #[.slice (some ⟨gg, 0, none⟩) (N + N) cap, .string s]) (by simp [results, Tryz.results47, go_sem, x2, x3]) rfl ?_
          have hggne : gg ≠ B0 ∧ gg ≠ B0 + 1 ∧ R < gg := by
            rcases hat4 with h | h
            · simp [Value.ownBlock] at h; omega
            · have := hr2.lt; omega
          have hggb : gg = g ∨ w.heap.size ≤ gg := by
            rcases hat4 with h | h
            · simp [Value.ownBlock] at h; exact .inl h.symm
            · rw [HB0.out]; exact .inr (by omega)
          have oq := OwR.own q4
          have hs2 := ((oq.far (p := ⟨B0, 0, none⟩) (by simp; omega) (.slice (some ⟨gg, 0, none⟩) (N + N) cap)).far (p := ⟨B0 + 1, 0, none⟩) (by simp; omega) (.slice (some ⟨gg, 0, none⟩) (N + N) cap)).far (p := ⟨B0 + 1, 1, none⟩) (by simp; omega) (.string s)
          have hr4 : Rd w4 R (c + 1 + 1) := hr2.grown hg4 (fun i hi => by simp [Value.ownBlock] at hi; omega)
          have hm4 : Tu R g w w4 := hmw2.grown hg4 (fun i hi => by simp [Value.ownBlock] at hi; exact .inl hi.symm)
          refine ⟨⟨rs ++ rs, s⟩, some ⟨gg, 0, none⟩, cap, ⟨by simp [HNN.out]; omega, fun r hr => by simp at hr; exact HSM.out.rot r hr, HSM.out.refl⟩, ?_, ?_, (fun ad h => by cases h; exact hggb), ((((hr4.far (by simp; omega) _).far (by simp; omega) _).far (by simp; omega) _).more (by omega)), ((hm4.set_ (.inr (.inr (by simp; rw [HB0.out]; omega))) _).set_ (.inr (.inr (by simp; rw [HB0.out]; omega))) _).set_ (.inr (.inr (by simp; rw [HB0.out]; omega))) _⟩
          · simp only [List.length_append, HNN.out]
          · simp only [rvs_append]
            exact Reads.of_own hs2 hs2.lt
        · have t3 : (v == 3) = false := by simp [e3]
          clear e0 e1 e2 e3
          go_wp2
          refine bodyPost_ret (v := .agg #[.slice (some ⟨g, 0, none⟩) N cp, .string s]) (by simp [results, Tryz.results47, go_sem, k0, k1]) rfl ?_
          have hs2 := (og2.far (p := ⟨B0 + 1, 0, none⟩) (by simp; omega) (.slice (some ⟨g, 0, none⟩) N cp)).far (p := ⟨B0 + 1, 1, none⟩) (by simp; omega) (.string s)
          refine ⟨⟨rs, s⟩, some ⟨g, 0, none⟩, cp, HSM.out, ?_, Reads.of_own hs2 hs2.lt, (fun ad h => by cases h; exact .inl rfl), (((hr2.far (by simp; omega) _).far (by simp; omega) _).more (by omega)), (hmw2.set_ (.inr (.inr (by simp; rw [HB0.out]; omega))) _).set_ (.inr (.inr (by simp; rw [HB0.out]; omega))) _⟩
          simp only [HNN.out]
end Go.Proofs.YtaplndmgbinhcaaGreat
