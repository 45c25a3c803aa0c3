/- Several of my texts in one: DrawX, DrawY, DrawZ, Draw7, ShelfS, SortS, BackV. -/
import Derived.Test.YtjefcicenepcbaaGreatM6
import Derived.Test.YtjefcicenepcbaaGreatM4
import Derived.Shelf.Sort.Plain
import Derived.Test.YtjefcicenepcbaaGreatProg
import Derived.Shelf.Slices.In.SortNone
import Derived.Sort.OwnSorted
/- The contract of the function that draws any wheels. -/
namespace Go.Proofs.YtjefcicenepcbaaGreat
open Go.RowKit

theorem OwR.own {w : World} {base g cap n : Nat} {e : TypeId} {sz : Nat} {xs : List Value} (h : OwR w base e sz (.slice (some ⟨g, 0, none⟩) n cap) n xs) : Own w g xs := by
  rcases h.2 with ⟨h', _⟩ | ⟨g', cap', cur, h', hb, hh, hn, hm, hs, ht⟩
  · simp at h'
  · simp only [Value.slice.injEq, Option.some.injEq, Addr.mk.injEq, and_true, true_and] at h'
    obtain ⟨rfl, rfl⟩ := h'
    have hlt : g < w.heap.size := by
      rcases Nat.lt_or_ge g w.heap.size with h1 | h1
      · exact h1
      · rw [Array.getElem?_eq_none h1] at hh; cases hh
    refine ⟨hlt, fun i hi => ?_, fun i hi => by simp [World.frozen?, hh]⟩
    rw [cell_of_row w g i cur _ _ hh, ← ht]
    have : i < n * sz := by rw [← h.1]; exact hi
    rw [List.getElem?_take_of_lt this]
    simp
theorem rvs_set2 {rs : List Rot} {k : Nat} (r : Rot) (h : k < rs.length) : ((rvs rs).set (k * 2) (.string r.wiring)).set (k * 2 + 1) (.string r.notches) = rvs (rs.set k r) := by
  induction rs generalizing k with
  | nil => simp at h
  | cons q rs ih =>
    cases k with
    | zero => simp [rvs]
    | succ k =>
      rw [show (k + 1) * 2 = k * 2 + 1 + 1 by omega]
      simp only [rvs, List.set_cons_succ]
      rw [ih (by simpa using h)]
theorem set_all {rs : List Rot} {Q : Rot → Prop} (h : ∀ r ∈ rs, Q r) {k : Nat} {r : Rot} (hr : Q r) : ∀ q ∈ rs.set k r, Q q := fun q hq => by
  rcases List.mem_or_eq_of_mem_set hq with h1 | rfl
  · exact h q h1
  · exact hr

/-- Good wheels with some rotors, at most three. -/
def GoodW3 (x : Whl) : Prop := 1 ≤ x.rotors.length ∧ x.rotors.length ≤ 3 ∧ (∀ r ∈ x.rotors, rotorB r = true) ∧ reflB x.refl = true
theorem GoodW.three {n : Nat} {x : Whl} (h : GoodW n x) (h1 : 1 ≤ n) (h3 : n ≤ 3) : GoodW3 x := ⟨by rw [h.1]; exact h1, by rw [h.1]; exact h3, h.2.1, h.2.2⟩
theorem rvs_get0 {rs : List Rot} {k : Nat} (h : k < rs.length) : (rvs rs)[k * 2]? = some (.string rs[k].wiring) := by rw [Nat.mul_comm]; exact rvs_at0 rs k h
theorem rvs_get1 {rs : List Rot} {k : Nat} (h : k < rs.length) : (rvs rs)[k * 2 + 1]? = some (.string rs[k].notches) := by rw [Nat.mul_comm]; exact rvs_at1 rs k h

set_option maxRecDepth 100000 in
set_option maxHeartbeats 1000000 in
theorem l6Any_any (R : Nat) (c : Nat) (w : World) (h : Rd w R c) (hc : c ≤ 7000000) :
    Calls Tryz.prog 39 #[.pointer (some ⟨R, 0, none⟩)] w (WhlP R GoodW3 (c + 150) w) := by
  have o0 := Own.new w [.slice none 0 0, .string ⟨#[]⟩] 25
  have hr0 := h.alloc (.cells #[.slice none 0 0, .string ⟨#[]⟩] 25)
  have hm0 := (Moved.refl R w).alloc (.cells #[.slice none 0 0, .string ⟨#[]⟩] 25)
  have hlt := h.lt
  go_enter Tryz.func39, Tryz.ntmps39
  go_wp2_with fail
  refine (pick_any R _ c _ hr0 (by omega) (by omega) (by omega)).mono ?_
  rintro e w1 ⟨v, rfl, hv0, hv1, _, hr1, hm1⟩
  obtain ⟨n0, rfl⟩ := Int.eq_ofNat_of_zero_le hv0
  have hn0 : n0 < 3 := by have := hv1 (by omega); omega
  have o1 := o0.grown hm1 (by simp; omega)
  have hmw1 := hm0.trans hm1
  have z1 : w.heap.size < w1.heap.size := o1.lt
  clear hv1 hv0 o0 hr0 hm0 hm1 h
  have hso := l6Some_any R (1 + n0) _ _ hr1 (by omega) (by omega)
  rw [show ((1 + n0 : Nat) : Int) = 1 + (n0 : Int) by omega] at hso
  go_wp2_with fail
  refine hso.mono ?_
  rintro e w2 ⟨x, v, hx, rfl, hown2, hr2, hm2⟩
  have hN := hx.1
  have HRB := Lib.hid hx.2.1
  have HRF := Lib.hid hx.2.2
  clear hx hso
  obtain ⟨va, cp, rfl, -, -, hva⟩ := OwR.val hown2
  obtain ⟨g, rfl, hg, -⟩ : ∃ g, va = some ⟨g, 0, none⟩ ∧ w1.heap.size ≤ g ∧ Own w2 g (rvs x.rotors) := by
    rcases hva with h0 | h0
    · omega
    · exact h0
  clear hva
  have hgl := (World.ownsRow.lt hown2 g rfl).2
  have o2 := o1.grown hm2 (by simp; omega)
  have hmw2 := hmw1.trans hm2
  obtain ⟨rs, s⟩ := x
  simp only at hN hown2 HRB HRF
  generalize hNN : rs.length = N at *
  have hN1 : 1 ≤ N := by omega
  have hN3 : N ≤ 3 := by omega
  have HNN := Lib.hid hNN
  clear hNN hN
  have p2 := Own.new w2 [.slice (some ⟨g, 0, none⟩) N cp, .string s] 25
  have o2' := o2.alloc (.cells [.slice (some ⟨g, 0, none⟩) N cp, .string s].toArray 25)
  have hr2' := hr2.alloc (.cells [.slice (some ⟨g, 0, none⟩) N cp, .string s].toArray 25)
  have hm2' := hmw2.alloc (.cells [.slice (some ⟨g, 0, none⟩) N cp, .string s].toArray 25)
  have hown2' := World.ownsRow.alloc hown2 (.cells [.slice (some ⟨g, 0, none⟩) N cp, .string s].toArray 25)
  go_wp2_with fail
  generalize (w2.alloc (.cells [.slice (some ⟨g, 0, none⟩) N cp, .string s].toArray 25)) = W2 at *
  generalize hB1 : w2.heap.size = B1 at *
  generalize hB0 : w.heap.size = B0 at *
  have HB0 := Lib.hid hB0
  have hown3 := World.ownsRow.mono hown2' (base' := B0 + 1) (by omega)
  have hgB : B0 + 1 ≤ g := by omega
  clear o2 hr2 hmw2 hB1 hB0 hown2 hown2' o1 hr1 hmw1 hm2 z1 hg
  go_loopw [4] (fun i wr => ∃ (k : Nat) (rs : List Rot), k ≤ N ∧ i = .int .i64 k ∧ rs.length = N ∧ (∀ r ∈ rs, rotorB r = true) ∧ Own wr B1 [.slice (some ⟨g, 0, none⟩) N cp, .string s] ∧ Own wr B0 [.slice none 0 0, .string ⟨#[]⟩] ∧ OwR wr (B0 + 1) 67 2 (.slice (some ⟨g, 0, none⟩) N cp) N (rvs rs) ∧ Rd wr R (c + 51 + 21 * k) ∧ Moved R w wr) (fun i _ => N - (intOf i).toNat)
  case atStart => exact ⟨0, rs, by omega, rfl, HNN.out, HRB.out, p2, o2', hown3, hr2'.more (by omega), hm2'⟩
  case round =>
    clear p2 o2' hr2' hm2' hown3 HRB HNN
    obtain ⟨k, rs, hk, rfl, hrl, hrb, p1, o1, hown, hr, hm⟩ := hrel
    have HRL := Lib.hid hrl
    have HRB := Lib.hid hrb
    clear hrl hrb
    have f0 := p1.at_ (i := 0) rfl
    have lt1 := p1.lt
    by_cases hlt2 : k < N
    · go_wp2_with fail
      refine (pick_any R _ _ _ hr (by omega) (by omega) (by omega)).mono ?_
      rintro e w3 ⟨v, rfl, hv0, hv1, _, hr3, hm3⟩
      have p3 := p1.grown hm3 (by simp; omega)
      have o3 := o1.grown hm3 (by simp; omega)
      have hown3 := OwR.moved hown hm3 (by omega)
      have hmw3 := hm.trans hm3
      clear hv1 p1 o1 hown hr hm hm3 f0
      by_cases e0 : v = 0
      · have t0 : (v == 0) = true := by simp [e0]
        clear e0
        have f0 := p3.at_ (i := 0) rfl
        have lt3 := p3.lt
        have q1 : (k : Int) < (N : Int) := by omega
        have q0 : (0 : Int) ≤ (k : Int) := by omega
        have hne1 : ¬ g = B1 := by omega
        have hne2 : ¬ B1 = g := by omega
        go_wp2_with fail
        go_region_held3 (fun w' => w'.cell? ⟨B1, 0, none⟩ = some (.slice (some ⟨g, 0, none⟩) N cp)) (first | go_keep | exact f4)
          (first | (go_at_call 64; refine (l5Any_any R _ _ hr3.drew (by omega)).mono ?_; rintro e w4 ⟨r, hrB, rfl, hr4, hm4⟩; have p4 := p3.drew.grown hm4 (by simp; omega); have f4 := p4.at_ (i := 0) rfl; have hown4 := OwR.moved (w := w3.drew) hown3 hm4 (by omega); have og4 := OwR.own hown4; obtain ⟨y0, c0⟩ := og4.some_ (i := k * 2) (by rw [len_rvs, HRL.out]; omega); obtain ⟨y1, c1⟩ := og4.some_ (i := k * 2 + 1) (by rw [len_rvs, HRL.out]; omega); have d0 := og4.free (k * 2) (by rw [len_rvs, HRL.out]; omega); have d1 := og4.free (k * 2 + 1) (by rw [len_rvs, HRL.out]; omega)))
        all_goals
         go_wp2
         go_roundw
         case rel =>
          have hs1 := (World.ownsRow.stored (World.ownsRow.stored hown4 (k * 2) (.string r.wiring)).1 (k * 2 + 1) (.string r.notches)).1
          rw [rvs_set2 r (by rw [HRL.out]; exact hlt2)] at hs1
          have o4 := o3.drew.grown hm4 (by simp; omega)
          refine ⟨k + 1, rs.set k r, by omega, by go_num, by rw [List.length_set, HRL.out], set_all HRB.out hrB, (p4.far (by simp; omega) _).far (by simp; omega) _, (o4.far (by simp; omega) _).far (by simp; omega) _, hs1, (((hr4.far (by simp; omega) _).far (by simp; omega) _)).more (by omega), ((hmw3.drew.trans hm4).set_ (.inr (by simp; rw [HB0.out]; omega)) _).set_ (.inr (by simp; rw [HB0.out]; omega)) _⟩
         case measure => simp [intOf]; omega
      · have t0 : (v == 0) = false := by simp [e0]
        clear e0
        go_wp2
        go_roundw
        case rel => exact ⟨k + 1, rs, by omega, by go_num, HRL.out, HRB.out, p3, o3, hown3, hr3.more (by omega), hmw3⟩
        case measure => simp [intOf]; omega
    · have hk' : k = N := by omega
      subst hk'
      have f1 := p1.at_ (i := 1) rfl
      have h0 := o1.at_ (i := 0) rfl
      have h1 := o1.at_ (i := 1) rfl
      have g0 := o1.free 0 (by simp)
      have g1 := o1.free 1 (by simp)
      have hne : ¬ B0 = B1 := by omega
      go_wp2
      refine bodyPost_ret (v := .agg #[.slice (some ⟨g, 0, none⟩) k cp, .string s]) (by simp [results, Tryz.results39, go_sem, h0, h1]) rfl ?_
      refine ⟨⟨rs, s⟩, _, ⟨by rw [HRL.out]; omega, by rw [HRL.out]; omega, HRB.out, HRF.out⟩, rfl, ?_, ((hr.far (by simp; omega) _).far (by simp; omega) _).more (by omega), (hm.set_ (.inr (by simp; rw [HB0.out]; omega)) _).set_ (.inr (by simp; rw [HB0.out]; omega)) _⟩
      have := World.ownsRow.mono (OwR.far (OwR.far hown (p := ⟨B0, 0, none⟩) (by simp) (.slice (some ⟨g, 0, none⟩) k cp)) (p := ⟨B0, 1, none⟩) (by simp) (.string s)) (base' := w.heap.size) (by rw [HB0.out]; omega)
      rw [show (rs.length : Nat) = k from HRL.out]
      exact this
end Go.Proofs.YtjefcicenepcbaaGreat

/- The contract of the function that draws wrong wheels. -/
namespace Go.Proofs.YtjefcicenepcbaaGreat
open Go.RowKit

/-- From w to w' only the blocks R and g have turned, and there is new memory. -/
structure Tu (R g : Nat) (w w' : World) : Prop where
  os : w'.os = w.os
  tape : w'.tape = w.tape
  output : w'.output = w.output
  size : w.heap.size ≤ w'.heap.size
  block : ∀ i, i < w.heap.size → i ≠ R → i ≠ g → w'.heap[i]? = w.heap[i]?
section
variable {R g : Nat} {a b c : World}
theorem Tu.refl (R g : Nat) (w : World) : Tu R g w w := ⟨rfl, rfl, rfl, Nat.le_refl _, fun _ _ _ _ => rfl⟩
theorem Tu.trans (h : Tu R g a b) (k : Tu R g b c) : Tu R g a c :=
  ⟨k.os.trans h.os, k.tape.trans h.tape, k.output.trans h.output, Nat.le_trans h.size k.size, fun i hi h1 h2 => (k.block i (Nat.lt_of_lt_of_le hi h.size) h1 h2).trans (h.block i hi h1 h2)⟩
theorem Tu.moved (h : Tu R g a b) (k : Moved R b c) : Tu R g a c :=
  ⟨k.os.trans h.os, k.tape.trans h.tape, k.output.trans h.output, Nat.le_trans h.size k.size, fun i hi h1 h2 => (k.block i (Nat.lt_of_lt_of_le hi h.size) (by simpa using h1)).trans (h.block i hi h1 h2)⟩
theorem Tu.below (h : Tu R g a b) (k : Below b.heap.size b c) : Tu R g a c :=
  ⟨k.os.trans h.os, k.tape.trans h.tape, k.output.trans h.output, Nat.le_trans h.size k.size, fun i hi h1 h2 => (k.block i (Nat.lt_of_lt_of_le hi h.size)).trans (h.block i hi h1 h2)⟩
theorem Tu.alloc (h : Tu R g a b) (o : Obj) : Tu R g a (b.alloc o) := h.below ((Below.refl _ _).alloc (Nat.le_refl _) o)
theorem Tu.drew (h : Tu R g a b) : Tu R g a b.drew := ⟨h.os, h.tape, h.output, h.size, h.block⟩
theorem Tu.set_ (h : Tu R g a b) {p : Addr} (hp : p.block = R ∨ p.block = g ∨ a.heap.size ≤ p.block) (u : Value) : Tu R g a (b.setCell p u) :=
  ⟨h.os, h.tape, h.output, by simpa [World.setCell] using h.size, fun i hi h1 h2 => (Below.heap_setCell b p u i (by
    rintro rfl
    rcases hp with hp | hp | hp
    · exact h1 hp
    · exact h2 hp
    · omega)).trans (h.block i hi h1 h2)⟩
theorem Tu.grown (h : Tu R g a b) {row : Option Nat} (k : b.grownBy c row) (hr : ∀ i, row = some i → i = g ∨ a.heap.size ≤ i) : Tu R g a c :=
  ⟨k.os.trans h.os, k.tape.trans h.tape, k.output.trans h.output, Nat.le_trans h.size k.size, fun i hi h1 h2 => (k.block i (Nat.lt_of_lt_of_le hi h.size) (fun e => by
    rcases hr i e.symm with e | e
    · exact h2 e
    · omega)).trans (h.block i hi h1 h2)⟩
theorem Tu.toBelow {B : Nat} (h : Tu R g a b) (h1 : B ≤ R) (h2 : B ≤ g) (hs : B ≤ a.heap.size) : Below B a b :=
  ⟨h.os, h.tape, h.output, h.size, fun k hk => h.block k (by omega) (by omega) (by omega)⟩
theorem Own.tu {k : Nat} {cs : List Value} (h : Own a k cs) (t : Tu R g a b) (h1 : k ≠ R) (h2 : k ≠ g) : Own b k cs := h.keep (Nat.lt_of_lt_of_le h.lt t.size) (t.block k h.lt h1 h2)
end

theorem rvs_get : ∀ (rs : List Rot) (i : Nat), i < 2 * rs.length → (rvs rs)[i]? = some (if i % 2 = 0 then .string (rs.getD (i / 2) ⟨⟨#[]⟩, ⟨#[]⟩⟩).wiring else .string (rs.getD (i / 2) ⟨⟨#[]⟩, ⟨#[]⟩⟩).notches)
  | rs, i, h => by
    have hk : i / 2 < rs.length := by omega
    rcases Nat.mod_two_eq_zero_or_one i with e | e
    · have := rvs_at0 rs (i / 2) hk
      rw [show 2 * (i / 2) = i by omega] at this
      rw [this, if_pos e]; simp [List.getD, List.getElem?_eq_getElem hk]
    · have := rvs_at1 rs (i / 2) hk
      rw [show 2 * (i / 2) + 1 = i by omega] at this
      rw [this, if_neg (by omega)]; simp [List.getD, List.getElem?_eq_getElem hk]
/-- Small wheels. -/
structure SmallW (x : Whl) : Prop where
  few : x.rotors.length ≤ 6
  rot : ∀ r ∈ x.rotors, RSz 1001 r
  refl : x.refl.size ≤ 1001
theorem SmallW.at_ {x : Whl} (h : SmallW x) {w : World} {B : Nat} {a : Option Addr} (hr : Reads w B a (rvs x.rotors)) : WhlAt w B a x.rotors.length x :=
  ⟨hr, rfl, by have := h.few; omega, fun r hr => ⟨by have := (h.rot r hr).1; omega, by have := (h.rot r hr).2; omega⟩, by have := h.refl; omega⟩
theorem permB_len {s : ByteArray} (h : permB s = true) : s.size = 10 := permB_size h
theorem rotorB_sz {r : Rot} (h : rotorB r = true) : r.wiring.size = 10 ∧ r.notches.size ≤ 3 := ⟨permB_size (rotorB_perm h), rotorB_notches h⟩
theorem GoodW3.small {x : Whl} (h : GoodW3 x) : SmallW x :=
  ⟨by have := h.2.1; omega, fun r hr => by have := rotorB_sz (h.2.2.1 r hr); exact ⟨by omega, by omega⟩, by have := permB_size (plugB_perm (reflB_plug h.2.2.2)); omega⟩
/-- What the turning of wheels into wrong ones leaves. -/
def WhlB (R g : Nat) (P : Whl → Prop) (c : Nat) (w : World) (e : Ending) (w' : World) : Prop :=
  ∃ (x : Whl) (a : Option Addr) (cap : Nat), P x ∧ e = .returned (.agg #[.slice a x.rotors.length cap, .string x.refl]) ∧ Reads w' w'.heap.size a (rvs x.rotors) ∧ (∀ ad, a = some ad → ad.block = g ∨ w.heap.size ≤ ad.block) ∧ Rd w' R c ∧ Tu R g w w'

set_option maxRecDepth 100000 in
set_option maxHeartbeats 2000000 in
theorem l6Bad_any (R g cp base : Nat) (x : Whl) (c : Nat) (w : World) (h : Rd w R c) (hc : c ≤ 7000000) (hx : GoodW3 x) (hown : OwR w base 67 2 (.slice (some ⟨g, 0, none⟩) x.rotors.length cp) x.rotors.length (rvs x.rotors)) (hRg : R < g) :
    Calls Tryz.prog 41 #[.pointer (some ⟨R, 0, none⟩), .agg #[.slice (some ⟨g, 0, none⟩) x.rotors.length cp, .string x.refl]] w (WhlB R g SmallW (c + 20) w) := by
  have hsm := Lib.hid hx.small
  obtain ⟨hN1, hN3, hrb, hrf⟩ := hx
  obtain ⟨rs, s⟩ := x
  simp only at hN1 hN3 hrb hrf hown hsm ⊢
  have HSM := Lib.hid hsm.out
  clear hsm
  have hs10 : s.size ≤ 10 := by rw [permB_size (plugB_perm (reflB_plug hrf))]; omega
  have HRB := Lib.hid hrb
  clear hrb hrf
  have hgl := (World.ownsRow.lt hown g rfl).2
  generalize hNN : rs.length = N at *
  have HNN := Lib.hid hNN
  clear hNN
  have o0 := (Own.new w [.slice (some ⟨g, 0, none⟩) N cp, .string s] 25).alloc (.cells #[.slice none 0 0, .string ⟨#[]⟩] 25)
  have p0 := Own.new (w.alloc (.cells #[.slice (some ⟨g, 0, none⟩) N cp, .string s] 25)) [.slice none 0 0, .string ⟨#[]⟩] 25
  have hr0 := (h.alloc (.cells #[.slice (some ⟨g, 0, none⟩) N cp, .string s] 25)).alloc (.cells #[.slice none 0 0, .string ⟨#[]⟩] 25)
  have hm0 := ((Tu.refl R g w).alloc (.cells #[.slice (some ⟨g, 0, none⟩) N cp, .string s] 25)).alloc (.cells #[.slice none 0 0, .string ⟨#[]⟩] 25)
  have hown0 := World.ownsRow.alloc (World.ownsRow.alloc hown (.cells #[.slice (some ⟨g, 0, none⟩) N cp, .string s] 25)) (.cells #[.slice none 0 0, .string ⟨#[]⟩] 25)
  rw [World.size_alloc] at p0
  have hlt := h.lt
  have f0 := o0.at_ (i := 0) rfl
  go_enter Tryz.func41, Tryz.ntmps41
  go_wp2_with fail
  refine (pick_any R _ c _ hr0 (by omega) (by omega) (by omega)).mono ?_
  rintro e w1 ⟨v, rfl, hv0, hv1, _, hr1, hm1⟩
  obtain ⟨k, rfl⟩ := Int.eq_ofNat_of_zero_le hv0
  have hk : k < N := by have := hv1 (by omega); omega
  have o1 := o0.grown hm1 (by simp; omega)
  have p1 := p0.grown hm1 (by simp; omega)
  have hmw1 := hm0.moved hm1
  have hown1 := OwR.movedR hown0 hm1 (by simp [Value.ownBlock]; omega)
  clear hv1 hv0 o0 p0 hr0 hm0 hm1 h f0 hown0 hown
  go_wp2_with fail
  refine (pick_any R _ _ _ hr1 (by omega) (by omega) (by omega)).mono ?_
  rintro e w2 ⟨v, rfl, hv0, hv1, _, hr2, hm2⟩
  have o2 := o1.grown hm2 (by simp; omega)
  have p2 := p1.grown hm2 (by simp; omega)
  have hmw2 := hmw1.moved hm2
  have hown2 := OwR.movedR hown1 hm2 (by simp [Value.ownBlock]; omega)
  clear hv1 o1 p1 hr1 hmw1 hm2 hown1
  generalize hB0 : w.heap.size = B0 at *
  have HB0 := Lib.hid hB0
  clear hB0
  have f0 := o2.at_ (i := 0) rfl
  have f1 := o2.at_ (i := 1) rfl
  have e0f := o2.free 0 (by simp)
  have e1f := o2.free 1 (by simp)
  have k0 := p2.at_ (i := 0) rfl
  have k1 := p2.at_ (i := 1) rfl
  have j0 := p2.free 0 (by simp)
  have j1 := p2.free 1 (by simp)
  have og2 := OwR.own hown2
  by_cases e0 : v = 0
  · have t0 : (v == 0) = true := by simp [e0]
    clear e0
    have c0 := og2.at_ (rvs_get0 (k := k) (show k < rs.length by rw [HNN.out]; exact hk))
    have c1 := og2.at_ (rvs_get1 (k := k) (show k < rs.length by rw [HNN.out]; exact hk))
    have hz := rotorB_sz (HRB.out _ (List.getElem_mem (show k < rs.length by rw [HNN.out]; exact hk)))
    have z1 : 1 ≤ (rs[k]'(by rw [HNN.out]; exact hk)).wiring.size := by omega
    have z2 : (rs[k]'(by rw [HNN.out]; exact hk)).wiring.size ≤ 1000 := by omega
    have z3 : (rs[k]'(by rw [HNN.out]; exact hk)).notches.size ≤ 1000 := by omega
    have q1 : (k : Int) < (N : Int) := by omega
    have q0 : (0 : Int) ≤ (k : Int) := by omega
    have t1 : (v == 1) = false := by simp only [beq_iff_eq] at t0; subst t0; rfl
    have t2 : (v == 2) = false := by simp only [beq_iff_eq] at t0; subst t0; rfl
    have t3 : (v == 3) = false := by simp only [beq_iff_eq] at t0; subst t0; rfl
    have hne1 : ¬ g = B0 := by omega
    have hne2 : ¬ g = B0 + 1 := by omega
    clear hz
    go_wp2_with fail
    go_region_law (first | (go_simp; go_at_call 65; refine (l5Bad_any R (rs[k]'(by rw [HNN.out]; exact hk)) _ _ hr2.drew (by omega) z1 z2 z3).mono ?_; rintro e w3 ⟨r, hrB, rfl, hr3, hm3⟩; have o3 := o2.drew.grown hm3 (by simp; omega); have p3 := p2.drew.grown hm3 (by simp; omega); have hown3 := OwR.movedR (w := w2.drew) hown2 hm3 (by simp [Value.ownBlock]; omega); have og3 := OwR.own hown3; have f3 := o3.at_ (i := 0) rfl; have f3' := o3.at_ (i := 1) rfl; have m0 := p3.at_ (i := 0) rfl; have m1 := p3.at_ (i := 1) rfl; have n0 := p3.free 0 (by simp); have n1 := p3.free 1 (by simp); obtain ⟨y0, b0⟩ := og3.some_ (i := k * 2) (by rw [len_rvs, HNN.out]; omega); obtain ⟨y1, b1⟩ := og3.some_ (i := k * 2 + 1) (by rw [len_rvs, HNN.out]; omega); have d0 := og3.free (k * 2) (by rw [len_rvs, HNN.out]; omega); have d1 := og3.free (k * 2 + 1) (by rw [len_rvs, HNN.out]; omega)))
    all_goals
      go_wp2
      refine bodyPost_ret (v := .agg #[.slice (some ⟨g, 0, none⟩) N cp, .string s]) (by simp [results, Tryz.results41, go_sem, m0, m1]) rfl ?_
      have hs1 := (og3.set_ (i := k * 2) (by rw [len_rvs, HNN.out]; omega) (.string r.wiring)).set_ (i := k * 2 + 1) (by rw [List.length_set, len_rvs, HNN.out]; omega) (.string r.notches)
      rw [rvs_set2 r (by rw [HNN.out]; exact hk)] at hs1
      have hs2 := (hs1.far (p := ⟨B0 + 1, 0, none⟩) (by simp; omega) (.slice (some ⟨g, 0, none⟩) N cp)).far (p := ⟨B0 + 1, 1, none⟩) (by simp; omega) (.string s)
      refine ⟨⟨rs.set k r, s⟩, some ⟨g, 0, none⟩, cp, ⟨by rw [List.length_set, HNN.out]; omega, set_all HSM.out.rot hrB, HSM.out.refl⟩, ?_, Reads.of_own hs2 hs2.lt, (fun ad h => by cases h; exact .inl rfl), (((((hr3.far (by simp; omega) _).far (by simp; omega) _).far (by simp; omega) _).far (by simp; omega) _).more (by omega)), ((((hmw2.drew.moved hm3).set_ (.inr (.inl rfl)) _).set_ (.inr (.inl rfl)) _).set_ (.inr (.inr (by simp; rw [HB0.out]; omega))) _).set_ (.inr (.inr (by simp; rw [HB0.out]; omega))) _⟩
      simp only [List.length_set, HNN.out]
  · have t0 : (v == 0) = false := by simp [e0]
    by_cases e1 : v = 1
    · have t1 : (v == 1) = true := by simp [e1]
      clear e0 e1
      go_wp2_with fail
      refine (l4Any_any R _ _ hr2 (by omega)).mono ?_
      rintro e w3 ⟨u, hu, rfl, hr3, hm3⟩
      have o3 := o2.grown hm3 (by simp; omega)
      have p3 := p2.grown hm3 (by simp; omega)
      have og3 := og2.grown hm3 (by simp; omega)
      have hmw3 := hmw2.moved hm3
      have hus : u.size ≤ 10 := by rw [permB_size (plugB_perm hu)]; omega
      clear o2 p2 og2 hm3 hr2 hu hown2 f0 f1 e0f e1f k0 k1 j0 j1 hmw2
      have f0 := o3.at_ (i := 0) rfl
      have f1 := o3.at_ (i := 1) rfl
      have g1 := o3.free 1 (by simp)
      have k0 := p3.at_ (i := 0) rfl
      have k1 := p3.at_ (i := 1) rfl
      have j0 := p3.free 0 (by simp)
      have j1 := p3.free 1 (by simp)
      go_wp2
      refine bodyPost_ret (v := .agg #[.slice (some ⟨g, 0, none⟩) N cp, .string u]) (by simp [results, Tryz.results41, go_sem, k0, k1]) rfl ?_
      have hs2 := ((og3.far (p := ⟨B0, 1, none⟩) (by simp; omega) (.string u)).far (p := ⟨B0 + 1, 0, none⟩) (by simp; omega) (.slice (some ⟨g, 0, none⟩) N cp)).far (p := ⟨B0 + 1, 1, none⟩) (by simp; omega) (.string u)
      refine ⟨⟨rs, u⟩, some ⟨g, 0, none⟩, cp, ⟨HSM.out.few, HSM.out.rot, by show u.size ≤ 1001; omega⟩, ?_, Reads.of_own hs2 hs2.lt, (fun ad h => by cases h; exact .inl rfl), ((((hr3.far (by simp; omega) _).far (by simp; omega) _).far (by simp; omega) _).more (by omega)), ((hmw3.set_ (.inr (.inr (by simp; rw [HB0.out]; omega))) _).set_ (.inr (.inr (by simp; rw [HB0.out]; omega))) _).set_ (.inr (.inr (by simp; rw [HB0.out]; omega))) _⟩
      simp only [HNN.out]
    · have t1 : (v == 1) = false := by simp [e1]
      by_cases e2 : v = 2
      · have t2 : (v == 2) = true := by simp [e2]
        clear e0 e1 e2
        go_wp2
        refine bodyPost_ret (v := .agg #[.slice none 0 0, .string s]) (by simp [results, Tryz.results41, go_sem, k0, k1]) rfl ?_
        refine ⟨⟨[], s⟩, none, 0, ⟨by simp, by simp, HSM.out.refl⟩, rfl, Reads.nil_, (fun ad h => by cases h), ((((hr2.far (by simp; omega) _).far (by simp; omega) _).far (by simp; omega) _).more (by omega)), ((hmw2.set_ (.inr (.inr (by simp; rw [HB0.out]; omega))) _).set_ (.inr (.inr (by simp; rw [HB0.out]; omega))) _).set_ (.inr (.inr (by simp; rw [HB0.out]; omega))) _⟩
      · have t2 : (v == 2) = false := by simp [e2]
        by_cases e3 : v = 3
        · have t3 : (v == 3) = true := by simp [e3]
          clear e0 e1 e2 e3
          obtain ⟨i0, hi0, hz0, hz1, hz2⟩ := info_parts inf_rotor
          have hcell : ∀ (j : Nat) u, (rvs rs)[j]? = some u → w2.cell? ((⟨g, 0, none⟩ : Addr).add j) = some u := fun j u hu => by
            rw [add_none, Nat.zero_add]; exact og2.at_ hu
          have hone : ∀ u ∈ rvs rs, u.oneCell' = true := by
            intro u hu
            obtain ⟨j, hj, rfl⟩ := List.getElem_of_mem hu
            have h1 := rvs_get rs j (by rw [len_rvs] at hj; exact hj)
            rw [List.getElem?_eq_getElem hj] at h1
            injection h1 with h1
            rw [h1]; split <;> rfl
          have HC := Lib.hid hcell
          have HO := Lib.hid hone
          clear hcell hone
          have hll : Hid ((rvs rs).length = N * 2) := by show _ = _; rw [len_rvs, HNN.out]; omega
          have lto := o2.lt
          have ltp := p2.lt
          have hbase : base ≤ w2.heap.size := by have := (World.ownsRow.lt hown2 g rfl).1; omega
          go_wp2_with (at_builtin; refine wpList_append_lies _ (by rfl) _ _ _ (by rfl) base 67 i0 _ 2 32 Tryz.underlying23 hi0 hz0 hz1 hz2 rfl (by omega) _ N (rvs rs) (by rfl) hown2 ⟨g, 0, none⟩ N cp (rvs rs) (by rfl) hll.out HC.out HO.out (by omega) (by unfold maxLen; omega) (by omega) hbase w2.heap.size rfl ?_; intro gg cap w4 q4 hg4 hat4 lt4; have o4 := o2.grown hg4 (by simp [Value.ownBlock]; omega); have p4 := p2.grown hg4 (by simp [Value.ownBlock]; omega); have x0 := o4.at_ (i := 0) rfl; have x1 := o4.at_ (i := 1) rfl; have y0 := o4.free 0 (by simp); have x2 := p4.at_ (i := 0) rfl; have x3 := p4.at_ (i := 1) rfl; have y2 := p4.free 0 (by simp); have y3 := p4.free 1 (by simp))
          refine bodyPost_ret (v := .agg #[.slice (some ⟨gg, 0, none⟩) (N + N) cap, .string s]) (by simp [results, Tryz.results41, go_sem, x2, x3]) rfl ?_
          have hggne : gg ≠ B0 ∧ gg ≠ B0 + 1 ∧ R < gg := by
            rcases hat4 with h | h
            · simp [Value.ownBlock] at h; omega
            · have := hr2.lt; omega
          have hggb : gg = g ∨ w.heap.size ≤ gg := by
            rcases hat4 with h | h
            · simp [Value.ownBlock] at h; exact .inl h.symm
            · rw [HB0.out]; exact .inr (by omega)
          have oq := OwR.own q4
          have hs2 := ((oq.far (p := ⟨B0, 0, none⟩) (by simp; omega) (.slice (some ⟨gg, 0, none⟩) (N + N) cap)).far (p := ⟨B0 + 1, 0, none⟩) (by simp; omega) (.slice (some ⟨gg, 0, none⟩) (N + N) cap)).far (p := ⟨B0 + 1, 1, none⟩) (by simp; omega) (.string s)
          have hr4 : Rd w4 R (c + 1 + 1) := hr2.grown hg4 (fun i hi => by simp [Value.ownBlock] at hi; omega)
          have hm4 : Tu R g w w4 := hmw2.grown hg4 (fun i hi => by simp [Value.ownBlock] at hi; exact .inl hi.symm)
          refine ⟨⟨rs ++ rs, s⟩, some ⟨gg, 0, none⟩, cap, ⟨by simp [HNN.out]; omega, fun r hr => by simp at hr; exact HSM.out.rot r hr, HSM.out.refl⟩, ?_, ?_, (fun ad h => by cases h; exact hggb), ((((hr4.far (by simp; omega) _).far (by simp; omega) _).far (by simp; omega) _).more (by omega)), ((hm4.set_ (.inr (.inr (by simp; rw [HB0.out]; omega))) _).set_ (.inr (.inr (by simp; rw [HB0.out]; omega))) _).set_ (.inr (.inr (by simp; rw [HB0.out]; omega))) _⟩
          · simp only [List.length_append, HNN.out]
          · simp only [rvs_append]
            exact Reads.of_own hs2 hs2.lt
        · have t3 : (v == 3) = false := by simp [e3]
          clear e0 e1 e2 e3
          go_wp2
          refine bodyPost_ret (v := .agg #[.slice (some ⟨g, 0, none⟩) N cp, .string s]) (by simp [results, Tryz.results41, go_sem, k0, k1]) rfl ?_
          have hs2 := (og2.far (p := ⟨B0 + 1, 0, none⟩) (by simp; omega) (.slice (some ⟨g, 0, none⟩) N cp)).far (p := ⟨B0 + 1, 1, none⟩) (by simp; omega) (.string s)
          refine ⟨⟨rs, s⟩, some ⟨g, 0, none⟩, cp, HSM.out, ?_, Reads.of_own hs2 hs2.lt, (fun ad h => by cases h; exact .inl rfl), (((hr2.far (by simp; omega) _).far (by simp; omega) _).more (by omega)), (hmw2.set_ (.inr (.inr (by simp; rw [HB0.out]; omega))) _).set_ (.inr (.inr (by simp; rw [HB0.out]; omega))) _⟩
          simp only [HNN.out]
end Go.Proofs.YtjefcicenepcbaaGreat

/- Contracts of the functions that draw wheels with windows. -/
namespace Go.Proofs.YtjefcicenepcbaaGreat
open Go.RowKit

/-- Some wheels in the cell of block B, their rotors in a row of the call's own. -/
structure InCell (wx : World) (B B0 g cp : Nat) (x : Whl) : Prop where
  good : GoodW3 x
  cell : Own wx B [.slice (some ⟨g, 0, none⟩) x.rotors.length cp, .string x.refl]
  row : OwR wx (B0 + 1) 67 2 (.slice (some ⟨g, 0, none⟩) x.rotors.length cp) x.rotors.length (rvs x.rotors)
  ne : g ≠ B
theorem InCell.moved {wx wy : World} {R B B0 g cp : Nat} {x : Whl} (h : InCell wx B B0 g cp x) (hm : Moved R wx wy) (h1 : R < B0) (h2 : B0 < B) : InCell wy B B0 g cp x :=
  ⟨h.good, h.cell.grown hm (by simp; omega), OwR.moved h.row hm (by omega), h.ne⟩
theorem InCell.drewN {wx : World} {B B0 g cp : Nat} {x : Whl} (h : InCell wx B B0 g cp x) (n : Nat) : InCell (wx.drewN n) B B0 g cp x := ⟨h.good, h.cell.drewN n, h.row, h.ne⟩

/-- What the drawing of wheels and windows leaves. -/
def FitP (R : Nat) (c : Nat) (w : World) (e : Ending) (w' : World) : Prop :=
  ∃ (x : Whl) (u : ByteArray) (g cp : Nat), GoodW3 x ∧ Wd x.rotors.length u ∧ e = .returned (.tuple #[.agg #[.slice (some ⟨g, 0, none⟩) x.rotors.length cp, .string x.refl], .string u]) ∧ OwR w' w.heap.size 67 2 (.slice (some ⟨g, 0, none⟩) x.rotors.length cp) x.rotors.length (rvs x.rotors) ∧ w.heap.size < g ∧ Rd w' R c ∧ Moved R w w'

set_option maxRecDepth 100000 in
set_option maxHeartbeats 2000000 in
theorem l7Some_any (R : Nat) (c : Nat) (w : World) (h : Rd w R c) (hc : c ≤ 6000000) :
    Calls Tryz.prog 24 #[.pointer (some ⟨R, 0, none⟩)] w (FitP R (c + 300) w) := by
  have o0 := Own.new w [.slice none 0 0, .string ⟨#[]⟩] 25
  have hr0 := h.alloc (.cells #[.slice none 0 0, .string ⟨#[]⟩] 25)
  have hm0 := (Moved.refl R w).alloc (.cells #[.slice none 0 0, .string ⟨#[]⟩] 25)
  have hlt := h.lt
  go_enter Tryz.func24, Tryz.ntmps24
  go_wp2_with fail
  refine (pick_any R _ c _ hr0 (by omega) (by omega) (by omega)).mono ?_
  rintro e w1 ⟨v, rfl, hv0, hv1, _, hr1, hm1⟩
  obtain ⟨n0, rfl⟩ := Int.eq_ofNat_of_zero_le hv0
  have hn0 : n0 < 6 := by have := hv1 (by omega); omega
  have o1 := o0.grown hm1 (by simp; omega)
  have hmw1 := hm0.trans hm1
  have z1 : w.heap.size < w1.heap.size := o1.lt
  clear hv1 hv0 o0 hr0 hm0 hm1 h
  obtain ⟨n1, hn1⟩ : ∃ n1 : Nat, n1 = 1 + (n0 + 2) / 3 := ⟨_, rfl⟩
  have hso := l6Some_any R n1 _ _ hr1 (by omega) (by omega)
  rw [show ((n1 : Nat) : Int) = 1 + ((n0 : Int) + 2) / 3 by omega] at hso
  have b1 : 1 ≤ n1 := by omega
  have b3 : n1 ≤ 3 := by omega
  clear hn1
  go_wp2_with fail
  refine hso.mono ?_
  rintro e w2 ⟨x, v, hx, rfl, hown2, hr2, hm2⟩
  have hg3 := hx.three b1 b3
  clear hx hso
  obtain ⟨va, cp, rfl, -, -, hva⟩ := OwR.val hown2
  obtain ⟨g, rfl, hg, -⟩ : ∃ g, va = some ⟨g, 0, none⟩ ∧ w1.heap.size ≤ g ∧ Own w2 g (rvs x.rotors) := by
    rcases hva with h0 | h0
    · have := hg3.1; omega
    · exact h0
  clear hva
  have hgl := (World.ownsRow.lt hown2 g rfl).2
  have o2 := o1.grown hm2 (by simp; omega)
  have hmw2 := hmw1.trans hm2
  have p2 := Own.new w2 [.slice (some ⟨g, 0, none⟩) x.rotors.length cp, .string x.refl] 25
  have o2' := o2.alloc (.cells [.slice (some ⟨g, 0, none⟩) x.rotors.length cp, .string x.refl].toArray 25)
  have hr2' := hr2.alloc (.cells [.slice (some ⟨g, 0, none⟩) x.rotors.length cp, .string x.refl].toArray 25)
  have hm2' := hmw2.alloc (.cells [.slice (some ⟨g, 0, none⟩) x.rotors.length cp, .string x.refl].toArray 25)
  have hown2' := World.ownsRow.mono (World.ownsRow.alloc hown2 (.cells [.slice (some ⟨g, 0, none⟩) x.rotors.length cp, .string x.refl].toArray 25)) (base' := w.heap.size + 1) (by omega)
  go_wp2_with fail
  generalize (w2.alloc (.cells [.slice (some ⟨g, 0, none⟩) x.rotors.length cp, .string x.refl].toArray 25)) = W2 at *
  generalize hB1 : w2.heap.size = B1 at *
  generalize hB0 : w.heap.size = B0 at *
  have HB0 := Lib.hid hB0
  have hin : InCell W2 B1 B0 g cp x := ⟨hg3, p2, hown2', by omega⟩
  have hB01 : B0 < B1 := by omega
  have hgB0 : B0 < g := by omega
  clear o2 hr2 hmw2 hB1 hB0 hown2 hown2' o1 hr1 hmw1 hm2 z1 hg p2
  refine (pick_any R _ _ _ hr2' (by omega) (by omega) (by omega)).mono ?_
  rintro e w3 ⟨v, rfl, hv0, hv1, _, hr3, hm3⟩
  have o3 := o2'.grown hm3 (by simp; omega)
  have hin3 := hin.moved hm3 hlt hB01
  have hmw3 := hm2'.trans hm3
  clear hv1 hm3 hr2' hm2' hin o2'
  go_upto_if 16 with (fail)
  go_cut [] (fun wx => ∃ (x : Whl) (g cp : Nat), InCell wx B1 B0 g cp x ∧ B0 < g ∧ Own wx B0 [.slice none 0 0, .string ⟨#[]⟩] ∧ Rd wx R (c + 210) ∧ Moved R w wx)
  case first =>
    by_cases e0 : v = 0
    · have t0 : (v == 0) = true := by simp [e0]
      clear e0
      go_wp2_with fail
      refine (l6Any_any R _ _ hr3 (by omega)).mono ?_
      rintro e w4 ⟨x4, v4, hx4, rfl, hown4, hr4, hm4⟩
      obtain ⟨va, cp4, rfl, -, -, hva⟩ := OwR.val hown4
      obtain ⟨g4, rfl, hg4, -⟩ : ∃ g, va = some ⟨g, 0, none⟩ ∧ w3.heap.size ≤ g ∧ Own w4 g (rvs x4.rotors) := by
        rcases hva with h0 | h0
        · have := hx4.1; omega
        · exact h0
      clear hva
      have l3 := hin3.cell.lt
      have o4 := o3.grown hm4 (by simp; omega)
      have p4 := hin3.cell.grown hm4 (by simp; omega)
      have f0 := p4.at_ (i := 0) rfl
      have f1 := p4.at_ (i := 1) rfl
      have g0 := p4.free 0 (by simp)
      have g1 := p4.free 1 (by simp)
      go_wp2_with fail
      go_meet
      refine ⟨x4, g4, cp4, ⟨hx4, (p4.set_ (i := 0) (by simp) _).set_ (i := 1) (by simp) _, ?_, by omega⟩, by omega, (o4.far (by simp; omega) _).far (by simp; omega) _, ((hr4.far (by simp; omega) _).far (by simp; omega) _).more (by omega), ((hmw3.trans hm4).set_ (.inr (by simp; rw [HB0.out]; omega)) _).set_ (.inr (by simp; rw [HB0.out]; omega)) _⟩
      exact World.ownsRow.mono (OwR.off (OwR.off hown4 (by simp [Value.ownBlock]; omega) _) (by simp [Value.ownBlock]; omega) _) (by omega)
    · have t0 : (v == 0) = false := by simp [e0]
      clear e0
      go_wp2_with fail
      go_meet
      exact ⟨x, g, cp, hin3, by omega, o3, hr3.more (by omega), hmw3⟩
  case rest =>
    clear hin3 hr3 hmw3 o3 hg3 hgl
    obtain ⟨x, g, cp, hin, hgB, o1, hr, hm⟩ := hcut
    have hN1 := hin.good.1
    have hN3 := hin.good.2.1
    have f0 := hin.cell.at_ (i := 0) rfl
    go_wp2_with fail
    refine (l1Some_any R x.rotors.length _ _ hr (by omega) (by omega)).mono ?_
    rintro e w4 ⟨u, hu, rfl, hr4, hm4⟩
    have hin4 := hin.moved hm4 hlt hB01
    have o4 := o1.grown hm4 (by simp; omega)
    have hmw4 := hm.trans hm4
    have HU := Lib.hid hu
    clear hin o1 hr hm hm4 f0 hu
    go_wp2_with fail
    go_loopw [5, 6] (fun o i wr => ∃ (k : Nat) (u : ByteArray), k ≤ x.rotors.length ∧ i = .int .i64 k ∧ o = .string u ∧ Wd x.rotors.length u ∧ InCell wr B1 B0 g cp x ∧ Own wr B0 [.slice none 0 0, .string ⟨#[]⟩] ∧ Rd wr R (c + 220 + k) ∧ Moved R w wr) (fun _ i _ => x.rotors.length - (intOf i).toNat)
    case atStart => exact ⟨0, u, by omega, rfl, rfl, HU.out, hin4, o4, hr4.more (by omega), hmw4⟩
    case round =>
      clear hin4 o4 hr4 hmw4 HU
      obtain ⟨k, u, hk, rfl, rfl, hu, hin, o1, hr, hm⟩ := hrel
      have hus := hu.2
      have HU := Lib.hid hu
      have hu1 : u.size ≤ x.rotors.length := by omega
      have hu2 : x.rotors.length ≤ u.size := by omega
      have l1 := hin.cell.lt
      clear hu hus
      by_cases hlt2 : k < x.rotors.length
      · have f0 := hin.cell.at_ (i := 0) rfl
        have og := OwR.own hin.row
        have c1 := og.at_ (rvs_get1 hlt2)
        have hnw : Hid (Nt x.rotors[k].notches) := by
          have hb := hin.good.2.2.1 _ (List.getElem_mem hlt2)
          simp only [rotorB, Bool.and_eq_true, decide_eq_true_eq] at hb
          exact ⟨hb.1.1.2, hb.1.2, hb.2⟩
        have hn3 : x.rotors[k].notches.size ≤ 3 := hnw.out.1
        have q1 : (k : Int) < (x.rotors.length : Int) := by omega
        have q0 : (0 : Int) ≤ (k : Int) := by omega
        by_cases h0 : 0 < x.rotors[k].notches.size
        · have tn : decide ((0 : Int) < (x.rotors[k].notches.size : Int)) = true := decide_eq_true (by omega)
          go_wp2_with fail
          refine (pick_any R _ _ _ hr (by omega) (by omega) (by omega)).mono ?_
          rintro e w5 ⟨v, rfl, hv0, hv1, _, hr5, hm5⟩
          have hin5 := hin.moved hm5 hlt hB01
          have o5 := o1.grown hm5 (by simp; omega)
          have hmw5 := hm.trans hm5
          clear hv1 hin o1 hr hm hm5 f0 c1 og
          by_cases e0 : v = 0
          · have t0 : (v == 0) = true := by simp [e0]
            clear e0
            have f0 := hin5.cell.at_ (i := 0) rfl
            have og := OwR.own hin5.row
            have c1 := og.at_ (rvs_get1 hlt2)
            have s1 := sl_to u k (by omega)
            have s2 := sl_to x.rotors[k].notches 1 (by omega)
            rw [show (((1 : Nat)) : Int) = 1 from rfl] at s2
            have s3 := sl_next u k (by omega)
            have HW := Lib.hid (Wd.app (Wd.app (HU.out.ext 0 k (by omega)) (Wd.ext (n := x.rotors[k].notches.size) ⟨hnw.out.2.1, rfl⟩ 0 1 (by omega)) (by omega)) (HU.out.ext (k + 1) u.size (by omega)) (by omega))
            have z1 : (u.extract 0 k).size ≤ 3 := by simp only [ByteArray.size_extract]; omega
            have z2 : (x.rotors[k].notches.extract 0 1).size ≤ 3 := by simp only [ByteArray.size_extract]; omega
            have z3 : (u.extract (k + 1) u.size).size ≤ 3 := by simp only [ByteArray.size_extract]; omega
            generalize u.extract 0 k = a1 at *
            generalize x.rotors[k].notches.extract 0 1 = a2 at *
            generalize u.extract (k + 1) u.size = a3 at *
            have y2 : ¬ 9223372036854775807 < a1.size + a2.size := by omega
            have y3 : ¬ 9223372036854775807 < a1.size + a2.size + a3.size := by omega
            have hk1 : IntKind.i64.wrap ((k : Int) + 1) = (k : Int) + 1 := IntWalk.i64_in _ (by omega)
            have HK := Lib.hid hk1
            clear hk1
            go_wp2_with fail
            have hk1 := HK.out
            go_quiet (fail)
            clear hk1
            go_wp2
            go_roundw
            case rel =>
              refine ⟨k + 1, a1 ++ a2 ++ a3, by omega, by go_num, rfl, ?_, hin5.drewN _, o5.drewN _, (hr5.more (by omega)).keep fun _ _ => rfl, hmw5.drewN _⟩
              have := HW.out
              rw [show k - 0 + (1 - 0) + (u.size - (k + 1)) = x.rotors.length by omega] at this
              exact this
            case measure => simp [intOf]; omega
          · have t0 : (v == 0) = false := by simp [e0]
            clear e0
            go_wp2
            go_roundw
            case rel => exact ⟨k + 1, u, by omega, by go_num, rfl, HU.out, hin5, o5, hr5.more (by omega), hmw5⟩
            case measure => simp [intOf]; omega
        · have tn : decide ((0 : Int) < (x.rotors[k].notches.size : Int)) = false := decide_eq_false (by omega)
          go_wp2
          go_roundw
          case rel => exact ⟨k + 1, u, by omega, by go_num, rfl, HU.out, hin, o1, hr.more (by omega), hm⟩
          case measure => simp [intOf]; omega
      · have f0 := hin.cell.at_ (i := 0) rfl
        have f1 := hin.cell.at_ (i := 1) rfl
        have h0 := o1.at_ (i := 0) rfl
        have h1 := o1.at_ (i := 1) rfl
        have g0 := o1.free 0 (by simp)
        have g1 := o1.free 1 (by simp)
        have hne : ¬ B0 = B1 := by omega
        go_wp2
        refine bodyPost_ret (v := .tuple #[.agg #[.slice (some ⟨g, 0, none⟩) x.rotors.length cp, .string x.refl], .string u]) (by simp [results, Tryz.results24, go_sem, h0, h1]) rfl ?_
        refine ⟨x, u, g, cp, hin.good, HU.out, rfl, ?_, by rw [HB0.out]; omega, ((hr.far (by simp; omega) _).far (by simp; omega) _).more (by omega), (hm.set_ (.inr (by simp; rw [HB0.out]; omega)) _).set_ (.inr (by simp; rw [HB0.out]; omega)) _⟩
        exact World.ownsRow.mono (OwR.far (OwR.far hin.row (by simp) _) (by simp) _) (by rw [HB0.out]; omega)
end Go.Proofs.YtjefcicenepcbaaGreat

/- Contracts of the functions that draw wheels and windows that sometimes do not fit, from an input. -/
namespace Go.Proofs.YtjefcicenepcbaaGreat
open Go.RowKit

theorem IsRow.alloc_ {k : IntKind} {w : World} {a : Option Addr} {len cap : Nat} {zs : List Int} (h : IsRow k w a len cap zs) (o : Obj) : IsRow k (w.alloc o) a len cap zs := by
  rcases h with h | ⟨x, h1, h2, h3, h4, h5, h6⟩
  · exact .inl h
  · exact .inr ⟨x, h1, h2, h3, h4, fun i hi => by
      have := h5 i hi
      rw [World.cell?_alloc_lt w o _ (World.block_lt_of_cell? w _ this)]
      exact this, h6⟩
theorem sl_1 (s : ByteArray) (h : 1 ≤ s.size) (W : World) : (Instr.slice 9 (.string s) (some (.int .i64 1)) none none).run Tryz.prog W = .ok (.string (s.extract 1 s.size)) W := sl_from s 1 h W
theorem Reads.setOff {w : World} {B : Nat} {a : Option Addr} {xs : List Value} (h : Reads w B a xs) {p : Addr} (hp : ∀ ad, a = some ad → ad.block ≠ p.block) (v : Value) : Reads (w.setCell p v) B a xs := by
  rcases h with h | ⟨b, off, rfl, hb, hc⟩
  · exact .inl h
  · refine .inr ⟨b, off, rfl, hb, fun i hi => ?_⟩
    rw [← hc i hi]
    exact World.cell?_of_block (Below.heap_setCell w p v b (hp _ rfl))
/-- What the turning of wheels and windows into wrong ones leaves. -/
def FitW (R g : Nat) (c : Nat) (w : World) (e : Ending) (w' : World) : Prop :=
  ∃ (x : Whl) (u : ByteArray) (a : Option Addr) (cap : Nat), SmallW x ∧ u.size ≤ 300 ∧ e = .returned (.tuple #[.agg #[.slice a x.rotors.length cap, .string x.refl], .string u]) ∧ Reads w' w'.heap.size a (rvs x.rotors) ∧ (∀ ad, a = some ad → ad.block = g ∨ w.heap.size ≤ ad.block) ∧ Rd w' R c ∧ Tu R g w w'

set_option maxRecDepth 100000 in
set_option maxHeartbeats 2000000 in
theorem l7Bad_any (R g cp base : Nat) (x : Whl) (u : ByteArray) (c : Nat) (w : World) (h : Rd w R c) (hc : c ≤ 6000000) (hx : GoodW3 x) (hown : OwR w base 67 2 (.slice (some ⟨g, 0, none⟩) x.rotors.length cp) x.rotors.length (rvs x.rotors)) (hRg : R < g) (hu1 : 1 ≤ u.size) (hu : u.size ≤ 200) :
    Calls Tryz.prog 25 #[.pointer (some ⟨R, 0, none⟩), .agg #[.slice (some ⟨g, 0, none⟩) x.rotors.length cp, .string x.refl], .string u] w (FitW R g (c + 30) w) := by
  have hsm := Lib.hid hx.small
  have hgl := (World.ownsRow.lt hown g rfl).2
  have o0 := (Own.new w [.slice (some ⟨g, 0, none⟩) x.rotors.length cp, .string x.refl] 25).alloc (.cells #[.slice none 0 0, .string ⟨#[]⟩] 25)
  have p0 := Own.new (w.alloc (.cells #[.slice (some ⟨g, 0, none⟩) x.rotors.length cp, .string x.refl] 25)) [.slice none 0 0, .string ⟨#[]⟩] 25
  have hr0 := (h.alloc (.cells #[.slice (some ⟨g, 0, none⟩) x.rotors.length cp, .string x.refl] 25)).alloc (.cells #[.slice none 0 0, .string ⟨#[]⟩] 25)
  have hm0 := ((Tu.refl R g w).alloc (.cells #[.slice (some ⟨g, 0, none⟩) x.rotors.length cp, .string x.refl] 25)).alloc (.cells #[.slice none 0 0, .string ⟨#[]⟩] 25)
  have hown0 := World.ownsRow.alloc (World.ownsRow.alloc hown (.cells #[.slice (some ⟨g, 0, none⟩) x.rotors.length cp, .string x.refl] 25)) (.cells #[.slice none 0 0, .string ⟨#[]⟩] 25)
  rw [World.size_alloc] at p0
  have hlt := h.lt
  go_enter Tryz.func25, Tryz.ntmps25
  go_wp2_with fail
  refine (pick_any R _ c _ hr0 (by omega) (by omega) (by omega)).mono ?_
  rintro e w1 ⟨v, rfl, hv0, hv1, _, hr1, hm1⟩
  have o1 := o0.grown hm1 (by simp; omega)
  have p1 := p0.grown hm1 (by simp; omega)
  have hmw1 := hm0.moved hm1
  have hown1 := OwR.movedR hown0 hm1 (by simp [Value.ownBlock]; omega)
  clear hv1 o0 p0 hr0 hm0 hm1 h hown0 hown
  generalize hB0 : w.heap.size = B0 at *
  have HB0 := Lib.hid hB0
  clear hB0
  have f0 := o1.at_ (i := 0) rfl
  have f1 := o1.at_ (i := 1) rfl
  have k0 := p1.at_ (i := 0) rfl
  have k1 := p1.at_ (i := 1) rfl
  have j0 := p1.free 0 (by simp)
  have j1 := p1.free 1 (by simp)
  have og1 := OwR.own hown1
  by_cases e0 : v = 0
  · have t0 : (v == 0) = true := by simp [e0]
    clear e0
    go_wp2_with fail
    refine (l6Bad_any R g cp base x _ _ hr1 (by omega) hx hown1 hRg).mono ?_
    rintro e w2 ⟨x2, a2, cap2, hx2, rfl, hrd2, hbl2, hr2, hm2⟩
    have l1 := p1.lt
    have p2 := p1.tu hm2 (by omega) (by omega)
    have hmw2 := hmw1.trans hm2
    have HX := Lib.hid hx2
    clear k0 k1 j0 j1 f0 f1 o1 p1 hr1 hmw1 hown1 og1 hx2 hm2
    have k0 := p2.at_ (i := 0) rfl
    have k1 := p2.at_ (i := 1) rfl
    have j0 := p2.free 0 (by simp)
    have j1 := p2.free 1 (by simp)
    go_wp2
    refine bodyPost_ret (v := .tuple #[.agg #[.slice a2 x2.rotors.length cap2, .string x2.refl], .string u]) (by simp [results, Tryz.results25, go_sem, k0, k1]) rfl ?_
    refine ⟨x2, u, a2, cap2, HX.out, by omega, rfl, ?_, ?_, (((hr2.far (by simp; omega) _).far (by simp; omega) _).more (by omega)), (hmw2.set_ (.inr (.inr (by simp; rw [HB0.out]; omega))) _).set_ (.inr (.inr (by simp; rw [HB0.out]; omega))) _⟩
    · refine Reads.more (B := w2.heap.size) ((Reads.setOff hrd2 (p := ⟨B0 + 1, 0, none⟩) (fun ad h => ?_) _).setOff (p := ⟨B0 + 1, 1, none⟩) (fun ad h => ?_) _) (by simp [World.setCell])
      · rcases hbl2 ad h with h | h
        · simp; omega
        · simp; omega
      · rcases hbl2 ad h with h | h
        · simp; omega
        · simp; omega
    · intro ad h
      rcases hbl2 ad h with h | h
      · exact .inl h
      · exact .inr (by rw [HB0.out]; omega)
  · have t0 : (v == 0) = false := by simp [e0]
    by_cases e1 : v = 1
    · have t1 : (v == 1) = true := by simp [e1]
      clear e0 e1
      go_wp2
      refine bodyPost_ret (v := .tuple #[.agg #[.slice (some ⟨g, 0, none⟩) x.rotors.length cp, .string x.refl], .string (u ++ ⟨#[97]⟩)]) (by simp [results, Tryz.results25, go_sem, k0, k1]) rfl ?_
      have hs2 := (og1.far (p := ⟨B0 + 1, 0, none⟩) (by simp; omega) (.slice (some ⟨g, 0, none⟩) x.rotors.length cp)).far (p := ⟨B0 + 1, 1, none⟩) (by simp; omega) (.string x.refl)
      refine ⟨x, u ++ ⟨#[97]⟩, some ⟨g, 0, none⟩, cp, hsm.out, ?_, rfl, Reads.of_own hs2 hs2.lt, (fun ad h => by cases h; exact .inl rfl), (((hr1.far (by simp; omega) _).far (by simp; omega) _).more (by omega)), (hmw1.set_ (.inr (.inr (by simp; rw [HB0.out]; omega))) _).set_ (.inr (.inr (by simp; rw [HB0.out]; omega))) _⟩
      rw [ByteArray.size_append]; have : (⟨#[97]⟩ : ByteArray).size = 1 := rfl; omega
    · have t1 : (v == 1) = false := by simp [e1]
      by_cases e2 : v = 2
      · have t2 : (v == 2) = true := by simp [e2]
        clear e0 e1 e2
        have s1 := sl_1 u hu1
        have z1 : (u.extract 1 u.size).size ≤ 200 := by simp only [ByteArray.size_extract]; omega
        generalize u.extract 1 u.size = ux at *
        have y1 : ¬ 9223372036854775807 < ux.size + 1 := by omega
        have hne : ¬ B0 = B0 + 1 := by omega
        go_wp2_with fail
        go_region_held3 (fun w' => w'.cell? ⟨B0, 0, none⟩ = some (.slice (some ⟨g, 0, none⟩) x.rotors.length cp) ∧ w'.cell? ⟨B0, 1, none⟩ = some (.string x.refl)) (go_keep) (fail)
        all_goals
          go_wp2
          refine bodyPost_ret (v := .tuple #[.agg #[.slice (some ⟨g, 0, none⟩) x.rotors.length cp, .string x.refl], .string (ux ++ ⟨#[107]⟩)]) (by simp [results, Tryz.results25, go_sem, k0, k1]) rfl ?_
          have hs2 := (og1.drew.far (p := ⟨B0 + 1, 0, none⟩) (by simp; omega) (.slice (some ⟨g, 0, none⟩) x.rotors.length cp)).far (p := ⟨B0 + 1, 1, none⟩) (by simp; omega) (.string x.refl)
          refine ⟨x, ux ++ ⟨#[107]⟩, some ⟨g, 0, none⟩, cp, hsm.out, ?_, rfl, Reads.of_own hs2 hs2.lt, (fun ad h => by cases h; exact .inl rfl), (((hr1.drew.far (by simp; omega) _).far (by simp; omega) _).more (by omega)), (hmw1.drew.set_ (.inr (.inr (by simp; rw [HB0.out]; omega))) _).set_ (.inr (.inr (by simp; rw [HB0.out]; omega))) _⟩
          rw [ByteArray.size_append]; have : (⟨#[107]⟩ : ByteArray).size = 1 := rfl; omega
      · have t2 : (v == 2) = false := by simp [e2]
        clear e0 e1 e2
        go_wp2
        refine bodyPost_ret (v := .tuple #[.agg #[.slice (some ⟨g, 0, none⟩) x.rotors.length cp, .string x.refl], .string u]) (by simp [results, Tryz.results25, go_sem, k0, k1]) rfl ?_
        have hs2 := (og1.far (p := ⟨B0 + 1, 0, none⟩) (by simp; omega) (.slice (some ⟨g, 0, none⟩) x.rotors.length cp)).far (p := ⟨B0 + 1, 1, none⟩) (by simp; omega) (.string x.refl)
        exact ⟨x, u, some ⟨g, 0, none⟩, cp, hsm.out, by omega, rfl, Reads.of_own hs2 hs2.lt, (fun ad h => by cases h; exact .inl rfl), (((hr1.far (by simp; omega) _).far (by simp; omega) _).more (by omega)), (hmw1.set_ (.inr (.inr (by simp; rw [HB0.out]; omega))) _).set_ (.inr (.inr (by simp; rw [HB0.out]; omega))) _⟩

theorem FitB.step {x : Whl} {v : ByteArray} (h : FitB x v) : FitB x (stepW x v) := ⟨h.one, h.three, h.rot, h.refl, by rw [size_stepW]; exact h.size, word_stepW h.word⟩
theorem FitB.stepN {x : Whl} : ∀ (n : Nat) {v : ByteArray}, FitB x v → FitB x (stepN x n v)
  | 0, _, h => h
  | n + 1, _, h => FitB.stepN n h.step
theorem GoodW3.fit {x : Whl} {u : ByteArray} (h : GoodW3 x) (hu : Wd x.rotors.length u) : FitB x u := ⟨h.1, h.2.1, h.2.2.1, h.2.2.2, hu.2, hu.1⟩
theorem l7Walk_any (a : Option Addr) (n c : Nat) (x : Whl) (v : ByteArray) (N : Nat) (w : World) (h : WhlAt w w.heap.size a n x) (hf : FitB x v) (hN : N ≤ 1000000) :
    Calls Tryz.prog 29 #[.agg #[.slice a n c, .string x.refl], .string v, .int .i64 (N : Int)] w fun e w' => e = .returned (.string (stepN x N v)) ∧ Below w.heap.size w w' := by
  have o0 := Own.new w [.slice a n c, .string x.refl] 25
  have hb0 := (Below.refl w.heap.size w).alloc (Nat.le_refl _) (.cells [.slice a n c, .string x.refl].toArray 25)
  go_enter Tryz.func29, Tryz.ntmps29
  go_wp2_with fail
  go_loopw [1, 2] (fun s i wr => ∃ j m : Nat, j + m = N ∧ i = .int .i64 j ∧ s = .string (stepN x m v) ∧ Own wr w.heap.size [.slice a n c, .string x.refl] ∧ Below w.heap.size w wr) (fun _ i _ => (intOf i).toNat)
  case atStart => exact ⟨N, 0, rfl, rfl, rfl, o0, hb0⟩
  case round =>
    clear o0 hb0
    obtain ⟨j, m, hjm, rfl, rfl, o1, hb⟩ := hrel
    have HJ := Lib.hid hjm
    have hj : j ≤ 1000000 := by omega
    clear hjm
    have c0 := o1.at_ (i := 0) rfl
    have c1 := o1.at_ (i := 1) rfl
    by_cases hlt : 0 < j
    · go_wp2_with fail
      refine (l7Step_any a n c x (stepN x m v) _ ((h.below hb (Nat.le_refl _)).more hb.size) (hf.stepN m)).mono ?_
      rintro e w1 ⟨rfl, hb1⟩
      have o2 := o1.below hb1 o1.lt
      go_wp2
      go_roundw
      case rel =>
        have := HJ.out
        exact ⟨j - 1, m + 1, by omega, by congr 1; omega, by rw [stepN_succ], o2, bt hb hb1⟩
      case measure => simp [intOf]; omega
    · go_wp2
      go_ret
      have := HJ.out
      exact ⟨ret_str (by rw [show m = N by omega]), hb⟩
end Go.Proofs.YtjefcicenepcbaaGreat

/- A contract of the library, laid by the shelf's tools at this program (plain form). -/
namespace Go.Proofs
open Go.Shelf
def Tryz.lays190_ren : Go.Shelf.Ren := ⟨fun | 190 => 22 | 125 => 36 | 258 => 35 | 128 => 60 | 129 => 61 | 302 => 51 | 303 => 52 | 304 => 53 | 305 => 54 | 306 => 55 | 307 => 56 | 308 => 57 | 309 => 58 | 310 => 59 | 333 => 73 | 329 => 74 | 330 => 75 | 334 => 76 | 335 => 77 | 336 => 78 | 344 => 95 | n => n, fun | 31 => 34 | 9 => 9 | 3 => 3 | 46 => 60 | 0 => 0 | 51 => 84 | 53 => 86 | 4 => 4 | 183 => 77 | 182 => 76 | 131 => 31 | 5 => 5 | 218 => 95 | 222 => 99 | 228 => 109 | 229 => 38 | n => n, fun | n => n⟩
theorem Tryz.lays190 : Go.Proofs.Lays.n190 Tryz.prog Tryz.lays190_ren := {
  mixed := by kernel_rfl
  f125 := Tryz.func36.trans (congrArg some (by kernel_rfl))
  f128 := Tryz.func60.trans (congrArg some (by kernel_rfl))
  f129 := Tryz.func61.trans (congrArg some (by kernel_rfl))
  f190 := Tryz.func22.trans (congrArg some (by kernel_rfl))
  f258 := Tryz.func35.trans (congrArg some (by kernel_rfl))
  f302 := Tryz.func51.trans (congrArg some (by kernel_rfl))
  f303 := Tryz.func52.trans (congrArg some (by kernel_rfl))
  f304 := Tryz.func53.trans (congrArg some (by kernel_rfl))
  f305 := Tryz.func54.trans (congrArg some (by kernel_rfl))
  f306 := Tryz.func55.trans (congrArg some (by kernel_rfl))
  f307 := Tryz.func56.trans (congrArg some (by kernel_rfl))
  f308 := Tryz.func57.trans (congrArg some (by kernel_rfl))
  f309 := Tryz.func58.trans (congrArg some (by kernel_rfl))
  f310 := Tryz.func59.trans (congrArg some (by kernel_rfl))
  f329 := Tryz.func74.trans (congrArg some (by kernel_rfl))
  f330 := Tryz.func75.trans (congrArg some (by kernel_rfl))
  f333 := Tryz.func73.trans (congrArg some (by kernel_rfl))
  f334 := Tryz.func76.trans (congrArg some (by kernel_rfl))
  f335 := Tryz.func77.trans (congrArg some (by kernel_rfl))
  f336 := Tryz.func78.trans (congrArg some (by kernel_rfl))
  f344 := Tryz.func95.trans (congrArg some (by kernel_rfl))
  t0 := Tryz.underlying0
  a0 := Tryz.isAgg0
  z0 := Tryz.sizeOf0
  v0 := Tryz.zeroValue0
  t3 := Tryz.underlying3
  a3 := Tryz.isAgg3
  z3 := Tryz.sizeOf3
  v3 := Tryz.zeroValue3
  t4 := Tryz.underlying4
  a4 := Tryz.isAgg4
  z4 := Tryz.sizeOf4
  v4 := Tryz.zeroValue4
  t5 := Tryz.underlying5
  a5 := Tryz.isAgg5
  z5 := Tryz.sizeOf5
  v5 := Tryz.zeroValue5
  t9 := Tryz.underlying9
  a9 := Tryz.isAgg9
  z9 := Tryz.sizeOf9
  v9 := Tryz.zeroValue9
  t31 := Tryz.underlying34
  a31 := Tryz.isAgg34
  z31 := Tryz.sizeOf34
  v31 := Tryz.zeroValue34
  t46 := Tryz.underlying60
  a46 := Tryz.isAgg60
  z46 := Tryz.sizeOf60
  v46 := Tryz.zeroValue60
  t51 := Tryz.underlying84
  a51 := Tryz.isAgg84
  z51 := Tryz.sizeOf84
  v51 := Tryz.zeroValue84
  t53 := Tryz.underlying86
  a53 := Tryz.isAgg86
  z53 := Tryz.sizeOf86
  v53 := Tryz.zeroValue86
  t131 := Tryz.underlying31
  a131 := Tryz.isAgg31
  z131 := Tryz.sizeOf31
  v131 := Tryz.zeroValue31
  t182 := Tryz.underlying76
  a182 := Tryz.isAgg76
  z182 := Tryz.sizeOf76
  v182 := Tryz.zeroValue76
  t183 := Tryz.underlying77
  a183 := Tryz.isAgg77
  z183 := Tryz.sizeOf77
  v183 := Tryz.zeroValue77
  t218 := Tryz.underlying95
  a218 := Tryz.isAgg95
  z218 := Tryz.sizeOf95
  v218 := Tryz.zeroValue95
  t222 := Tryz.underlying99
  a222 := Tryz.isAgg99
  z222 := Tryz.sizeOf99
  v222 := Tryz.zeroValue99
  t228 := Tryz.underlying109
  a228 := Tryz.isAgg109
  z228 := Tryz.sizeOf109
  v228 := Tryz.zeroValue109
  t229 := Tryz.underlying38
  a229 := Tryz.isAgg38
  z229 := Tryz.sizeOf38
  v229 := Tryz.zeroValue38 }
open Go.Sort Go.RowKit in
theorem Tryz.slices_Sort_string (blk off cap : Nat) (ss : List (List UInt8)) (w : World) (hH : Holds encStr w blk off ss.toArray) (hblk : blk < w.heap.size) (hsz : ss.length < 4611686018427387904) :
    Calls Tryz.prog 22 #[.slice (some ⟨blk, off, none⟩) ss.length cap] w fun e w' =>
      e = .returned (.tuple #[]) ∧ ∃ n os, w' = grow (putRow encStr (Sort.ahead w n) blk off (ss.mergeSort fun x y => decide (x ≤ y)).toArray) os := Any.slices_Sort_string Tryz.lays190 blk off cap ss w hH hblk hsz
end Go.Proofs

/- slices.Sort on a slice of strings that the call owns. -/
namespace Go.Proofs.YtjefcicenepcbaaGreat
open Go.RowKit Go.Sort

/-- Some strings, sorted. -/
def sortS (ss : List ByteArray) : List ByteArray := ((ss.map L).mergeSort fun a b => decide (a ≤ b)).map S
theorem len_sortS (ss : List ByteArray) : (sortS ss).length = ss.length := by simp [sortS]
theorem sv_enc (ls : List (List UInt8)) : ls.map encStr = sv (ls.map S) := by
  simp only [sv, List.map_map]; rfl
theorem slicesSort_any (v : Value) (ss : List ByteArray) (base : Nat) (w : World) (h : OwR w base 9 1 v ss.length (sv ss)) (hl : ss.length ≤ 1048576) :
    Calls Tryz.prog 22 #[v] w fun e w' => e = .returned (.tuple #[]) ∧ OwR w' base 9 1 v ss.length (sv (sortS ss)) ∧ Below base w w' := by
  rcases h.2 with ⟨rfl, h0⟩ | ⟨g, cap, cur, rfl, hg, hh, hn, hm, hs, ht⟩
  · have hss : ss = [] := List.eq_nil_of_length_eq_zero h0
    subst hss
    refine (Any.slices_Sort_string_none Tryz.lays190 none 0 w).mono ?_
    rintro e w' ⟨rfl, rfl⟩
    exact ⟨rfl, by simpa [sortS] using h, Below.refl _ _⟩
  · obtain ⟨a, c, he, _, _, ho⟩ := OwR.val h
    have hlt : g < w.heap.size := by
      rcases Nat.lt_or_ge g w.heap.size with h1 | h1
      · exact h1
      · rw [Array.getElem?_eq_none h1] at hh; cases hh
    have hH : Holds encStr w g 0 ((ss.map L).toArray) := by
      intro j hj
      simp only [List.size_toArray, List.length_map] at hj
      refine ⟨?_, by simp [World.frozen?, hh]⟩
      rw [Nat.zero_add, World.ownsRow.cellAt h j (by omega), sv_at hj]
      rw [getElem!_pos _ j (by simpa using hj)]
      simp [encStr, L]
    have hc := Tryz.slices_Sort_string g 0 cap (ss.map L) w hH hlt (by rw [List.length_map]; omega)
    rw [List.length_map] at hc
    refine hc.mono ?_
    rintro e w' ⟨rfl, n, os, rfl⟩
    refine ⟨rfl, ?_, ?_⟩
    · have := ownsRow_sorted (w := w) (base := base) (n := n) (os := os) (ss := ss.map L) (ts := (ss.map L).mergeSort fun a b => decide (a ≤ b)) (by simp) hg hh (by rw [List.length_map]; exact hn) hm hs
      rw [List.length_map, sv_enc] at this
      exact this
    · exact (Below.refl base w).grown (grownBy_sorted _) (by omega) (fun k hk => by cases hk; exact hg)
end Go.Proofs.YtjefcicenepcbaaGreat

/- Contracts of both StepsBack. -/
namespace Go.Proofs.YtjefcicenepcbaaGreat
open Go.RowKit

theorem ten_le {n : Nat} (h : n ≤ 3) : 10 ^ n ≤ 1000 := Nat.pow_le_pow_right (n := 10) (by omega) h
theorem l7Size_any (n : Nat) (w : World) (hn : n ≤ 3) :
    Calls Tryz.prog 30 #[.int .i64 (n : Int)] w fun e w' => e = .returned (.int .i64 ((10 ^ n : Nat) : Int)) ∧ w = w' := by
  go_enter Tryz.func30, Tryz.ntmps30
  go_wp2
  go_loop [0, 3] (fun i o => ∃ j t : Nat, j ≤ n ∧ i = .int .i64 j ∧ o = .int .i64 t ∧ t = 10 ^ (n - j)) (fun i _ => (intOf i).toNat)
  case atStart => exact ⟨n, 1, Nat.le_refl _, rfl, rfl, by rw [Nat.sub_self]⟩
  case round =>
    obtain ⟨j, t, hj, rfl, rfl, ht⟩ := hrel
    have htl : t ≤ 1000 := by rw [ht]; exact ten_le (by omega)
    have HT := Lib.hid ht
    clear ht
    by_cases hlt : 0 < j
    · go_wp2
      go_round
      case rel =>
        refine ⟨j - 1, t * 10, by omega, ?_, by go_num, ?_⟩
        · congr 1; omega
        · rw [HT.out, show n - (j - 1) = (n - j) + 1 by omega, Nat.pow_succ]
      case measure => simp [intOf]; omega
    · go_wp2
      go_ret
      exact ⟨ret_int (by rw [HT.out, show n - j = n by omega]; simp), rfl⟩

theorem wd_cons (n : Nat) (l : List Nat) : wd (n :: l) = S [letr (n : Int)] ++ wd l := by unfold wd; rw [S_append]; simp
end Go.Proofs.YtjefcicenepcbaaGreat
