/- Several of my texts in one: DrawT, DrawU, DrawV, Turn, Asm, PermAt, DrawW, DrawX. -/
import Derived.Test.YtdmnkcmkpjmfaaaGreatM5
import Derived.Test.YtdmnkcmkpjmfaaaGreatM3
/- Contracts of the functions that draw rotors. -/
namespace Go.Proofs.YtdmnkcmkpjmfaaaGreat
open Go.RowKit

theorem asc_wd {l : List Nat} (hp : l.Pairwise (· < ·)) (hlt : ∀ a ∈ l, a < 10) : ascB (wd l) = true := by
  simp only [ascB, List.all_eq_true, List.mem_range, decide_eq_true_eq]
  intro i hi
  rw [size_wd] at hi
  have h1 : i < l.length := by omega
  have h2 : i + 1 < l.length := by omega
  have e : ∀ j (h : j < l.length), (L (wd l)).getD j 0 = letr (l[j] : Nat) := fun j h => by
    rw [L_wd]; simp [List.getD, h]
  rw [e i h1, e (i + 1) h2]
  have h3 := List.pairwise_iff_getElem.1 hp i (i + 1) h1 h2 (by omega)
  have h4 := hlt _ (List.getElem_mem h1)
  have h5 := hlt _ (List.getElem_mem h2)
  refine UInt8.lt_iff_toNat_lt.2 ?_
  rw [letr_toNat, letr_toNat]; omega
theorem rotorB_mk {a b : ByteArray} (h1 : permB a = true) (h2 : b.size ≤ 3) (h3 : wordB b = true) (h4 : ascB b = true) : rotorB ⟨a, b⟩ = true := by simp [rotorB, h1, h2, h3, h4]
/-- Notches. -/
def Nt (s : ByteArray) : Prop := s.size ≤ 3 ∧ wordB s = true ∧ ascB s = true
theorem Nt.of_one {s : ByteArray} (h : Wd 1 s) : Nt s := ⟨by rw [h.2]; omega, h.1, by simp [ascB, h.2]⟩
set_option maxHeartbeats 400000 in
theorem l5Notches_any (R : Nat) (c : Nat) (w : World) (h : Rd w R c) (hc : c ≤ 9000000) :
    Calls Tryz.prog 200 #[.pointer (some ⟨R, 0, none⟩), .int .i64 3] w (StrP R Nt (c + 6) w) := by
  go_enter Tryz.func200, Tryz.ntmps200
  go_wp2_with fail
  refine (pick_any R _ c w h (by omega) (by omega) (by omega)).mono ?_
  rintro e w1 ⟨v, rfl, hv0, hv1, _, hr, hm⟩
  obtain ⟨n, rfl⟩ := Int.eq_ofNat_of_zero_le hv0
  have hn : n ≤ 3 := by have := hv1 (by omega); omega
  clear hv1 hv0
  go_wp2_with fail
  refine (pick_any R _ _ _ hr (by omega) (by omega) (by omega)).mono ?_
  rintro e w2 ⟨v, rfl, hv0, hv1, _, hr2, hm2⟩
  obtain ⟨x0, rfl⟩ := Int.eq_ofNat_of_zero_le hv0
  have hx0 : x0 < 10 := by have := hv1 (by omega); omega
  have hm12 := hm.trans hm2
  clear hv1 hv0 hr hm hm2 h
  go_wp2_with fail
  go_loopw [5, 7] (fun o i wr => ∃ (x : Nat) (l : List Nat), x ≤ 100 ∧ i = .int .i64 x ∧ o = .string (wd l) ∧ l.length ≤ n ∧ l.Pairwise (· < ·) ∧ (∀ a ∈ l, a < 10 ∧ a < x) ∧ Rd wr R (c + 2 + l.length) ∧ Moved R w wr) (fun o _ _ => 3 - (match o with | .string t => t.size | _ => 0))
  case atStart => exact ⟨x0, [], by omega, rfl, rfl, by simp, List.Pairwise.nil, by simp, hr2, hm12⟩
  case round =>
    clear hr2 hm12
    obtain ⟨x, l, hx, rfl, rfl, hl, hp, ha, hr, hm⟩ := hrel
    have HP := Lib.hid hp
    have HA := Lib.hid ha
    clear hp ha
    have hsz : (wd l).size ≤ 3 := by rw [size_wd]; omega
    have HSZ := Lib.hid (size_wd l)
    by_cases hx10 : x < 10
    · have tx : decide ((x : Int) < 10) = true := by simp; omega
      by_cases hln : l.length < n
      · have tl : decide (((wd l).size : Int) < (n : Int)) = true := by rw [HSZ.out]; simp; omega
        have tl' : decide ((wd l).size < n) = true := by rw [HSZ.out]; simp; omega
        have hs1 : (S [letr (x : Int)]).size ≤ 1 := by rw [size_S]; simp
        go_wp2_with (go_at_call 95; ((with_reducible refine (l1Letter_any _ _).mono ?_); rintro e w3 ⟨rfl, hb3⟩))
        refine (pick_any R _ _ _ (hr.below hb3 hr.lt) (by omega) (by omega) (by omega)).mono ?_
        rintro e w4 ⟨v, rfl, hv0, hv1, _, hr4, hm4⟩
        obtain ⟨y, rfl⟩ := Int.eq_ofNat_of_zero_le hv0
        have hy : y < 4 := by have := hv1 (by omega); omega
        clear hv1 hv0
        go_wp2
        go_roundw
        case rel =>
          refine ⟨x + 1 + y, l ++ [x], by omega, by go_num, by rw [wd_snoc], by simp; omega, ?_, ?_, hr4.more (by simp; omega), (hm.below hb3).trans hm4⟩
          · rw [List.pairwise_append]
            exact ⟨HP.out, List.pairwise_singleton _ _, fun a h1 b h2 => by simp at h2; subst h2; exact (HA.out a h1).2⟩
          · intro a h1
            simp at h1
            rcases h1 with h1 | rfl
            · have := HA.out a h1; omega
            · omega
        case measure => have := HSZ.out; simp only [ByteArray.size_append, size_S, List.length_cons, List.length_nil]; omega
      · have tl : decide (((wd l).size : Int) < (n : Int)) = false := by rw [HSZ.out]; simp; omega
        have tl' : decide ((wd l).size < n) = false := by rw [HSZ.out]; simp; omega
        go_wp2
        go_ret
        exact ⟨wd l, ⟨by rw [HSZ.out]; omega, word_wd (by omega), asc_wd HP.out fun a h => (HA.out a h).1⟩, rfl, hr.more (by omega), hm⟩
    · have tx : decide ((x : Int) < 10) = false := by simp; omega
      go_wp2
      go_ret
      exact ⟨wd l, ⟨by rw [HSZ.out]; omega, word_wd (by omega), asc_wd HP.out fun a h => (HA.out a h).1⟩, rfl, hr.more (by omega), hm⟩

/-- What the drawing of a rotor leaves. -/
def RotP (R : Nat) (P : Rot → Prop) (c : Nat) (w : World) (e : Ending) (w' : World) : Prop :=
  ∃ r : Rot, P r ∧ e = .returned (.agg #[.string r.wiring, .string r.notches]) ∧ Rd w' R c ∧ Moved R w w'
theorem l5Some_any (R : Nat) (c : Nat) (w : World) (h : Rd w R c) (hc : c ≤ 9000000) :
    Calls Tryz.prog 195 #[.pointer (some ⟨R, 0, none⟩)] w (RotP R (fun r => rotorB r = true) (c + 11) w) := by
  have o0 := Own.new w [.string ⟨#[]⟩, .string ⟨#[]⟩] 159
  have hr0 := h.alloc (.cells #[.string ⟨#[]⟩, .string ⟨#[]⟩] 159)
  have hm0 := (Moved.refl R w).alloc (.cells #[.string ⟨#[]⟩, .string ⟨#[]⟩] 159)
  have hlt := h.lt
  go_enter Tryz.func195, Tryz.ntmps195
  go_wp2_with fail
  refine (l2Some_any R c _ hr0 (by omega)).mono ?_
  rintro e w1 ⟨s, hs, rfl, hr1, hm1⟩
  have o1 := o0.grown hm1 (by simp; omega)
  have hmw1 := hm0.trans hm1
  have HS := Lib.hid hs
  clear hs o0 hr0 hm0 hm1
  go_wp2_with fail
  refine (l1Some_any R 1 _ _ hr1 (by omega) (by omega)).mono ?_
  rintro e w2 ⟨t, ht, rfl, hr2, hm2⟩
  have o2 := o1.grown hm2 (by simp; omega)
  have hmw2 := hmw1.trans hm2
  have HT := Lib.hid (Nt.of_one ht)
  clear ht o1 hr1 hmw1 hm2
  have f0 := o2.at_ (i := 0) rfl
  have f1 := o2.at_ (i := 1) rfl
  have g0 := o2.free 0 (by simp)
  have g1 := o2.free 1 (by simp)
  go_wp2
  refine bodyPost_ret (v := .agg #[.string s, .string t]) (by simp [results, Tryz.results195, go_sem, f0, f1]) rfl ?_
  exact ⟨⟨s, t⟩, rotorB_mk HS.out HT.out.1 HT.out.2.1 HT.out.2.2, rfl, ((hr2.far (by simp; omega) _).far (by simp; omega) _).more (by omega), (hmw2.set_ (.inr (by simp)) _).set_ (.inr (by simp)) _⟩
end Go.Proofs.YtdmnkcmkpjmfaaaGreat

/- Contracts of the functions that draw any and wrong rotors. -/
namespace Go.Proofs.YtdmnkcmkpjmfaaaGreat
open Go.RowKit

theorem perm_simple : ∀ t ∈ ([⟨#[98, 97, 100, 99, 102, 101, 104, 103, 106, 105]⟩, ⟨#[99, 98, 101, 100, 103, 102, 105, 104, 97, 106]⟩, ⟨#[102, 103, 104, 105, 106, 97, 98, 99, 100, 101]⟩, ⟨#[97, 100, 99, 102, 101, 104, 103, 106, 105, 98]⟩] : List ByteArray), permB t = true := by
  intro t ht
  simp only [List.mem_cons, List.not_mem_nil, or_false] at ht
  rcases ht with rfl | rfl | rfl | rfl <;> decide +kernel
theorem perm_half : ∀ t ∈ ([⟨#[97, 98, 99, 100, 101]⟩, ⟨#[98, 97, 99, 100, 101]⟩, ⟨#[98, 99, 100, 101, 97]⟩, ⟨#[101, 100, 99, 98, 97]⟩] : List ByteArray), wordB t = true ∧ t.size = 5 ∧ permB (t ++ shW t 5) = true := by
  intro t ht
  simp only [List.mem_cons, List.not_mem_nil, or_false] at ht
  rcases ht with rfl | rfl | rfl | rfl <;> decide +kernel

set_option maxHeartbeats 1000000 in
theorem l5Any_any (R : Nat) (c : Nat) (w : World) (h : Rd w R c) (hc : c ≤ 8000000) :
    Calls Tryz.prog 196 #[.pointer (some ⟨R, 0, none⟩)] w (RotP R (fun r => rotorB r = true) (c + 20) w) := by
  have o0 := Own.new w [.string ⟨#[]⟩, .string ⟨#[]⟩] 159
  have hr0 := h.alloc (.cells #[.string ⟨#[]⟩, .string ⟨#[]⟩] 159)
  have hm0 := (Moved.refl R w).alloc (.cells #[.string ⟨#[]⟩, .string ⟨#[]⟩] 159)
  have hlt := h.lt
  go_enter Tryz.func196, Tryz.ntmps196
  go_wp2_with fail
  refine (l2Any_any R c _ hr0 (by omega)).mono ?_
  rintro e w1 ⟨s, hs, rfl, hr1, hm1⟩
  have o1 := o0.grown hm1 (by simp; omega)
  have hmw1 := hm0.trans hm1
  have HS := Lib.hid hs
  clear hs o0 hr0 hm0 hm1 h
  go_wp2_with fail
  refine (l5Notches_any R _ _ hr1 (by omega)).mono ?_
  rintro e w2 ⟨t, ht, rfl, hr2, hm2⟩
  have o2 := o1.grown hm2 (by simp; omega)
  have hmw2 := hmw1.trans hm2
  have HT := Lib.hid ht
  have l2 := o2.lt
  clear ht o1 hr1 hmw1 hm2
  have p2 := Own.new w2 [.string s, .string t] 159
  have o2' := o2.alloc (.cells [.string s, .string t].toArray 159)
  have hr2' := hr2.alloc (.cells [.string s, .string t].toArray 159)
  have hm2' := hmw2.alloc (.cells [.string s, .string t].toArray 159)
  go_wp2_with fail
  generalize (w2.alloc (.cells [.string s, .string t].toArray 159)) = W2 at *
  generalize hB1 : w2.heap.size = B1 at *
  generalize hB0 : w.heap.size = B0 at *
  have HB0 := Lib.hid hB0
  clear o2 hr2 hmw2 hB1 hB0
  refine (pick_any R _ _ _ hr2' (by omega) (by omega) (by omega)).mono ?_
  rintro e w3 ⟨v, rfl, hv0, hv1, _, hr3, hm3⟩
  have o3 := o2'.grown hm3 (by simp; omega)
  have p3 := p2.grown hm3 (by simp; omega)
  have hmw3 := hm2'.trans hm3
  clear hv1 o2' p2 hm3 hr2' hm2'
  by_cases e0 : v = 0
  · have t0 : (v == 0) = true := by simp [e0]
    have t1 : (v == 1) = false := by simp [e0]
    clear e0
    have hlt3 := hr3.lt
    go_wp2_with fail
    refine (of_any R _ _ _ [⟨#[98, 97, 100, 99, 102, 101, 104, 103, 106, 105]⟩, ⟨#[99, 98, 101, 100, 103, 102, 105, 104, 97, 106]⟩, ⟨#[102, 103, 104, 105, 106, 97, 98, 99, 100, 101]⟩, ⟨#[97, 100, 99, 102, 101, 104, 103, 106, 105, 98]⟩] _ _ rfl (Own.new _ _ _) (by simp) (by simp; omega) (hr3.alloc _) (by omega) (by simp)).mono ?_
    rintro e w4 ⟨u, hu, rfl, hr4, hm4⟩
    have HU := Lib.hid (perm_simple u hu)
    have o4 := (o3.alloc _).grown hm4 (by simp; omega)
    have p4 := (p3.alloc _).grown hm4 (by simp; omega)
    have hmw4 := (hmw3.alloc _).trans hm4
    clear hu o3 p3 hmw3 hr3 hm4
    have f0 := o4.at_ (i := 0) rfl
    have f1 := o4.at_ (i := 1) rfl
    have g0 := o4.free 0 (by simp)
    have g1 := o4.free 1 (by simp)
    have k0 := p4.at_ (i := 0) rfl
    have k1 := p4.at_ (i := 1) rfl
    have j0 := p4.free 0 (by simp)
    have hne : ¬ B0 = B1 := by omega
    go_wp2
    refine bodyPost_ret (v := .agg #[.string u, .string t]) (by simp [results, Tryz.results196, go_sem, f0, f1]) rfl ?_
    exact ⟨⟨u, t⟩, rotorB_mk HU.out HT.out.1 HT.out.2.1 HT.out.2.2, rfl, (((hr4.far (by simp; omega) _).far (by simp; omega) _).far (by simp; omega) _).more (by omega), ((hmw4.set_ (.inr (by simp; rw [HB0.out]; omega)) _).set_ (.inr (by simp; rw [HB0.out]; omega)) _).set_ (.inr (by simp; rw [HB0.out]; omega)) _⟩
  · have t0 : (v == 0) = false := by simp [e0]
    by_cases e1 : v = 1
    · have t1 : (v == 1) = true := by simp [e1]
      clear e0 e1
      have hlt3 := hr3.lt
      go_wp2_with fail
      refine (of_any R _ _ _ [⟨#[97, 98, 99, 100, 101]⟩, ⟨#[98, 97, 99, 100, 101]⟩, ⟨#[98, 99, 100, 101, 97]⟩, ⟨#[101, 100, 99, 98, 97]⟩] _ _ rfl (Own.new _ _ _) (by simp) (by simp; omega) (hr3.alloc _) (by omega) (by simp)).mono ?_
      rintro e w4 ⟨u, hu, rfl, hr4, hm4⟩
      have HU := Lib.hid (perm_half u hu).2.2
      have hw := (perm_half u hu).1
      have hz : u.size ≤ 5 := by rw [(perm_half u hu).2.1]; omega
      have hz2 : (shW u 5).size ≤ 5 := by rw [size_shW]; exact hz
      have o4 := (o3.alloc _).grown hm4 (by simp; omega)
      have p4 := (p3.alloc _).grown hm4 (by simp; omega)
      have hmw4 := (hmw3.alloc _).trans hm4
      clear hu o3 p3 hmw3 hr3 hm4
      go_wp2_with fail
      refine (specShiftWord_any u 5 _ hw (by omega) (by omega)).mono ?_
      rintro e w5 ⟨rfl, hb5⟩
      have o5 := o4.below hb5 o4.lt
      have p5 := p4.below hb5 p4.lt
      have hmw5 := hmw4.below hb5
      have hr5 := hr4.below hb5 hr4.lt
      clear o4 p4 hmw4 hr4 hb5
      have f0 := o5.at_ (i := 0) rfl
      have f1 := o5.at_ (i := 1) rfl
      have g0 := o5.free 0 (by simp)
      have g1 := o5.free 1 (by simp)
      have k0 := p5.at_ (i := 0) rfl
      have k1 := p5.at_ (i := 1) rfl
      have j0 := p5.free 0 (by simp)
      have hne : ¬ B0 = B1 := by omega
      go_wp2
      refine bodyPost_ret (v := .agg #[.string (u ++ shW u 5), .string t]) (by simp [results, Tryz.results196, go_sem, f0, f1]) rfl ?_
      exact ⟨⟨u ++ shW u 5, t⟩, rotorB_mk HU.out HT.out.1 HT.out.2.1 HT.out.2.2, rfl, (((hr5.far (by simp; omega) _).far (by simp; omega) _).far (by simp; omega) _).more (by omega), ((hmw5.set_ (.inr (by simp; rw [HB0.out]; omega)) _).set_ (.inr (by simp; rw [HB0.out]; omega)) _).set_ (.inr (by simp; rw [HB0.out]; omega)) _⟩
    · have t1 : (v == 1) = false := by simp [e1]
      clear e0 e1
      have f0 := o3.at_ (i := 0) rfl
      have f1 := o3.at_ (i := 1) rfl
      have g0 := o3.free 0 (by simp)
      have g1 := o3.free 1 (by simp)
      have k0 := p3.at_ (i := 0) rfl
      have k1 := p3.at_ (i := 1) rfl
      have hne : ¬ B0 = B1 := by omega
      go_wp2
      refine bodyPost_ret (v := .agg #[.string s, .string t]) (by simp [results, Tryz.results196, go_sem, f0, f1]) rfl ?_
      exact ⟨⟨s, t⟩, rotorB_mk HS.out HT.out.1 HT.out.2.1 HT.out.2.2, rfl, ((hr3.far (by simp; omega) _).far (by simp; omega) _).more (by omega), (hmw3.set_ (.inr (by simp; rw [HB0.out]; omega)) _).set_ (.inr (by simp; rw [HB0.out]; omega)) _⟩
end Go.Proofs.YtdmnkcmkpjmfaaaGreat

/- Contracts of the functions that draw wrong rotors, and wheels. -/
namespace Go.Proofs.YtdmnkcmkpjmfaaaGreat
open Go.RowKit

/-- A rotor whose strings have at most n bytes. -/
def RSz (n : Nat) (r : Rot) : Prop := r.wiring.size ≤ n ∧ r.notches.size ≤ n
set_option maxHeartbeats 1000000 in
theorem l5Bad_any (R : Nat) (x : Rot) (c : Nat) (w : World) (h : Rd w R c) (hc : c ≤ 8000000) (h1 : 1 ≤ x.wiring.size) (h2 : x.wiring.size ≤ 1000) (h3 : x.notches.size ≤ 1000) :
    Calls Tryz.prog 180 #[.pointer (some ⟨R, 0, none⟩), .agg #[.string x.wiring, .string x.notches]] w (RotP R (RSz 1001) (c + 5) w) := by
  have o0 := (Own.new w [.string x.wiring, .string x.notches] 159).alloc (.cells #[.string ⟨#[]⟩, .string ⟨#[]⟩] 159)
  have p0 := Own.new (w.alloc (.cells #[.string x.wiring, .string x.notches] 159)) [.string ⟨#[]⟩, .string ⟨#[]⟩] 159
  have hr0 := (h.alloc (.cells #[.string x.wiring, .string x.notches] 159)).alloc (.cells #[.string ⟨#[]⟩, .string ⟨#[]⟩] 159)
  have hm0 := ((Moved.refl R w).alloc (.cells #[.string x.wiring, .string x.notches] 159)).alloc (.cells #[.string ⟨#[]⟩, .string ⟨#[]⟩] 159)
  rw [World.size_alloc] at p0
  have hlt := h.lt
  go_enter Tryz.func180, Tryz.ntmps180
  go_wp2_with fail
  refine (pick_any R _ c _ hr0 (by omega) (by omega) (by omega)).mono ?_
  rintro e w1 ⟨v, rfl, hv0, hv1, _, hr1, hm1⟩
  have o1 := o0.grown hm1 (by simp; omega)
  have p1 := p0.grown hm1 (by simp; omega)
  have hmw1 := hm0.trans hm1
  clear hv1 o0 p0 hr0 hm0 hm1 h
  generalize hB0 : w.heap.size = B0 at *
  have HB0 := Lib.hid hB0
  clear hB0
  by_cases e0 : v = 0
  · have t0 : (v == 0) = true := by simp [e0]
    clear e0
    have hlt3 := hr1.lt
    go_wp2_with fail
    refine (of_any R _ _ _ [⟨#[98, 97]⟩, ⟨#[97, 97]⟩, ⟨#[107]⟩, ⟨#[97, 98, 99, 100]⟩, ⟨#[45]⟩] _ _ rfl (Own.new _ _ _) (by simp) (by simp; omega) (hr1.alloc _) (by omega) (by simp)).mono ?_
    rintro e w2 ⟨u, hu, rfl, hr2, hm2⟩
    have hus : u.size ≤ 4 := by
      simp only [List.mem_cons, List.not_mem_nil, or_false] at hu
      rcases hu with rfl | rfl | rfl | rfl | rfl <;> decide
    have o2 := (o1.alloc _).grown hm2 (by simp; omega)
    have p2 := (p1.alloc _).grown hm2 (by simp; omega)
    have hmw2 := (hmw1.alloc _).trans hm2
    clear hu o1 p1 hmw1 hr1 hm2
    have f0 := o2.at_ (i := 0) rfl
    have f1 := o2.at_ (i := 1) rfl
    have g1 := o2.free 1 (by simp)
    have o3 := o2.set_ (i := 1) (by simp) (.string u)
    have p3 := p2.far (p := ⟨B0, 1, none⟩) (by simp) (.string u)
    have hr3 := hr2.far (p := ⟨B0, 1, none⟩) (by simp; omega) (.string u)
    have hm3 := hmw2.set_ (p := ⟨B0, 1, none⟩) (.inr (by simp; rw [HB0.out]; omega)) (.string u)
    go_wp2_with fail
    clear f0 f1 g1 o2 p2 hr2 hmw2
    generalize w2.setCell ⟨B0, 1, none⟩ (.string u) = w3 at *
    refine (l2Bad_any R x.wiring _ _ hr3 (by omega) h1 h2).mono ?_
    rintro e w4 ⟨s, hs, rfl, hr4, hm4⟩
    have o4 := o3.grown hm4 (by simp; omega)
    have p4 := p3.grown hm4 (by simp; omega)
    have hmw4 := hm3.trans hm4
    clear o3 p3 hr3 hm3 hm4
    have f0 := o4.at_ (i := 0) rfl
    have f1 := o4.at_ (i := 1) rfl
    have g0 := o4.free 0 (by simp)
    have k0 := p4.at_ (i := 0) rfl
    have k1 := p4.at_ (i := 1) rfl
    have j0 := p4.free 0 (by simp)
    have j1 := p4.free 1 (by simp)
    go_wp2
    refine bodyPost_ret (v := .agg #[.string s, .string u]) (by simp [results, Tryz.results180, go_sem, k0, k1]) rfl ?_
    exact ⟨⟨s, u⟩, ⟨hs, by show u.size ≤ 1001; omega⟩, rfl, (((hr4.far (by simp; omega) _).far (by simp; omega) _).far (by simp; omega) _).more (by omega), ((hmw4.set_ (.inr (by simp; rw [HB0.out]; omega)) _).set_ (.inr (by simp; rw [HB0.out]; omega)) _).set_ (.inr (by simp; rw [HB0.out]; omega)) _⟩
  · have t0 : (v == 0) = false := by simp [e0]
    clear e0
    have f0 := o1.at_ (i := 0) rfl
    go_wp2_with fail
    refine (l2Bad_any R x.wiring _ _ hr1 (by omega) h1 h2).mono ?_
    rintro e w4 ⟨s, hs, rfl, hr4, hm4⟩
    have o4 := o1.grown hm4 (by simp; omega)
    have p4 := p1.grown hm4 (by simp; omega)
    have hmw4 := hmw1.trans hm4
    clear o1 p1 hr1 hmw1 hm4 f0
    have f0 := o4.at_ (i := 0) rfl
    have f1 := o4.at_ (i := 1) rfl
    have g0 := o4.free 0 (by simp)
    have k0 := p4.at_ (i := 0) rfl
    have k1 := p4.at_ (i := 1) rfl
    have j0 := p4.free 0 (by simp)
    have j1 := p4.free 1 (by simp)
    go_wp2
    refine bodyPost_ret (v := .agg #[.string s, .string x.notches]) (by simp [results, Tryz.results180, go_sem, k0, k1]) rfl ?_
    exact ⟨⟨s, x.notches⟩, ⟨hs, by show x.notches.size ≤ 1001; omega⟩, rfl, (((hr4.far (by simp; omega) _).far (by simp; omega) _).far (by simp; omega) _).more (by omega), ((hmw4.set_ (.inr (by simp; rw [HB0.out]; omega)) _).set_ (.inr (by simp; rw [HB0.out]; omega)) _).set_ (.inr (by simp; rw [HB0.out]; omega)) _⟩

section
variable {P : Program} {ops : Array Oper} {o : Oper} {a : Act} {w0 : World} {K : Act → World → Prop} {Q : Exit → Act → World → Prop} {E : Prop}
/-- 'x = append(x, u)' at a step of a region that draws. -/
theorem st_push (t e : TypeId) {s x : Operand} {z : Value} {sz bytes : Nat} (hinfo : (P.info? e).map (fun i => (i.zero, i.size, i.bytes)) = some (some z, sz, bytes)) (ht : P.underlying t = some (.slice e)) (hzs : z.cells.size = sz) (hsz : 0 < sz)
    {base n : Nat} {v : Value} {xs us : List Value} (hgd : o.guard = none) (ho : o.op = .call { callee := .builtin .append, args := #[s, x], argTypes := #[t, t] }) (hown : OwR w0 base e sz v n xs) (hb : base ≤ w0.heap.size) (hus : us.length = sz) (h1 : ∀ u ∈ us, u.oneCell' = true) (hn : n ≤ 1048576) (hby : bytes ≤ 1000)
    (hs : a.eval s = v) (hx : a.eval x = .slice (some ⟨w0.heap.size, 0, none⟩) 1 1)
    (h : ∀ g cap w', OwR w' base e sz (.slice (some ⟨g, 0, none⟩) (n + 1) cap) (n + 1) (xs ++ us) → Below base w0 w' → w0.heap.size < w'.heap.size → K (a.put o.dst (.slice (some ⟨g, 0, none⟩) (n + 1) cap)) w') :
    if Region.wanted o (yielded ops a.tmps) = true then Oper.wp P o a (w0.alloc (.cells us.toArray e)) K Q else E := by
  obtain ⟨i0, hi0, hz0, hz1, hz2⟩ := info_parts hinfo
  refine step_append_lies _ hgd s x t ho base e i0 z sz bytes ht hi0 hz0 hz1 hz2 hzs hsz v n xs hs (World.ownsRow.alloc hown _) ⟨w0.heap.size, 0, none⟩ 1 1 us hx (by omega) ?_ h1 (by omega) (by unfold maxLen; omega) ?_ (by simp; omega) (w0.heap.size + 1) (by simp) ?_
  · intro j u hu
    rw [add_none, Nat.zero_add, World.cell?_alloc_mark]; simpa using hu
  · have : (n + 1) * bytes ≤ (1048576 + 1) * 1000 := Nat.mul_le_mul (by omega) hby
    omega
  · intro g cap w' ho hg hat hlt
    refine h g cap w' ho ?_ ?_
    · refine ((Below.refl base w0).alloc hb _).grown hg (by simp; omega) (fun k hk => ?_)
      exact (World.ownsRow.lt hown k hk).1
    · have := hg.size; simp at this; omega
end
end Go.Proofs.YtdmnkcmkpjmfaaaGreat

/- Contracts of the program's functions that turn rotors. -/
namespace Go.Proofs.YtdmnkcmkpjmfaaaGreat
open Go.RowKit

theorem turned_any (r : Rot) (o : Nat) (w : World) (hr : SzR r) (hp : permB r.wiring = true) (ho : o < 10) :
    Calls Tryz.prog 142 #[.agg #[.string r.wiring, .string r.notches], .int .i64 (o : Int)] w fun e w' => e = .returned (.agg (pv (turnP (dg r.wiring) o)).toArray) ∧ Below w.heap.size w w' := by
  have hP := permB_isP hp
  have hlen := hP.len
  have hlen' : (pv (dg r.wiring)).length = 10 := by rw [length_pv]; exact hlen
  have h1 := hr.1
  have ob : Own ((w.alloc (.cells (rv r).toArray 159)).alloc (.cells #[.int .u8 0, .int .u8 0, .int .u8 0, .int .u8 0, .int .u8 0, .int .u8 0, .int .u8 0, .int .u8 0, .int .u8 0, .int .u8 0] 102)) (w.heap.size + 1) z10 := by
    have := Own.new (w.alloc (.cells (rv r).toArray 159)) z10 102
    rw [World.size_alloc] at this; exact this
  have hb0 := ((Below.refl w.heap.size w).alloc (Nat.le_refl _) (.cells (rv r).toArray 159)).alloc (by simp) (.cells #[.int .u8 0, .int .u8 0, .int .u8 0, .int .u8 0, .int .u8 0, .int .u8 0, .int .u8 0, .int .u8 0, .int .u8 0, .int .u8 0] 102)
  go_enter Tryz.func142, Tryz.ntmps142
  go_wp2_with fail
  refine (permOf_any _ _ h1).mono ?_
  rintro e w1 ⟨rfl, hb1⟩
  rw [hp, permC_yes]
  have hz1 := hb1.size
  simp only [World.size_alloc] at hz1
  have o1 : Own (w1.alloc (.cells #[.int .u8 0, .int .u8 0, .int .u8 0, .int .u8 0, .int .u8 0, .int .u8 0, .int .u8 0, .int .u8 0, .int .u8 0, .int .u8 0] 102)) w1.heap.size z10 := Own.new w1 z10 102
  have ob1 := (ob.below hb1 ob.lt).alloc (.cells #[.int .u8 0, .int .u8 0, .int .u8 0, .int .u8 0, .int .u8 0, .int .u8 0, .int .u8 0, .int .u8 0, .int .u8 0, .int .u8 0] 102)
  have hbw := (bt hb0 hb1).alloc (by omega) (.cells #[.int .u8 0, .int .u8 0, .int .u8 0, .int .u8 0, .int .u8 0, .int .u8 0, .int .u8 0, .int .u8 0, .int .u8 0, .int .u8 0] 102)
  clear ob hb0 hb1
  go_wp2_with ((with_reducible refine wl_store 102 0 o1 (size_pv hlen) (pv_one _) (by rw [hlen', len_z10]; omega) ?_ ?_ ?_ ?_); (· rfl); (· rfl); (· rfl); intro w2 o2 b2 s2)
  rw [put_z10 hlen'] at o2
  simp only [World.size_alloc] at s2
  have ob2 := ob1.grown b2 (by simp; omega)
  have hbw2 := bel_store hbw b2 (by simp; omega) (by omega)
  clear hbw ob1 o1 b2
  have hT := hP.turn o
  obtain ⟨q, hq⟩ : ∃ q, q = (10 - o) % 10 := ⟨_, rfl⟩
  have hq' : q ≤ 9 := by omega
  have hm1 : IntKind.i64.wrap (10 - (o : Int)) = 10 - (o : Int) := IntWalk.i64_in _ (by omega)
  have hm : (10 - (o : Int)).tmod 10 = (q : Int) := by rw [Int.tmod_eq_emod_of_nonneg (by omega)]; omega
  obtain ⟨p1, hp1⟩ : ∃ p1, p1 = thenP (rotP o) (dg r.wiring) := ⟨_, rfl⟩
  obtain ⟨p2, hp2⟩ : ∃ p2, p2 = turnP (dg r.wiring) o := ⟨_, rfl⟩
  have r1 := fun W => rotation_any o W (by omega)
  have r2 := fun W => rotation_any q W (by omega)
  have t1 := fun W => then_any (rotP o) (dg r.wiring) W (isP_rot o) hP
  have t2 := fun W => then_any (thenP (rotP o) (dg r.wiring)) (rotP ((10 - o) % 10)) W ((isP_rot o).then hP) (isP_rot _)
  have HP2 := Lib.hid hp2
  unfold turnP at hp2 hT
  rw [← hp2] at t2 hT
  rw [← hp1] at t1 t2
  rw [← hq] at t2
  clear hp1 hp2 hq
  generalize hR1 : rotP o = p3 at *
  generalize hR2 : rotP q = p4 at *
  generalize hR3 : dg r.wiring = p5 at *
  clear hR1 hR2
  refine wp_region_cls_tail 9 (by kernel_rfl) (by kernel_rfl) ?_
  simp only [List.take_succ_cons, List.take_zero, List.drop_succ_cons, List.drop_zero]
  repeat (first | ((with_reducible refine wq_load 102 o2.cells o2.lt (size_pv hlen) Tryz.underlying102 ?_ ?_ ?_ ?_); (· rfl); (· rfl); (· rfl); (simp only [Act.put, List.setIfInBounds_toArray, List.set_cons_succ, List.set_cons_zero])) | go_big_quiet_step (first | (go_at_call 164; with_reducible exact cls_of (Nat.le_refl _) (r1 _)) | (go_at_call 164; with_reducible exact cls_of (Nat.le_refl _) (r2 _)) | (go_at_call 146; with_reducible exact cls_of (Nat.le_refl _) (t1 _)) | (go_at_call 146; with_reducible exact cls_of (Nat.le_refl _) (t2 _))))
  refine wpQuiet_nil ?_
  intro wc hbc
  have oc := ob2.below hbc ob2.lt
  have hzc := hbc.size
  have hbwc := bt hbw2 hbc
  have hT' : (pv p2).length = 10 := by rw [length_pv]; exact hT.len
  clear hm1 hm
  go_wp2_with ((with_reducible refine wl_store 102 0 oc (size_pv hT.len) (pv_one _) (by rw [hT', len_z10]; omega) ?_ ?_ ?_ ?_); (· rfl); (· rfl); (· rfl); intro w5 o5 b5 s5)
  rw [put_z10 hT'] at o5
  refine bodyPost_ret (results_cell_own Tryz.results142 _ _ _ _ _ (by rfl) o5.cells Tryz.underlying102 rfl (size_pv hT.len)) rfl ?_
  rw [hR3, ← HP2.out]
  exact ⟨rfl, bel_store hbwc b5 (by omega) (by omega)⟩
end Go.Proofs.YtdmnkcmkpjmfaaaGreat

/- The contract of newAssembly: a machine with its rotors, turned by all offsets, in memory. -/
namespace Go.Proofs.YtdmnkcmkpjmfaaaGreat
open Go.RowKit

/-- An assembly as it is made. -/
def asm0 (a : Option Addr) (n c : Nat) (s1 s2 s3 : ByteArray) : List Value := [.slice a n c, .string s1, .string s2, .string s3] ++ List.replicate 320 (.int .u8 0)
theorem len_asm0 (a : Option Addr) (n c : Nat) (s1 s2 s3 : ByteArray) : (asm0 a n c s1 s2 s3).length = 324 := by
  rw [asm0, List.length_append, List.length_replicate]; rfl
theorem build_asm (a : Option Addr) (n c : Nat) (s1 s2 s3 : ByteArray) (w : World) :
    (Instr.build 157 #[(0, .agg #[.slice a n c, .string s1, .string s2, .string s3])]).run Tryz.prog w = .ok (.agg (asm0 a n c s1 s2 s3).toArray) w := run_build w 157 _ _ (by kernel_rfl)

/-- The cells vs lie in the list cs from off on. -/
def SubL (cs : List Value) (off : Nat) (vs : List Value) : Prop := off + vs.length ≤ cs.length ∧ ∀ i, i < vs.length → cs[off + i]? = vs[i]?
theorem SubL.put_same {cs vs : List Value} {off : Nat} (h : off + vs.length ≤ cs.length) : SubL (put cs off vs) off vs := by
  refine ⟨by rw [len_put h]; exact h, fun i hi => ?_⟩
  have h1 : (cs.take off).length = off := by simp; omega
  rw [put, List.append_assoc, List.getElem?_append_right (by omega), h1, show off + i - off = i by omega, List.getElem?_append_left hi]
theorem SubL.put_apart {cs vs us : List Value} {off off' : Nat} (h : off + vs.length ≤ cs.length) (k : SubL cs off' us) (ha : off' + us.length ≤ off ∨ off + vs.length ≤ off') : SubL (put cs off vs) off' us := by
  refine ⟨by rw [len_put h]; exact k.1, fun i hi => ?_⟩
  rw [← k.2 i hi]
  have hk := k.1
  have h1 : (cs.take off).length = off := by simp; omega
  rcases ha with ha | ha
  · rw [put, List.append_assoc, List.getElem?_append_left (by omega), List.getElem?_take_of_lt (by omega)]
  · have h2 : (cs.take off ++ vs).length = off + vs.length := by simp; omega
    rw [put, List.getElem?_append_right (by omega), h2, List.getElem?_drop]
    congr 1; omega
theorem SubL.cells {w : World} {g off : Nat} {cs vs : List Value} (ho : Own w g cs) (h : SubL cs off vs) : Cells w g off vs := fun i hi => by
  have := h.1
  rw [ho.cell (off + i) (by omega)]; exact h.2 i hi

/-- An assembly in memory. -/
structure Asm (w : World) (g : Nat) (a : Option Addr) (n c : Nat) (m : Mach) : Prop where
  lt : g < w.heap.size
  mach : Cells w g 0 [.slice a n c, .string m.wheels.refl, .string m.rings, .string m.plugs]
  plugs : Cells w g 4 (pv (dg m.plugs))
  refl : Cells w g 14 (pv (dg m.wheels.refl))
  turned : ∀ (i o : Nat) (h : i < m.wheels.rotors.length), o < 10 → Cells w g (24 + i * 100 + o * 10) (pv (turnP (dg m.wheels.rotors[i].wiring) o))
theorem Asm.keep {w w' : World} {g : Nat} {a : Option Addr} {n c : Nat} {m : Mach} (h : Asm w g a n c m) (hs : g < w'.heap.size) (hb : w'.heap[g]? = w.heap[g]?) : Asm w' g a n c m :=
  ⟨hs, h.mach.keep hb, h.plugs.keep hb, h.refl.keep hb, fun i o hi ho => (h.turned i o hi ho).keep hb⟩
theorem Asm.below {w w' : World} {g B : Nat} {a : Option Addr} {n c : Nat} {m : Mach} (h : Asm w g a n c m) (hb : Below B w w') (hg : g < B) : Asm w' g a n c m :=
  h.keep (Nat.lt_of_lt_of_le h.lt hb.size) (hb.block g hg)

/-- How far the assembly has been made: rotors before k, and of rotor k the offsets before j. -/
structure AsmTo (cs : List Value) (a : Option Addr) (n c : Nat) (m : Mach) (k j : Nat) : Prop where
  len : cs.length = 324
  mach : SubL cs 0 [.slice a n c, .string m.wheels.refl, .string m.rings, .string m.plugs]
  plugs : SubL cs 4 (pv (dg m.plugs))
  refl : SubL cs 14 (pv (dg m.wheels.refl))
  turned : ∀ (i o : Nat) (h : i < m.wheels.rotors.length), o < 10 → (i < k ∨ (i = k ∧ o < j)) → SubL cs (24 + i * 100 + o * 10) (pv (turnP (dg m.wheels.rotors[i].wiring) o))
theorem AsmTo.asm {w : World} {g : Nat} {cs : List Value} {a : Option Addr} {n c : Nat} {m : Mach} {k : Nat} (h : AsmTo cs a n c m k 0) (ho : Own w g cs) (hk : m.wheels.rotors.length ≤ k) : Asm w g a n c m :=
  ⟨ho.lt, h.mach.cells ho, h.plugs.cells ho, h.refl.cells ho, fun i o hi h10 => (h.turned i o hi h10 (.inl (by omega))).cells ho⟩
theorem AsmTo.next {cs : List Value} {a : Option Addr} {n c : Nat} {m : Mach} {k : Nat} (h : AsmTo cs a n c m k 10) : AsmTo cs a n c m (k + 1) 0 :=
  ⟨h.len, h.mach, h.plugs, h.refl, fun i o hi h10 hd => h.turned i o hi h10 (by omega)⟩
theorem AsmTo.put {cs : List Value} {a : Option Addr} {n c : Nat} {m : Mach} {k j : Nat} (h : AsmTo cs a n c m k j) (hk : k < m.wheels.rotors.length) (hk3 : k < 3) (hj : j < 10) (hp : IsP (turnP (dg m.wheels.rotors[k].wiring) j)) (hP : (pv (dg m.plugs)).length = 10) (hR : (pv (dg m.wheels.refl)).length = 10)
    (hT : ∀ (i o : Nat) (hi : i < m.wheels.rotors.length), (pv (turnP (dg m.wheels.rotors[i].wiring) o)).length = 10) :
    AsmTo (put cs (24 + k * 100 + j * 10) (pv (turnP (dg m.wheels.rotors[k].wiring) j))) a n c m k (j + 1) := by
  have hl := h.len
  have hlp := hT k j hk
  have hb : 24 + k * 100 + j * 10 + (pv (turnP (dg m.wheels.rotors[k].wiring) j)).length ≤ cs.length := by omega
  refine ⟨by rw [len_put hb]; exact hl, h.mach.put_apart hb (.inl (by simp; omega)), h.plugs.put_apart hb (.inl (by omega)), h.refl.put_apart hb (.inl (by omega)), fun i o hi h10 hd => ?_⟩
  by_cases e : i = k ∧ o = j
  · obtain ⟨rfl, rfl⟩ := e
    exact SubL.put_same hb
  · have hlo := hT i o hi
    exact (h.turned i o hi h10 (by omega)).put_apart hb (by omega)
theorem asmTo_zero {a : Option Addr} {n c : Nat} {m : Mach} (hP : (pv (dg m.plugs)).length = 10) (hR : (pv (dg m.wheels.refl)).length = 10) :
    AsmTo (put (put (asm0 a n c m.wheels.refl m.rings m.plugs) 4 (pv (dg m.plugs))) 14 (pv (dg m.wheels.refl))) a n c m 0 0 := by
  have hl := len_asm0 a n c m.wheels.refl m.rings m.plugs
  have h1 : 4 + (pv (dg m.plugs)).length ≤ (asm0 a n c m.wheels.refl m.rings m.plugs).length := by omega
  have hl1 := len_put h1
  have h2 : 14 + (pv (dg m.wheels.refl)).length ≤ (put (asm0 a n c m.wheels.refl m.rings m.plugs) 4 (pv (dg m.plugs))).length := by omega
  have hm : SubL (asm0 a n c m.wheels.refl m.rings m.plugs) 0 [.slice a n c, .string m.wheels.refl, .string m.rings, .string m.plugs] := by
    refine ⟨by rw [hl]; simp, fun i hi => ?_⟩
    rw [Nat.zero_add, asm0, List.getElem?_append_left hi]
  exact ⟨by rw [len_put h2, hl1, hl], (hm.put_apart h1 (.inl (by simp))).put_apart h2 (.inl (by simp)), (SubL.put_same h1).put_apart h2 (.inl (by omega)), SubL.put_same h2, fun i o hi h10 hd => absurd hd (by omega)⟩

theorem size_pv10 {p : List Nat} (h : IsP p) : (pv p).length = 10 := by rw [length_pv]; exact h.len
theorem info_rotor : (Tryz.prog.info? 159).map (·.size) = some 2 := by kernel_rfl

set_option maxRecDepth 100000 in
set_option maxHeartbeats 1000000 in
theorem newAssembly_any (a : Option Addr) (n c : Nat) (m : Mach) (w : World) (h : MachAt w w.heap.size a n m) (hm : machB m = true) :
    Calls Tryz.prog 111 #[.agg #[.slice a n c, .string m.wheels.refl, .string m.rings, .string m.plugs]] w fun e w' =>
      e = .returned (.pointer (some ⟨w.heap.size + 1, 0, none⟩)) ∧ Asm w' (w.heap.size + 1) a n c m ∧ Below w.heap.size w w' := by
  have hf := machB_fit hm
  obtain ⟨b, off, rfl, hbl, hcr⟩ := h.whl.cells hf.one
  have hn := h.whl.len
  subst hn
  have h3 := hf.three
  have hP := size_pv10 (machB_plugP hm)
  have hR := size_pv10 (machB_reflP hm)
  have hr1 := h.rings
  have hp1 := h.plugs
  have hf1 := h.whl.refl
  have o0 := (Own.new w [.slice (some ⟨b, off, none⟩) m.wheels.rotors.length c, .string m.wheels.refl, .string m.rings, .string m.plugs] 36).alloc (.cells (asm0 (some ⟨b, off, none⟩) m.wheels.rotors.length c m.wheels.refl m.rings m.plugs).toArray 157)
  have o1 := Own.new (w.alloc (.cells [.slice (some ⟨b, off, none⟩) m.wheels.rotors.length c, .string m.wheels.refl, .string m.rings, .string m.plugs].toArray 36)) (asm0 (some ⟨b, off, none⟩) m.wheels.rotors.length c m.wheels.refl m.rings m.plugs) 157
  have hb0 := ((Below.refl w.heap.size w).alloc (Nat.le_refl _) (.cells [.slice (some ⟨b, off, none⟩) m.wheels.rotors.length c, .string m.wheels.refl, .string m.rings, .string m.plugs].toArray 36)).alloc (by simp) (.cells (asm0 (some ⟨b, off, none⟩) m.wheels.rotors.length c m.wheels.refl m.rings m.plugs).toArray 157)
  have hba := fun W => build_asm (some ⟨b, off, none⟩) m.wheels.rotors.length c m.wheels.refl m.rings m.plugs W
  rw [World.size_alloc] at o1
  go_enter Tryz.func111, Tryz.ntmps111
  go_wp2_with fail
  refine (plugsOf_any _ _ hp1).mono ?_
  rintro e w1 ⟨rfl, hb1⟩
  rw [machB_plug hm, permC_yes]
  have p0 := o0.below hb1 o0.lt
  have p1 := o1.below hb1 o1.lt
  have hbw := bt hb0 hb1
  clear o0 o1 hb0 hb1 hba
  have hl0 : 4 + (pv (dg m.plugs)).length ≤ (asm0 (some ⟨b, off, none⟩) m.wheels.rotors.length c m.wheels.refl m.rings m.plugs).length := by rw [len_asm0, hP]; omega
  go_wp2_with ((with_reducible refine wl_store 102 4 p1 (size_pv (machB_plugP hm).len) (pv_one _) hl0 ?_ ?_ ?_ ?_); (· rfl); (· rfl); (· rfl); intro w2 q1 b2 s2; have q0 := p0.grown b2 (by simp); have c1 := q0.at_ (i := 1) rfl)
  have hz1 := hbw.size
  have lt0 := p0.lt
  have hbw2 := bel_store hbw b2 (by omega) (by omega)
  clear p0 p1 b2 hbw hl0
  refine (reflectorOf_any _ _ hf1).mono ?_
  rintro e w3 ⟨rfl, hb3⟩
  rw [reflB_plug hf.refl, permC_yes]
  have r0 := q0.below hb3 q0.lt
  have r1 := q1.below hb3 q1.lt
  have hbw3 := bt hbw2 hb3
  clear q0 q1 hbw2 hb3 c1
  have hl1 : 14 + (pv (dg m.wheels.refl)).length ≤ (put (asm0 (some ⟨b, off, none⟩) m.wheels.rotors.length c m.wheels.refl m.rings m.plugs) 4 (pv (dg m.plugs))).length := by rw [len_put (by rw [len_asm0, hP]; omega), len_asm0, hR]; omega
  go_wp2_with ((with_reducible refine wl_store 102 14 r1 (size_pv (machB_reflP hm).len) (pv_one _) hl1 ?_ ?_ ?_ ?_); (· rfl); (· rfl); (· rfl); intro w4 t1 b4 s4; have t0 := r0.grown b4 (by simp); have c0 := t0.at_ (i := 0) rfl)
  have hz3 := hbw3.size
  have lt1 := r0.lt
  have hbw4 := bel_store hbw3 b4 (by omega) (by omega)
  clear r0 r1 b4 hbw3 hl1 c0
  have hPr : ∀ (i : Nat) (hi : i < m.wheels.rotors.length), permB m.wheels.rotors[i].wiring = true := fun i hi => rotorB_perm (hf.rot _ (List.getElem_mem hi))
  have hT := Lib.hid (fun (i o : Nat) (hi : i < m.wheels.rotors.length) => size_pv10 ((permB_isP (hPr i hi)).turn o))
  have HPr := Lib.hid hPr
  have HP := Lib.hid hP
  have HR := Lib.hid hR
  have A0 := asmTo_zero (a := some ⟨b, off, none⟩) (n := m.wheels.rotors.length) (c := c) hP hR
  clear hPr hP hR
  go_loopw [33] (fun i wr => ∃ (k : Nat) (cs : List Value), k ≤ m.wheels.rotors.length ∧ i = .int .i64 k ∧ AsmTo cs (some ⟨b, off, none⟩) m.wheels.rotors.length c m k 0 ∧ Own wr (w.heap.size + 1) cs ∧ Below w.heap.size w wr) (fun i _ => m.wheels.rotors.length - (intOf i).toNat)
  case atStart => exact ⟨0, _, Nat.zero_le _, rfl, A0, t1, hbw4⟩
  case round =>
    clear A0 t0 t1 hbw4 s4 s2 hz3 hz1 lt0 lt1
    obtain ⟨k, cs, hk, rfl, hA, hown, hb⟩ := hrel
    by_cases hlt : k < m.wheels.rotors.length
    · obtain ⟨f0, f1⟩ := rot_cells (hcr.below hb hbl) hlt
      have q1 : (k : Int) < (m.wheels.rotors.length : Int) := by omega
      have rb := Own.new wr (rv m.wheels.rotors[k]) 159
      have hownb := hown.alloc (.cells (rv m.wheels.rotors[k]).toArray 159)
      have hbb := hb.alloc (by have := hb.size; omega) (.cells (rv m.wheels.rotors[k]).toArray 159)
      have hne : w.heap.size + 1 ≠ wr.heap.size := by have := hown.lt; omega
      have k3 : k < 3 := by omega
      have hpk := HPr.out k hlt
      have hsz := h.whl.rot _ (List.getElem_mem hlt)
      go_wp2_with fail
      generalize hRB : wr.heap.size = RB at *
      go_loopw [38] (fun i wr => ∃ (j : Nat) (cs : List Value), j ≤ 10 ∧ i = .int .i64 j ∧ AsmTo cs (some ⟨b, off, none⟩) m.wheels.rotors.length c m k j ∧ Own wr (w.heap.size + 1) cs ∧ Own wr RB (rv m.wheels.rotors[k]) ∧ Below w.heap.size w wr) (fun i _ => 10 - (intOf i).toNat)
      case atStart => exact ⟨0, cs, by omega, rfl, hA, hownb, rb, hbb⟩
      case round =>
        clear hA hown hb hownb rb hbb f0 f1 hRB
        obtain ⟨j, cs2, hj, rfl, hA, hown, hrb, hb⟩ := hrel
        by_cases hjl : j < 10
        · have q2 : (0 : Int) ≤ (k : Int) := by omega
          have q3 : (k : Int) < 3 := by omega
          have q4 : (0 : Int) ≤ (j : Int) := by omega
          have q5 : (j : Int) < 10 := by omega
          have hca := fun W => turned_any m.wheels.rotors[k] j W hsz hpk hjl
          have hrb' : Own wr RB [.string m.wheels.rotors[k].wiring, .string m.wheels.rotors[k].notches] := hrb
          have hinf : (Tryz.prog.info? 159).map (·.size) = some [Value.string m.wheels.rotors[k].wiring, .string m.wheels.rotors[k].notches].length := info_rotor
          have hIP := (permB_isP hpk).turn j
          have hA2 := hA.put hlt k3 hjl hIP HP.out HR.out hT.out
          have hli : (pv (turnP (dg m.wheels.rotors[k].wiring) j)).length = 10 := size_pv10 hIP
          have hlen : 24 + k * 100 + j * 10 + (pv (turnP (dg m.wheels.rotors[k].wiring) j)).length ≤ cs2.length := by rw [hA.len, hli]; omega
          have HLEN := Lib.hid hlen
          have HA2 := Lib.hid hA2
          have HSZ := Lib.hid (size_pv hIP.len)
          clear hli hlen hA2 hA
          go_wp2_with fail
          generalize hTP : turnP (dg m.wheels.rotors[k].wiring) j = tp at *
          refine wp_region_cls_tail 10 (by kernel_rfl) (by kernel_rfl) ?_
          simp only [List.take_succ_cons, List.take_zero, List.drop_succ_cons, List.drop_zero]
          repeat (first | ((with_reducible refine wq_load 159 hrb'.cells hrb'.lt hinf Tryz.underlying159 ?_ ?_ ?_ ?_); (· rfl); (· rfl); (· rfl); (simp only [Act.put, List.setIfInBounds_toArray, List.set_cons_succ, List.set_cons_zero])) | go_big_quiet_step (first | (go_at_call 142; with_reducible exact cls_of (Nat.le_refl _) (hca _))))
          refine wpQuiet_nil ?_
          intro wc hbc
          have hown2 := hown.below hbc hown.lt
          have hrb2 := hrb.below hbc hrb.lt
          have hb2 := bt hb hbc
          have hzz := hbc.size
          have lt2 := hown.lt
          clear hown hrb hb hrb' hca
          go_wp2_with ((with_reducible refine wl_store 102 (24 + k * 100 + j * 10) hown2 HSZ.out (pv_one _) HLEN.out ?_ ?_ ?_ ?_); (· rfl); (· rfl); (· rfl); intro w6 q6 b6 s6)
          go_roundw
          case rel => exact ⟨j + 1, _, by omega, by go_num, HA2.out, q6, hrb2.grown b6 (by simp; omega), bel_store hb2 b6 (by omega) (by omega)⟩
          case measure => simp [intOf]; omega
        · have hj' : j = 10 := by omega
          subst hj'
          have hA' := hA.next
          go_wp2
          go_roundw
          case rel => exact ⟨k + 1, cs2, by omega, by go_num, hA', hown, hb⟩
          case measure => simp [intOf]; omega
    · have hk' : k = m.wheels.rotors.length := by omega
      subst hk'
      go_wp2
      go_ret
      exact ⟨rfl, hA.asm hown (Nat.le_refl _), hb⟩
end Go.Proofs.YtdmnkcmkpjmfaaaGreat

/- The contract of permAt: the permutation of an assembly at some windows. -/
namespace Go.Proofs.YtdmnkcmkpjmfaaaGreat
open Go.RowKit

/-- Some cells in a block that there is. -/
structure CellsAt (w : World) (g off : Nat) (cs : List Value) : Prop where
  cells : Cells w g off cs
  lt : g < w.heap.size
theorem Asm.alloc {w : World} {g : Nat} {a : Option Addr} {n c : Nat} {m : Mach} (h : Asm w g a n c m) (o : Obj) : Asm (w.alloc o) g a n c m := h.keep (Nat.lt_of_lt_of_le h.lt (by simp)) (Below.heap_alloc w o g h.lt)
theorem Asm.grown {w w' : World} {g : Nat} {a : Option Addr} {n c : Nat} {m : Mach} {row : Option Nat} (h : Asm w g a n c m) (hb : w.grownBy w' row) (hg : some g ≠ row) : Asm w' g a n c m := h.keep (Nat.lt_of_lt_of_le h.lt hb.size) (hb.block g h.lt hg)
theorem Asm.far {w : World} {g : Nat} {a : Option Addr} {n c : Nat} {m : Mach} (h : Asm w g a n c m) {p : Addr} (hp : g ≠ p.block) (u : Value) : Asm (w.setCell p u) g a n c m := h.keep (by simpa [World.setCell] using h.lt) (Below.heap_setCell w p u g hp)
theorem way_drop {p : List Nat} {rs : List Rot} {os : List Nat} {k : Nat} (h1 : k < rs.length) (h2 : k < os.length) :
    wayP p (rs.drop k) (os.drop k) = thenP (wayP p (rs.drop (k + 1)) (os.drop (k + 1))) (turnP (dg rs[k].wiring) os[k]) := by
  rw [List.drop_eq_getElem_cons h1, List.drop_eq_getElem_cons h2]; rfl
theorem way_end {p : List Nat} {rs : List Rot} {os : List Nat} {k : Nat} (h1 : rs.length ≤ k) : wayP p (rs.drop k) (os.drop k) = p := by
  rw [List.drop_eq_nil_of_le h1]; simp only [wayP]

set_option maxRecDepth 100000 in
set_option maxHeartbeats 1000000 in
theorem permAt_any (g : Nat) (a : Option Addr) (n c : Nat) (m : Mach) (v : ByteArray) (w : World) (h : Asm w g a n c m) (hs : setB m v = true) :
    Calls Tryz.prog 145 #[.pointer (some ⟨g, 0, none⟩), .string v] w fun e w' => e = .returned (.agg (pv (keyP m v)).toArray) ∧ Below w.heap.size w w' := by
  have hm := setB_mach hs
  have hf := setB_fit hs
  have hpl := machB_plugP hm
  have hrf := machB_reflP hm
  have hv3 : v.size ≤ 3 := by rw [setB_len hs]; exact hf.three
  have hv1 : 1 ≤ v.size := by rw [setB_len hs]; exact hf.one
  have hlr : m.wheels.rotors.length = v.size := (setB_len hs).symm
  have hoff := fun W => offsets_any a n c m v W (setB_word hs) ((machB_fit hm).word) (setB_size hs)
  have hP := size_pv10 hpl
  have lg := h.lt
  have z1 : Own ((w.alloc (.cells #[.int .u8 0, .int .u8 0, .int .u8 0, .int .u8 0, .int .u8 0, .int .u8 0, .int .u8 0, .int .u8 0, .int .u8 0, .int .u8 0] 102)).alloc (.cells #[.int .u8 0, .int .u8 0, .int .u8 0, .int .u8 0, .int .u8 0, .int .u8 0, .int .u8 0, .int .u8 0, .int .u8 0, .int .u8 0] 102)) (w.heap.size + 1) z10 := by
    have := Own.new (w.alloc (.cells #[.int .u8 0, .int .u8 0, .int .u8 0, .int .u8 0, .int .u8 0, .int .u8 0, .int .u8 0, .int .u8 0, .int .u8 0, .int .u8 0] 102)) z10 102
    rwa [World.size_alloc] at this
  have z0 : Own ((w.alloc (.cells #[.int .u8 0, .int .u8 0, .int .u8 0, .int .u8 0, .int .u8 0, .int .u8 0, .int .u8 0, .int .u8 0, .int .u8 0, .int .u8 0] 102)).alloc (.cells #[.int .u8 0, .int .u8 0, .int .u8 0, .int .u8 0, .int .u8 0, .int .u8 0, .int .u8 0, .int .u8 0, .int .u8 0, .int .u8 0] 102)) w.heap.size z10 := (Own.new w z10 102).alloc _
  have hA1 := h.alloc (.cells #[.int .u8 0, .int .u8 0, .int .u8 0, .int .u8 0, .int .u8 0, .int .u8 0, .int .u8 0, .int .u8 0, .int .u8 0, .int .u8 0] 102)
  have hA2 := hA1.alloc (.cells #[.int .u8 0, .int .u8 0, .int .u8 0, .int .u8 0, .int .u8 0, .int .u8 0, .int .u8 0, .int .u8 0, .int .u8 0, .int .u8 0] 102)
  have hb2 := ((Below.refl w.heap.size w).alloc (Nat.le_refl _) (.cells #[.int .u8 0, .int .u8 0, .int .u8 0, .int .u8 0, .int .u8 0, .int .u8 0, .int .u8 0, .int .u8 0, .int .u8 0, .int .u8 0] 102)).alloc (by simp) (.cells #[.int .u8 0, .int .u8 0, .int .u8 0, .int .u8 0, .int .u8 0, .int .u8 0, .int .u8 0, .int .u8 0, .int .u8 0, .int .u8 0] 102)
  have hinf : (Tryz.prog.info? 36).map (·.size) = some [Value.slice a n c, .string m.wheels.refl, .string m.rings, .string m.plugs].length := by kernel_rfl
  go_enter Tryz.func145, Tryz.ntmps145
  go_wp2_with (first | ((with_reducible refine wl_load 102 hA1.plugs (size_pv hpl.len) Tryz.underlying102 ?_ ?_ ?_ ?_); (· rfl); (· rfl); (· rfl)) | ((with_reducible refine wl_store 102 0 z1 (size_pv hpl.len) (pv_one _) (by rw [hP, len_z10]; omega) ?_ ?_ ?_ ?_); (· rfl); (· rfl); (· rfl); intro w2 q2 b2 s2; have z2 := z0.grown b2 (by simp); have hA3 := hA2.grown b2 (by simp; omega); have hA3m := hA3.mach; clear z0 z1 hA1 hA2) | ((with_reducible refine wl_load 36 hA3m hinf Tryz.underlying36 ?_ ?_ ?_ ?_); (· rfl); (· rfl); (· rfl)))
  rw [put_z10 hP] at q2
  have hbw2 := bel_store hb2 b2 (by simp; omega) (by omega)
  have s2' : w2.heap.size = w.heap.size + 1 + 1 := by rw [s2]; simp
  clear hb2 b2 s2 hA3m
  refine (hoff _).mono ?_
  rintro e w3 ⟨rfl, o3, hb3⟩
  have z3 := z2.below hb3 z2.lt
  have q3 := q2.below hb3 q2.lt
  have hA4 := hA3.below hb3 hA3.lt
  have hbw3 := bt hbw2 hb3
  have hz3 := hb3.size
  clear z2 q2 hA3 hbw2 hb3 hoff h
  have hne : w.heap.size + 1 ≠ w2.heap.size + 1 := by omega
  have hne2 : g ≠ w.heap.size + 1 := by omega
  generalize w2.heap.size + 1 = B3 at *
  clear hz3 s2'
  have Hlo := Lib.hid (len_offs m.rings v)
  have HO := Lib.hid (offs_lt m.rings v)
  have HW := Lib.hid (fun k => isP_way hpl (m.wheels.rotors.drop k) ((offs m.rings v).drop k) (fun r hr => hf.perms r (List.mem_of_mem_drop hr)))
  have HWE := Lib.hid (way_end (p := dg m.plugs) (rs := m.wheels.rotors) (os := offs m.rings v) (k := v.size) (by omega))
  go_wp2_with fail
  go_loopw [7] (fun i wr => ∃ (k : Nat), k ≤ v.size ∧ i = .int .i64 ((k : Int) - 1) ∧ Own wr (w.heap.size + 1) (pv (wayP (dg m.plugs) (m.wheels.rotors.drop k) ((offs m.rings v).drop k))) ∧ Own wr B3 (ov (offs m.rings v)) ∧ Own wr w.heap.size z10 ∧ Asm wr g a n c m ∧ Below w.heap.size w wr) (fun i _ => (intOf i + 1).toNat)
  case atStart => exact ⟨v.size, Nat.le_refl _, rfl, by rw [HWE.out]; exact q3, o3, z3, hA4, hbw3⟩
  case round =>
    clear q3 o3 z3 hA4 hbw3
    obtain ⟨k, hk, rfl, q3, o3, z3, hA, hb⟩ := hrel
    rcases Nat.eq_zero_or_pos k with h0 | h0
    · subst h0
      have HF : Hid (keyP m v = thenP (thenP (wayP (dg m.plugs) (m.wheels.rotors.drop 0) ((offs m.rings v).drop 0)) (dg m.wheels.refl)) (backP (wayP (dg m.plugs) (m.wheels.rotors.drop 0) ((offs m.rings v).drop 0)))) := rfl
      have hw := HW.out 0
      generalize wayP (dg m.plugs) (m.wheels.rotors.drop 0) ((offs m.rings v).drop 0) = wp at *
      have hK : (pv (thenP (thenP wp (dg m.wheels.refl)) (backP wp))).length = 10 := size_pv10 ((hw.then hrf).then hw.back)
      have HSZ := Lib.hid (size_pv (p := thenP (thenP wp (dg m.wheels.refl)) (backP wp)) ((hw.then hrf).then hw.back).len)
      have hq : CellsAt wr g 14 (pv (dg m.wheels.refl)) := ⟨hA.refl, hA.lt⟩
      have t1 := fun W => then_any wp (dg m.wheels.refl) W hw hrf
      have t2 := fun W => then_any (thenP wp (dg m.wheels.refl)) (backP wp) W (hw.then hrf) hw.back
      have t3 := fun W => inverse_any wp W hw
      generalize thenP (thenP wp (dg m.wheels.refl)) (backP wp) = x4 at *
      generalize thenP wp (dg m.wheels.refl) = x2 at *
      generalize backP wp = x3 at *
      have hrl := hrf.len
      have hwl := hw.len
      go_wp2_with fail
      refine wp_region_cls_tail 9 (by kernel_rfl) (by kernel_rfl) ?_
      simp only [List.take_succ_cons, List.take_zero, List.drop_succ_cons, List.drop_zero]
      repeat (first | ((with_reducible refine wq_load 102 q3.cells q3.lt (size_pv hwl) Tryz.underlying102 ?_ ?_ ?_ ?_); (· rfl); (· rfl); (· rfl); (simp only [Act.put, List.setIfInBounds_toArray, List.set_cons_succ, List.set_cons_zero]))|((with_reducible refine wq_load 102 hq.cells hq.lt (size_pv hrl) Tryz.underlying102 ?_ ?_ ?_ ?_); (· rfl); (· rfl); (· rfl); (simp only [Act.put, List.setIfInBounds_toArray, List.set_cons_succ, List.set_cons_zero])) | go_big_quiet_step (first | (go_at_call 172; with_reducible exact cls_of (Nat.le_refl _) (t3 _)) | (go_at_call 146; with_reducible exact cls_of (Nat.le_refl _) (t1 _)) | (go_at_call 146; with_reducible exact cls_of (Nat.le_refl _) (t2 _))))
      refine wpQuiet_nil ?_
      intro wc hbc
      have z4 := z3.below hbc z3.lt
      have hb4 := bt hb hbc
      have hzz := hbc.size
      have lt3 := z3.lt
      clear q3 o3 z3 hA hb hq t1 t2 t3
      go_wp2_with ((with_reducible refine wl_store 102 0 z4 HSZ.out (pv_one _) (by rw [hK, len_z10]; omega) ?_ ?_ ?_ ?_); (· rfl); (· rfl); (· rfl); intro w5 o5 b5 s5)
      rw [put_z10 hK] at o5
      refine bodyPost_ret (results_cell_own Tryz.results145 _ _ _ _ _ (by rfl) o5.cells Tryz.underlying102 rfl HSZ.out) rfl ?_
      rw [HF.out]
      exact ⟨rfl, bel_store hb4 b5 (by omega) (by omega)⟩
    · obtain ⟨j, rfl⟩ : ∃ j, k = j + 1 := ⟨k - 1, by omega⟩
      have hjr : j < m.wheels.rotors.length := by omega
      have hjo : j < (offs m.rings v).length := by rw [Hlo.out]; omega
      have HS := Lib.hid (way_drop (p := dg m.plugs) hjr hjo)
      have hw := HW.out (j + 1)
      have hw' := HW.out j
      obtain ⟨o, ho⟩ : ∃ o, o = (offs m.rings v)[j] := ⟨_, rfl⟩
      have ho10 : o < 10 := by rw [ho]; exact HO.out _ (List.getElem_mem _)
      have f3 := o3.at_ (ov_at hjo)
      rw [← ho] at f3 HS
      have hTP := (permB_isP (hf.perms _ (List.getElem_mem hjr))).turn o
      have hq : CellsAt wr g (24 + j * 100 + o * 10) (pv (turnP (dg m.wheels.rotors[j].wiring) o)) := ⟨hA.turned j o hjr ho10, hA.lt⟩
      rw [HS.out] at hw'
      have t1 := fun W => then_any (wayP (dg m.plugs) (m.wheels.rotors.drop (j + 1)) ((offs m.rings v).drop (j + 1))) (turnP (dg m.wheels.rotors[j].wiring) o) W hw hTP
      have KEY : Hid (∀ W, Own W (w.heap.size + 1) (pv (thenP (wayP (dg m.plugs) (m.wheels.rotors.drop (j + 1)) ((offs m.rings v).drop (j + 1))) (turnP (dg m.wheels.rotors[j].wiring) o))) → Own W (w.heap.size + 1) (pv (wayP (dg m.plugs) (m.wheels.rotors.drop j) ((offs m.rings v).drop j)))) := fun W hW => by rw [HS.out]; exact hW
      clear ho HS
      generalize wayP (dg m.plugs) (m.wheels.rotors.drop (j + 1)) ((offs m.rings v).drop (j + 1)) = wp at *
      generalize turnP (dg m.wheels.rotors[j].wiring) o = tp at *
      have hK : (pv (thenP wp tp)).length = 10 := size_pv10 hw'
      have HSZ := Lib.hid (size_pv (p := thenP wp tp) hw'.len)
      generalize thenP wp tp = x4 at *
      have hrl := hTP.len
      have hwl := hw.len
      have hpl2 := size_pv10 hw
      have l3 := o3.lt
      have d3 := fun (cc : Cls wr.heap.size wr) => (cc.cell B3 j l3).trans f3
      have q1 : (0 : Int) ≤ (j : Int) := by omega
      have q2 : (j : Int) < 3 := by omega
      have q2' : (j : Int) < (v.size : Int) := by omega
      have q4 : (0 : Int) ≤ (o : Int) := by omega
      have q5 : (o : Int) < 10 := by omega
      rw [show (((j + 1 : Nat)) : Int) - 1 = (j : Int) by omega]
      clear f3
      go_wp2_with fail
      refine wp_region_cls_tail 13 (by kernel_rfl) (by kernel_rfl) ?_
      simp only [List.take_succ_cons, List.take_zero, List.drop_succ_cons, List.drop_zero]
      repeat (first | ((with_reducible refine wq_load 102 q3.cells q3.lt (size_pv hwl) Tryz.underlying102 ?_ ?_ ?_ ?_); (· rfl); (· rfl); (· rfl); (simp only [Act.put, List.setIfInBounds_toArray, List.set_cons_succ, List.set_cons_zero]))|((with_reducible refine wq_load 102 hq.cells hq.lt (size_pv hrl) Tryz.underlying102 ?_ ?_ ?_ ?_); (· rfl); (· rfl); (· rfl); (simp only [Act.put, List.setIfInBounds_toArray, List.set_cons_succ, List.set_cons_zero])) | go_big_quiet_step (first | (go_at_call 146; with_reducible exact cls_of (Nat.le_refl _) (t1 _))))
      refine wpQuiet_nil ?_
      intro wc hbc
      have z4 := z3.below hbc z3.lt
      have o4 := o3.below hbc o3.lt
      have q6 := q3.below hbc q3.lt
      have hA4 := hA.below hbc hA.lt
      have hb4 := bt hb hbc
      have hzz := hbc.size
      have lt3 := q3.lt
      clear q3 o3 z3 hA hb hq t1 d3
      go_wp2_with ((with_reducible refine wl_store 102 0 q6 HSZ.out (pv_one _) (by rw [hK, hpl2]; omega) ?_ ?_ ?_ ?_); (· rfl); (· rfl); (· rfl); intro w5 o5 b5 s5)
      rw [put_all (by rw [hK, hpl2])] at o5
      go_roundw
      case rel => exact ⟨j, by omega, by go_num, KEY.out _ o5, o4.grown b5 (by simp; omega), z4.grown b5 (by simp), hA4.grown b5 (by simp; omega), bel_store hb4 b5 (by omega) (by omega)⟩
      case measure => simp [intOf]
end Go.Proofs.YtdmnkcmkpjmfaaaGreat

/- Contracts of the functions that draw wheels. -/
namespace Go.Proofs.YtdmnkcmkpjmfaaaGreat
open Go.RowKit

theorem inf_rotor : (Tryz.prog.info? 159).map (fun i => (i.zero, i.size, i.bytes)) = some (some (.agg #[.string ⟨#[]⟩, .string ⟨#[]⟩]), 2, 32) := by kernel_rfl
theorem Moved.low {R B : Nat} {a b c : World} (h : Moved R a b) (k : Below B b c) (hB : a.heap.size ≤ B) : Moved R a c :=
  ⟨k.os.trans h.os, k.tape.trans h.tape, k.output.trans h.output, Nat.le_trans h.size k.size, fun i hi hne => (k.block i (by omega)).trans (h.block i hi hne)⟩
/-- What the drawing of wheels leaves: wheels with P, whose rotors lie in new memory. -/
def WhlP (R : Nat) (P : Whl → Prop) (c : Nat) (w : World) (e : Ending) (w' : World) : Prop :=
  ∃ (x : Whl) (v : Value), P x ∧ e = .returned (.agg #[v, .string x.refl]) ∧ OwR w' w.heap.size 159 2 v x.rotors.length (rvs x.rotors) ∧ Rd w' R c ∧ Moved R w w'
/-- Good wheels with n rotors. -/
def GoodW (n : Nat) (x : Whl) : Prop := x.rotors.length = n ∧ (∀ r ∈ x.rotors, rotorB r = true) ∧ reflB x.refl = true

set_option maxRecDepth 100000 in
set_option maxHeartbeats 1000000 in
theorem l6Some_any (R n : Nat) (c : Nat) (w : World) (h : Rd w R c) (hc : c ≤ 8000000) (hn : n ≤ 3) :
    Calls Tryz.prog 187 #[.pointer (some ⟨R, 0, none⟩), .int .i64 (n : Int)] w (WhlP R (GoodW n) (c + 50) w) := by
  have o0 := Own.new w [.slice none 0 0, .string ⟨#[]⟩] 34
  have hr0 := h.alloc (.cells #[.slice none 0 0, .string ⟨#[]⟩] 34)
  have hm0 := (Moved.refl R w).alloc (.cells #[.slice none 0 0, .string ⟨#[]⟩] 34)
  have hlt := h.lt
  go_enter Tryz.func187, Tryz.ntmps187
  go_wp2_with fail
  refine (l4Board_any R 5 c _ hr0 (by omega) (by omega)).mono ?_
  rintro e w1 ⟨s, hs, rfl, hr1, hm1⟩
  have o1 := o0.grown hm1 (by simp; omega)
  have hmw1 := hm0.trans hm1
  have HS := Lib.hid hs.refl
  clear hs o0 hr0 hm0 hm1 h
  have l1 := o1.lt
  have p1 := Own.new w1 [.slice none 0 0, .string s] 34
  have o1' := o1.alloc (.cells [.slice none 0 0, .string s].toArray 34)
  have hr1' := hr1.alloc (.cells [.slice none 0 0, .string s].toArray 34)
  have hm1' := hmw1.alloc (.cells [.slice none 0 0, .string s].toArray 34)
  go_wp2_with fail
  generalize (w1.alloc (.cells [.slice none 0 0, .string s].toArray 34)) = W1 at *
  generalize hB1 : w1.heap.size = B1 at *
  generalize hB0 : w.heap.size = B0 at *
  have HB0 := Lib.hid hB0
  clear o1 hr1 hmw1 hB1 hB0
  go_loopw [6] (fun i wr => ∃ (k : Nat) (v : Value) (rs : List Rot), k ≤ n ∧ i = .int .i64 k ∧ rs.length = k ∧ (∀ r ∈ rs, rotorB r = true) ∧ Own wr B1 [v, .string s] ∧ Own wr B0 [.slice none 0 0, .string ⟨#[]⟩] ∧ OwR wr (B1 + 1) 159 2 v k (rvs rs) ∧ Rd wr R (c + 10 + 11 * k) ∧ Moved R w wr) (fun i _ => n - (intOf i).toNat)
  case atStart => exact ⟨0, _, [], by omega, rfl, rfl, by simp, p1, o1', World.ownsRow_nil _ _ _ _, hr1', hm1'⟩
  case round =>
    clear p1 o1' hr1' hm1'
    obtain ⟨k, v, rs, hk, rfl, hrl, hrb, p1, o1, hown, hr, hm⟩ := hrel
    have HRL := Lib.hid hrl
    have HRB := Lib.hid hrb
    clear hrl hrb
    have f0 := p1.at_ (i := 0) rfl
    have lt1 := p1.lt
    by_cases hlt2 : k < n
    · go_wp2_with fail
      go_region_law (first | (go_simp; go_at_call 195; refine (l5Some_any R _ _ hr.drew (by omega)).mono ?_; rintro e w2 ⟨r, hrB, rfl, hr2, hm2⟩; have q2 := OwR.moved (w := wr.drew) hown hm2 (by omega); have p2 := p1.drew.grown hm2 (by simp; omega); have o2 := o1.drew.grown hm2 (by simp; omega); have f2 := p2.at_ (i := 0) rfl; have p3 := p2.alloc (.cells [.string r.wiring, .string r.notches].toArray 159); have f3 := p3.at_ (i := 0) rfl; have l2 := p2.lt) | (refine st_push 32 159 inf_rotor Tryz.underlying32 rfl (by omega) (by rfl) (by rfl) q2 (by omega) rfl (by simp [Value.oneCell']) (by omega) (by omega) (by rfl) (by rfl) ?_; intro g cap w4 q4 b4 s4; have p4 := p2.below b4 (by omega); have o4 := o2.below b4 (by omega); have f4 := p4.at_ (i := 0) rfl; have g4 := p4.free 0 (by simp)))
      all_goals
       go_wp2
       go_roundw
       case rel =>
        have hr4 := hr2.below b4 (by omega)
        have hm4 : Moved R w w4 := (hm.drew.trans hm2).low b4 (by rw [HB0.out]; omega)
        refine ⟨k + 1, _, rs ++ [r], by omega, by go_num, by simp [HRL.out], ?_, p4.set_ (i := 0) (by simp) _, o4.far (by simp; omega) _, ?_, (hr4.far (by simp; omega) _).more (by omega), hm4.set_ (.inr (by simp; rw [HB0.out]; omega)) _⟩
        · intro r' h'
          simp at h'
          rcases h' with h' | rfl
          · exact HRB.out r' h'
          · exact hrB
        · rw [rvs_append]; exact OwR.far q4 (by simp) _
       case measure => simp [intOf]; omega
    · have hk' : k = n := by omega
      subst hk'
      have f1 := p1.at_ (i := 1) rfl
      have h0 := o1.at_ (i := 0) rfl
      have h1 := o1.at_ (i := 1) rfl
      have g0 := o1.free 0 (by simp)
      have g1 := o1.free 1 (by simp)
      have hne : ¬ B0 = B1 := by omega
      obtain ⟨va, vc, rfl, -, -, -⟩ := OwR.val hown
      go_wp2
      refine bodyPost_ret (v := .agg #[.slice va k vc, .string s]) (by simp [results, Tryz.results187, go_sem, h0, h1]) rfl ?_
      refine ⟨⟨rs, s⟩, .slice va k vc, ⟨HRL.out, HRB.out, HS.out⟩, rfl, ?_, ((hr.far (by simp; omega) _).far (by simp; omega) _).more (by omega), (hm.set_ (.inr (by simp; rw [HB0.out]; omega)) _).set_ (.inr (by simp; rw [HB0.out]; omega)) _⟩
      have := World.ownsRow.mono (OwR.far (OwR.far hown (p := ⟨B0, 0, none⟩) (by simp; omega) (.slice va k vc)) (p := ⟨B0, 1, none⟩) (by simp; omega) (.string s)) (base' := w.heap.size) (by rw [HB0.out]; omega)
      rw [show (rs.length : Nat) = k from HRL.out]
      exact this
end Go.Proofs.YtdmnkcmkpjmfaaaGreat

/- The contract of the function that draws any wheels. -/
namespace Go.Proofs.YtdmnkcmkpjmfaaaGreat
open Go.RowKit

theorem OwR.own {w : World} {base g cap n : Nat} {e : TypeId} {sz : Nat} {xs : List Value} (h : OwR w base e sz (.slice (some ⟨g, 0, none⟩) n cap) n xs) : Own w g xs := by
  rcases h.2 with ⟨h', _⟩ | ⟨g', cap', cur, h', hb, hh, hn, hm, hs, ht⟩
  · simp at h'
  · simp only [Value.slice.injEq, Option.some.injEq, Addr.mk.injEq, and_true, true_and] at h'
    obtain ⟨rfl, rfl⟩ := h'
    have hlt : g < w.heap.size := by
      rcases Nat.lt_or_ge g w.heap.size with h1 | h1
      · exact h1
      · rw [Array.getElem?_eq_none h1] at hh; cases hh
    refine ⟨hlt, fun i hi => ?_, fun i hi => by simp [World.frozen?, hh]⟩
    rw [cell_of_row w g i cur _ _ hh, ← ht]
    have : i < n * sz := by rw [← h.1]; exact hi
    rw [List.getElem?_take_of_lt this]
    simp
theorem rvs_set2 {rs : List Rot} {k : Nat} (r : Rot) (h : k < rs.length) : ((rvs rs).set (k * 2) (.string r.wiring)).set (k * 2 + 1) (.string r.notches) = rvs (rs.set k r) := by
  induction rs generalizing k with
  | nil => simp at h
  | cons q rs ih =>
    cases k with
    | zero => simp [rvs]
    | succ k =>
      rw [show (k + 1) * 2 = k * 2 + 1 + 1 by omega]
      simp only [rvs, List.set_cons_succ]
      rw [ih (by simpa using h)]
theorem set_all {rs : List Rot} {Q : Rot → Prop} (h : ∀ r ∈ rs, Q r) {k : Nat} {r : Rot} (hr : Q r) : ∀ q ∈ rs.set k r, Q q := fun q hq => by
  rcases List.mem_or_eq_of_mem_set hq with h1 | rfl
  · exact h q h1
  · exact hr

/-- Good wheels with some rotors, at most three. -/
def GoodW3 (x : Whl) : Prop := 1 ≤ x.rotors.length ∧ x.rotors.length ≤ 3 ∧ (∀ r ∈ x.rotors, rotorB r = true) ∧ reflB x.refl = true
theorem GoodW.three {n : Nat} {x : Whl} (h : GoodW n x) (h1 : 1 ≤ n) (h3 : n ≤ 3) : GoodW3 x := ⟨by rw [h.1]; exact h1, by rw [h.1]; exact h3, h.2.1, h.2.2⟩
theorem rvs_get0 {rs : List Rot} {k : Nat} (h : k < rs.length) : (rvs rs)[k * 2]? = some (.string rs[k].wiring) := by rw [Nat.mul_comm]; exact rvs_at0 rs k h
theorem rvs_get1 {rs : List Rot} {k : Nat} (h : k < rs.length) : (rvs rs)[k * 2 + 1]? = some (.string rs[k].notches) := by rw [Nat.mul_comm]; exact rvs_at1 rs k h

set_option maxRecDepth 100000 in
set_option maxHeartbeats 1000000 in
theorem l6Any_any (R : Nat) (c : Nat) (w : World) (h : Rd w R c) (hc : c ≤ 7000000) :
    Calls Tryz.prog 188 #[.pointer (some ⟨R, 0, none⟩)] w (WhlP R GoodW3 (c + 150) w) := by
  have o0 := Own.new w [.slice none 0 0, .string ⟨#[]⟩] 34
  have hr0 := h.alloc (.cells #[.slice none 0 0, .string ⟨#[]⟩] 34)
  have hm0 := (Moved.refl R w).alloc (.cells #[.slice none 0 0, .string ⟨#[]⟩] 34)
  have hlt := h.lt
  go_enter Tryz.func188, Tryz.ntmps188
  go_wp2_with fail
  refine (pick_any R _ c _ hr0 (by omega) (by omega) (by omega)).mono ?_
  rintro e w1 ⟨v, rfl, hv0, hv1, _, hr1, hm1⟩
  obtain ⟨n0, rfl⟩ := Int.eq_ofNat_of_zero_le hv0
  have hn0 : n0 < 3 := by have := hv1 (by omega); omega
  have o1 := o0.grown hm1 (by simp; omega)
  have hmw1 := hm0.trans hm1
  have z1 : w.heap.size < w1.heap.size := o1.lt
  clear hv1 hv0 o0 hr0 hm0 hm1 h
  have hso := l6Some_any R (1 + n0) _ _ hr1 (by omega) (by omega)
  rw [show ((1 + n0 : Nat) : Int) = 1 + (n0 : Int) by omega] at hso
  go_wp2_with fail
  refine hso.mono ?_
  rintro e w2 ⟨x, v, hx, rfl, hown2, hr2, hm2⟩
  have hN := hx.1
  have HRB := Lib.hid hx.2.1
  have HRF := Lib.hid hx.2.2
  clear hx hso
  obtain ⟨va, cp, rfl, -, -, hva⟩ := OwR.val hown2
  obtain ⟨g, rfl, hg, -⟩ : ∃ g, va = some ⟨g, 0, none⟩ ∧ w1.heap.size ≤ g ∧ Own w2 g (rvs x.rotors) := by
    rcases hva with h0 | h0
    · omega
    · exact h0
  clear hva
  have hgl := (World.ownsRow.lt hown2 g rfl).2
  have o2 := o1.grown hm2 (by simp; omega)
  have hmw2 := hmw1.trans hm2
  obtain ⟨rs, s⟩ := x
  simp only at hN hown2 HRB HRF
  generalize hNN : rs.length = N at *
  have hN1 : 1 ≤ N := by omega
  have hN3 : N ≤ 3 := by omega
  have HNN := Lib.hid hNN
  clear hNN hN
  have p2 := Own.new w2 [.slice (some ⟨g, 0, none⟩) N cp, .string s] 34
  have o2' := o2.alloc (.cells [.slice (some ⟨g, 0, none⟩) N cp, .string s].toArray 34)
  have hr2' := hr2.alloc (.cells [.slice (some ⟨g, 0, none⟩) N cp, .string s].toArray 34)
  have hm2' := hmw2.alloc (.cells [.slice (some ⟨g, 0, none⟩) N cp, .string s].toArray 34)
  have hown2' := World.ownsRow.alloc hown2 (.cells [.slice (some ⟨g, 0, none⟩) N cp, .string s].toArray 34)
  go_wp2_with fail
  generalize (w2.alloc (.cells [.slice (some ⟨g, 0, none⟩) N cp, .string s].toArray 34)) = W2 at *
  generalize hB1 : w2.heap.size = B1 at *
  generalize hB0 : w.heap.size = B0 at *
  have HB0 := Lib.hid hB0
  have hown3 := World.ownsRow.mono hown2' (base' := B0 + 1) (by omega)
  have hgB : B0 + 1 ≤ g := by omega
  clear o2 hr2 hmw2 hB1 hB0 hown2 hown2' o1 hr1 hmw1 hm2 z1 hg
  go_loopw [4] (fun i wr => ∃ (k : Nat) (rs : List Rot), k ≤ N ∧ i = .int .i64 k ∧ rs.length = N ∧ (∀ r ∈ rs, rotorB r = true) ∧ Own wr B1 [.slice (some ⟨g, 0, none⟩) N cp, .string s] ∧ Own wr B0 [.slice none 0 0, .string ⟨#[]⟩] ∧ OwR wr (B0 + 1) 159 2 (.slice (some ⟨g, 0, none⟩) N cp) N (rvs rs) ∧ Rd wr R (c + 51 + 21 * k) ∧ Moved R w wr) (fun i _ => N - (intOf i).toNat)
  case atStart => exact ⟨0, rs, by omega, rfl, HNN.out, HRB.out, p2, o2', hown3, hr2'.more (by omega), hm2'⟩
  case round =>
    clear p2 o2' hr2' hm2' hown3 HRB HNN
    obtain ⟨k, rs, hk, rfl, hrl, hrb, p1, o1, hown, hr, hm⟩ := hrel
    have HRL := Lib.hid hrl
    have HRB := Lib.hid hrb
    clear hrl hrb
    have f0 := p1.at_ (i := 0) rfl
    have lt1 := p1.lt
    by_cases hlt2 : k < N
    · go_wp2_with fail
      refine (pick_any R _ _ _ hr (by omega) (by omega) (by omega)).mono ?_
      rintro e w3 ⟨v, rfl, hv0, hv1, _, hr3, hm3⟩
      have p3 := p1.grown hm3 (by simp; omega)
      have o3 := o1.grown hm3 (by simp; omega)
      have hown3 := OwR.moved hown hm3 (by omega)
      have hmw3 := hm.trans hm3
      clear hv1 p1 o1 hown hr hm hm3 f0
      by_cases e0 : v = 0
      · have t0 : (v == 0) = true := by simp [e0]
        clear e0
        have f0 := p3.at_ (i := 0) rfl
        have lt3 := p3.lt
        have q1 : (k : Int) < (N : Int) := by omega
        have q0 : (0 : Int) ≤ (k : Int) := by omega
        have hne1 : ¬ g = B1 := by omega
        have hne2 : ¬ B1 = g := by omega
        go_wp2_with fail
        go_region_held3 (fun w' => w'.cell? ⟨B1, 0, none⟩ = some (.slice (some ⟨g, 0, none⟩) N cp)) (first | go_keep | exact f4)
          (first | (go_at_call 196; refine (l5Any_any R _ _ hr3.drew (by omega)).mono ?_; rintro e w4 ⟨r, hrB, rfl, hr4, hm4⟩; have p4 := p3.drew.grown hm4 (by simp; omega); have f4 := p4.at_ (i := 0) rfl; have hown4 := OwR.moved (w := w3.drew) hown3 hm4 (by omega); have og4 := OwR.own hown4; obtain ⟨y0, c0⟩ := og4.some_ (i := k * 2) (by rw [len_rvs, HRL.out]; omega); obtain ⟨y1, c1⟩ := og4.some_ (i := k * 2 + 1) (by rw [len_rvs, HRL.out]; omega); have d0 := og4.free (k * 2) (by rw [len_rvs, HRL.out]; omega); have d1 := og4.free (k * 2 + 1) (by rw [len_rvs, HRL.out]; omega)))
        all_goals
         go_wp2
         go_roundw
         case rel =>
          have hs1 := (World.ownsRow.stored (World.ownsRow.stored hown4 (k * 2) (.string r.wiring)).1 (k * 2 + 1) (.string r.notches)).1
          rw [rvs_set2 r (by rw [HRL.out]; exact hlt2)] at hs1
          have o4 := o3.drew.grown hm4 (by simp; omega)
          refine ⟨k + 1, rs.set k r, by omega, by go_num, by rw [List.length_set, HRL.out], set_all HRB.out hrB, (p4.far (by simp; omega) _).far (by simp; omega) _, (o4.far (by simp; omega) _).far (by simp; omega) _, hs1, (((hr4.far (by simp; omega) _).far (by simp; omega) _)).more (by omega), ((hmw3.drew.trans hm4).set_ (.inr (by simp; rw [HB0.out]; omega)) _).set_ (.inr (by simp; rw [HB0.out]; omega)) _⟩
         case measure => simp [intOf]; omega
      · have t0 : (v == 0) = false := by simp [e0]
        clear e0
        go_wp2
        go_roundw
        case rel => exact ⟨k + 1, rs, by omega, by go_num, HRL.out, HRB.out, p3, o3, hown3, hr3.more (by omega), hmw3⟩
        case measure => simp [intOf]; omega
    · have hk' : k = N := by omega
      subst hk'
      have f1 := p1.at_ (i := 1) rfl
      have h0 := o1.at_ (i := 0) rfl
      have h1 := o1.at_ (i := 1) rfl
      have g0 := o1.free 0 (by simp)
      have g1 := o1.free 1 (by simp)
      have hne : ¬ B0 = B1 := by omega
      go_wp2
      refine bodyPost_ret (v := .agg #[.slice (some ⟨g, 0, none⟩) k cp, .string s]) (by simp [results, Tryz.results188, go_sem, h0, h1]) rfl ?_
      refine ⟨⟨rs, s⟩, _, ⟨by rw [HRL.out]; omega, by rw [HRL.out]; omega, HRB.out, HRF.out⟩, rfl, ?_, ((hr.far (by simp; omega) _).far (by simp; omega) _).more (by omega), (hm.set_ (.inr (by simp; rw [HB0.out]; omega)) _).set_ (.inr (by simp; rw [HB0.out]; omega)) _⟩
      have := World.ownsRow.mono (OwR.far (OwR.far hown (p := ⟨B0, 0, none⟩) (by simp) (.slice (some ⟨g, 0, none⟩) k cp)) (p := ⟨B0, 1, none⟩) (by simp) (.string s)) (base' := w.heap.size) (by rw [HB0.out]; omega)
      rw [show (rs.length : Nat) = k from HRL.out]
      exact this
end Go.Proofs.YtdmnkcmkpjmfaaaGreat
