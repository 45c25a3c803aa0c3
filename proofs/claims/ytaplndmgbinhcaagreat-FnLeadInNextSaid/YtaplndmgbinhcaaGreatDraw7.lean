/- Contracts of the functions that draw wheels and windows that sometimes do not fit, from an input. -/
import Derived.Test.YtaplndmgbinhcaaGreatDrawZ
import Derived.Test.YtaplndmgbinhcaaGreatSpecS
namespace Go.Proofs.YtaplndmgbinhcaaGreat
open Go.RowKit

theorem IsRow.alloc_ {k : IntKind} {w : World} {a : Option Addr} {len cap : Nat} {zs : List Int} (h : IsRow k w a len cap zs) (o : Obj) : IsRow k (w.alloc o) a len cap zs := by
  rcases h with h | ⟨x, h1, h2, h3, h4, h5, h6⟩
  · exact .inl h
  · exact .inr ⟨x, h1, h2, h3, h4, fun i hi => by
      have := h5 i hi
      rw [World.cell?_alloc_lt w o _ (World.block_lt_of_cell? w _ this)]
      exact this, h6⟩
theorem sl_1 (s : ByteArray) (h : 1 ≤ s.size) (W : World) : (Instr.slice 9 (.string s) (some (.int .i64 1)) none none).run Tryz.prog W = .ok (.string (s.extract 1 s.size)) W := sl_from s 1 h W
theorem Reads.setOff {w : World} {B : Nat} {a : Option Addr} {xs : List Value} (h : Reads w B a xs) {p : Addr} (hp : ∀ ad, a = some ad → ad.block ≠ p.block) (v : Value) : Reads (w.setCell p v) B a xs := by
  rcases h with h | ⟨b, off, rfl, hb, hc⟩
  · exact .inl h
  · refine .inr ⟨b, off, rfl, hb, fun i hi => ?_⟩
    rw [← hc i hi]
    exact World.cell?_of_block (Below.heap_setCell w p v b (hp _ rfl))
/-- What the turning of wheels and windows into wrong ones leaves. -/
def FitW (R g : Nat) (c : Nat) (w : World) (e : Ending) (w' : World) : Prop :=
  ∃ (x : Whl) (u : ByteArray) (a : Option Addr) (cap : Nat), SmallW x ∧ u.size ≤ 300 ∧ e = .returned (.tuple #[.agg #[.slice a x.rotors.length cap, .string x.refl], .string u]) ∧ Reads w' w'.heap.size a (rvs x.rotors) ∧ (∀ ad, a = some ad → ad.block = g ∨ w.heap.size ≤ ad.block) ∧ Rd w' R c ∧ Tu R g w w'

set_option maxRecDepth 100000 in
set_option maxHeartbeats 2000000 in
theorem l7Bad_any (R g cp base : Nat) (x : Whl) (u : ByteArray) (c : Nat) (w : World) (h : Rd w R c) (hc : c ≤ 6000000) (hx : GoodW3 x) (hown : OwR w base 70 2 (.slice (some ⟨g, 0, none⟩) x.rotors.length cp) x.rotors.length (rvs x.rotors)) (hRg : R < g) (hu1 : 1 ≤ u.size) (hu : u.size ≤ 200) :
    Calls Tryz.prog 30 #[.pointer (some ⟨R, 0, none⟩), .agg #[.slice (some ⟨g, 0, none⟩) x.rotors.length cp, .string x.refl], .string u] w (FitW R g (c + 30) w) := by
  have hsm := Lib.hid hx.small
  have hgl := (World.ownsRow.lt hown g rfl).2
  have o0 := (Own.new w [.slice (some ⟨g, 0, none⟩) x.rotors.length cp, .string x.refl] 25).alloc (.cells #[.slice none 0 0, .string ⟨#[]⟩] 25)
  have p0 := Own.new (w.alloc (.cells #[.slice (some ⟨g, 0, none⟩) x.rotors.length cp, .string x.refl] 25)) [.slice none 0 0, .string ⟨#[]⟩] 25
  have hr0 := (h.alloc (.cells #[.slice (some ⟨g, 0, none⟩) x.rotors.length cp, .string x.refl] 25)).alloc (.cells #[.slice none 0 0, .string ⟨#[]⟩] 25)
  have hm0 := ((Tu.refl R g w).alloc (.cells #[.slice (some ⟨g, 0, none⟩) x.rotors.length cp, .string x.refl] 25)).alloc (.cells #[.slice none 0 0, .string ⟨#[]⟩] 25)
  have hown0 := World.ownsRow.alloc (World.ownsRow.alloc hown (.cells #[.slice (some ⟨g, 0, none⟩) x.rotors.length cp, .string x.refl] 25)) (.cells #[.slice none 0 0, .string ⟨#[]⟩] 25)
  rw [World.size_alloc] at p0
  have hlt := h.lt
  go_enter Tryz.func30, Tryz.ntmps30
  go_wp2_with fail
  refine (pick_any R _ c _ hr0 (by omega) (by omega) (by omega)).mono ?_
  rintro e w1 ⟨v, rfl, hv0, hv1, _, hr1, hm1⟩
  have o1 := o0.grown hm1 (by simp; omega)
  have p1 := p0.grown hm1 (by simp; omega)
  have hmw1 := hm0.moved hm1
  have hown1 := OwR.movedR hown0 hm1 (by simp [Value.ownBlock]; omega)
  clear hv1 o0 p0 hr0 hm0 hm1 h hown0 hown
  generalize hB0 : w.heap.size = B0 at *
  have HB0 := Lib.hid hB0
  clear hB0
  have f0 := o1.at_ (i := 0) rfl
  have f1 := o1.at_ (i := 1) rfl
  have k0 := p1.at_ (i := 0) rfl
  have k1 := p1.at_ (i := 1) rfl
  have j0 := p1.free 0 (by simp)
  have j1 := p1.free 1 (by simp)
  have og1 := OwR.own hown1
  by_cases e0 : v = 0
  · have t0 : (v == 0) = true := by simp [e0]
    clear e0
    go_wp2_with fail
    refine (l6Bad_any R g cp base x _ _ hr1 (by omega) hx hown1 hRg).mono ?_
    rintro e w2 ⟨x2, a2, cap2, hx2, rfl, hrd2, hbl2, hr2, hm2⟩
    have l1 := p1.lt
    have p2 := p1.tu hm2 (by omega) (by omega)
    have hmw2 := hmw1.trans hm2
    have HX := Lib.hid hx2
    clear k0 k1 j0 j1 f0 f1 o1 p1 hr1 hmw1 hown1 og1 hx2 hm2
    have k0 := p2.at_ (i := 0) rfl
    have k1 := p2.at_ (i := 1) rfl
    have j0 := p2.free 0 (by simp)
    have j1 := p2.free 1 (by simp)
    go_wp2
    refine bodyPost_ret (v := .tuple #[.agg #[.slice a2 x2.rotors.length cap2, .string x2.refl], .string u]) (by simp [results, Tryz.results30, go_sem, k0, k1]) rfl ?_
    refine ⟨x2, u, a2, cap2, HX.out, by omega, rfl, ?_, ?_, (((hr2.far (by simp; omega) _).far (by simp; omega) _).more (by omega)), (hmw2.set_ (.inr (.inr (by simp; rw [HB0.out]; omega))) _).set_ (.inr (.inr (by simp; rw [HB0.out]; omega))) _⟩
    · refine Reads.more (B := w2.heap.size) ((Reads.setOff hrd2 (p := ⟨B0 + 1, 0, none⟩) (fun ad h => ?_) _).setOff (p := ⟨B0 + 1, 1, none⟩) (fun ad h => ?_) _) (by simp [World.setCell])
      · rcases hbl2 ad h with h | h
        · simp; omega
        · simp; omega
      · rcases hbl2 ad h with h | h
        · simp; omega
        · simp; omega
    · intro ad h
      rcases hbl2 ad h with h | h
      · exact .inl h
      · exact .inr (by rw [HB0.out]; omega)
  · have t0 : (v == 0) = false := by simp [e0]
    by_cases e1 : v = 1
    · have t1 : (v == 1) = true := by simp [e1]
      clear e0 e1
      go_wp2
      refine bodyPost_ret (v := .tuple #[.agg #[.slice (some ⟨g, 0, none⟩) x.rotors.length cp, .string x.refl], .string (u ++ ⟨#[97]⟩)]) (by simp [results, Tryz.results30, go_sem, k0, k1]) rfl ?_
      have hs2 := (og1.far (p := ⟨B0 + 1, 0, none⟩) (by simp; omega) (.slice (some ⟨g, 0, none⟩) x.rotors.length cp)).far (p := ⟨B0 + 1, 1, none⟩) (by simp; omega) (.string x.refl)
      refine ⟨x, u ++ ⟨#[97]⟩, some ⟨g, 0, none⟩, cp, hsm.out, ?_, rfl, Reads.of_own hs2 hs2.lt, (fun ad h => by cases h; exact .inl rfl), (((hr1.far (by simp; omega) _).far (by simp; omega) _).more (by omega)), (hmw1.set_ (.inr (.inr (by simp; rw [HB0.out]; omega))) _).set_ (.inr (.inr (by simp; rw [HB0.out]; omega))) _⟩
      rw [ByteArray.size_append]; have : (⟨#[97]⟩ : ByteArray).size = 1 := rfl; omega
    · have t1 : (v == 1) = false := by simp [e1]
      by_cases e2 : v = 2
      · have t2 : (v == 2) = true := by simp [e2]
        clear e0 e1 e2
        have s1 := sl_1 u hu1
        have z1 : (u.extract 1 u.size).size ≤ 200 := by simp only [ByteArray.size_extract]; omega
        generalize u.extract 1 u.size = ux at *
        have y1 : ¬ 9223372036854775807 < ux.size + 1 := by omega
        have hne : ¬ B0 = B0 + 1 := by omega
        go_wp2_with fail
        go_region_held3 (fun w' => w'.cell? ⟨B0, 0, none⟩ = some (.slice (some ⟨g, 0, none⟩) x.rotors.length cp) ∧ w'.cell? ⟨B0, 1, none⟩ = some (.string x.refl)) (go_keep) (fail)
        all_goals
          go_wp2
          refine bodyPost_ret (v := .tuple #[.agg #[.slice (some ⟨g, 0, none⟩) x.rotors.length cp, .string x.refl], .string (ux ++ ⟨#[107]⟩)]) (by simp [results, Tryz.results30, go_sem, k0, k1]) rfl ?_
          have hs2 := (og1.drew.far (p := ⟨B0 + 1, 0, none⟩) (by simp; omega) (.slice (some ⟨g, 0, none⟩) x.rotors.length cp)).far (p := ⟨B0 + 1, 1, none⟩) (by simp; omega) (.string x.refl)
          refine ⟨x, ux ++ ⟨#[107]⟩, some ⟨g, 0, none⟩, cp, hsm.out, ?_, rfl, Reads.of_own hs2 hs2.lt, (fun ad h => by cases h; exact .inl rfl), (((hr1.drew.far (by simp; omega) _).far (by simp; omega) _).more (by omega)), (hmw1.drew.set_ (.inr (.inr (by simp; rw [HB0.out]; omega))) _).set_ (.inr (.inr (by simp; rw [HB0.out]; omega))) _⟩
          rw [ByteArray.size_append]; have : (⟨#[107]⟩ : ByteArray).size = 1 := rfl; omega
      · have t2 : (v == 2) = false := by simp [e2]
        clear e0 e1 e2
        go_wp2
        refine bodyPost_ret (v := .tuple #[.agg #[.slice (some ⟨g, 0, none⟩) x.rotors.length cp, .string x.refl], .string u]) (by simp [results, Tryz.results30, go_sem, k0, k1]) rfl ?_
        have hs2 := (og1.far (p := ⟨B0 + 1, 0, none⟩) (by simp; omega) (.slice (some ⟨g, 0, none⟩) x.rotors.length cp)).far (p := ⟨B0 + 1, 1, none⟩) (by simp; omega) (.string x.refl)
        exact ⟨x, u, some ⟨g, 0, none⟩, cp, hsm.out, by omega, rfl, Reads.of_own hs2 hs2.lt, (fun ad h => by cases h; exact .inl rfl), (((hr1.far (by simp; omega) _).far (by simp; omega) _).more (by omega)), (hmw1.set_ (.inr (.inr (by simp; rw [HB0.out]; omega))) _).set_ (.inr (.inr (by simp; rw [HB0.out]; omega))) _⟩

theorem FitB.step {x : Whl} {v : ByteArray} (h : FitB x v) : FitB x (stepW x v) := ⟨h.one, h.three, h.rot, h.refl, by rw [size_stepW]; exact h.size, word_stepW h.word⟩
theorem FitB.stepN {x : Whl} : ∀ (n : Nat) {v : ByteArray}, FitB x v → FitB x (stepN x n v)
  | 0, _, h => h
  | n + 1, _, h => FitB.stepN n h.step
theorem GoodW3.fit {x : Whl} {u : ByteArray} (h : GoodW3 x) (hu : Wd x.rotors.length u) : FitB x u := ⟨h.1, h.2.1, h.2.2.1, h.2.2.2, hu.2, hu.1⟩
theorem l7Walk_any (a : Option Addr) (n c : Nat) (x : Whl) (v : ByteArray) (N : Nat) (w : World) (h : WhlAt w w.heap.size a n x) (hf : FitB x v) (hN : N ≤ 1000000) :
    Calls Tryz.prog 19 #[.agg #[.slice a n c, .string x.refl], .string v, .int .i64 (N : Int)] w fun e w' => e = .returned (.string (stepN x N v)) ∧ Below w.heap.size w w' := by
  have o0 := Own.new w [.slice a n c, .string x.refl] 25
  have hb0 := (Below.refl w.heap.size w).alloc (Nat.le_refl _) (.cells [.slice a n c, .string x.refl].toArray 25)
  go_enter Tryz.func19, Tryz.ntmps19
  go_wp2_with fail
  go_loopw [1, 2] (fun s i wr => ∃ j m : Nat, j + m = N ∧ i = .int .i64 j ∧ s = .string (stepN x m v) ∧ Own wr w.heap.size [.slice a n c, .string x.refl] ∧ Below w.heap.size w wr) (fun _ i _ => (intOf i).toNat)
  case atStart => exact ⟨N, 0, rfl, rfl, rfl, o0, hb0⟩
  case round =>
    clear o0 hb0
    obtain ⟨j, m, hjm, rfl, rfl, o1, hb⟩ := hrel
    have HJ := Lib.hid hjm
    have hj : j ≤ 1000000 := by omega
    clear hjm
    have c0 := o1.at_ (i := 0) rfl
    have c1 := o1.at_ (i := 1) rfl
    by_cases hlt : 0 < j
    · go_wp2_with fail
      refine (l7Step_any a n c x (stepN x m v) _ ((h.below hb (Nat.le_refl _)).more hb.size) (hf.stepN m)).mono ?_
      rintro e w1 ⟨rfl, hb1⟩
      have o2 := o1.below hb1 o1.lt
      go_wp2
      go_roundw
      case rel =>
        have := HJ.out
        exact ⟨j - 1, m + 1, by omega, by congr 1; omega, by rw [stepN_succ], o2, bt hb hb1⟩
      case measure => simp [intOf]; omega
    · go_wp2
      go_ret
      have := HJ.out
      exact ⟨ret_str (by rw [show m = N by omega]), hb⟩
end Go.Proofs.YtaplndmgbinhcaaGreat
