/- Contracts of the functions that draw wrong rotors, and wheels. -/
import Derived.Test.YtaplndmgbinhcaaGreatDrawU
namespace Go.Proofs.YtaplndmgbinhcaaGreat
open Go.RowKit

/-- A rotor whose strings have at most n bytes. -/
def RSz (n : Nat) (r : Rot) : Prop := r.wiring.size ≤ n ∧ r.notches.size ≤ n
set_option maxHeartbeats 1000000 in
theorem l5Bad_any (R : Nat) (x : Rot) (c : Nat) (w : World) (h : Rd w R c) (hc : c ≤ 8000000) (h1 : 1 ≤ x.wiring.size) (h2 : x.wiring.size ≤ 1000) (h3 : x.notches.size ≤ 1000) :
    Calls Tryz.prog 69 #[.pointer (some ⟨R, 0, none⟩), .agg #[.string x.wiring, .string x.notches]] w (RotP R (RSz 1001) (c + 5) w) := by
  have o0 := (Own.new w [.string x.wiring, .string x.notches] 70).alloc (.cells #[.string ⟨#[]⟩, .string ⟨#[]⟩] 70)
  have p0 := Own.new (w.alloc (.cells #[.string x.wiring, .string x.notches] 70)) [.string ⟨#[]⟩, .string ⟨#[]⟩] 70
  have hr0 := (h.alloc (.cells #[.string x.wiring, .string x.notches] 70)).alloc (.cells #[.string ⟨#[]⟩, .string ⟨#[]⟩] 70)
  have hm0 := ((Moved.refl R w).alloc (.cells #[.string x.wiring, .string x.notches] 70)).alloc (.cells #[.string ⟨#[]⟩, .string ⟨#[]⟩] 70)
  rw [World.size_alloc] at p0
  have hlt := h.lt
  go_enter Tryz.func69, Tryz.ntmps69
  go_wp2_with fail
  refine (pick_any R _ c _ hr0 (by omega) (by omega) (by omega)).mono ?_
  rintro e w1 ⟨v, rfl, hv0, hv1, _, hr1, hm1⟩
  have o1 := o0.grown hm1 (by simp; omega)
  have p1 := p0.grown hm1 (by simp; omega)
  have hmw1 := hm0.trans hm1
  clear hv1 o0 p0 hr0 hm0 hm1 h
  generalize hB0 : w.heap.size = B0 at *
  have HB0 := Lib.hid hB0
  clear hB0
  by_cases e0 : v = 0
  · have t0 : (v == 0) = true := by simp [e0]
    clear e0
    have hlt3 := hr1.lt
    go_wp2_with fail
    refine (of_any R _ _ _ [⟨#[98, 97]⟩, ⟨#[97, 97]⟩, ⟨#[107]⟩, ⟨#[97, 98, 99, 100]⟩, ⟨#[45]⟩] _ _ rfl (Own.new _ _ _) (by simp) (by simp; omega) (hr1.alloc _) (by omega) (by simp)).mono ?_
    rintro e w2 ⟨u, hu, rfl, hr2, hm2⟩
    have hus : u.size ≤ 4 := by
      simp only [List.mem_cons, List.not_mem_nil, or_false] at hu
      rcases hu with rfl | rfl | rfl | rfl | rfl <;> decide
    have o2 := (o1.alloc _).grown hm2 (by simp; omega)
    have p2 := (p1.alloc _).grown hm2 (by simp; omega)
    have hmw2 := (hmw1.alloc _).trans hm2
    clear hu o1 p1 hmw1 hr1 hm2
    have f0 := o2.at_ (i := 0) rfl
    have f1 := o2.at_ (i := 1) rfl
    have g1 := o2.free 1 (by simp)
    have o3 := o2.set_ (i := 1) (by simp) (.string u)
    have p3 := p2.far (p := ⟨B0, 1, none⟩) (by simp) (.string u)
    have hr3 := hr2.far (p := ⟨B0, 1, none⟩) (by simp; omega) (.string u)
    have hm3 := hmw2.set_ (p := ⟨B0, 1, none⟩) (.inr (by simp; rw [HB0.out]; omega)) (.string u)
    go_wp2_with fail
    clear f0 f1 g1 o2 p2 hr2 hmw2
    generalize w2.setCell ⟨B0, 1, none⟩ (.string u) = w3 at *
    refine (l2Bad_any R x.wiring _ _ hr3 (by omega) h1 h2).mono ?_
    rintro e w4 ⟨s, hs, rfl, hr4, hm4⟩
    have o4 := o3.grown hm4 (by simp; omega)
    have p4 := p3.grown hm4 (by simp; omega)
    have hmw4 := hm3.trans hm4
    clear o3 p3 hr3 hm3 hm4
    have f0 := o4.at_ (i := 0) rfl
    have f1 := o4.at_ (i := 1) rfl
    have g0 := o4.free 0 (by simp)
    have k0 := p4.at_ (i := 0) rfl
    have k1 := p4.at_ (i := 1) rfl
    have j0 := p4.free 0 (by simp)
    have j1 := p4.free 1 (by simp)
    go_wp2
    refine bodyPost_ret (v := .agg #[.string s, .string u]) (by simp [results, Tryz.results69, go_sem, k0, k1]) rfl ?_
    exact ⟨⟨s, u⟩, ⟨hs, by show u.size ≤ 1001; omega⟩, rfl, (((hr4.far (by simp; omega) _).far (by simp; omega) _).far (by simp; omega) _).more (by omega), ((hmw4.set_ (.inr (by simp; rw [HB0.out]; omega)) _).set_ (.inr (by simp; rw [HB0.out]; omega)) _).set_ (.inr (by simp; rw [HB0.out]; omega)) _⟩
  · have t0 : (v == 0) = false := by simp [e0]
    clear e0
    have f0 := o1.at_ (i := 0) rfl
    go_wp2_with fail
    refine (l2Bad_any R x.wiring _ _ hr1 (by omega) h1 h2).mono ?_
    rintro e w4 ⟨s, hs, rfl, hr4, hm4⟩
    have o4 := o1.grown hm4 (by simp; omega)
    have p4 := p1.grown hm4 (by simp; omega)
    have hmw4 := hmw1.trans hm4
    clear o1 p1 hr1 hmw1 hm4 f0
    have f0 := o4.at_ (i := 0) rfl
    have f1 := o4.at_ (i := 1) rfl
    have g0 := o4.free 0 (by simp)
    have k0 := p4.at_ (i := 0) rfl
    have k1 := p4.at_ (i := 1) rfl
    have j0 := p4.free 0 (by simp)
    have j1 := p4.free 1 (by simp)
    go_wp2
    refine bodyPost_ret (v := .agg #[.string s, .string x.notches]) (by simp [results, Tryz.results69, go_sem, k0, k1]) rfl ?_
    exact ⟨⟨s, x.notches⟩, ⟨hs, by show x.notches.size ≤ 1001; omega⟩, rfl, (((hr4.far (by simp; omega) _).far (by simp; omega) _).far (by simp; omega) _).more (by omega), ((hmw4.set_ (.inr (by simp; rw [HB0.out]; omega)) _).set_ (.inr (by simp; rw [HB0.out]; omega)) _).set_ (.inr (by simp; rw [HB0.out]; omega)) _⟩

section
variable {P : Program} {ops : Array Oper} {o : Oper} {a : Act} {w0 : World} {K : Act → World → Prop} {Q : Exit → Act → World → Prop} {E : Prop}
/-- 'x = append(x, u)' at a step of a region that draws. -/
theorem st_push (t e : TypeId) {s x : Operand} {z : Value} {sz bytes : Nat} (hinfo : (P.info? e).map (fun i => (i.zero, i.size, i.bytes)) = some (some z, sz, bytes)) (ht : P.underlying t = some (.slice e)) (hzs : z.cells.size = sz) (hsz : 0 < sz)
    {base n : Nat} {v : Value} {xs us : List Value} (hgd : o.guard = none) (ho : o.op = .call { callee := .builtin .append, args := #[s, x], argTypes := #[t, t] }) (hown : OwR w0 base e sz v n xs) (hb : base ≤ w0.heap.size) (hus : us.length = sz) (h1 : ∀ u ∈ us, u.oneCell' = true) (hn : n ≤ 1048576) (hby : bytes ≤ 1000)
    (hs : a.eval s = v) (hx : a.eval x = .slice (some ⟨w0.heap.size, 0, none⟩) 1 1)
    (h : ∀ g cap w', OwR w' base e sz (.slice (some ⟨g, 0, none⟩) (n + 1) cap) (n + 1) (xs ++ us) → Below base w0 w' → w0.heap.size < w'.heap.size → K (a.put o.dst (.slice (some ⟨g, 0, none⟩) (n + 1) cap)) w') :
    if Region.wanted o (yielded ops a.tmps) = true then Oper.wp P o a (w0.alloc (.cells us.toArray e)) K Q else E := by
  obtain ⟨i0, hi0, hz0, hz1, hz2⟩ := info_parts hinfo
  refine step_append_lies _ hgd s x t ho base e i0 z sz bytes ht hi0 hz0 hz1 hz2 hzs hsz v n xs hs (World.ownsRow.alloc hown _) ⟨w0.heap.size, 0, none⟩ 1 1 us hx (by omega) ?_ h1 (by omega) (by unfold maxLen; omega) ?_ (by simp; omega) (w0.heap.size + 1) (by simp) ?_
  · intro j u hu
    rw [add_none, Nat.zero_add, World.cell?_alloc_mark]; simpa using hu
  · have : (n + 1) * bytes ≤ (1048576 + 1) * 1000 := Nat.mul_le_mul (by omega) hby
    omega
  · intro g cap w' ho hg hat hlt
    refine h g cap w' ho ?_ ?_
    · refine ((Below.refl base w0).alloc hb _).grown hg (by simp; omega) (fun k hk => ?_)
      exact (World.ownsRow.lt hown k hk).1
    · have := hg.size; simp at this; omega
end
end Go.Proofs.YtaplndmgbinhcaaGreat
