/- Several of my texts in one: DrawBs. -/
import Derived.Test.YtdmnkcmkpjmfaaaGreatM31
import Derived.Test.YtdmnkcmkpjmfaaaGreatM14
/- What BombeStops is drawn. -/
namespace Go.Proofs.YtdmnkcmkpjmfaaaGreat
open Go.RowKit
attribute [local go_sem] Oper.semAt_some

/-- A word of up to 300 letters is drawn. -/
theorem l1SomeZ_any (R : Nat) (n : Nat) (c : Nat) (w : World) (h : Rd w R c) (hc : c ≤ 10000000) (hn : n ≤ 300) :
    Calls Tryz.prog 99 #[.pointer (some ⟨R, 0, none⟩), .int .i64 (n : Int)] w (StrP R (fun s => s.size = n) (c + n) w) := by
  go_enter Tryz.func99, Tryz.ntmps99
  go_wp2
  go_loopw [5, 6] (fun o i wr => ∃ (k : Nat) (s : ByteArray), k ≤ n ∧ i = .int .i64 k ∧ o = .string s ∧ s.size = k ∧ Rd wr R (c + k) ∧ Moved R w wr) (fun _ i _ => n - (intOf i).toNat)
  case atStart => exact ⟨0, ⟨#[]⟩, by omega, rfl, rfl, rfl, h, Moved.refl _ _⟩
  case round =>
    obtain ⟨k, s, hk, rfl, rfl, hs, hr, hm⟩ := hrel
    have HS := Lib.hid hs
    have hsz : s.size ≤ 300 := by omega
    clear hs
    by_cases hlt : k < n
    · go_wp2_with fail
      refine (pick_any R _ (c + k) _ hr (by omega) (by omega) (by omega)).mono ?_
      rintro e w2 ⟨v, rfl, hv0, hv1, _, hr2, hm2⟩
      clear hv1
      have hs1 : (S [letr v]).size ≤ 1 := by rw [size_S]; simp
      go_wp2_with (go_at_call 95; ((with_reducible refine (l1Letter_any _ _).mono ?_); rintro e w3 ⟨rfl, hb3⟩))
      go_roundw
      case rel => exact ⟨k + 1, s ++ S [letr v], by omega, by go_num, rfl, by rw [ByteArray.size_append, size_S, HS.out]; rfl, hr2.below hb3 hr2.lt, (hm.trans hm2).below hb3⟩
      case measure => simp [intOf]; omega
    · have hk' : k = n := by omega
      subst hk'
      go_wp2
      go_ret
      exact ⟨s, HS.out, rfl, hr, hm⟩
section
variable {P : Program} {ops : Array Oper} {Q : Exit → Act → World → Prop} {md : Region.Mode} {S : World → Prop} {kp : Nat → Bool} {fuel : Nat} {listed : Array Bool} {a : Act} {w : World}
/-- Two operations may come up. -/
theorem kr_or (i j : Nat) {o o2 : Oper} (hr : Region.ready md ops listed = [i, j]) (hi : ops[i]? = some o) (hw : Region.wanted o (yielded ops a.tmps) = true) (hj : ops[j]? = some o2) (hw2 : Region.wanted o2 (yielded ops a.tmps) = true)
    (h : o.wp P a w (fun a' w' => (kp i = true → S w') ∧ wpAnyK P md ops Q S kp fuel (listed.setIfInBounds i true) a' w') Q)
    (h2 : o2.wp P a w (fun a' w' => (kp j = true → S w') ∧ wpAnyK P md ops Q S kp fuel (listed.setIfInBounds j true) a' w') Q) : wpAnyK P md ops Q S kp (fuel + 1) listed a w := by
  refine ⟨fun h0 => (by rw [hr] at h0; cases h0), fun k hk => ?_⟩
  rw [hr] at hk
  simp only [List.mem_cons, List.not_mem_nil, or_false] at hk
  rcases hk with rfl | rfl
  · unfold wpOp
    simp only [hi, hw, if_true]
    exact .inl h
  · unfold wpOp
    simp only [hj, hw2, if_true]
    exact .inl h2
theorem wp_value {o : Oper} {v : Value} {w' : World} {K : Act → World → Prop} (he : (execOp a.eval o).run P w = .ok (.value v) w') (h : K (a.put o.dst v) w') : o.wp P a w K Q := by
  simp only [Oper.wp, he, Oper.upon]
  exact h
theorem kr_pushs {o : Oper} {w0 : World} {K : Act → World → Prop} (t e : TypeId) {s x : Operand} {z : Value} {sz bytes : Nat} (hinfo : (P.info? e).map (fun i => (i.zero, i.size, i.bytes)) = some (some z, sz, bytes)) (ht : P.underlying t = some (.slice e)) (hzs : z.cells.size = sz) (hsz : 0 < sz)
    {base n g0 cap0 m c : Nat} {ad : Addr} {xs us : List Value} (ho : o.op = .call { callee := .builtin .append, args := #[s, x], argTypes := #[t, t] }) (hown : OwR w0 base e sz (.slice (some ⟨g0, 0, none⟩) n cap0) n xs) (hb : base ≤ w0.heap.size) (hus : us.length = m * sz) (hnews : ∀ j u, us[j]? = some u → w0.cell? (ad.add j) = some u) (h1 : ∀ u ∈ us, u.oneCell' = true) (hm : 0 < m) (hn : n + m ≤ 1048576) (hby : bytes ≤ 1000)
    (hs : a.eval s = .slice (some ⟨g0, 0, none⟩) n cap0) (hx : a.eval x = .slice (some ad) m c)
    (h : ∀ g cap w', OwR w' base e sz (.slice (some ⟨g, 0, none⟩) (n + m) cap) (n + m) (xs ++ us) → Below base w0 w' → (g = g0 ∨ g = w0.heap.size) → (∀ b j u, b < w0.heap.size → (b = g0 → j < xs.length) → w0.cell? ⟨b, j, none⟩ = some u → w'.cell? ⟨b, j, none⟩ = some u) → K (a.put o.dst (.slice (some ⟨g, 0, none⟩) (n + m) cap)) w') :
    o.wp P a w0 K Q := by
  obtain ⟨i0, hi0, hz0, hz1, hz2⟩ := info_parts hinfo
  have hbytes : (n + m) * bytes ≤ 140737488355328 := by
    have : (n + m) * bytes ≤ 1048576 * 1000 := Nat.mul_le_mul (by omega) hby
    omega
  obtain ⟨g, cap, w', hr, ho2, hg, hat, hlt⟩ := run_append_lies (P := P) w0 t o.type base e i0 z sz bytes ht hi0 hz0 hz1 hz2 hzs hsz _ n xs hown ad m c us hus hnews h1 hm (by unfold maxLen; omega) hbytes hb _ rfl
  have hx0 : OwR w0 base e sz (.slice (some ⟨g0, 0, none⟩) n cap0) n xs := hown
  have hown0 := OwR.own hx0
  have hkeep : g = g0 ∨ w'.heap[g0]? = w0.heap[g0]? := by
    rcases hown.2 with ⟨h0, _⟩ | ⟨g', cap', cur, hv, hgb, hh, hn', hm', hs', ht'⟩
    · cases h0
    · cases hv
      by_cases hroom : n + m ≤ cap0
      · left
        rcases hat with h2 | h2
        · simpa [Value.ownBlock] using h2.symm
        · have hfit : n * i0.size + us.length ≤ cur.size := by rw [hus, hs', hz1, ← Nat.add_mul]; exact Nat.mul_le_mul_right _ hroom
          have hr2 := run_append_room (P := P) w0 t o.type e i0 ht hi0 g0 n cap0 cur hh ad m c us (by rw [hz1]; exact hus) hnews h1 hroom hfit
          rw [hr2] at hr
          cases hr; rfl
      · right
        have holds : ∀ j u, xs[j]? = some u → w0.cell? ((⟨g0, 0, none⟩ : Addr).add j) = some u := fun j u hu => by
          rw [add_none, Nat.zero_add, hown0.cell j (List.getElem?_eq_some_iff.1 hu).1]; exact hu
        have hr2 := run_append_grow (P := P) w0 t o.type e i0 z ht hi0 hz0 ⟨g0, 0, none⟩ n cap0 xs (by rw [hz1]; exact hown.1) holds ad m c us (by rw [hz1]; exact hus) hnews (by omega) (by omega) (growslice_fits (by omega) (by rw [hz2]; exact hbytes))
        rw [hr2] at hr
        cases hr
        exact Below.heap_alloc w0.drew _ g0 hown0.lt
  have hbel : Below base w0 w' := (Below.refl base w0).grown hg hb (fun k hk => (World.ownsRow.lt hown k hk).1)
  unfold Oper.wp execOp
  simp only [ho, resolve, invoke, builtin, Sem.run_bind, Sem.run_pure, Result.andThen_ok, List.map_toArray, List.map_cons, List.map_nil, hs, hx, hr]
  refine h g cap w' ho2 hbel (by rcases hat with h2 | h2; exact .inl (by simpa [Value.ownBlock] using h2.symm); exact .inr h2) fun b j u hb2 hj hu => ?_
  by_cases hbg : b = g0
  · subst hbg
    have hj2 := hj rfl
    clear hj
    rcases hkeep with rfl | hk
    · have ho3 : OwR w' base e sz (.slice (some ⟨g, 0, none⟩) (n + m) cap) (n + m) (xs ++ us) := ho2
      rw [hown0.cell j hj2] at hu
      rw [(OwR.own ho3).cell j (by rw [List.length_append]; omega), List.getElem?_append_left hj2]
      exact hu
    · rw [World.cell?_of_block (w := w0) hk]
      exact hu
  · rw [World.cell?_of_block (w := w0) (hg.block b hb2 (fun e => hbg (by simpa [Value.ownBlock] using e)))]
    exact hu
end
/-- What BombeStops is drawn. -/
def DrawnB (w : World) (e : Ending) (w' : World) : Prop :=
  ∃ (m : Mach) (vs : List ByteArray) (ms : List Lnk) (a am : Option Addr) (cap g gc cm : Nat), DrawnM w m a w' ∧ (∀ x ∈ vs, x.size ≤ 300) ∧ vs.length ≤ 13 ∧ SmT ms ∧ (ms.length ≤ 24 ∧ ms.length ≤ cm) ∧ Reads w' w'.heap.size am (lks ms) ∧ Reads w' w'.heap.size (some ⟨g, 0, none⟩) (sv vs) ∧
    e = .returned (.tuple #[.agg #[.slice a m.wheels.rotors.length cap, .string m.wheels.refl, .string m.rings, .string m.plugs], .slice (some ⟨g, 0, none⟩) vs.length gc, .slice am ms.length cm])
set_option maxRecDepth 100000 in
set_option maxHeartbeats 20000000 in
theorem DrawBombeStops_any (a0 : Option Addr) (len cap : Nat) (zs : List Int) (w : World) (h : IsRow .u8 w a0 len cap zs) (hl : len ≤ 1048576) :
    Calls Tryz.prog 65 #[.slice a0 len cap] w (DrawnB w) := by
  have o0 := Own.new w [.slice none 0 0, .string ⟨#[]⟩, .string ⟨#[]⟩, .string ⟨#[]⟩] 36
  have hb0 := (Below.refl w.heap.size w).alloc (Nat.le_refl _) (.cells #[.slice none 0 0, .string ⟨#[]⟩, .string ⟨#[]⟩, .string ⟨#[]⟩] 36)
  go_enter Tryz.func65, Tryz.ntmps65
  go_wp2_with fail
  refine (l21Open_any a0 len cap zs _ (h.alloc_ _) hl).mono ?_
  rintro e w1 ⟨rfl, hr1, hb1⟩
  have o1 := o0.below hb1 o0.lt
  have hbw1 := bt hb0 hb1
  rw [World.size_alloc] at hr1
  clear o0 hb0 hb1 h
  go_wp2_with fail
  generalize hB0 : w.heap.size = B0 at *
  have HB0 := Lib.hid hB0
  clear hB0
  refine (l13Open_any (B0 + 1) 0 _ hr1 (by omega)).mono ?_
  rintro e w2 ⟨m6, v, ms, a6, am, cap6, cm, hsm, hv, hst, hl24, rfl, hrd, hrm, hbl, hbm, hr2, hm2⟩
  have l1 := hr1.lt
  have o2 := o1.grown hm2 (by simp)
  have hbw2 : Below B0 w w2 := hbw1.trans (hm2.toBelow (by omega) (by omega))
  have HBL : Hid (∀ ad, a6 = some ad → B0 + 1 < ad.block) := Lib.hid (fun ad e => by have := hbl ad e; omega)
  have HBM : Hid (∀ ad, am = some ad → B0 + 1 < ad.block) := Lib.hid (fun ad e => by have := hbm ad e; omega)
  have HSM := Lib.hid hsm
  have HST := Lib.hid hst
  have HL24 := Lib.hid hl24
  have hz12 := hm2.size
  clear o1 hr1 hbw1 hm2 hbl hbm hsm hst hl24
  have l2 := o2.lt
  have hb22 : Below w2.heap.size w2 ((w2.alloc (.cells [.slice a6 m6.wheels.rotors.length cap6, .string m6.wheels.refl, .string m6.rings, .string m6.plugs].toArray 36)).alloc (.cells #[] 9)) := ((Below.refl _ _).alloc (Nat.le_refl _) _).alloc (by simp) _
  have p2 := (Own.new w2 [.slice a6 m6.wheels.rotors.length cap6, .string m6.wheels.refl, .string m6.rings, .string m6.plugs] 36).alloc (.cells #[] 9)
  have o3 := (o2.alloc (.cells [.slice a6 m6.wheels.rotors.length cap6, .string m6.wheels.refl, .string m6.rings, .string m6.plugs].toArray 36)).alloc (.cells #[] 9)
  have hr3 := (hr2.alloc (.cells [.slice a6 m6.wheels.rotors.length cap6, .string m6.wheels.refl, .string m6.rings, .string m6.plugs].toArray 36)).alloc (.cells #[] 9)
  have hrd3 := hrd.below hb22 (Nat.le_refl _)
  have hrm3 := hrm.below hb22 (Nat.le_refl _)
  have hbw3 := (hbw2.alloc (by omega) (.cells [.slice a6 m6.wheels.rotors.length cap6, .string m6.wheels.refl, .string m6.rings, .string m6.plugs].toArray 36)).alloc (by simp; omega) (.cells #[] 9)
  have z3 := World.ownsRow_lit (base := w2.heap.size + 1) (e := 9) (size := 1) (w2.alloc (.cells [.slice a6 m6.wheels.rotors.length cap6, .string m6.wheels.refl, .string m6.rings, .string m6.plugs].toArray 36)) #[] 0 (by simp) (by unfold maxLen; omega) (by simp)
  rw [World.size_alloc] at z3
  have hz3 : ((w2.alloc (.cells [.slice a6 m6.wheels.rotors.length cap6, .string m6.wheels.refl, .string m6.rings, .string m6.plugs].toArray 36)).alloc (.cells #[] 9)).heap.size = w2.heap.size + 1 + 1 := by simp
  have HZ3 := Lib.hid hz3
  clear o2 hr2 hrd hrm hbw2 hb22 hz3
  go_wp2_with fail
  generalize ((w2.alloc (.cells [.slice a6 m6.wheels.rotors.length cap6, .string m6.wheels.refl, .string m6.rings, .string m6.plugs].toArray 36)).alloc (.cells #[] 9)) = W2 at *
  generalize w2.heap.size = B2 at *
  have q3 : OwR W2 (B2 + 1) 9 1 (.slice (some ⟨B2 + 1, 0, none⟩) 0 0) 0 (sv []) := z3
  clear z3
  go_loopw [9, 10] (fun u i wr => ∃ (k : Nat) (gs : List ByteArray) (g c : Nat), k ≤ 3 ∧ i = .int .i64 k ∧ gs.length = k ∧ u = .slice (some ⟨g, 0, none⟩) k c ∧ (∀ x ∈ gs, x.size ≤ 300) ∧ OwR wr (B2 + 1) 9 1 (.slice (some ⟨g, 0, none⟩) k c) k (sv gs) ∧ Own wr B0 [.slice none 0 0, .string ⟨#[]⟩, .string ⟨#[]⟩, .string ⟨#[]⟩] ∧ Own wr B2 [.slice a6 m6.wheels.rotors.length cap6, .string m6.wheels.refl, .string m6.rings, .string m6.plugs] ∧ Reads wr B2 a6 (rvs m6.wheels.rotors) ∧ Reads wr B2 am (lks ms) ∧ Rd wr (B0 + 1) (2000 + 300 * k) ∧ Below B0 w wr ∧ B2 + 2 ≤ wr.heap.size) (fun _ i _ => 3 - (intOf i).toNat)
  case atStart => exact ⟨0, [], B2 + 1, 0, by omega, rfl, rfl, rfl, by simp, q3, o3, p2, hrd3, hrm3, hr3.more (by omega), hbw3, by have := HZ3.out; omega⟩
  case round =>
    clear q3 o3 p2 hrd3 hrm3 hr3 hbw3 HZ3
    obtain ⟨k, gs, g, c, hk, rfl, hgl, rfl, hall, hown, o3, p3, hrd3, hrm3, hr3, hbw3, hz3⟩ := hrel
    have HA := Lib.hid hall
    have HL := Lib.hid hgl
    clear hall hgl
    by_cases hk3 : k < 3
    · go_wp2_with fail
      refine (l1SomeZ_any (B0 + 1) v.size _ _ hr3 (by omega) hv).mono ?_
      rintro e w4 ⟨y, hy, rfl, hr4, hm4⟩
      have p4 := p3.grown hm4 (by simp; omega)
      have o4 := o3.grown hm4 (by simp)
      have hrd4 := hrd3.mvB (by omega) hm4 (fun ad e => by have := HBL.out ad e; omega)
      have hrm4 := hrm3.mvB (by omega) hm4 (fun ad e => by have := HBM.out ad e; omega)
      have hbw4 := hbw3.trans (hm4.toBelow (by omega) (by omega))
      have own4 := OwR.moved hown hm4 (by omega)
      have hz4 := hm4.size
      clear p3 o3 hr3 hrd3 hrm3 hbw3 hm4 hown
      have HY := Lib.hid hy
      clear hy
      go_wp2_with (at_builtin; ((with_reducible refine wl_push 30 9 inf_str Tryz.underlying30 rfl (by omega) own4 (by omega) rfl (by simp [Value.oneCell']) (by omega) (by omega) rfl rfl ?_); intro g5 cap5 w5 o5 b5 s5))
      go_roundw
      case rel =>
        refine ⟨k + 1, gs ++ [y], g5, cap5, by omega, by go_num, by rw [List.length_append, HL.out]; rfl, rfl, ?_, ?_, o4.below b5 (by omega), p4.below b5 (by omega), hrd4.below b5 (by omega), hrm4.below b5 (by omega), (hr4.below b5 (by omega)).more (by omega), hbw4.trans (b5.mono (by omega)), by omega⟩
        · intro x hx
          rcases List.mem_append.1 hx with h1 | h1
          · exact HA.out x h1
          · rw [List.mem_singleton.1 h1]
            have := HY.out
            omega
        · rw [sv_append]; exact o5
      case measure => simp [intOf]; omega
    · have hk' : k = 3 := by omega
      subst hk'
      go_wp2_with fail
      refine (pick_any (B0 + 1) _ _ _ hr3 (by omega) (by omega) (by omega)).mono ?_
      rintro e w4 ⟨x, rfl, hx0, hx1, _, hr4, hm4⟩
      have p4 := p3.grown hm4 (by simp; omega)
      have o4 := o3.grown hm4 (by simp)
      have hrd4 := hrd3.mvB (by omega) hm4 (fun ad e => by have := HBL.out ad e; omega)
      have hrm4 := hrm3.mvB (by omega) hm4 (fun ad e => by have := HBM.out ad e; omega)
      have hbw4 := hbw3.trans (hm4.toBelow (by omega) (by omega))
      have own4 := OwR.moved hown hm4 (by omega)
      have hz4 := hm4.size
      have hx2 := hx1 (by omega)
      obtain ⟨j, rfl⟩ := Int.eq_ofNat_of_zero_le hx0
      have hj3 : j < 3 := by omega
      have q0 : (0 : Int) ≤ (j : Int) := by omega
      have q1 : (j : Int) < 3 := by omega
      have hgE : B2 + 1 ≤ g := (World.ownsRow.lt own4 g rfl).1
      have hgl := (World.ownsRow.lt own4 g rfl).2
      obtain ⟨st1, st2⟩ := World.ownsRow.stored own4 j (.string v)
      obtain ⟨y0, c0⟩ : ∃ y0, w4.cell? ⟨g, j, none⟩ = some y0 := ⟨.string (gs[j]'(by rw [HL.out]; exact hj3)), by
        rw [World.ownsRow.cellAt own4 j (by omega), sv_at (by rw [HL.out]; exact hj3)]⟩
      have g0 := World.ownsRow.frozenAt own4 j
      have hsv : (sv gs).set j (.string v) = sv (gs.set j v) := by simp [sv, List.map_set]
      rw [hsv] at st1
      have HA2 : Hid (∀ x ∈ gs.set j v, x.size ≤ 300) := Lib.hid (fun x hx => by
        rcases List.mem_or_eq_of_mem_set hx with h | h
        · exact HA.out x h
        · rw [h]; exact hv)
      have HL2 : Hid ((gs.set j v).length = 3) := Lib.hid (by rw [List.length_set, HL.out])
      have hr5 := hr4.far (p := ⟨g, j, none⟩) (by simp; omega) (.string v)
      have p5 := p4.far (p := ⟨g, j, none⟩) (by simp; omega) (.string v)
      have o5 := o4.far (p := ⟨g, j, none⟩) (by simp; omega) (.string v)
      have hrd5 := hrd4.setB (p := ⟨g, j, none⟩) (by simp; omega) (.string v)
      have hrm5 := hrm4.setB (p := ⟨g, j, none⟩) (by simp; omega) (.string v)
      have hbw5 := hbw4.setCell (p := ⟨g, j, none⟩) (by simp; omega) (.string v)
      have hz5 : (w4.setCell ⟨g, j, none⟩ (.string v)).heap.size = w4.heap.size := by simp [World.setCell]
      clear p3 o3 hr3 hrd3 hrm3 hbw3 hm4 hown hx0 hx1 hx2 st2 hsv own4 p4 o4 hr4 hrd4 hrm4 hbw4 HA HL
      go_wp2_with fail
      generalize gs.set j v = ls at *
      generalize w4.setCell ⟨g, j, none⟩ (.string v) = w5 at *
      clear c0 g0 q0 q1
      refine (pick_any (B0 + 1) _ _ _ hr5 (by omega) (by omega) (by omega)).mono ?_
      rintro e w6 ⟨y, rfl, hy0, hy1, _, hr6, hm6⟩
      have p6 := p5.grown hm6 (by simp; omega)
      have o6 := o5.grown hm6 (by simp)
      have hrd6 := hrd5.mvB (by omega) hm6 (fun ad e => by have := HBL.out ad e; omega)
      have hrm6 := hrm5.mvB (by omega) hm6 (fun ad e => by have := HBM.out ad e; omega)
      have hbw6 := hbw5.trans (hm6.toBelow (by omega) (by omega))
      have own6 := OwR.moved st1 hm6 (by omega)
      have hz6 := hm6.size
      clear p5 o5 hr5 hrd5 hrm5 hbw5 hm6 st1 hy0 hy1 hr6
      have HRD := Lib.hid hrd6
      have HRM := Lib.hid hrm6
      clear hrd6 hrm6
      by_cases e0 : y = 0
      · have t0 : (y == 0) = true := by simp [e0]
        clear e0
        go_wp2_with fail
        have own6d : OwR w6.drew (B2 + 1) 9 1 (.slice (some ⟨g, 0, none⟩) 3 c) 3 (sv ls) := own6
        have hbd : Below w6.heap.size w6 w6.drew := (Below.refl _ _).drew
        have l6 := p6.lt
        have lg6 := (World.ownsRow.lt own6 g rfl).1
        refine wp_onlyN ?_
        refine wp_region_any (by kernel_rfl) ?_
        refine wpAny_of_K (S := fun _ => True) (kp := fun _ => true) _ _ _ _ ?_
        have hS : (fun _ : World => True) w6.drew := trivial
        refine kr_take 1 41 (v := .slice (some ⟨g, 0, none⟩) 3 c) rfl (by kernel_rfl) (by kernel_rfl) (by kernel_rfl) (by kernel_rfl) (fun _ _ _ h => by cases h.1) rfl hS (Or.inl ⟨by rfl, fun _ _ => rfl⟩) ?_; simp only [Act.put, List.setIfInBounds_toArray, List.set_cons_succ, List.set_cons_zero]
        refine kr_take 4 44 (v := .slice am ms.length cm) rfl (by kernel_rfl) (by kernel_rfl) (by kernel_rfl) (by kernel_rfl) (fun _ _ _ h => by cases h.1) rfl hS (Or.inl ⟨by rfl, fun _ _ => rfl⟩) ?_; simp only [Act.put, List.setIfInBounds_toArray, List.set_cons_succ, List.set_cons_zero]
        refine wpAnyK_of_true _ _ _ _ ?_
        refine wpAny_of_K (S := fun w' => w'.rangeAt B2 0 [.slice a6 m6.wheels.rotors.length cap6, .string m6.wheels.refl, .string m6.rings, .string m6.plugs]) (kp := fun i => decide (i < 5)) _ _ _ _ ?_
        have hS : w6.drew.rangeAt B2 0 [.slice a6 m6.wheels.rotors.length cap6, .string m6.wheels.refl, .string m6.rings, .string m6.plugs] := p6.cells.range
        refine kr_take 0 40 (v := .agg #[.slice a6 m6.wheels.rotors.length cap6, .string m6.wheels.refl, .string m6.rings, .string m6.plugs]) rfl (by kernel_rfl) (by kernel_rfl) (by kernel_rfl) (by kernel_rfl) (fun _ _ _ h => by cases h.1) rfl hS (yieldsIf_load_mid (by rfl) _ _ rfl _ _ rfl _ _ (fun _ h => h) Tryz.underlying36 rfl (by kernel_rfl)) ?_; simp only [Act.put, List.setIfInBounds_toArray, List.set_cons_succ, List.set_cons_zero]
        have hba : Below w6.heap.size w6 (w6.drew.alloc (.cells #[.string ⟨#[97, 98, 99, 100]⟩] 9)) := hbd.alloc (Nat.le_refl _) _
        refine kr_value 2 42 (v := .slice (some ⟨w6.heap.size, 0, none⟩) 1 1) (w' := w6.drew.alloc (.cells #[.string ⟨#[97, 98, 99, 100]⟩] 9)) (by kernel_rfl) rfl (by rfl) rfl (by simp [go_sem]) ⟨(p6.below hba l6).cells.range, ?_⟩
        simp only [Act.put, List.setIfInBounds_toArray, List.set_cons_succ, List.set_cons_zero]
        refine kr_one 3 (by kernel_rfl) rfl (by rfl) ?_
        refine kr_pushG 30 9 inf_str Tryz.underlying30 rfl (by omega) rfl rfl own6d (show B2 + 1 ≤ w6.drew.heap.size from l6) (us := [.string ⟨#[97, 98, 99, 100]⟩]) rfl (by intro u hu; rw [List.mem_singleton.1 hu]; rfl) (by omega) (by omega) rfl rfl ?_
        intro g5 cap5 w5 o5 hg5 hat5 hz5 hb5
        have hzd : w6.drew.heap.size = w6.heap.size := rfl
        rw [hzd] at hat5 hz5
        have hbt : Below (B2 + 1) w6 w5 := (hbd.mono (by omega)).trans hb5
        have hg5l := (World.ownsRow.lt o5 g5 rfl).1
        have oF := o6.below hbt (by omega)
        have rdF := HRD.out.below hbt (by omega)
        have rmF := HRM.out.below hbt (by omega)
        have bwF := hbw6.trans (hbt.mono (by omega))
        refine ⟨fun _ => (p6.below hbt (by omega)).cells.range, ?_⟩
        simp only [Act.put, List.setIfInBounds_toArray]
        have c0 := oF.at_ (i := 0) rfl
        have c1 := oF.at_ (i := 1) rfl
        have c2 := oF.at_ (i := 2) rfl
        have c3 := oF.at_ (i := 3) rfl
        have b0 := oF.free 0 (by simp)
        have b1 := oF.free 1 (by simp)
        have b2 := oF.free 2 (by simp)
        have b3 := oF.free 3 (by simp)
        clear o6 hbw6 own6 own6d p6 hba hbd hg5 hat5 hb5 hS
        refine kr_drop 5 rfl (by kernel_rfl) (by kernel_rfl) ?_
        simp only [List.drop_succ_cons, List.drop_zero]
        go_wp2_with fail
        refine onlyN_mk ?_
        go_wp2_with fail
        
        have oz := oF.set4 (.slice a6 m6.wheels.rotors.length cap6) (.string m6.wheels.refl) (.string m6.rings) (.string m6.plugs)
        have k0 := oz.at_ (i := 0) rfl
        have k1 := oz.at_ (i := 1) rfl
        have k2 := oz.at_ (i := 2) rfl
        have k3 := oz.at_ (i := 3) rfl
        refine bodyPost_ret (v := .tuple #[.agg #[.slice a6 m6.wheels.rotors.length cap6, .string m6.wheels.refl, .string m6.rings, .string m6.plugs], .slice (some ⟨g5, 0, none⟩) (3 + 1) cap5, .slice am ms.length cm]) (by unfold set4 at *; simp [results, Tryz.results65, go_sem, k0, k1, k2, k3]) rfl ?_
        refine ⟨m6, ls ++ [⟨#[97, 98, 99, 100]⟩], ms, a6, am, cap6, g5, cap5, cm, ⟨HSM.out, ?_, ?_, ?_⟩, (fun x hx => by rcases List.mem_append.1 hx with h1 | h1; exact HA2.out x h1; rw [List.mem_singleton.1 h1]; decide), (by simp only [List.length_append, HL2.out]; decide), HST.out, HL24.out, ?_, ?_, by first | rfl | simp only [List.length_append, List.length_cons, List.length_nil, HL2.out]⟩
        · show Reads (set4 w5 B0 _ _ _ _) (set4 w5 B0 _ _ _ _).heap.size _ _
          rw [size_set4]
          exact (rdF.more (by omega)).set4 (fun ad h => by have := HBL.out ad h; omega) _ _ _ _
        · intro ad h
          rw [HB0.out]
          have := HBL.out ad h; omega
        · rw [HB0.out]
          exact bel_set4 bwF (Nat.le_refl _) _ _ _ _
        · show Reads (set4 w5 B0 _ _ _ _) (set4 w5 B0 _ _ _ _).heap.size _ _
          rw [size_set4]
          exact (rmF.more (by omega)).set4 (fun ad h => by have := HBM.out ad h; omega) _ _ _ _
        · show Reads (set4 w5 B0 _ _ _ _) (set4 w5 B0 _ _ _ _).heap.size _ _
          rw [size_set4]
          refine Reads.set4 ?_ (fun ad h => by cases h; show g5 ≠ B0; omega) _ _ _ _
          exact (by rw [sv_append]; exact (.inr ⟨_, 0, rfl, (OwR.own o5).lt, fun i hi => by rw [Nat.zero_add]; exact (OwR.own o5).cell i hi⟩))
      · have t0 : (y == 0) = false := by simp [e0]
        clear e0
        by_cases e1 : y = 1
        · have t1 : (y == 1) = true := by simp [e1]
          clear e1
          go_wp2_with fail
          have own6d : OwR w6.drew (B2 + 1) 9 1 (.slice (some ⟨g, 0, none⟩) 3 c) 3 (sv ls) := own6
          have hbd : Below w6.heap.size w6 w6.drew := (Below.refl _ _).drew
          have l6 := p6.lt
          have lg6 := (World.ownsRow.lt own6 g rfl).1
          have lz6 := (World.ownsRow.lt own6 g rfl).2
          have hsl : (sv ls).length = 3 * 1 := by simp [sv, HL2.out]
          refine wp_onlyN ?_
          refine wp_region_any (by kernel_rfl) ?_
          refine wpAny_of_K (S := fun _ => True) (kp := fun _ => true) _ _ _ _ ?_
          have hS : (fun _ : World => True) w6.drew := trivial
          refine kr_take 1 48 (v := .slice (some ⟨g, 0, none⟩) 3 c) rfl (by kernel_rfl) (by kernel_rfl) (by kernel_rfl) (by kernel_rfl) (fun _ _ _ h => by cases h.1) rfl hS (Or.inl ⟨by rfl, fun _ _ => rfl⟩) ?_; simp only [Act.put, List.setIfInBounds_toArray, List.set_cons_succ, List.set_cons_zero]
          refine kr_take 2 49 (v := .slice (some ⟨g, 0, none⟩) 3 c) rfl (by kernel_rfl) (by kernel_rfl) (by kernel_rfl) (by kernel_rfl) (fun _ _ _ h => by cases h.1) rfl hS (Or.inl ⟨by rfl, fun _ _ => rfl⟩) ?_; simp only [Act.put, List.setIfInBounds_toArray, List.set_cons_succ, List.set_cons_zero]
          refine kr_take 4 51 (v := .slice (some ⟨g, 0, none⟩) 3 c) rfl (by kernel_rfl) (by kernel_rfl) (by kernel_rfl) (by kernel_rfl) (fun _ _ _ h => by cases h.1) rfl hS (Or.inl ⟨by rfl, fun _ _ => rfl⟩) ?_; simp only [Act.put, List.setIfInBounds_toArray, List.set_cons_succ, List.set_cons_zero]
          refine kr_take 6 53 (v := .slice (some ⟨g, 0, none⟩) 3 c) rfl (by kernel_rfl) (by kernel_rfl) (by kernel_rfl) (by kernel_rfl) (fun _ _ _ h => by cases h.1) rfl hS (Or.inl ⟨by rfl, fun _ _ => rfl⟩) ?_; simp only [Act.put, List.setIfInBounds_toArray, List.set_cons_succ, List.set_cons_zero]
          refine kr_take 8 55 (v := .string v) rfl (by kernel_rfl) (by kernel_rfl) (by kernel_rfl) (by kernel_rfl) (fun _ _ _ h => by cases h.1) rfl hS (Or.inl ⟨by rfl, fun _ _ => rfl⟩) ?_; simp only [Act.put, List.setIfInBounds_toArray, List.set_cons_succ, List.set_cons_zero]
          refine kr_take 11 58 (v := .slice am ms.length cm) rfl (by kernel_rfl) (by kernel_rfl) (by kernel_rfl) (by kernel_rfl) (fun _ _ _ h => by cases h.1) rfl hS (Or.inl ⟨by rfl, fun _ _ => rfl⟩) ?_; simp only [Act.put, List.setIfInBounds_toArray, List.set_cons_succ, List.set_cons_zero]
          refine wpAnyK_of_true _ _ _ _ ?_
          refine wpAny_of_K (S := fun w' => w'.rangeAt B2 0 [.slice a6 m6.wheels.rotors.length cap6, .string m6.wheels.refl, .string m6.rings, .string m6.plugs]) (kp := fun i => decide (i < 12)) _ _ _ _ ?_
          have hS : w6.drew.rangeAt B2 0 [.slice a6 m6.wheels.rotors.length cap6, .string m6.wheels.refl, .string m6.rings, .string m6.plugs] := p6.cells.range
          refine kr_take 0 47 (v := .agg #[.slice a6 m6.wheels.rotors.length cap6, .string m6.wheels.refl, .string m6.rings, .string m6.plugs]) rfl (by kernel_rfl) (by kernel_rfl) (by kernel_rfl) (by kernel_rfl) (fun _ _ _ h => by cases h.1) rfl hS (yieldsIf_load_mid (by rfl) _ _ rfl _ _ rfl _ _ (fun _ h => h) Tryz.underlying36 rfl (by kernel_rfl)) ?_; simp only [Act.put, List.setIfInBounds_toArray, List.set_cons_succ, List.set_cons_zero]
          have src : ∀ j u, (sv ls)[j]? = some u → w6.drew.cell? ((⟨g, 0, none⟩ : Addr).add j) = some u := fun j u hu => by
            rw [add_none, Nat.zero_add]
            have h4 := (List.getElem?_eq_some_iff.1 hu).1
            have h5 := (OwR.own own6d).cell j h4
            exact h5.trans hu
          have glt : g < w6.drew.heap.size := lz6
          have szl : B2 + 2 ≤ w6.drew.heap.size := (by omega : B2 + 2 ≤ w6.heap.size)
          have bb : Below (B2 + 1) w6 w6.drew := hbd.mono (by omega)
          clear own6 hbd
          have hwd : ({ heap := w6.heap, tape := w6.tape, drawn := w6.drawn + 1, os := w6.os, output := w6.output } : World) = w6.drew := rfl
          rw [hwd]
          clear hwd
          generalize w6.drew = wd at *
          refine kr_or 3 9 (by kernel_rfl) rfl (by rfl) rfl (by rfl) ?_ ?_
          · refine kr_pushs 30 9 inf_str Tryz.underlying30 rfl (by omega) rfl own6d (by omega) hsl src (sv_one_cell ls) (by omega) (by omega) (by omega) rfl rfl ?_
            intro gp0_0 cp0_0 wp0_0 op0_0 hb5 hat5 hk5
            have bb2 : Below (B2 + 1) w6 wp0_0 := bb.trans hb5
            have src2 : ∀ j u, (sv ls)[j]? = some u → wp0_0.cell? ((⟨g, 0, none⟩ : Addr).add j) = some u := fun j u hu => by
              have h3 := src j u hu
              have h4 := (List.getElem?_eq_some_iff.1 hu).1
              rw [add_none, Nat.zero_add] at h3 ⊢
              exact hk5 g j u glt (fun _ => by exact h4) h3
            have glt2 := Nat.lt_of_lt_of_le glt hb5.size
            have szl2 := Nat.le_trans szl hb5.size
            
            refine ⟨fun _ => (p6.below bb2 (by omega)).cells.range, ?_⟩
            simp only [Act.put, List.setIfInBounds_toArray]
            clear src glt szl bb hb5 hat5 hk5 own6d
            have src := src2
            have glt := glt2
            have szl := szl2
            have bb := bb2
            clear src2 glt2 szl2 bb2
            refine kr_or 5 9 (by kernel_rfl) rfl (by rfl) rfl (by rfl) ?_ ?_
            · refine kr_pushs 30 9 inf_str Tryz.underlying30 rfl (by omega) rfl op0_0 (by omega) hsl src (sv_one_cell ls) (by omega) (by omega) (by omega) rfl rfl ?_
              intro gp1_1 cp1_1 wp1_1 op1_1 hb5 hat5 hk5
              have bb2 : Below (B2 + 1) w6 wp1_1 := bb.trans hb5
              have src2 : ∀ j u, (sv ls)[j]? = some u → wp1_1.cell? ((⟨g, 0, none⟩ : Addr).add j) = some u := fun j u hu => by
                have h3 := src j u hu
                have h4 := (List.getElem?_eq_some_iff.1 hu).1
                rw [add_none, Nat.zero_add] at h3 ⊢
                exact hk5 g j u glt (fun _ => by simp only [List.length_append]; omega) h3
              have glt2 := Nat.lt_of_lt_of_le glt hb5.size
              have szl2 := Nat.le_trans szl hb5.size
              
              refine ⟨fun _ => (p6.below bb2 (by omega)).cells.range, ?_⟩
              simp only [Act.put]
              clear src glt szl bb hb5 hat5 hk5 op0_0
              have src := src2
              have glt := glt2
              have szl := szl2
              have bb := bb2
              clear src2 glt2 szl2 bb2
              refine kr_or 7 9 (by kernel_rfl) rfl (by rfl) rfl (by rfl) ?_ ?_
              · refine kr_pushs 30 9 inf_str Tryz.underlying30 rfl (by omega) rfl op1_1 (by omega) hsl src (sv_one_cell ls) (by omega) (by omega) (by omega) rfl rfl ?_
                intro gp2_2 cp2_2 wp2_2 op2_2 hb5 hat5 hk5
                have bb2 : Below (B2 + 1) w6 wp2_2 := bb.trans hb5
                have src2 : ∀ j u, (sv ls)[j]? = some u → wp2_2.cell? ((⟨g, 0, none⟩ : Addr).add j) = some u := fun j u hu => by
                  have h3 := src j u hu
                  have h4 := (List.getElem?_eq_some_iff.1 hu).1
                  rw [add_none, Nat.zero_add] at h3 ⊢
                  exact hk5 g j u glt (fun _ => by simp only [List.length_append]; omega) h3
                have glt2 := Nat.lt_of_lt_of_le glt hb5.size
                have szl2 := Nat.le_trans szl hb5.size
                
                refine ⟨fun _ => (p6.below bb2 (by omega)).cells.range, ?_⟩
                simp only [Act.put]
                clear src glt szl bb hb5 hat5 hk5 op1_1
                have src := src2
                have glt := glt2
                have szl := szl2
                have bb := bb2
                clear src2 glt2 szl2 bb2
                refine kr_one 9 (by kernel_rfl) rfl (by rfl) ?_
                
                have e9 : ∀ (wq : World), wq = wp2_2.alloc (.cells #[.string v] 9) → True := fun _ _ => trivial
                refine wp_value (v := .slice (some ⟨wp2_2.heap.size, 0, none⟩) 1 1) (w' := wp2_2.alloc (.cells #[.string v] 9)) (by simp [go_sem]) ?_
                have cb : (wp2_2.alloc (.cells #[.string v] 9)).cell? ⟨wp2_2.heap.size, 0, none⟩ = some (.string v) := (Own.new wp2_2 [.string v] 9).at_ (i := 0) rfl
                have bxl : wp2_2.heap.size < (wp2_2.alloc (.cells #[.string v] 9)).heap.size := by simp
                have hg9 := (World.ownsRow.lt op2_2 gp2_2 rfl).2
                have bxn : wp2_2.heap.size ≠ gp2_2 := by omega
                have ow2 : OwR (wp2_2.alloc (.cells #[.string v] 9)) (B2 + 1) 9 1 _ _ _ := World.ownsRow.alloc op2_2 (.cells #[.string v] 9)
                have bb2 : Below (B2 + 1) w6 (wp2_2.alloc (.cells #[.string v] 9)) := bb.alloc (by omega) _
                have src2 : ∀ j u, (sv ls)[j]? = some u → (wp2_2.alloc (.cells #[.string v] 9)).cell? ((⟨g, 0, none⟩ : Addr).add j) = some u := fun j u hu => by
                  have h3 := src j u hu
                  rw [add_none, Nat.zero_add] at h3 ⊢
                  exact ((Below.refl wp2_2.heap.size wp2_2).alloc (Nat.le_refl _) _).cell (p := ⟨g, j, none⟩) glt |>.trans h3
                have glt2 : g < (wp2_2.alloc (.cells #[.string v] 9)).heap.size := Nat.lt_of_lt_of_le glt (Nat.le_of_lt bxl)
                have szl2 : B2 + 2 ≤ (wp2_2.alloc (.cells #[.string v] 9)).heap.size := Nat.le_trans szl (Nat.le_of_lt bxl)
                refine ⟨fun _ => (p6.below bb2 (by omega)).cells.range, ?_⟩
                simp only [Act.put]
                clear src glt szl bb e9 op2_2 hg9
                have src := src2
                have glt := glt2
                have szl := szl2
                have bb := bb2
                clear src2 glt2 szl2 bb2
                generalize wp2_2.heap.size = bx at *
                generalize wp2_2.alloc (.cells #[.string v] 9) = wa at *
                
                refine kr_one 10 (by kernel_rfl) rfl (by rfl) ?_
                have hnv : ∀ j u, ([.string v] : List Value)[j]? = some u → wa.cell? ((⟨bx, 0, none⟩ : Addr).add j) = some u := fun j u hu => by
                  match j, hu with
                  | 0, hu => rw [add_none, Nat.zero_add]; exact cb.trans hu
                refine kr_pushs 30 9 inf_str Tryz.underlying30 rfl (by omega) rfl ow2 (by omega) (m := 1) rfl hnv (by intro u hu; rw [List.mem_singleton.1 hu]; rfl) (by omega) (by omega) (by omega) rfl rfl ?_
                intro g5 cap5 w5 o5 hb5 hat5 hk5
                have hbt : Below (B2 + 1) w6 w5 := bb.trans hb5
                have zF := hbt.size
                have hg5l := (World.ownsRow.lt o5 g5 rfl).1
                have oF := o6.below hbt (by omega)
                have rdF := HRD.out.below hbt (by omega)
                have rmF := HRM.out.below hbt (by omega)
                have bwF := hbw6.trans (hbt.mono (by omega))
                refine ⟨fun _ => (p6.below hbt (by omega)).cells.range, ?_⟩
                simp only [Act.put]
                have c0 := oF.at_ (i := 0) rfl
                have c1 := oF.at_ (i := 1) rfl
                have c2 := oF.at_ (i := 2) rfl
                have c3 := oF.at_ (i := 3) rfl
                have b0 := oF.free 0 (by simp)
                have b1 := oF.free 1 (by simp)
                have b2 := oF.free 2 (by simp)
                have b3 := oF.free 3 (by simp)
                refine kr_drop 12 rfl (by kernel_rfl) (by kernel_rfl) ?_
                simp only [List.drop_succ_cons, List.drop_zero]
                clear hnv o6 hbw6 p6 hS bb src cb ow2
                go_wp2_with fail
                refine onlyN_mk ?_
                go_wp2_with fail
                
                have oz := oF.set4 (.slice a6 m6.wheels.rotors.length cap6) (.string m6.wheels.refl) (.string m6.rings) (.string m6.plugs)
                have k0 := oz.at_ (i := 0) rfl
                have k1 := oz.at_ (i := 1) rfl
                have k2 := oz.at_ (i := 2) rfl
                have k3 := oz.at_ (i := 3) rfl
                refine bodyPost_ret (v := .tuple #[.agg #[.slice a6 m6.wheels.rotors.length cap6, .string m6.wheels.refl, .string m6.rings, .string m6.plugs], .slice (some ⟨g5, 0, none⟩) (3 + 3 + 3 + 3 + 1) cap5, .slice am ms.length cm]) (by unfold set4 at *; simp [results, Tryz.results65, go_sem, k0, k1, k2, k3]) rfl ?_
                refine ⟨m6, ls ++ ls ++ ls ++ ls ++ [v], ms, a6, am, cap6, g5, cap5, cm, ⟨HSM.out, ?_, ?_, ?_⟩, (fun x hx => by simp only [List.mem_append, List.mem_singleton] at hx; rcases hx with (((h1 | h1) | h1) | h1) | h1; exact HA2.out x h1; exact HA2.out x h1; exact HA2.out x h1; exact HA2.out x h1; rw [h1]; exact hv), (by simp only [List.length_append, List.length_cons, List.length_nil, HL2.out]; decide), HST.out, HL24.out, ?_, ?_, by first | rfl | simp only [List.length_append, List.length_cons, List.length_nil, HL2.out]⟩
                · show Reads (set4 w5 B0 _ _ _ _) (set4 w5 B0 _ _ _ _).heap.size _ _
                  rw [size_set4]
                  exact (rdF.more (by omega)).set4 (fun ad h => by have := HBL.out ad h; omega) _ _ _ _
                · intro ad h
                  rw [HB0.out]
                  have := HBL.out ad h; omega
                · rw [HB0.out]
                  exact bel_set4 bwF (Nat.le_refl _) _ _ _ _
                · show Reads (set4 w5 B0 _ _ _ _) (set4 w5 B0 _ _ _ _).heap.size _ _
                  rw [size_set4]
                  exact (rmF.more (by omega)).set4 (fun ad h => by have := HBM.out ad h; omega) _ _ _ _
                · show Reads (set4 w5 B0 _ _ _ _) (set4 w5 B0 _ _ _ _).heap.size _ _
                  rw [size_set4]
                  refine Reads.set4 ?_ (fun ad h => by cases h; show g5 ≠ B0; omega) _ _ _ _
                  exact (by simp only [sv_append]; exact (.inr ⟨_, 0, rfl, (OwR.own o5).lt, fun i hi => by rw [Nat.zero_add]; exact (OwR.own o5).cell i hi⟩))
              · have e9 : ∀ (wq : World), wq = wp1_1.alloc (.cells #[.string v] 9) → True := fun _ _ => trivial
                refine wp_value (v := .slice (some ⟨wp1_1.heap.size, 0, none⟩) 1 1) (w' := wp1_1.alloc (.cells #[.string v] 9)) (by simp [go_sem]) ?_
                have cb : (wp1_1.alloc (.cells #[.string v] 9)).cell? ⟨wp1_1.heap.size, 0, none⟩ = some (.string v) := (Own.new wp1_1 [.string v] 9).at_ (i := 0) rfl
                have bxl : wp1_1.heap.size < (wp1_1.alloc (.cells #[.string v] 9)).heap.size := by simp
                have hg9 := (World.ownsRow.lt op1_1 gp1_1 rfl).2
                have bxn : wp1_1.heap.size ≠ gp1_1 := by omega
                have ow2 : OwR (wp1_1.alloc (.cells #[.string v] 9)) (B2 + 1) 9 1 _ _ _ := World.ownsRow.alloc op1_1 (.cells #[.string v] 9)
                have bb2 : Below (B2 + 1) w6 (wp1_1.alloc (.cells #[.string v] 9)) := bb.alloc (by omega) _
                have src2 : ∀ j u, (sv ls)[j]? = some u → (wp1_1.alloc (.cells #[.string v] 9)).cell? ((⟨g, 0, none⟩ : Addr).add j) = some u := fun j u hu => by
                  have h3 := src j u hu
                  rw [add_none, Nat.zero_add] at h3 ⊢
                  exact ((Below.refl wp1_1.heap.size wp1_1).alloc (Nat.le_refl _) _).cell (p := ⟨g, j, none⟩) glt |>.trans h3
                have glt2 : g < (wp1_1.alloc (.cells #[.string v] 9)).heap.size := Nat.lt_of_lt_of_le glt (Nat.le_of_lt bxl)
                have szl2 : B2 + 2 ≤ (wp1_1.alloc (.cells #[.string v] 9)).heap.size := Nat.le_trans szl (Nat.le_of_lt bxl)
                refine ⟨fun _ => (p6.below bb2 (by omega)).cells.range, ?_⟩
                simp only [Act.put]
                clear src glt szl bb e9 op1_1 hg9
                have src := src2
                have glt := glt2
                have szl := szl2
                have bb := bb2
                clear src2 glt2 szl2 bb2
                generalize wp1_1.heap.size = bx at *
                generalize wp1_1.alloc (.cells #[.string v] 9) = wa at *
                refine kr_one 7 (by kernel_rfl) rfl (by rfl) ?_
                
                refine kr_pushs 30 9 inf_str Tryz.underlying30 rfl (by omega) rfl ow2 (by omega) hsl src (sv_one_cell ls) (by omega) (by omega) (by omega) rfl rfl ?_
                intro gp2_3 cp2_3 wp2_3 op2_3 hb5 hat5 hk5
                have bb2 : Below (B2 + 1) w6 wp2_3 := bb.trans hb5
                have src2 : ∀ j u, (sv ls)[j]? = some u → wp2_3.cell? ((⟨g, 0, none⟩ : Addr).add j) = some u := fun j u hu => by
                  have h3 := src j u hu
                  have h4 := (List.getElem?_eq_some_iff.1 hu).1
                  rw [add_none, Nat.zero_add] at h3 ⊢
                  exact hk5 g j u glt (fun _ => by simp only [List.length_append]; omega) h3
                have glt2 := Nat.lt_of_lt_of_le glt hb5.size
                have szl2 := Nat.le_trans szl hb5.size
                
                have cb2 := hk5 bx 0 _ bxl (fun e => absurd e bxn) cb
                have bxl2 := Nat.lt_of_lt_of_le bxl hb5.size
                have bxn2 : bx ≠ gp2_3 := by rcases hat5 with h | h <;> omega
                clear cb bxl bxn
                have cb := cb2
                have bxl := bxl2
                have bxn := bxn2
                clear cb2 bxl2 bxn2
                
                refine ⟨fun _ => (p6.below bb2 (by omega)).cells.range, ?_⟩
                simp only [Act.put]
                clear src glt szl bb hb5 hat5 hk5 ow2
                have src := src2
                have glt := glt2
                have szl := szl2
                have bb := bb2
                clear src2 glt2 szl2 bb2
                
                refine kr_one 10 (by kernel_rfl) rfl (by rfl) ?_
                have hnv : ∀ j u, ([.string v] : List Value)[j]? = some u → wp2_3.cell? ((⟨bx, 0, none⟩ : Addr).add j) = some u := fun j u hu => by
                  match j, hu with
                  | 0, hu => rw [add_none, Nat.zero_add]; exact cb.trans hu
                refine kr_pushs 30 9 inf_str Tryz.underlying30 rfl (by omega) rfl op2_3 (by omega) (m := 1) rfl hnv (by intro u hu; rw [List.mem_singleton.1 hu]; rfl) (by omega) (by omega) (by omega) rfl rfl ?_
                intro g5 cap5 w5 o5 hb5 hat5 hk5
                have hbt : Below (B2 + 1) w6 w5 := bb.trans hb5
                have zF := hbt.size
                have hg5l := (World.ownsRow.lt o5 g5 rfl).1
                have oF := o6.below hbt (by omega)
                have rdF := HRD.out.below hbt (by omega)
                have rmF := HRM.out.below hbt (by omega)
                have bwF := hbw6.trans (hbt.mono (by omega))
                refine ⟨fun _ => (p6.below hbt (by omega)).cells.range, ?_⟩
                simp only [Act.put]
                have c0 := oF.at_ (i := 0) rfl
                have c1 := oF.at_ (i := 1) rfl
                have c2 := oF.at_ (i := 2) rfl
                have c3 := oF.at_ (i := 3) rfl
                have b0 := oF.free 0 (by simp)
                have b1 := oF.free 1 (by simp)
                have b2 := oF.free 2 (by simp)
                have b3 := oF.free 3 (by simp)
                refine kr_drop 12 rfl (by kernel_rfl) (by kernel_rfl) ?_
                simp only [List.drop_succ_cons, List.drop_zero]
                clear hnv o6 hbw6 p6 hS bb src cb op2_3
                go_wp2_with fail
                refine onlyN_mk ?_
                go_wp2_with fail
                
                have oz := oF.set4 (.slice a6 m6.wheels.rotors.length cap6) (.string m6.wheels.refl) (.string m6.rings) (.string m6.plugs)
                have k0 := oz.at_ (i := 0) rfl
                have k1 := oz.at_ (i := 1) rfl
                have k2 := oz.at_ (i := 2) rfl
                have k3 := oz.at_ (i := 3) rfl
                refine bodyPost_ret (v := .tuple #[.agg #[.slice a6 m6.wheels.rotors.length cap6, .string m6.wheels.refl, .string m6.rings, .string m6.plugs], .slice (some ⟨g5, 0, none⟩) (3 + 3 + 3 + 3 + 1) cap5, .slice am ms.length cm]) (by unfold set4 at *; simp [results, Tryz.results65, go_sem, k0, k1, k2, k3]) rfl ?_
                refine ⟨m6, ls ++ ls ++ ls ++ ls ++ [v], ms, a6, am, cap6, g5, cap5, cm, ⟨HSM.out, ?_, ?_, ?_⟩, (fun x hx => by simp only [List.mem_append, List.mem_singleton] at hx; rcases hx with (((h1 | h1) | h1) | h1) | h1; exact HA2.out x h1; exact HA2.out x h1; exact HA2.out x h1; exact HA2.out x h1; rw [h1]; exact hv), (by simp only [List.length_append, List.length_cons, List.length_nil, HL2.out]; decide), HST.out, HL24.out, ?_, ?_, by first | rfl | simp only [List.length_append, List.length_cons, List.length_nil, HL2.out]⟩
                · show Reads (set4 w5 B0 _ _ _ _) (set4 w5 B0 _ _ _ _).heap.size _ _
                  rw [size_set4]
                  exact (rdF.more (by omega)).set4 (fun ad h => by have := HBL.out ad h; omega) _ _ _ _
                · intro ad h
                  rw [HB0.out]
                  have := HBL.out ad h; omega
                · rw [HB0.out]
                  exact bel_set4 bwF (Nat.le_refl _) _ _ _ _
                · show Reads (set4 w5 B0 _ _ _ _) (set4 w5 B0 _ _ _ _).heap.size _ _
                  rw [size_set4]
                  exact (rmF.more (by omega)).set4 (fun ad h => by have := HBM.out ad h; omega) _ _ _ _
                · show Reads (set4 w5 B0 _ _ _ _) (set4 w5 B0 _ _ _ _).heap.size _ _
                  rw [size_set4]
                  refine Reads.set4 ?_ (fun ad h => by cases h; show g5 ≠ B0; omega) _ _ _ _
                  exact (by simp only [sv_append]; exact (.inr ⟨_, 0, rfl, (OwR.own o5).lt, fun i hi => by rw [Nat.zero_add]; exact (OwR.own o5).cell i hi⟩))
            · have e9 : ∀ (wq : World), wq = wp0_0.alloc (.cells #[.string v] 9) → True := fun _ _ => trivial
              refine wp_value (v := .slice (some ⟨wp0_0.heap.size, 0, none⟩) 1 1) (w' := wp0_0.alloc (.cells #[.string v] 9)) (by simp [go_sem]) ?_
              have cb : (wp0_0.alloc (.cells #[.string v] 9)).cell? ⟨wp0_0.heap.size, 0, none⟩ = some (.string v) := (Own.new wp0_0 [.string v] 9).at_ (i := 0) rfl
              have bxl : wp0_0.heap.size < (wp0_0.alloc (.cells #[.string v] 9)).heap.size := by simp
              have hg9 := (World.ownsRow.lt op0_0 gp0_0 rfl).2
              have bxn : wp0_0.heap.size ≠ gp0_0 := by omega
              have ow2 : OwR (wp0_0.alloc (.cells #[.string v] 9)) (B2 + 1) 9 1 _ _ _ := World.ownsRow.alloc op0_0 (.cells #[.string v] 9)
              have bb2 : Below (B2 + 1) w6 (wp0_0.alloc (.cells #[.string v] 9)) := bb.alloc (by omega) _
              have src2 : ∀ j u, (sv ls)[j]? = some u → (wp0_0.alloc (.cells #[.string v] 9)).cell? ((⟨g, 0, none⟩ : Addr).add j) = some u := fun j u hu => by
                have h3 := src j u hu
                rw [add_none, Nat.zero_add] at h3 ⊢
                exact ((Below.refl wp0_0.heap.size wp0_0).alloc (Nat.le_refl _) _).cell (p := ⟨g, j, none⟩) glt |>.trans h3
              have glt2 : g < (wp0_0.alloc (.cells #[.string v] 9)).heap.size := Nat.lt_of_lt_of_le glt (Nat.le_of_lt bxl)
              have szl2 : B2 + 2 ≤ (wp0_0.alloc (.cells #[.string v] 9)).heap.size := Nat.le_trans szl (Nat.le_of_lt bxl)
              refine ⟨fun _ => (p6.below bb2 (by omega)).cells.range, ?_⟩
              simp only [Act.put]
              clear src glt szl bb e9 op0_0 hg9
              have src := src2
              have glt := glt2
              have szl := szl2
              have bb := bb2
              clear src2 glt2 szl2 bb2
              generalize wp0_0.heap.size = bx at *
              generalize wp0_0.alloc (.cells #[.string v] 9) = wa at *
              refine kr_one 5 (by kernel_rfl) rfl (by rfl) ?_
              
              refine kr_pushs 30 9 inf_str Tryz.underlying30 rfl (by omega) rfl ow2 (by omega) hsl src (sv_one_cell ls) (by omega) (by omega) (by omega) rfl rfl ?_
              intro gp1_2 cp1_2 wp1_2 op1_2 hb5 hat5 hk5
              have bb2 : Below (B2 + 1) w6 wp1_2 := bb.trans hb5
              have src2 : ∀ j u, (sv ls)[j]? = some u → wp1_2.cell? ((⟨g, 0, none⟩ : Addr).add j) = some u := fun j u hu => by
                have h3 := src j u hu
                have h4 := (List.getElem?_eq_some_iff.1 hu).1
                rw [add_none, Nat.zero_add] at h3 ⊢
                exact hk5 g j u glt (fun _ => by simp only [List.length_append]; omega) h3
              have glt2 := Nat.lt_of_lt_of_le glt hb5.size
              have szl2 := Nat.le_trans szl hb5.size
              
              have cb2 := hk5 bx 0 _ bxl (fun e => absurd e bxn) cb
              have bxl2 := Nat.lt_of_lt_of_le bxl hb5.size
              have bxn2 : bx ≠ gp1_2 := by rcases hat5 with h | h <;> omega
              clear cb bxl bxn
              have cb := cb2
              have bxl := bxl2
              have bxn := bxn2
              clear cb2 bxl2 bxn2
              
              refine ⟨fun _ => (p6.below bb2 (by omega)).cells.range, ?_⟩
              simp only [Act.put]
              clear src glt szl bb hb5 hat5 hk5 ow2
              have src := src2
              have glt := glt2
              have szl := szl2
              have bb := bb2
              clear src2 glt2 szl2 bb2
              refine kr_one 7 (by kernel_rfl) rfl (by rfl) ?_
              
              refine kr_pushs 30 9 inf_str Tryz.underlying30 rfl (by omega) rfl op1_2 (by omega) hsl src (sv_one_cell ls) (by omega) (by omega) (by omega) rfl rfl ?_
              intro gp2_3 cp2_3 wp2_3 op2_3 hb5 hat5 hk5
              have bb2 : Below (B2 + 1) w6 wp2_3 := bb.trans hb5
              have src2 : ∀ j u, (sv ls)[j]? = some u → wp2_3.cell? ((⟨g, 0, none⟩ : Addr).add j) = some u := fun j u hu => by
                have h3 := src j u hu
                have h4 := (List.getElem?_eq_some_iff.1 hu).1
                rw [add_none, Nat.zero_add] at h3 ⊢
                exact hk5 g j u glt (fun _ => by simp only [List.length_append]; omega) h3
              have glt2 := Nat.lt_of_lt_of_le glt hb5.size
              have szl2 := Nat.le_trans szl hb5.size
              
              have cb2 := hk5 bx 0 _ bxl (fun e => absurd e bxn) cb
              have bxl2 := Nat.lt_of_lt_of_le bxl hb5.size
              have bxn2 : bx ≠ gp2_3 := by rcases hat5 with h | h <;> omega
              clear cb bxl bxn
              have cb := cb2
              have bxl := bxl2
              have bxn := bxn2
              clear cb2 bxl2 bxn2
              
              refine ⟨fun _ => (p6.below bb2 (by omega)).cells.range, ?_⟩
              simp only [Act.put]
              clear src glt szl bb hb5 hat5 hk5 op1_2
              have src := src2
              have glt := glt2
              have szl := szl2
              have bb := bb2
              clear src2 glt2 szl2 bb2
              
              refine kr_one 10 (by kernel_rfl) rfl (by rfl) ?_
              have hnv : ∀ j u, ([.string v] : List Value)[j]? = some u → wp2_3.cell? ((⟨bx, 0, none⟩ : Addr).add j) = some u := fun j u hu => by
                match j, hu with
                | 0, hu => rw [add_none, Nat.zero_add]; exact cb.trans hu
              refine kr_pushs 30 9 inf_str Tryz.underlying30 rfl (by omega) rfl op2_3 (by omega) (m := 1) rfl hnv (by intro u hu; rw [List.mem_singleton.1 hu]; rfl) (by omega) (by omega) (by omega) rfl rfl ?_
              intro g5 cap5 w5 o5 hb5 hat5 hk5
              have hbt : Below (B2 + 1) w6 w5 := bb.trans hb5
              have zF := hbt.size
              have hg5l := (World.ownsRow.lt o5 g5 rfl).1
              have oF := o6.below hbt (by omega)
              have rdF := HRD.out.below hbt (by omega)
              have rmF := HRM.out.below hbt (by omega)
              have bwF := hbw6.trans (hbt.mono (by omega))
              refine ⟨fun _ => (p6.below hbt (by omega)).cells.range, ?_⟩
              simp only [Act.put]
              have c0 := oF.at_ (i := 0) rfl
              have c1 := oF.at_ (i := 1) rfl
              have c2 := oF.at_ (i := 2) rfl
              have c3 := oF.at_ (i := 3) rfl
              have b0 := oF.free 0 (by simp)
              have b1 := oF.free 1 (by simp)
              have b2 := oF.free 2 (by simp)
              have b3 := oF.free 3 (by simp)
              refine kr_drop 12 rfl (by kernel_rfl) (by kernel_rfl) ?_
              simp only [List.drop_succ_cons, List.drop_zero]
              clear hnv o6 hbw6 p6 hS bb src cb op2_3
              go_wp2_with fail
              refine onlyN_mk ?_
              go_wp2_with fail
              
              have oz := oF.set4 (.slice a6 m6.wheels.rotors.length cap6) (.string m6.wheels.refl) (.string m6.rings) (.string m6.plugs)
              have k0 := oz.at_ (i := 0) rfl
              have k1 := oz.at_ (i := 1) rfl
              have k2 := oz.at_ (i := 2) rfl
              have k3 := oz.at_ (i := 3) rfl
              refine bodyPost_ret (v := .tuple #[.agg #[.slice a6 m6.wheels.rotors.length cap6, .string m6.wheels.refl, .string m6.rings, .string m6.plugs], .slice (some ⟨g5, 0, none⟩) (3 + 3 + 3 + 3 + 1) cap5, .slice am ms.length cm]) (by unfold set4 at *; simp [results, Tryz.results65, go_sem, k0, k1, k2, k3]) rfl ?_
              refine ⟨m6, ls ++ ls ++ ls ++ ls ++ [v], ms, a6, am, cap6, g5, cap5, cm, ⟨HSM.out, ?_, ?_, ?_⟩, (fun x hx => by simp only [List.mem_append, List.mem_singleton] at hx; rcases hx with (((h1 | h1) | h1) | h1) | h1; exact HA2.out x h1; exact HA2.out x h1; exact HA2.out x h1; exact HA2.out x h1; rw [h1]; exact hv), (by simp only [List.length_append, List.length_cons, List.length_nil, HL2.out]; decide), HST.out, HL24.out, ?_, ?_, by first | rfl | simp only [List.length_append, List.length_cons, List.length_nil, HL2.out]⟩
              · show Reads (set4 w5 B0 _ _ _ _) (set4 w5 B0 _ _ _ _).heap.size _ _
                rw [size_set4]
                exact (rdF.more (by omega)).set4 (fun ad h => by have := HBL.out ad h; omega) _ _ _ _
              · intro ad h
                rw [HB0.out]
                have := HBL.out ad h; omega
              · rw [HB0.out]
                exact bel_set4 bwF (Nat.le_refl _) _ _ _ _
              · show Reads (set4 w5 B0 _ _ _ _) (set4 w5 B0 _ _ _ _).heap.size _ _
                rw [size_set4]
                exact (rmF.more (by omega)).set4 (fun ad h => by have := HBM.out ad h; omega) _ _ _ _
              · show Reads (set4 w5 B0 _ _ _ _) (set4 w5 B0 _ _ _ _).heap.size _ _
                rw [size_set4]
                refine Reads.set4 ?_ (fun ad h => by cases h; show g5 ≠ B0; omega) _ _ _ _
                exact (by simp only [sv_append]; exact (.inr ⟨_, 0, rfl, (OwR.own o5).lt, fun i hi => by rw [Nat.zero_add]; exact (OwR.own o5).cell i hi⟩))
          · have e9 : ∀ (wq : World), wq = wd.alloc (.cells #[.string v] 9) → True := fun _ _ => trivial
            refine wp_value (v := .slice (some ⟨wd.heap.size, 0, none⟩) 1 1) (w' := wd.alloc (.cells #[.string v] 9)) (by simp [go_sem]) ?_
            have cb : (wd.alloc (.cells #[.string v] 9)).cell? ⟨wd.heap.size, 0, none⟩ = some (.string v) := (Own.new wd [.string v] 9).at_ (i := 0) rfl
            have bxl : wd.heap.size < (wd.alloc (.cells #[.string v] 9)).heap.size := by simp
            have hg9 := (World.ownsRow.lt own6d g rfl).2
            have bxn : wd.heap.size ≠ g := by omega
            have ow2 : OwR (wd.alloc (.cells #[.string v] 9)) (B2 + 1) 9 1 _ _ _ := World.ownsRow.alloc own6d (.cells #[.string v] 9)
            have bb2 : Below (B2 + 1) w6 (wd.alloc (.cells #[.string v] 9)) := bb.alloc (by omega) _
            have src2 : ∀ j u, (sv ls)[j]? = some u → (wd.alloc (.cells #[.string v] 9)).cell? ((⟨g, 0, none⟩ : Addr).add j) = some u := fun j u hu => by
              have h3 := src j u hu
              rw [add_none, Nat.zero_add] at h3 ⊢
              exact ((Below.refl wd.heap.size wd).alloc (Nat.le_refl _) _).cell (p := ⟨g, j, none⟩) glt |>.trans h3
            have glt2 : g < (wd.alloc (.cells #[.string v] 9)).heap.size := Nat.lt_of_lt_of_le glt (Nat.le_of_lt bxl)
            have szl2 : B2 + 2 ≤ (wd.alloc (.cells #[.string v] 9)).heap.size := Nat.le_trans szl (Nat.le_of_lt bxl)
            refine ⟨fun _ => (p6.below bb2 (by omega)).cells.range, ?_⟩
            simp only [Act.put, List.setIfInBounds_toArray]
            clear src glt szl bb e9 own6d hg9
            have src := src2
            have glt := glt2
            have szl := szl2
            have bb := bb2
            clear src2 glt2 szl2 bb2
            generalize wd.heap.size = bx at *
            generalize wd.alloc (.cells #[.string v] 9) = wa at *
            refine kr_one 3 (by kernel_rfl) rfl (by rfl) ?_
            
            refine kr_pushs 30 9 inf_str Tryz.underlying30 rfl (by omega) rfl ow2 (by omega) hsl src (sv_one_cell ls) (by omega) (by omega) (by omega) rfl rfl ?_
            intro gp0_1 cp0_1 wp0_1 op0_1 hb5 hat5 hk5
            have bb2 : Below (B2 + 1) w6 wp0_1 := bb.trans hb5
            have src2 : ∀ j u, (sv ls)[j]? = some u → wp0_1.cell? ((⟨g, 0, none⟩ : Addr).add j) = some u := fun j u hu => by
              have h3 := src j u hu
              have h4 := (List.getElem?_eq_some_iff.1 hu).1
              rw [add_none, Nat.zero_add] at h3 ⊢
              exact hk5 g j u glt (fun _ => by exact h4) h3
            have glt2 := Nat.lt_of_lt_of_le glt hb5.size
            have szl2 := Nat.le_trans szl hb5.size
            
            have cb2 := hk5 bx 0 _ bxl (fun e => absurd e bxn) cb
            have bxl2 := Nat.lt_of_lt_of_le bxl hb5.size
            have bxn2 : bx ≠ gp0_1 := by rcases hat5 with h | h <;> omega
            clear cb bxl bxn
            have cb := cb2
            have bxl := bxl2
            have bxn := bxn2
            clear cb2 bxl2 bxn2
            
            refine ⟨fun _ => (p6.below bb2 (by omega)).cells.range, ?_⟩
            simp only [Act.put]
            clear src glt szl bb hb5 hat5 hk5 ow2
            have src := src2
            have glt := glt2
            have szl := szl2
            have bb := bb2
            clear src2 glt2 szl2 bb2
            refine kr_one 5 (by kernel_rfl) rfl (by rfl) ?_
            
            refine kr_pushs 30 9 inf_str Tryz.underlying30 rfl (by omega) rfl op0_1 (by omega) hsl src (sv_one_cell ls) (by omega) (by omega) (by omega) rfl rfl ?_
            intro gp1_2 cp1_2 wp1_2 op1_2 hb5 hat5 hk5
            have bb2 : Below (B2 + 1) w6 wp1_2 := bb.trans hb5
            have src2 : ∀ j u, (sv ls)[j]? = some u → wp1_2.cell? ((⟨g, 0, none⟩ : Addr).add j) = some u := fun j u hu => by
              have h3 := src j u hu
              have h4 := (List.getElem?_eq_some_iff.1 hu).1
              rw [add_none, Nat.zero_add] at h3 ⊢
              exact hk5 g j u glt (fun _ => by simp only [List.length_append]; omega) h3
            have glt2 := Nat.lt_of_lt_of_le glt hb5.size
            have szl2 := Nat.le_trans szl hb5.size
            
            have cb2 := hk5 bx 0 _ bxl (fun e => absurd e bxn) cb
            have bxl2 := Nat.lt_of_lt_of_le bxl hb5.size
            have bxn2 : bx ≠ gp1_2 := by rcases hat5 with h | h <;> omega
            clear cb bxl bxn
            have cb := cb2
            have bxl := bxl2
            have bxn := bxn2
            clear cb2 bxl2 bxn2
            
            refine ⟨fun _ => (p6.below bb2 (by omega)).cells.range, ?_⟩
            simp only [Act.put]
            clear src glt szl bb hb5 hat5 hk5 op0_1
            have src := src2
            have glt := glt2
            have szl := szl2
            have bb := bb2
            clear src2 glt2 szl2 bb2
            refine kr_one 7 (by kernel_rfl) rfl (by rfl) ?_
            
            refine kr_pushs 30 9 inf_str Tryz.underlying30 rfl (by omega) rfl op1_2 (by omega) hsl src (sv_one_cell ls) (by omega) (by omega) (by omega) rfl rfl ?_
            intro gp2_3 cp2_3 wp2_3 op2_3 hb5 hat5 hk5
            have bb2 : Below (B2 + 1) w6 wp2_3 := bb.trans hb5
            have src2 : ∀ j u, (sv ls)[j]? = some u → wp2_3.cell? ((⟨g, 0, none⟩ : Addr).add j) = some u := fun j u hu => by
              have h3 := src j u hu
              have h4 := (List.getElem?_eq_some_iff.1 hu).1
              rw [add_none, Nat.zero_add] at h3 ⊢
              exact hk5 g j u glt (fun _ => by simp only [List.length_append]; omega) h3
            have glt2 := Nat.lt_of_lt_of_le glt hb5.size
            have szl2 := Nat.le_trans szl hb5.size
            
            have cb2 := hk5 bx 0 _ bxl (fun e => absurd e bxn) cb
            have bxl2 := Nat.lt_of_lt_of_le bxl hb5.size
            have bxn2 : bx ≠ gp2_3 := by rcases hat5 with h | h <;> omega
            clear cb bxl bxn
            have cb := cb2
            have bxl := bxl2
            have bxn := bxn2
            clear cb2 bxl2 bxn2
            
            refine ⟨fun _ => (p6.below bb2 (by omega)).cells.range, ?_⟩
            simp only [Act.put]
            clear src glt szl bb hb5 hat5 hk5 op1_2
            have src := src2
            have glt := glt2
            have szl := szl2
            have bb := bb2
            clear src2 glt2 szl2 bb2
            
            refine kr_one 10 (by kernel_rfl) rfl (by rfl) ?_
            have hnv : ∀ j u, ([.string v] : List Value)[j]? = some u → wp2_3.cell? ((⟨bx, 0, none⟩ : Addr).add j) = some u := fun j u hu => by
              match j, hu with
              | 0, hu => rw [add_none, Nat.zero_add]; exact cb.trans hu
            refine kr_pushs 30 9 inf_str Tryz.underlying30 rfl (by omega) rfl op2_3 (by omega) (m := 1) rfl hnv (by intro u hu; rw [List.mem_singleton.1 hu]; rfl) (by omega) (by omega) (by omega) rfl rfl ?_
            intro g5 cap5 w5 o5 hb5 hat5 hk5
            have hbt : Below (B2 + 1) w6 w5 := bb.trans hb5
            have zF := hbt.size
            have hg5l := (World.ownsRow.lt o5 g5 rfl).1
            have oF := o6.below hbt (by omega)
            have rdF := HRD.out.below hbt (by omega)
            have rmF := HRM.out.below hbt (by omega)
            have bwF := hbw6.trans (hbt.mono (by omega))
            refine ⟨fun _ => (p6.below hbt (by omega)).cells.range, ?_⟩
            simp only [Act.put]
            have c0 := oF.at_ (i := 0) rfl
            have c1 := oF.at_ (i := 1) rfl
            have c2 := oF.at_ (i := 2) rfl
            have c3 := oF.at_ (i := 3) rfl
            have b0 := oF.free 0 (by simp)
            have b1 := oF.free 1 (by simp)
            have b2 := oF.free 2 (by simp)
            have b3 := oF.free 3 (by simp)
            refine kr_drop 12 rfl (by kernel_rfl) (by kernel_rfl) ?_
            simp only [List.drop_succ_cons, List.drop_zero]
            clear hnv o6 hbw6 p6 hS bb src cb op2_3
            go_wp2_with fail
            refine onlyN_mk ?_
            go_wp2_with fail
            
            have oz := oF.set4 (.slice a6 m6.wheels.rotors.length cap6) (.string m6.wheels.refl) (.string m6.rings) (.string m6.plugs)
            have k0 := oz.at_ (i := 0) rfl
            have k1 := oz.at_ (i := 1) rfl
            have k2 := oz.at_ (i := 2) rfl
            have k3 := oz.at_ (i := 3) rfl
            refine bodyPost_ret (v := .tuple #[.agg #[.slice a6 m6.wheels.rotors.length cap6, .string m6.wheels.refl, .string m6.rings, .string m6.plugs], .slice (some ⟨g5, 0, none⟩) (3 + 3 + 3 + 3 + 1) cap5, .slice am ms.length cm]) (by unfold set4 at *; simp [results, Tryz.results65, go_sem, k0, k1, k2, k3]) rfl ?_
            refine ⟨m6, ls ++ ls ++ ls ++ ls ++ [v], ms, a6, am, cap6, g5, cap5, cm, ⟨HSM.out, ?_, ?_, ?_⟩, (fun x hx => by simp only [List.mem_append, List.mem_singleton] at hx; rcases hx with (((h1 | h1) | h1) | h1) | h1; exact HA2.out x h1; exact HA2.out x h1; exact HA2.out x h1; exact HA2.out x h1; rw [h1]; exact hv), (by simp only [List.length_append, List.length_cons, List.length_nil, HL2.out]; decide), HST.out, HL24.out, ?_, ?_, by first | rfl | simp only [List.length_append, List.length_cons, List.length_nil, HL2.out]⟩
            · show Reads (set4 w5 B0 _ _ _ _) (set4 w5 B0 _ _ _ _).heap.size _ _
              rw [size_set4]
              exact (rdF.more (by omega)).set4 (fun ad h => by have := HBL.out ad h; omega) _ _ _ _
            · intro ad h
              rw [HB0.out]
              have := HBL.out ad h; omega
            · rw [HB0.out]
              exact bel_set4 bwF (Nat.le_refl _) _ _ _ _
            · show Reads (set4 w5 B0 _ _ _ _) (set4 w5 B0 _ _ _ _).heap.size _ _
              rw [size_set4]
              exact (rmF.more (by omega)).set4 (fun ad h => by have := HBM.out ad h; omega) _ _ _ _
            · show Reads (set4 w5 B0 _ _ _ _) (set4 w5 B0 _ _ _ _).heap.size _ _
              rw [size_set4]
              refine Reads.set4 ?_ (fun ad h => by cases h; show g5 ≠ B0; omega) _ _ _ _
              exact (by simp only [sv_append]; exact (.inr ⟨_, 0, rfl, (OwR.own o5).lt, fun i hi => by rw [Nat.zero_add]; exact (OwR.own o5).cell i hi⟩))
        · have t1 : (y == 1) = false := by simp [e1]
          clear e1
          by_cases e2 : y = 2
          · have t2 : (y == 2) = true := by simp [e2]
            clear e2
            go_wp2_with fail
            have hbt : Below w6.heap.size w6 w6.drew := (Below.refl _ _).drew
            have l6 := p6.lt
            have lg6 := (World.ownsRow.lt own6 g rfl).1
            have oF := o6.drew
            have zF := hbt.size
            have rdF := HRD.out.below hbt (by omega)
            have rmF := HRM.out.below hbt (by omega)
            have bwF := hbw6.drew
            have c0 := oF.at_ (i := 0) rfl
            have c1 := oF.at_ (i := 1) rfl
            have c2 := oF.at_ (i := 2) rfl
            have c3 := oF.at_ (i := 3) rfl
            have b0 := oF.free 0 (by simp)
            have b1 := oF.free 1 (by simp)
            have b2 := oF.free 2 (by simp)
            have b3 := oF.free 3 (by simp)
            refine wp_onlyN ?_
            refine wp_region_any (by kernel_rfl) ?_
            refine wpAny_of_K (S := fun _ => True) (kp := fun _ => true) _ _ _ _ ?_
            have hS : (fun _ : World => True) w6.drew := trivial
            refine kr_take 1 62 (v := .slice (some ⟨g, 0, none⟩) 3 c) rfl (by kernel_rfl) (by kernel_rfl) (by kernel_rfl) (by kernel_rfl) (fun _ _ _ h => by cases h.1) rfl hS (Or.inl ⟨by rfl, fun _ _ => rfl⟩) ?_; simp only [Act.put, List.setIfInBounds_toArray, List.set_cons_succ, List.set_cons_zero]
            refine kr_take 2 63 (v := .slice (some ⟨g, 0, none⟩) 0 c) rfl (by kernel_rfl) (by kernel_rfl) (by kernel_rfl) (by kernel_rfl) (fun _ _ _ h => by cases h.1) rfl hS (Or.inl ⟨by rfl, fun _ _ => by simp [go_sem]⟩) ?_; simp only [Act.put, List.setIfInBounds_toArray, List.set_cons_succ, List.set_cons_zero]
            refine kr_take 3 64 (v := .slice am ms.length cm) rfl (by kernel_rfl) (by kernel_rfl) (by kernel_rfl) (by kernel_rfl) (fun _ _ _ h => by cases h.1) rfl hS (Or.inl ⟨by rfl, fun _ _ => rfl⟩) ?_; simp only [Act.put, List.setIfInBounds_toArray, List.set_cons_succ, List.set_cons_zero]
            refine wpAnyK_of_true _ _ _ _ ?_
            refine wpAny_of_K (S := fun w' => w'.rangeAt B2 0 [.slice a6 m6.wheels.rotors.length cap6, .string m6.wheels.refl, .string m6.rings, .string m6.plugs]) (kp := fun i => decide (i < 4)) _ _ _ _ ?_
            have hS : w6.drew.rangeAt B2 0 [.slice a6 m6.wheels.rotors.length cap6, .string m6.wheels.refl, .string m6.rings, .string m6.plugs] := p6.cells.range
            refine kr_take 0 61 (v := .agg #[.slice a6 m6.wheels.rotors.length cap6, .string m6.wheels.refl, .string m6.rings, .string m6.plugs]) rfl (by kernel_rfl) (by kernel_rfl) (by kernel_rfl) (by kernel_rfl) (fun _ _ _ h => by cases h.1) rfl hS (yieldsIf_load_mid (by rfl) _ _ rfl _ _ rfl _ _ (fun _ h => h) Tryz.underlying36 rfl (by kernel_rfl)) ?_; simp only [Act.put, List.setIfInBounds_toArray, List.set_cons_succ, List.set_cons_zero]
            clear o6 hbw6 p6 hbt hS
            have hwd : ({ heap := w6.heap, tape := w6.tape, drawn := w6.drawn + 1, os := w6.os, output := w6.output } : World) = w6.drew := rfl
            rw [hwd]
            clear hwd
            generalize w6.drew = wF at *
            refine kr_drop 4 rfl (by kernel_rfl) (by kernel_rfl) ?_
            simp only [List.drop_succ_cons, List.drop_zero]
            go_wp2_with fail
            refine onlyN_mk ?_
            go_wp2_with fail
            
            have oz := oF.set4 (.slice a6 m6.wheels.rotors.length cap6) (.string m6.wheels.refl) (.string m6.rings) (.string m6.plugs)
            have k0 := oz.at_ (i := 0) rfl
            have k1 := oz.at_ (i := 1) rfl
            have k2 := oz.at_ (i := 2) rfl
            have k3 := oz.at_ (i := 3) rfl
            refine bodyPost_ret (v := .tuple #[.agg #[.slice a6 m6.wheels.rotors.length cap6, .string m6.wheels.refl, .string m6.rings, .string m6.plugs], .slice (some ⟨g, 0, none⟩) 0 c, .slice am ms.length cm]) (by unfold set4 at *; simp [results, Tryz.results65, go_sem, k0, k1, k2, k3]) rfl ?_
            refine ⟨m6, [], ms, a6, am, cap6, g, c, cm, ⟨HSM.out, ?_, ?_, ?_⟩, (by simp), (by decide), HST.out, HL24.out, ?_, ?_, by first | rfl | simp only [List.length_append, List.length_cons, List.length_nil, HL2.out]⟩
            · show Reads (set4 wF B0 _ _ _ _) (set4 wF B0 _ _ _ _).heap.size _ _
              rw [size_set4]
              exact (rdF.more (by omega)).set4 (fun ad h => by have := HBL.out ad h; omega) _ _ _ _
            · intro ad h
              rw [HB0.out]
              have := HBL.out ad h; omega
            · rw [HB0.out]
              exact bel_set4 bwF (Nat.le_refl _) _ _ _ _
            · show Reads (set4 wF B0 _ _ _ _) (set4 wF B0 _ _ _ _).heap.size _ _
              rw [size_set4]
              exact (rmF.more (by omega)).set4 (fun ad h => by have := HBM.out ad h; omega) _ _ _ _
            · show Reads (set4 wF B0 _ _ _ _) (set4 wF B0 _ _ _ _).heap.size _ _
              rw [size_set4]
              refine Reads.set4 ?_ (fun ad h => by cases h; show g ≠ B0; omega) _ _ _ _
              exact Reads.nil_
          · have t2 : (y == 2) = false := by simp [e2]
            clear e2
            have l6 := p6.lt
            have lg6 := (World.ownsRow.lt own6 g rfl).1
            have lz6 := (World.ownsRow.lt own6 g rfl).2
            have f0 := p6.at_ (i := 0) rfl
            have f1 := p6.at_ (i := 1) rfl
            have f2 := p6.at_ (i := 2) rfl
            have f3 := p6.at_ (i := 3) rfl
            have c0 := o6.at_ (i := 0) rfl
            have c1 := o6.at_ (i := 1) rfl
            have c2 := o6.at_ (i := 2) rfl
            have c3 := o6.at_ (i := 3) rfl
            have b0 := o6.free 0 (by simp)
            have b1 := o6.free 1 (by simp)
            have b2 := o6.free 2 (by simp)
            have b3 := o6.free 3 (by simp)
            go_wp2_with fail
            
            have oz := o6.set4 (.slice a6 m6.wheels.rotors.length cap6) (.string m6.wheels.refl) (.string m6.rings) (.string m6.plugs)
            have k0 := oz.at_ (i := 0) rfl
            have k1 := oz.at_ (i := 1) rfl
            have k2 := oz.at_ (i := 2) rfl
            have k3 := oz.at_ (i := 3) rfl
            refine bodyPost_ret (v := .tuple #[.agg #[.slice a6 m6.wheels.rotors.length cap6, .string m6.wheels.refl, .string m6.rings, .string m6.plugs], .slice (some ⟨g, 0, none⟩) 3 c, .slice am ms.length cm]) (by unfold set4 at *; simp [results, Tryz.results65, go_sem, k0, k1, k2, k3]) rfl ?_
            refine ⟨m6, ls, ms, a6, am, cap6, g, c, cm, ⟨HSM.out, ?_, ?_, ?_⟩, HA2.out, (by rw [HL2.out]; decide), HST.out, HL24.out, ?_, ?_, by rw [HL2.out]⟩
            · show Reads (set4 w6 B0 _ _ _ _) (set4 w6 B0 _ _ _ _).heap.size _ _
              rw [size_set4]
              exact (HRD.out.more (by omega)).set4 (fun ad h => by have := HBL.out ad h; omega) _ _ _ _
            · intro ad h
              rw [HB0.out]
              have := HBL.out ad h; omega
            · rw [HB0.out]
              exact bel_set4 hbw6 (Nat.le_refl _) _ _ _ _
            · show Reads (set4 w6 B0 _ _ _ _) (set4 w6 B0 _ _ _ _).heap.size _ _
              rw [size_set4]
              exact (HRM.out.more (by omega)).set4 (fun ad h => by have := HBM.out ad h; omega) _ _ _ _
            · show Reads (set4 w6 B0 _ _ _ _) (set4 w6 B0 _ _ _ _).heap.size _ _
              rw [size_set4]
              refine Reads.set4 ?_ (fun ad h => by cases h; show g ≠ B0; omega) _ _ _ _
              exact (.inr ⟨_, 0, rfl, (OwR.own own6).lt, fun i hi => by rw [Nat.zero_add]; exact (OwR.own own6).cell i hi⟩)
end Go.Proofs.YtdmnkcmkpjmfaaaGreat
