/- Several of my texts in one: DrawG, DrawGw, PrA, PrC, PrD, Rc8. -/
import Derived.Test.YtnnblmibonnpcaaGreatDoorM6
import Derived.Test.YtnnblmibonnpcaaGreatDoorM8
import Derived.Test.YtnnblmibonnpcaaGreatDoorM11
import Derived.Deep.AppendSrc
import Derived.Test.YtnnblmibonnpcaaGreatDoorM17
import Derived.Test.YtnnblmibonnpcaaGreatDoorM1
import Derived.Test.YtnnblmibonnpcaaGreatDoorM10
/- A slice appended to a slice of the call's own; the grounds that are drawn. -/
namespace Go.Proofs.YtnnblmibonnpcaaGreatDoor
open Go.RowKit

section
variable {P : Program} {ops : Array Oper} {rest : List Oper} {dst : Option Tmp} {ty : TypeId} {pos : String} {after : Array Edge} {a : Act} {w0 : World} {Q : Exit → Act → World → Prop}
/-- 'x = append(x, us...)', x of the call's own: what lay in x's row is still read there. -/
theorem wl_pushs (t e : TypeId) {s x : Operand} {z : Value} {sz bytes : Nat} (hinfo : (P.info? e).map (fun i => (i.zero, i.size, i.bytes)) = some (some z, sz, bytes)) (ht : P.underlying t = some (.slice e)) (hzs : z.cells.size = sz) (hsz : 0 < sz)
    {base n g0 cap0 m c : Nat} {ad : Addr} {xs us : List Value} (hown : OwR w0 base e sz (.slice (some ⟨g0, 0, none⟩) n cap0) n xs) (hb : base ≤ w0.heap.size) (hus : us.length = m * sz) (hnews : ∀ j u, us[j]? = some u → w0.cell? (ad.add j) = some u) (h1 : ∀ u ∈ us, u.oneCell' = true) (hm : 0 < m) (hn : n + m ≤ 1048576) (hby : bytes ≤ 1000)
    (hs : a.eval s = .slice (some ⟨g0, 0, none⟩) n cap0) (hx : a.eval x = .slice (some ad) m c)
    (h : ∀ g cap w', OwR w' base e sz (.slice (some ⟨g, 0, none⟩) (n + m) cap) (n + m) (xs ++ us) → Below base w0 w' → (∀ j u, xs[j]? = some u → w'.cell? ⟨g0, j, none⟩ = some u) → wpList P ops Q rest (a.put dst (.slice (some ⟨g, 0, none⟩) (n + m) cap)) w') :
    wpList P ops Q (⟨dst, .call { callee := .builtin .append, args := #[s, x], argTypes := #[t, t] }, ty, pos, after, none⟩ :: rest) a w0 := by
  obtain ⟨i0, hi0, hz0, hz1, hz2⟩ := info_parts hinfo
  have hbytes : (n + m) * bytes ≤ 140737488355328 := by
    have : (n + m) * bytes ≤ 1048576 * 1000 := Nat.mul_le_mul (by omega) hby
    omega
  obtain ⟨g, cap, w', hr, ho, hg, hat, hlt⟩ := run_append_lies (P := P) w0 t ty base e i0 z sz bytes ht hi0 hz0 hz1 hz2 hzs hsz _ n xs hown ad m c us hus hnews h1 hm (by unfold maxLen; omega) hbytes hb _ rfl
  have hx0 : OwR w0 base e sz (.slice (some ⟨g0, 0, none⟩) n cap0) n xs := hown
  have hown0 := OwR.own hx0
  have hkeep : g = g0 ∨ w'.heap[g0]? = w0.heap[g0]? := by
    rcases hown.2 with ⟨h0, _⟩ | ⟨g', cap', cur, hv, hgb, hh, hn', hm', hs', ht'⟩
    · cases h0
    · cases hv
      by_cases hroom : n + m ≤ cap0
      · left
        rcases hat with h2 | h2
        · simpa [Value.ownBlock] using h2.symm
        · have hfit : n * i0.size + us.length ≤ cur.size := by rw [hus, hs', hz1, ← Nat.add_mul]; exact Nat.mul_le_mul_right _ hroom
          have hr2 := run_append_room (P := P) w0 t ty e i0 ht hi0 g0 n cap0 cur hh ad m c us (by rw [hz1]; exact hus) hnews h1 hroom hfit
          rw [hr2] at hr
          cases hr; rfl
      · right
        have holds : ∀ j u, xs[j]? = some u → w0.cell? ((⟨g0, 0, none⟩ : Addr).add j) = some u := fun j u hu => by
          rw [add_none, Nat.zero_add, hown0.cell j (List.getElem?_eq_some_iff.1 hu).1]; exact hu
        have hr2 := run_append_grow (P := P) w0 t ty e i0 z ht hi0 hz0 ⟨g0, 0, none⟩ n cap0 xs (by rw [hz1]; exact hown.1) holds ad m c us (by rw [hz1]; exact hus) hnews (by omega) (by omega) (growslice_fits (by omega) (by rw [hz2]; exact hbytes))
        rw [hr2] at hr
        cases hr
        exact Below.heap_alloc w0.drew _ g0 hown0.lt
  have hbel : Below base w0 w' := (Below.refl base w0).grown hg hb (fun k hk => (World.ownsRow.lt hown k hk).1)
  refine wpList_plain rfl fun _ hK => ?_
  unfold Oper.wp execOp
  simp only [resolve, invoke, builtin, Sem.run_bind, Sem.run_pure, Result.andThen_ok, List.map_toArray, List.map_cons, List.map_nil, hs, hx, hr]
  refine hK _ _ (h g cap w' ho hbel fun j u hu => ?_)
  have hj := (List.getElem?_eq_some_iff.1 hu).1
  rcases hkeep with rfl | hk
  · have ho2 : OwR w' base e sz (.slice (some ⟨g, 0, none⟩) (n + m) cap) (n + m) (xs ++ us) := ho
    rw [(OwR.own ho2).cell j (by rw [List.length_append]; omega), List.getElem?_append_left hj]
    exact hu
  · rw [World.cell?_of_block (w := w0) hk, hown0.cell j hj]
    exact hu
end
theorem Moved.bel {R B : Nat} {a b c : World} (h : Moved R a b) (k : Below B b c) (hB : a.heap.size ≤ B) : Moved R a c :=
  ⟨k.os.trans h.os, k.tape.trans h.tape, k.output.trans h.output, Nat.le_trans h.size k.size, fun x hx hne => (k.block x (by omega)).trans (h.block x hx hne)⟩
/-- The grounds that are drawn. -/
def GrsP (R c : Nat) (w : World) (e : Ending) (w' : World) : Prop :=
  ∃ (gs : List ByteArray) (g cap : Nat), e = .returned (.slice (some ⟨g, 0, none⟩) gs.length cap) ∧ (∀ x ∈ gs, x.size ≤ 200) ∧ gs.length ≤ 13 ∧ OwR w' w.heap.size 9 1 (.slice (some ⟨g, 0, none⟩) gs.length cap) gs.length (sv gs) ∧ Rd w' R c ∧ Moved R w w'
theorem sv_one_cell (gs : List ByteArray) : ∀ u ∈ sv gs, u.oneCell' = true := by
  intro u hu
  simp only [sv, List.mem_map] at hu
  obtain ⟨x, -, rfl⟩ := hu
  rfl
set_option maxRecDepth 100000 in
set_option maxHeartbeats 1000000 in
theorem l10Some_any (R : Nat) (s : ByteArray) (c : Nat) (w : World) (h : Rd w R c) (hc : c ≤ 6000000) (hs : s.size ≤ 200) :
    Calls Tryz.prog 52 #[.pointer (some ⟨R, 0, none⟩), .string s] w (GrsP R (c + 900) w) := by
  have hlt := h.lt
  have z0 := World.ownsRow_lit (base := w.heap.size) (e := 9) (size := 1) w #[] 0 (Nat.le_refl _) (by unfold maxLen; omega) (by simp)
  have hr0 := h.alloc (.cells #[] 9)
  have hm0 := (Moved.refl R w).alloc (.cells #[] 9)
  go_enter Tryz.func52, Tryz.ntmps52
  go_wp2_with fail
  generalize hB0 : w.heap.size = B0 at *
  have HB0 := Lib.hid hB0
  clear hB0
  refine (pick_any R _ c _ hr0 (by omega) (by omega) (by omega)).mono ?_
  rintro e w1 ⟨v, rfl, hv0, hv1, _, hr1, hm1⟩
  have z1 : OwR w1 B0 9 1 (.slice (some ⟨B0, 0, none⟩) 0 0) 0 (sv []) := OwR.moved z0 hm1 hlt
  have hmw1 := hm0.trans hm1
  clear z0 hr0 hm0 hm1 hv1
  go_wp2_with fail
  go_loopw [5, 7] (fun u i wr => ∃ (k : Nat) (gs : List ByteArray) (g cap : Nat), k ≤ 4 ∧ i = .int .i64 k ∧ gs.length = k ∧ u = .slice (some ⟨g, 0, none⟩) k cap ∧ (∀ x ∈ gs, x.size ≤ 200) ∧ OwR wr B0 9 1 (.slice (some ⟨g, 0, none⟩) k cap) k (sv gs) ∧ Rd wr R (c + 1 + 200 * k) ∧ Moved R w wr) (fun _ i _ => 4 - (intOf i).toNat)
  case atStart => exact ⟨0, [], B0, 0, by omega, rfl, rfl, rfl, by simp, z1, hr1, hmw1⟩
  case round =>
    clear z1 hr1 hmw1
    obtain ⟨k, gs, g, cap, hk, rfl, hgl, rfl, hall, hown, hr, hm⟩ := hrel
    have HA := Lib.hid hall
    have HL := Lib.hid hgl
    clear hall hgl
    have hz : B0 ≤ wr.heap.size := by have := hm.size; rw [HB0.out] at this; exact this
    by_cases hk4 : k < 4
    · by_cases he : (k : Int) = v
      · have t0 : ((k : Int) == v) = true := by simp [he]
        clear he
        go_wp2_with (at_builtin; ((with_reducible refine wl_push 30 9 inf_str Tryz.underlying30 rfl (by omega) hown (by omega) rfl (by simp [Value.oneCell']) (by omega) (by omega) rfl rfl ?_); intro g4 cap4 w4 o4 b4 s4))
        go_roundw
        case rel =>
          refine ⟨k + 1, gs ++ [s], g4, cap4, by omega, by go_num, by rw [List.length_append, HL.out]; rfl, rfl, ?_, ?_, (hr.below b4 hlt).more (by omega), hm.bel b4 (by rw [HB0.out]; exact Nat.le_refl _)⟩
          · intro x hx
            rcases List.mem_append.1 hx with h1 | h1
            · exact HA.out x h1
            · rw [List.mem_singleton.1 h1]; exact hs
          · rw [sv_append]; exact o4
        case measure => simp [intOf]; omega
      · have t0 : ((k : Int) == v) = false := by rw [beq_eq_false_iff_ne]; exact he
        clear he
        go_wp2_with fail
        refine (l1Some_any R s.size _ _ hr (by omega) hs).mono ?_
        rintro e w2 ⟨y, hy, rfl, hr2, hm2⟩
        have own2 := OwR.moved hown hm2 hlt
        have hmw2 := hm.trans hm2
        have hz2 := hm2.size
        clear hown hr hm hm2
        go_wp2_with (at_builtin; ((with_reducible refine wl_push 30 9 inf_str Tryz.underlying30 rfl (by omega) own2 (by omega) rfl (by simp [Value.oneCell']) (by omega) (by omega) rfl rfl ?_); intro g4 cap4 w4 o4 b4 s4))
        go_roundw
        case rel =>
          refine ⟨k + 1, gs ++ [y], g4, cap4, by omega, by go_num, by rw [List.length_append, HL.out]; rfl, rfl, ?_, ?_, (hr2.below b4 hlt).more (by omega), hmw2.bel b4 (by rw [HB0.out]; exact Nat.le_refl _)⟩
          · intro x hx
            rcases List.mem_append.1 hx with h1 | h1
            · exact HA.out x h1
            · rw [List.mem_singleton.1 h1]
              have := hy.2
              omega
          · rw [sv_append]; exact o4
        case measure => simp [intOf]; omega
    · have hk' : k = 4 := by omega
      subst hk'
      go_wp2_with fail
      refine (pick_any R _ _ _ hr (by omega) (by omega) (by omega)).mono ?_
      rintro e w2 ⟨v2, rfl, hv2, _, _, hr2, hm2⟩
      have own2 := OwR.moved hown hm2 hlt
      have hmw2 := hm.trans hm2
      have hz2 := hm2.size
      clear hown hr hm hm2
      by_cases e0 : v2 = 0
      · have t0 : (v2 == 0) = true := by simp [e0]
        clear e0
        go_wp2_with (at_builtin; ((with_reducible refine wl_push 30 9 inf_str Tryz.underlying30 rfl (by omega) own2 (by omega) rfl (by simp [Value.oneCell']) (by omega) (by omega) rfl rfl ?_); intro g4 cap4 w4 o4 b4 s4))
        go_ret
        refine ⟨gs ++ [⟨#[97, 98, 99, 100]⟩], g4, cap4, by rw [List.length_append, HL.out]; rfl, ?_, by rw [List.length_append, HL.out]; decide, ?_, (hr2.below b4 hlt).more (by omega), hmw2.bel b4 (by rw [HB0.out]; exact Nat.le_refl _)⟩
        · intro x hx
          rcases List.mem_append.1 hx with h1 | h1
          · exact HA.out x h1
          · rw [List.mem_singleton.1 h1]; decide
        · rw [HB0.out, List.length_append, HL.out, sv_append]; exact o4
      · have t0 : (v2 == 0) = false := by rw [beq_eq_false_iff_ne]; exact e0
        clear e0
        by_cases e1 : v2 = 1
        · have t1 : (v2 == 1) = true := by simp [e1]
          clear e1
          have hn1 : ∀ j u, (sv gs)[j]? = some u → w2.cell? ((⟨g, 0, none⟩ : Addr).add j) = some u := fun j u hu => by
            rw [add_none, Nat.zero_add, (OwR.own own2).cell j (List.getElem?_eq_some_iff.1 hu).1]; exact hu
          have hl1 : (sv gs).length = 4 * 1 := by rw [length_sv, HL.out]
          go_wp2_with (first | (at_builtin; ((with_reducible refine wl_pushs 30 9 inf_str Tryz.underlying30 rfl (by omega) own2 (by omega) hl1 hn1 (sv_one_cell gs) (by omega) (by omega) (by omega) rfl rfl ?_); intro g5 cap5 w5 o5 b5 k5; have z5 := b5.size; have hn2 : ∀ j u, (sv gs)[j]? = some u → w5.cell? ((⟨g, 0, none⟩ : Addr).add j) = some u := fun j u hu => by rw [add_none, Nat.zero_add]; exact k5 j u hu)) | (at_builtin; ((with_reducible refine wl_pushs 30 9 inf_str Tryz.underlying30 rfl (by omega) o5 (by omega) hl1 hn2 (sv_one_cell gs) (by omega) (by omega) (by omega) rfl rfl ?_); intro g6 cap6 w6 o6 b6 k6; have z6 := b6.size)) | (at_builtin; ((with_reducible refine wl_push 30 9 inf_str Tryz.underlying30 rfl (by omega) o6 (by omega) rfl (by simp [Value.oneCell']) (by omega) (by omega) rfl rfl ?_); intro g7 cap7 w7 o7 b7 s7)))
          go_ret
          have hb7 := (b5.trans b6).trans b7
          refine ⟨gs ++ gs ++ gs ++ [s], g7, cap7, by simp only [List.length_append, HL.out]; rfl, ?_, by simp only [List.length_append, HL.out]; show 4 + 4 + 4 + 1 ≤ 13; decide, ?_, (hr2.below hb7 hlt).more (by omega), hmw2.bel hb7 (by rw [HB0.out]; exact Nat.le_refl _)⟩
          · intro x hx
            simp only [List.mem_append, List.mem_singleton] at hx
            rcases hx with ((h1 | h1) | h1) | h1
            · exact HA.out x h1
            · exact HA.out x h1
            · exact HA.out x h1
            · rw [h1]; exact hs
          · simp only [HB0.out, List.length_append, HL.out, sv_append]
            exact o7
        · have t1 : (v2 == 1) = false := by rw [beq_eq_false_iff_ne]; exact e1
          clear e1
          go_wp2
          go_ret
          exact ⟨gs, g, cap, by rw [HL.out]; rfl, HA.out, by rw [HL.out]; decide, by rw [HB0.out, HL.out]; exact own2, hr2.more (by omega), hmw2⟩
/-- A machine, grounds and places are drawn. -/
def DrawnG (w : World) (e : Ending) (w' : World) : Prop :=
  ∃ (m : Mach) (gs : List ByteArray) (ps : List Int) (a : Option Addr) (cap g gc p pc : Nat), DrawnM w m a w' ∧ (∀ x ∈ gs, x.size ≤ 200) ∧ gs.length ≤ 13 ∧ ps.length ≤ 3 ∧ ps.length ≤ pc ∧ Reads w' w'.heap.size (some ⟨g, 0, none⟩) (sv gs) ∧ Reads w' w'.heap.size (some ⟨p, 0, none⟩) (iv ps) ∧
    e = .returned (.tuple #[.agg #[.slice a m.wheels.rotors.length cap, .string m.wheels.refl, .string m.rings, .string m.plugs], .slice (some ⟨g, 0, none⟩) gs.length gc, .slice (some ⟨p, 0, none⟩) ps.length pc])
end Go.Proofs.YtnnblmibonnpcaaGreatDoor

/- The contract of DrawGroundsWith: a machine, grounds of it and a characteristic. -/
namespace Go.Proofs.YtnnblmibonnpcaaGreatDoor
open Go.RowKit

theorem setB_plugs {m : Mach} {v p : ByteArray} (h : setB m v = true) (hp : plugB p = true) : setB ⟨m.wheels, m.rings, p⟩ v = true := by
  simp only [setB, machB, Bool.and_eq_true] at h ⊢
  exact ⟨⟨⟨h.1.1.1, hp⟩, h.1.2⟩, h.2⟩
theorem good_small {m : Mach} {v : ByteArray} (hx : GoodW3 m.wheels) (h : setB m v = true) : SmallM m :=
  ⟨hx.small, by have := (machB_fit (setB_mach h)).size; have := hx.2.1; omega, by have := permB_size (plugB_perm (machB_plug (setB_mach h))); omega⟩
theorem want_keep {X : Nat} {w w' : World} {a : Option Addr} {n : Nat} {xs : List Value} (h : n = 0 ∨ ∃ g, a = some ⟨g, 0, none⟩ ∧ X ≤ g ∧ Own w g xs) (hk : ∀ g, X ≤ g → Own w g xs → Own w' g xs) : n = 0 ∨ ∃ g, a = some ⟨g, 0, none⟩ ∧ X ≤ g ∧ Own w' g xs :=
  h.imp id fun ⟨g, h1, h2, h3⟩ => ⟨g, h1, h2, hk g h2 h3⟩
def DrawnGw (w : World) (e : Ending) (w' : World) : Prop :=
  ∃ (m : Mach) (gs ws : List ByteArray) (a : Option Addr) (cap g gc : Nat) (aw : Option Addr) (cw : Nat), DrawnM w m a w' ∧ (∀ x ∈ gs, x.size ≤ 200) ∧ gs.length ≤ 13 ∧ ws.length ≤ 3 ∧ Reads w' w'.heap.size (some ⟨g, 0, none⟩) (sv gs) ∧ Reads w' w'.heap.size aw (sv ws) ∧
    e = .returned (.tuple #[.agg #[.slice a m.wheels.rotors.length cap, .string m.wheels.refl, .string m.rings, .string m.plugs], .slice (some ⟨g, 0, none⟩) gs.length gc, .slice aw ws.length cw])
set_option maxRecDepth 100000 in
set_option maxHeartbeats 2000000 in
theorem DrawGroundsWith_any (a0 : Option Addr) (len cap : Nat) (zs : List Int) (w : World) (h : IsRow .u8 w a0 len cap zs) (hl : len ≤ 1048576) :
    Calls Tryz.prog 26 #[.slice a0 len cap] w (DrawnGw w) := by
  have o0 := Own.new w [.slice none 0 0, .string ⟨#[]⟩, .string ⟨#[]⟩, .string ⟨#[]⟩] 27
  have hb0 := (Below.refl w.heap.size w).alloc (Nat.le_refl _) (.cells #[.slice none 0 0, .string ⟨#[]⟩, .string ⟨#[]⟩, .string ⟨#[]⟩] 27)
  go_enter Tryz.func26, Tryz.ntmps26
  go_wp2_with fail
  refine (l21Open_any a0 len cap zs _ (h.alloc_ _) hl).mono ?_
  rintro e w1 ⟨rfl, hr1, hb1⟩
  have o1 := o0.below hb1 o0.lt
  have hbw1 := bt hb0 hb1
  rw [World.size_alloc] at hr1
  clear o0 hb0 hb1 h
  go_wp2_with fail
  generalize hB0 : w.heap.size = B0 at *
  have HB0 := Lib.hid hB0
  clear hB0
  refine (l8Any_any (B0 + 1) 0 _ hr1 (by omega)).mono ?_
  rintro e w2 ⟨m, v, g, cp, hx, hset, rfl, hown2, hg, hr2, hm2⟩
  have l1 := hr1.lt
  have o2 := o1.grown hm2 (by simp)
  have hbw2 : Below B0 w w2 := hbw1.trans (hm2.toBelow (by omega) (by omega))
  have hv3 : v.size ≤ 3 := by rw [setB_len hset]; exact hx.2.1
  have hv1 : 1 ≤ v.size := by rw [setB_len hset]; exact hx.1
  clear o1 hr1 hbw1 hm2
  have p2 := Own.new w2 [.slice (some ⟨g, 0, none⟩) m.wheels.rotors.length cp, .string m.wheels.refl, .string m.rings, .string m.plugs] 27
  have o2' := o2.alloc (.cells [.slice (some ⟨g, 0, none⟩) m.wheels.rotors.length cp, .string m.wheels.refl, .string m.rings, .string m.plugs].toArray 27)
  have hr2' := hr2.alloc (.cells [.slice (some ⟨g, 0, none⟩) m.wheels.rotors.length cp, .string m.wheels.refl, .string m.rings, .string m.plugs].toArray 27)
  have hown2' := World.ownsRow.alloc hown2 (.cells [.slice (some ⟨g, 0, none⟩) m.wheels.rotors.length cp, .string m.wheels.refl, .string m.rings, .string m.plugs].toArray 27)
  have hbw2' := hbw2.alloc (by have := o2.lt; omega) (.cells [.slice (some ⟨g, 0, none⟩) m.wheels.rotors.length cp, .string m.wheels.refl, .string m.rings, .string m.plugs].toArray 27)
  have l2 := o2.lt
  have lr2 := hr2.lt
  have lg := (World.ownsRow.lt hown2 g rfl).2
  have hz2 : (w2.alloc (.cells [.slice (some ⟨g, 0, none⟩) m.wheels.rotors.length cp, .string m.wheels.refl, .string m.rings, .string m.plugs].toArray 27)).heap.size = w2.heap.size + 1 := by simp
  have HZ2 := Lib.hid hz2
  clear hz2
  have f0 := p2.at_ (i := 0) rfl
  have f1 := p2.at_ (i := 1) rfl
  have f2 := p2.at_ (i := 2) rfl
  have f3 := p2.at_ (i := 3) rfl
  have hmat := (good_small hx hset).at_ (Reads.of_own (OwR.own hown2') (OwR.own hown2').lt)
  go_wp2_with fail
  generalize (w2.alloc (.cells [.slice (some ⟨g, 0, none⟩) m.wheels.rotors.length cp, .string m.wheels.refl, .string m.rings, .string m.plugs].toArray 27)) = W2 at *
  generalize w2.heap.size = B2 at *
  clear o2 hr2 hown2 hbw2
  refine (specCharacteristic_any (some ⟨g, 0, none⟩) m.wheels.rotors.length cp m v _ hmat (by omega)).mono ?_
  rintro e w3 ⟨vw, rfl, how, hb3⟩
  have z2 := HZ2.out
  have o3 := o2'.below hb3 (by omega)
  have p3 := p2.below hb3 (by omega)
  have hown3 := OwR.same hown2' (hb3.block g (by omega))
  have hr3 := hr2'.below hb3 (by omega)
  have hbw3 := hbw2'.trans (hb3.mono (by omega))
  have hwl : (chT m v).length ≤ 3 := by
    unfold chT chP
    rw [List.length_map, if_pos hset]
    simp [prods]; omega
  have hset' := fun (p : ByteArray) (hp : plugB p = true) => setB_plugs hset hp
  obtain ⟨aw, cw, rfl, hwc, -, hwo⟩ := OwR.val how
  have hz3 := hb3.size
  clear f0 f1 f2 f3 o2' p2 hr2' hown2' hbw2' hmat how HZ2 hb3
  generalize chT m v = ws at *
  go_wp2_with fail
  refine (l4Any_any (B0 + 1) _ _ hr3 (by omega)).mono ?_
  rintro e w4 ⟨pl, hp4, rfl, hr4, hm4⟩
  have o4 := o3.grown hm4 (by simp)
  have p4 := p3.grown hm4 (by simp; omega)
  have hown4 := OwR.movedR hown3 hm4 (by simp [Value.ownBlock]; omega)
  have hbw4 := hbw3.trans (hm4.toBelow (by omega) (by omega))
  have hwo4 := want_keep hwo fun x hx h => h.grown hm4 (by simp; omega)
  have hz4 := hm4.size
  have hst4 := hset' pl hp4
  clear o3 p3 hr3 hown3 hbw3 hm4 hset' hwo hset hp4
  have g3 := p4.free 3 (by simp)
  have f3 := p4.at_ (i := 3) rfl
  go_upto_region 5 with (fail)
  have o5 := o4.far (p := ⟨B2, 3, none⟩) (by simp only; omega) (.string pl)
  have p5 := p4.set_ (i := 3) (by simp) (.string pl)
  have hr5 := hr4.far (p := ⟨B2, 3, none⟩) (by simp only; omega) (.string pl)
  have hown5 := OwR.off hown4 (p := ⟨B2, 3, none⟩) (by simp [Value.ownBlock]; omega) (.string pl)
  have hbw5 := hbw4.setCell (p := ⟨B2, 3, none⟩) (by simp only; omega) (.string pl)
  have hwo5 := want_keep hwo4 fun x hx h => h.far (p := ⟨B2, 3, none⟩) (by simp only; omega) (.string pl)
  have hz5 : (w4.setCell ⟨B2, 3, none⟩ (.string pl)).heap.size = w4.heap.size := by simp [World.setCell]
  generalize (w4.setCell ⟨B2, 3, none⟩ (.string pl)) = w5 at *
  have f0 := p5.at_ (i := 0) rfl
  have f1 := p5.at_ (i := 1) rfl
  have f2 := p5.at_ (i := 2) rfl
  have f3 := p5.at_ (i := 3) rfl
  have HZ5 := Lib.hid hz5
  clear o4 p4 hr4 hown4 hbw4 hwo4 g3 hz5
  go_wp2_with fail
  refine (l8Bad_any (B0 + 1) g cp _ ⟨m.wheels, m.rings, pl⟩ v _ _ hr5 (by omega) hx hst4 hown5 (by omega)).mono ?_
  rintro e w6 ⟨m6, a6, cap6, hm6, rfl, hrd6, hbl6, hr6, ht6⟩
  have z5 := HZ5.out
  have o6 := o5.tu ht6 (by omega) (by omega)
  have hwo6 := want_keep hwo5 fun x hx h => h.tu ht6 (by omega) (by omega)
  have hbw6 := hbw5.trans (ht6.toBelow (by omega) (by omega) (by omega))
  have hbl : ∀ ad, a6 = some ad → B0 + 1 < ad.block := fun ad h => by
    have h1 := hbl6 ad h
    omega
  have HBL := Lib.hid hbl
  have HM := Lib.hid hm6
  have hz6 := ht6.size
  clear f0 f1 f2 f3 p5 o5 hr5 hown5 hbw5 hwo5 ht6 hm6 hbl6 hbl HZ5
  go_wp2_with fail
  refine (l10Some_any (B0 + 1) v _ _ hr6 (by omega) (by omega)).mono ?_
  rintro e w9 ⟨gs, gg, gc, rfl, hgs, hgl, hgo, hr9, hm9⟩
  have z6 := o6.lt
  have o9 := o6.grown hm9 (by simp)
  have hwo9 := want_keep hwo6 fun x hx h => h.grown hm9 (by simp; omega)
  have hbw9 := hbw6.trans (hm9.toBelow (by omega) (by omega))
  have hrd9 := Reads.moved hrd6 hm9 (fun ad h => by have := HBL.out ad h; omega) (Nat.le_refl _)
  have hgg : w6.heap.size ≤ gg := (World.ownsRow.lt hgo gg rfl).1
  have y9 := OwR.own hgo
  have HGS := Lib.hid hgs
  clear o6 hwo6 hrd6 hr6 hbw6 hm9 hgs hgo
  have HRD := Lib.hid hrd9
  clear hrd9
  have c0 := o9.at_ (i := 0) rfl
  have c1 := o9.at_ (i := 1) rfl
  have c2 := o9.at_ (i := 2) rfl
  have c3 := o9.at_ (i := 3) rfl
  have b0 := o9.free 0 (by simp)
  have b1 := o9.free 1 (by simp)
  have b2 := o9.free 2 (by simp)
  have b3 := o9.free 3 (by simp)
  go_wp2
  have oz := o9.set4 (.slice a6 m6.wheels.rotors.length cap6) (.string m6.wheels.refl) (.string m6.rings) (.string m6.plugs)
  have k0 := oz.at_ (i := 0) rfl
  have k1 := oz.at_ (i := 1) rfl
  have k2 := oz.at_ (i := 2) rfl
  have k3 := oz.at_ (i := 3) rfl
  refine bodyPost_ret (v := .tuple #[.agg #[.slice a6 m6.wheels.rotors.length cap6, .string m6.wheels.refl, .string m6.rings, .string m6.plugs], .slice (some ⟨gg, 0, none⟩) gs.length gc, .slice aw ws.length cw]) (by unfold set4 at *; simp [results, Tryz.results26, go_sem, k0, k1, k2, k3]) rfl ?_
  refine ⟨m6, gs, ws, a6, cap6, gg, gc, aw, cw, ⟨HM.out, ?_, ?_, ?_⟩, HGS.out, hgl, hwl, ?_, ?_, rfl⟩
  · show Reads (set4 w9 B0 _ _ _ _) (set4 w9 B0 _ _ _ _).heap.size _ _
    rw [size_set4]
    exact HRD.out.set4 (fun ad h => by have := HBL.out ad h; omega) _ _ _ _
  · intro ad h
    rw [HB0.out]
    have := HBL.out ad h; omega
  · rw [HB0.out]
    exact bel_set4 hbw9 (Nat.le_refl _) _ _ _ _
  · show Reads (set4 w9 B0 _ _ _ _) (set4 w9 B0 _ _ _ _).heap.size _ _
    rw [size_set4]
    exact (Reads.of_own y9 y9.lt).set4 (fun ad h => by cases h; simp only; omega) _ _ _ _
  · show Reads (set4 w9 B0 _ _ _ _) (set4 w9 B0 _ _ _ _).heap.size _ _
    rw [size_set4]
    rcases hwo9 with h0 | ⟨x, rfl, hx, hw⟩
    · have : ws = [] := List.length_eq_zero_iff.1 h0
      subst this
      exact Reads.nil_
    · exact (Reads.of_own hw hw.lt).set4 (fun ad h => by cases h; simp only; omega) _ _ _ _
end Go.Proofs.YtnnblmibonnpcaaGreatDoor

/- Plain laws: lists turned by an involution; parity. -/
namespace Go.Proofs.YtnnblmibonnpcaaGreatDoor

/-- An involution that fixes nothing of a list pairs it off. -/
theorem even_of_inv {α : Type} [DecidableEq α] (f : α → α) : ∀ (n : Nat) (l : List α), l.length = n → l.Nodup → (∀ x ∈ l, f x ∈ l) → (∀ x ∈ l, f (f x) = x) → (∀ x ∈ l, f x ≠ x) → n % 2 = 0 := by
  intro n
  induction n using Nat.strongRecOn with
  | ind n ih =>
    intro l hl hd hc hi hf
    match l, hl with
    | [], hl => simp at hl; subst hl; rfl
    | x :: t, hl =>
      have hx := hc x (by simp)
      have hne := hf x (by simp)
      have hd2 := List.nodup_cons.1 hd
      have hxt : f x ∈ t := by
        rcases List.mem_cons.1 hx with h | h
        · exact absurd h hne
        · exact h
      have hle := List.length_erase_of_mem hxt
      have hpos := List.length_pos_of_mem hxt
      simp only [List.length_cons] at hl
      have hmem : ∀ y, y ∈ t.erase (f x) ↔ y ≠ f x ∧ y ∈ t := fun y => List.Nodup.mem_erase_iff hd2.2
      have := ih (n - 2) (by omega) (t.erase (f x)) (by omega) (List.Nodup.erase _ hd2.2) (fun y hy => by
        obtain ⟨h1, h2⟩ := (hmem y).1 hy
        have h3 := hc y (by simp [h2])
        refine (hmem _).2 ⟨fun e => ?_, ?_⟩
        · have h4 := congrArg f e
          rw [hi y (by simp [h2]), hi x (by simp)] at h4
          exact hd2.1 (h4 ▸ h2)
        · rcases List.mem_cons.1 h3 with h | h
          · have h4 := congrArg f h
            rw [hi y (by simp [h2])] at h4
            exact absurd h4 h1
          · exact h) (fun y hy => hi y (by simp [((hmem y).1 hy).2])) (fun y hy => hf y (by simp [((hmem y).1 hy).2]))
      omega
theorem nodup_filter {α : Type} {l : List α} (P : α → Bool) (h : l.Nodup) : (l.filter P).Nodup := List.nodup_iff_pairwise_ne.2 (List.Pairwise.filter P (List.nodup_iff_pairwise_ne.1 h))
theorem filter_both {α : Type} (P : α → Bool) : ∀ l : List α, l.length = (l.filter P).length + (l.filter fun x => !P x).length
  | [] => rfl
  | x :: l => by
    have := filter_both P l
    cases h : P x <;> simp [h] <;> omega
/-- .. and with fixed members: as many as it fixes, but for pairs. -/
theorem odd_of_inv {α : Type} [DecidableEq α] (f : α → α) (l : List α) (hd : l.Nodup) (hc : ∀ x ∈ l, f x ∈ l) (hi : ∀ x ∈ l, f (f x) = x) : l.length % 2 = (l.filter fun x => decide (f x = x)).length % 2 := by
  have h1 := filter_both (fun x => decide (f x = x)) l
  have h2 := even_of_inv f _ (l.filter fun x => !decide (f x = x)) rfl (nodup_filter _ hd) (fun x hx => by
    obtain ⟨a, b⟩ := List.mem_filter.1 hx
    refine List.mem_filter.2 ⟨hc x a, ?_⟩
    simp only [Bool.not_eq_true', decide_eq_false_iff_not] at b ⊢
    rw [hi x a]
    exact fun e => b e.symm) (fun x hx => hi x (List.mem_filter.1 hx).1) (fun x hx => by
    have b := (List.mem_filter.1 hx).2
    simpa using b)
  omega
/-- The sum of the first values. -/
def sumN : Nat → (Nat → Nat) → Nat
  | 0, _ => 0
  | n + 1, f => sumN n f + f n
theorem sumN_congr {f g : Nat → Nat} : ∀ {n : Nat}, (∀ i, i < n → f i = g i) → sumN n f = sumN n g
  | 0, _ => rfl
  | n + 1, h => by simp only [sumN]; rw [sumN_congr (fun i hi => h i (by omega)), h n (by omega)]
theorem sumN_add (f g : Nat → Nat) : ∀ n, sumN n (fun i => f i + g i) = sumN n f + sumN n g
  | 0 => rfl
  | n + 1 => by simp only [sumN]; rw [sumN_add f g n]; omega
theorem sumN_list (f : Nat → Nat) : ∀ n, sumN n f = ((List.range n).map f).sum
  | 0 => rfl
  | n + 1 => by simp only [sumN]; rw [List.range_succ, List.map_append, List.sum_append_nat, sumN_list f n]; simp
theorem IsP.perm_range {p : List Nat} (h : IsP p) : (List.range 10).map (pAt p) = p := by
  apply List.ext_getElem (by simp [h.len])
  intro i h1 h2
  simp [pAt_get h2]
theorem sumN_perm {p : List Nat} (h : IsP p) (f : Nat → Nat) : sumN 10 (fun i => f (pAt p i)) = sumN 10 f := by
  rw [sumN_list, sumN_list]
  have e : (List.range 10).map (fun i => f (pAt p i)) = ((List.range 10).map (pAt p)).map f := by simp
  rw [e, h.perm_range]
  have hp : p.Perm (List.range 10) := (List.perm_ext_iff_of_nodup h.nd List.nodup_range).2 fun x => ⟨fun hx => by simpa using h.lt x hx, fun hx => h.mem (by simpa using hx)⟩
  exact (hp.map f).sum_nat
/-- Twice the sum below the diagonal. -/
theorem sumN_sym {F : Nat → Nat → Nat} (hs : ∀ i j, F i j = F j i) (h0 : ∀ i, F i i = 0) : ∀ n, sumN n (fun i => sumN n (F i)) = 2 * sumN n (fun i => sumN i (F i))
  | 0 => rfl
  | n + 1 => by
    have ih := sumN_sym hs h0 n
    simp only [sumN]
    rw [sumN_add, ih, h0]
    have : sumN n (fun i => F i n) = sumN n (F n) := sumN_congr fun i _ => hs i n
    rw [this]
    omega
end Go.Proofs.YtnnblmibonnpcaaGreatDoor

/- Plain laws: the cycles of a product of two involutions come in pairs. -/
namespace Go.Proofs.YtnnblmibonnpcaaGreatDoor

theorem cyc_symm {p : List Nat} (h : IsP p) {x y : Nat} (hx : x < 10) (hy : y < 10) (hm : y ∈ cycL p x) : x ∈ cycL p y := by
  obtain ⟨k, _, e⟩ := List.mem_map.1 hm
  refine itP_unback h hy hx (n := k) ?_
  show itP p k x ∈ _
  rw [show itP p k x = y from e]
  exact self_cycL p y
theorem cyc_trans {p : List Nat} (h : IsP p) {x y z : Nat} (hx : x < 10) (h1 : y ∈ cycL p x) (h2 : z ∈ cycL p y) : z ∈ cycL p x := by
  obtain ⟨k, _, e⟩ := List.mem_map.1 h1
  obtain ⟨j, _, e2⟩ := List.mem_map.1 h2
  rw [← e2, ← e, ← itP_add]
  exact itP_mem h hx _
theorem cyc_lt {p : List Nat} (h : IsP p) {x y : Nat} (hx : x < 10) (h1 : y ∈ cycL p x) : y < 10 := cycL_lt h hx y h1
/-- The least letter of a cycle. -/
def mnC (p : List Nat) (x : Nat) : Nat := (List.range 10).findIdx fun r => decide (x ∈ cycL p r)
theorem mnC_mem {p : List Nat} {x : Nat} (hx : x < 10) : mnC p x < 10 ∧ x ∈ cycL p (mnC p x) := by
  have h1 : (List.range 10).findIdx (fun r => decide (x ∈ cycL p r)) < (List.range 10).length := by
    rw [List.findIdx_lt_length]
    exact ⟨x, by simpa using hx, by simpa using self_cycL p x⟩
  have h2 := List.findIdx_getElem (w := h1)
  simp only [List.getElem_range, decide_eq_true_eq] at h2
  rw [List.length_range] at h1
  exact ⟨h1, h2⟩
theorem mnC_min {p : List Nat} {x r : Nat} (hr : r < mnC p x) : ¬ x ∈ cycL p r := by
  have h3 : r < (List.range 10).findIdx (fun r => decide (x ∈ cycL p r)) := hr
  have := List.not_of_lt_findIdx (p := fun r => decide (x ∈ cycL p r)) (xs := List.range 10) (i := r) h3
  simpa using this
theorem mnC_le {p : List Nat} {x r : Nat} (h : x ∈ cycL p r) : mnC p x ≤ r := by
  rcases Nat.lt_or_ge r (mnC p x) with h1 | h1
  · exact absurd h (mnC_min h1)
  · exact h1
theorem mnC_eq {p : List Nat} (h : IsP p) {x y : Nat} (hx : x < 10) (hy : y < 10) (hm : y ∈ cycL p x) : mnC p x = mnC p y := by
  have h1 := mnC_mem (p := p) hx
  have h2 := mnC_mem (p := p) hy
  have h3 := mnC_le (cyc_trans h h1.1 h1.2 hm)
  have h4 := mnC_le (cyc_trans h h2.1 h2.2 (cyc_symm h hx hy hm))
  omega
theorem mnC_mn {p : List Nat} (h : IsP p) {x : Nat} (hx : x < 10) : mnC p (mnC p x) = mnC p x := by
  have h1 := mnC_mem (p := p) hx
  exact mnC_eq h h1.1 hx h1.2
/-- The least letters of the cycles. -/
def repC (p : List Nat) (k : Nat) : List Nat := (List.range k).filter fun r => decide (mnC p r = r)
theorem repC_succ (p : List Nat) (k : Nat) : repC p (k + 1) = repC p k ++ if mnC p k = k then [k] else [] := by
  unfold repC
  rw [List.range_succ, List.filter_append]
  congr 1
  by_cases h : mnC p k = k <;> simp [h]
theorem cycs_rep {p : List Nat} (h : IsP p) : ∀ k, k ≤ 10 → cycsTo p k = (repC p k).map (cycL p)
  | 0, _ => rfl
  | k + 1, hk => by
    have ih := cycs_rep h k (by omega)
    have hiff : k ∈ (cycsTo p k).flatten ↔ mnC p k ≠ k := by
      rw [ih, List.mem_flatten]
      constructor
      · rintro ⟨c, hc, hm⟩
        obtain ⟨a, ha, rfl⟩ := List.mem_map.1 hc
        have h1 := mnC_le hm
        have h2 := (List.mem_filter.1 ha).1
        have : a < k := by simpa using h2
        omega
      · intro hne
        have h1 := mnC_mem (p := p) (x := k) (by omega)
        have h2 := mnC_le (p := p) (self_cycL p k)
        refine ⟨_, List.mem_map.2 ⟨mnC p k, List.mem_filter.2 ⟨by simp; omega, ?_⟩, rfl⟩, h1.2⟩
        simpa using mnC_mn h (x := k) (by omega)
    rw [repC_succ]
    by_cases hm : k ∈ (cycsTo p k).flatten
    · rw [cycsTo_yes hm, if_neg (hiff.1 hm), List.append_nil, ih]
    · have hmk : mnC p k = k := Classical.byContradiction fun hne => hm (hiff.2 hne)
      rw [cycsTo_no hm, if_pos hmk, ih, List.map_append]; rfl
theorem lens_rep {p : List Nat} (h : IsP p) : lensI p (cycs p).length = (repC p 10).map fun r => (ordP p r : Int) := by
  unfold lensI
  rw [List.take_length]
  unfold cycs
  rw [cycs_rep h 10 (Nat.le_refl _), List.map_map]
  apply List.map_congr_left
  intro r _
  simp [len_cycL]
theorem odd_xor {a b : Nat} : decide ((a + b) % 2 = 1) = (decide (a % 2 = 1) ^^ decide (b % 2 = 1)) := by
  rcases Nat.mod_two_eq_zero_or_one a with h | h <;> rcases Nat.mod_two_eq_zero_or_one b with h2 | h2 <;> simp [h, h2, Nat.add_mod]
theorem xmT_test (l : List Int) (y : Nat) : (xmT l).testBit y = decide ((l.filter fun x => decide (x.toNat = y)).length % 2 = 1) := by
  have aux : ∀ (l : List Int) (m : Nat), (l.foldl (fun m x => m ^^^ 2 ^ x.toNat) m).testBit y = (m.testBit y ^^ decide ((l.filter fun x => decide (x.toNat = y)).length % 2 = 1)) := by
    intro l
    induction l with
    | nil => intro m; simp
    | cons x l ih =>
      intro m
      rw [List.foldl_cons, ih, Nat.testBit_xor, Nat.testBit_two_pow]
      by_cases h : x.toNat = y
      · rw [List.filter_cons_of_pos (by simpa using h), List.length_cons, Nat.add_comm, odd_xor]
        simp [h]
      · rw [List.filter_cons_of_neg (by simpa using h)]
        simp [h]
  have := aux l 0
  simpa [xmT] using this
/-- The lengths pair off if those of each length do. -/
theorem paired_of {p : List Nat} (h : IsP p) (hc : ∀ n, ((repC p 10).filter fun r => decide (ordP p r = n)).length % 2 = 0) : pairedB p = true := by
  unfold pairedB
  rw [decide_eq_true_eq]
  apply Nat.eq_of_testBit_eq
  intro y
  rw [xmT_test, Nat.zero_testBit, decide_eq_false_iff_not]
  have h1 : ((lenD p).filter fun x => decide (x.toNat = y)).length = ((lensI p (cycs p).length).filter fun x => decide (x.toNat = y)).length := by
    have hp : (lenD p).Perm (lensI p (cycs p).length) := by
      unfold lenD sortI
      exact (List.reverse_perm _).trans (List.mergeSort_perm _ _)
    exact (hp.filter _).length_eq
  rw [h1, lens_rep h, List.filter_map, List.length_map]
  have := hc y
  have e : ((repC p 10).filter ((fun x : Int => decide (x.toNat = y)) ∘ fun r => (ordP p r : Int))) = ((repC p 10).filter fun r => decide (ordP p r = y)) := by
    apply List.filter_congr
    intro r _
    simp
  rw [e]
  omega
theorem at_pr {a : List Nat} (b : List Nat) (ha : IsP a) {x : Nat} (hx : x < 10) : pAt (thenP a b) x = pAt b (pAt a x) := at_then b (by rw [ha.len]; exact hx)
section
variable {a b : List Nat} (ha : IsP a) (hb : IsP b) (ia : ∀ x, x < 10 → pAt a (pAt a x) = x) (fa : ∀ x, x < 10 → pAt a x ≠ x) (ib : ∀ x, x < 10 → pAt b (pAt b x) = x) (fb : ∀ x, x < 10 → pAt b x ≠ x)
include ha hb ia ib
/-- a turns the product about. -/
theorem turn_one {y : Nat} (hy : y < 10) : pAt (thenP a b) (pAt a (pAt (thenP a b) y)) = pAt a y := by
  have h1 := ha.at_lt hy
  have h2 := hb.at_lt h1
  rw [at_pr b ha hy, at_pr b ha (ha.at_lt h2), ia _ h2, ib _ h1]
theorem turn_all {x : Nat} (hx : x < 10) : ∀ k, itP (thenP a b) k (pAt a (itP (thenP a b) k x)) = pAt a x
  | 0 => rfl
  | k + 1 => by
    have h1 := itP_lt (ha.then hb) hx k
    rw [itP_add]
    show itP (thenP a b) k (itP (thenP a b) 1 (pAt a (pAt (thenP a b) (itP (thenP a b) k x)))) = _
    show itP (thenP a b) k (pAt (thenP a b) (pAt a (pAt (thenP a b) (itP (thenP a b) k x)))) = _
    rw [turn_one ha hb ia ib h1]
    exact turn_all hx k
theorem turn_cyc {x y : Nat} (hx : x < 10) (hm : y ∈ cycL (thenP a b) x) : pAt a y ∈ cycL (thenP a b) (pAt a x) := by
  have hp := ha.then hb
  obtain ⟨k, _, e⟩ := List.mem_map.1 hm
  have h1 := turn_all ha hb ia ib hx k
  rw [show itP (thenP a b) k x = y from e] at h1
  have hy := cyc_lt hp hx hm
  refine cyc_symm hp (ha.at_lt hy) (ha.at_lt hx) ?_
  rw [← h1]
  exact itP_mem hp (ha.at_lt hy) k
include fa fb
theorem turn_far {x : Nat} (hx : x < 10) : ¬ pAt a x ∈ cycL (thenP a b) x := fun hm => by
  have hp := ha.then hb
  obtain ⟨k, _, e⟩ := List.mem_map.1 hm
  have e : itP (thenP a b) k x = pAt a x := e
  have hj := itP_lt hp hx (k / 2)
  have h1 := turn_all ha hb ia ib hx (k / 2)
  rcases Nat.mod_two_eq_zero_or_one k with h | h
  · have hk : k = k / 2 + k / 2 := by omega
    rw [hk, itP_add, ← h1] at e
    exact fa _ hj (itP_inj hp hj (ha.at_lt hj) _ e).symm
  · have hk : k = k / 2 + (1 + k / 2) := by omega
    rw [hk, itP_add, itP_add, ← h1] at e
    have e2 := itP_inj hp (itP_lt hp hj 1) (ha.at_lt hj) _ e
    have e3 : pAt (thenP a b) (itP (thenP a b) (k / 2) x) = pAt a (itP (thenP a b) (k / 2) x) := e2
    rw [at_pr b ha hj] at e3
    exact fb _ (ha.at_lt hj) e3
omit fa fb
theorem turn_ord {x : Nat} (hx : x < 10) : ordP (thenP a b) (pAt a x) ≤ ordP (thenP a b) x := by
  have hp := ha.then hb
  have h1 := turn_all ha hb ia ib hx (ordP (thenP a b) x)
  rw [ordP_spec hp hx] at h1
  rcases Nat.lt_or_ge (ordP (thenP a b) x) (ordP (thenP a b) (pAt a x)) with h | h
  · exact absurd h1 (ordP_min _ (ordP_pos _ _) h)
  · exact h
end
theorem ord_cyc {p : List Nat} (h : IsP p) {x y : Nat} (hx : x < 10) (hm : y ∈ cycL p x) : ordP p y = ordP p x := by
  have aux : ∀ {x y : Nat}, x < 10 → y ∈ cycL p x → ordP p y ≤ ordP p x := by
    intro x y hx hm
    obtain ⟨k, _, e⟩ := List.mem_map.1 hm
    have e : itP p k x = y := e
    have h1 : itP p (ordP p x) y = y := by
      rw [← e, ← itP_add, Nat.add_comm, itP_add, ordP_spec h hx]
    rcases Nat.lt_or_ge (ordP p x) (ordP p y) with h2 | h2
    · exact absurd h1 (ordP_min _ (ordP_pos _ _) h2)
    · exact h2
  have hy := cyc_lt h hx hm
  have h1 := aux hx hm
  have h2 := aux hy (cyc_symm h hx hy hm)
  omega
/-- The cycles of a product of two involutions without fixed letters come in pairs. -/
theorem paired_prod {a b : List Nat} (ha : IsP a) (hb : IsP b) (ia : ∀ x, x < 10 → pAt a (pAt a x) = x) (fa : ∀ x, x < 10 → pAt a x ≠ x) (ib : ∀ x, x < 10 → pAt b (pAt b x) = x) (fb : ∀ x, x < 10 → pAt b x ≠ x) : pairedB (thenP a b) = true := by
  have hp := ha.then hb
  refine paired_of hp fun n => ?_
  have hR : ∀ {r : Nat}, r ∈ (repC (thenP a b) 10).filter (fun r => decide (ordP (thenP a b) r = n)) ↔ r < 10 ∧ mnC (thenP a b) r = r ∧ ordP (thenP a b) r = n := by
    intro r
    unfold repC
    simp only [List.mem_filter, List.mem_range, decide_eq_true_eq, and_assoc]
  have hord : ∀ x, x < 10 → ordP (thenP a b) (pAt a x) = ordP (thenP a b) x := fun x hx => by
    have h1 := turn_ord ha hb ia ib hx
    have h2 := turn_ord ha hb ia ib (ha.at_lt hx)
    rw [ia x hx] at h2
    omega
  refine even_of_inv (fun r => mnC (thenP a b) (pAt a r)) _ _ rfl (nodup_filter _ (nodup_filter _ List.nodup_range)) (fun r hr => ?_) (fun r hr => ?_) (fun r hr => ?_)
  · obtain ⟨h1, h2, h3⟩ := hR.1 hr
    have h4 := ha.at_lt h1
    have h5 := mnC_mem (p := thenP a b) h4
    refine hR.2 ⟨h5.1, mnC_mn hp h4, ?_⟩
    rw [← ord_cyc hp h5.1 h5.2, hord r h1]; exact h3
  · obtain ⟨h1, h2, h3⟩ := hR.1 hr
    have h4 := ha.at_lt h1
    have h5 := mnC_mem (p := thenP a b) h4
    have h6 := turn_cyc ha hb ia ib h5.1 h5.2
    rw [ia r h1] at h6
    show mnC (thenP a b) (pAt a (mnC (thenP a b) (pAt a r))) = r
    rw [mnC_eq hp (ha.at_lt h5.1) h1 h6, h2]
  · obtain ⟨h1, h2, h3⟩ := hR.1 hr
    have h4 := ha.at_lt h1
    have h5 := mnC_mem (p := thenP a b) h4
    intro e
    have e : mnC (thenP a b) (pAt a r) = r := e
    rw [e] at h5
    exact turn_far ha hb ia fa ib fb h1 h5.2
end Go.Proofs.YtnnblmibonnpcaaGreatDoor

/- Plain laws: a permutation and its conjugate have cycles of the same lengths. -/
namespace Go.Proofs.YtnnblmibonnpcaaGreatDoor

theorem conj_at {p q : List Nat} (hq : IsP q) {x : Nat} (hx : x < 10) : pAt (conjP p q) (pAt q x) = pAt q (pAt p x) := by
  unfold conjP
  rw [at_then q (by rw [len_then, len_back]; exact hq.at_lt hx), at_then p (by rw [len_back]; exact hq.at_lt hx), hq.back_at hx]
theorem conj_it {p q : List Nat} (hp : IsP p) (hq : IsP q) {x : Nat} (hx : x < 10) : ∀ n, itP (conjP p q) n (pAt q x) = pAt q (itP p n x)
  | 0 => rfl
  | n + 1 => by
    simp only [itP]
    rw [conj_it hp hq hx n, conj_at hq (itP_lt hp hx n)]
theorem conj_ord {p q : List Nat} (hp : IsP p) (hq : IsP q) {x : Nat} (hx : x < 10) : ordP (conjP p q) (pAt q x) = ordP p x := by
  unfold ordP
  congr 1
  congr 1
  funext k
  rw [conj_it hp hq hx, Bool.eq_iff_iff, beq_iff_eq, beq_iff_eq]
  exact ⟨fun e => hq.inj (itP_lt hp hx _) hx e, fun e => by rw [e]⟩
theorem conj_cyc {p q : List Nat} (hp : IsP p) (hq : IsP q) {x y : Nat} (hx : x < 10) (hm : y ∈ cycL p x) : pAt q y ∈ cycL (conjP p q) (pAt q x) := by
  obtain ⟨k, _, e⟩ := List.mem_map.1 hm
  rw [← show itP p k x = y from e, ← conj_it hp hq hx]
  exact itP_mem (hp.conj hq) (hq.at_lt hx) k
theorem mem_rep {p : List Nat} {r : Nat} : r ∈ repC p 10 ↔ r < 10 ∧ mnC p r = r := by
  unfold repC
  simp only [List.mem_filter, List.mem_range, decide_eq_true_eq]
theorem rep_conj {p q : List Nat} (hp : IsP p) (hq : IsP q) : ((repC p 10).map fun r => mnC (conjP p q) (pAt q r)).Perm (repC (conjP p q) 10) := by
  have hc := hp.conj hq
  refine (List.perm_ext_iff_of_nodup ?_ (nodup_filter _ List.nodup_range)).2 fun i => ?_
  · rw [List.nodup_iff_pairwise_ne, List.pairwise_map]
    refine List.Pairwise.imp_of_mem (fun {x y} hx hy h e => h ?_) (List.nodup_iff_pairwise_ne.1 (nodup_filter _ List.nodup_range))
    obtain ⟨x1, x2⟩ := mem_rep.1 hx
    obtain ⟨y1, y2⟩ := mem_rep.1 hy
    have a1 := mnC_mem (p := conjP p q) (hq.at_lt x1)
    have a2 := mnC_mem (p := conjP p q) (hq.at_lt y1)
    rw [e] at a1
    have a3 := cyc_trans hc (hq.at_lt x1) (cyc_symm hc a1.1 (hq.at_lt x1) a1.2) a2.2
    obtain ⟨k, _, e2⟩ := List.mem_map.1 a3
    rw [conj_it hp hq x1] at e2
    have e3 := hq.inj (itP_lt hp x1 k) y1 e2
    have := mnC_eq hp x1 y1 (e3 ▸ itP_mem hp x1 k)
    rw [← x2, ← y2, this]
  · constructor
    · intro hi
      obtain ⟨r, hr, rfl⟩ := List.mem_map.1 hi
      have r1 := (mem_rep.1 hr).1
      have a1 := mnC_mem (p := conjP p q) (hq.at_lt r1)
      exact mem_rep.2 ⟨a1.1, mnC_mn hc (hq.at_lt r1)⟩
    · intro hi
      obtain ⟨i1, i2⟩ := mem_rep.1 hi
      have hx := hq.back.at_lt i1
      have hqx := hq.at_idx i1
      have a1 := mnC_mem (p := p) hx
      refine List.mem_map.2 ⟨mnC p (pAt (backP q) i), mem_rep.2 ⟨a1.1, mnC_mn hp hx⟩, ?_⟩
      have a2 := conj_cyc hp hq a1.1 a1.2
      rw [hqx] at a2
      rw [mnC_eq hc (hq.at_lt a1.1) i1 a2, i2]
theorem lenD_lensI (p : List Nat) : (lenD p).Perm (lensI p (cycs p).length) := by
  unfold lenD sortI
  exact (List.reverse_perm _).trans (List.mergeSort_perm _ _)
/-- A conjugate has cycles of the same lengths. -/
theorem lenD_conj {p q : List Nat} (hp : IsP p) (hq : IsP q) : lenD (conjP p q) = lenD p := by
  have hc := hp.conj hq
  have h1 : (lensI (conjP p q) (cycs (conjP p q)).length).Perm (lensI p (cycs p).length) := by
    rw [lens_rep hc, lens_rep hp]
    refine ((rep_conj hp hq).map _).symm.trans ?_
    rw [List.map_map]
    refine List.Perm.of_eq (List.map_congr_left fun r hr => ?_)
    have r1 := (mem_rep.1 hr).1
    have a1 := mnC_mem (p := conjP p q) (hq.at_lt r1)
    show ((ordP (conjP p q) (mnC (conjP p q) (pAt q r)) : Nat) : Int) = _
    rw [← ord_cyc hc a1.1 a1.2, conj_ord hp hq r1]
  have h2 := ((lenD_lensI (conjP p q)).trans h1).trans (lenD_lensI p).symm
  refine List.Perm.eq_of_pairwise (le := fun a b => b ≤ a) (fun a b _ _ h1 h2 => Int.le_antisymm h2 h1) ?_ ?_ h2
  · rw [lenD_grp hc]; exact grp_desc _ _ (Nat.le_refl _)
  · rw [lenD_grp hp]; exact grp_desc _ _ (Nat.le_refl _)
/-- The plugboard does not change the characteristic. -/
theorem chT_bare {m : Mach} {v : ByteArray} (h : setB m v = true) : chT (bareM m) v = chT m v := by
  have hm := setB_mach h
  unfold chT chP
  rw [if_pos h, if_pos (setB_bare h)]
  unfold prods
  rw [List.map_map, List.map_map]
  apply List.map_congr_left
  intro i _
  show lenT (prodP (bareM m) v i) = lenT (prodP m v i)
  rw [prod_bare hm]
  unfold lenT
  rw [lenD_conj (isP_prod (machB_bare hm) v i) (machB_plugP hm)]
end Go.Proofs.YtnnblmibonnpcaaGreatDoor

/- The laws' own small functions on letters, words and machines. -/
namespace Go.Proofs.YtnnblmibonnpcaaGreatDoor
open Go.RowKit

end Go.Proofs.YtnnblmibonnpcaaGreatDoor
