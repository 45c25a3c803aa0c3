/- Several of my texts in one: DrawG, DrawL, Msg, StepT. -/
import Derived.Test.YtdmnkcmkpjmfaaaGreatM6
import Derived.Test.YtdmnkcmkpjmfaaaGreatM11
import Derived.Test.YtdmnkcmkpjmfaaaGreatM10
import Derived.Test.YtdmnkcmkpjmfaaaGreatM13
import Derived.Deep.AppendSrc
import Derived.Test.YtdmnkcmkpjmfaaaGreatM3
import Derived.Test.YtdmnkcmkpjmfaaaGreatM4
/- A slice appended to a slice of the call's own; the grounds that are drawn. -/
namespace Go.Proofs.YtdmnkcmkpjmfaaaGreat
open Go.RowKit

section
variable {P : Program} {ops : Array Oper} {rest : List Oper} {dst : Option Tmp} {ty : TypeId} {pos : String} {after : Array Edge} {a : Act} {w0 : World} {Q : Exit → Act → World → Prop}
/-- 'x = append(x, us...)', x of the call's own: what lay in x's row is still read there. -/
theorem wl_pushs (t e : TypeId) {s x : Operand} {z : Value} {sz bytes : Nat} (hinfo : (P.info? e).map (fun i => (i.zero, i.size, i.bytes)) = some (some z, sz, bytes)) (ht : P.underlying t = some (.slice e)) (hzs : z.cells.size = sz) (hsz : 0 < sz)
    {base n g0 cap0 m c : Nat} {ad : Addr} {xs us : List Value} (hown : OwR w0 base e sz (.slice (some ⟨g0, 0, none⟩) n cap0) n xs) (hb : base ≤ w0.heap.size) (hus : us.length = m * sz) (hnews : ∀ j u, us[j]? = some u → w0.cell? (ad.add j) = some u) (h1 : ∀ u ∈ us, u.oneCell' = true) (hm : 0 < m) (hn : n + m ≤ 1048576) (hby : bytes ≤ 1000)
    (hs : a.eval s = .slice (some ⟨g0, 0, none⟩) n cap0) (hx : a.eval x = .slice (some ad) m c)
    (h : ∀ g cap w', OwR w' base e sz (.slice (some ⟨g, 0, none⟩) (n + m) cap) (n + m) (xs ++ us) → Below base w0 w' → (∀ j u, xs[j]? = some u → w'.cell? ⟨g0, j, none⟩ = some u) → wpList P ops Q rest (a.put dst (.slice (some ⟨g, 0, none⟩) (n + m) cap)) w') :
    wpList P ops Q (⟨dst, .call { callee := .builtin .append, args := #[s, x], argTypes := #[t, t] }, ty, pos, after, none⟩ :: rest) a w0 := by
  obtain ⟨i0, hi0, hz0, hz1, hz2⟩ := info_parts hinfo
  have hbytes : (n + m) * bytes ≤ 140737488355328 := by
    have : (n + m) * bytes ≤ 1048576 * 1000 := Nat.mul_le_mul (by omega) hby
    omega
  obtain ⟨g, cap, w', hr, ho, hg, hat, hlt⟩ := run_append_lies (P := P) w0 t ty base e i0 z sz bytes ht hi0 hz0 hz1 hz2 hzs hsz _ n xs hown ad m c us hus hnews h1 hm (by unfold maxLen; omega) hbytes hb _ rfl
  have hx0 : OwR w0 base e sz (.slice (some ⟨g0, 0, none⟩) n cap0) n xs := hown
  have hown0 := OwR.own hx0
  have hkeep : g = g0 ∨ w'.heap[g0]? = w0.heap[g0]? := by
    rcases hown.2 with ⟨h0, _⟩ | ⟨g', cap', cur, hv, hgb, hh, hn', hm', hs', ht'⟩
    · cases h0
    · cases hv
      by_cases hroom : n + m ≤ cap0
      · left
        rcases hat with h2 | h2
        · simpa [Value.ownBlock] using h2.symm
        · have hfit : n * i0.size + us.length ≤ cur.size := by rw [hus, hs', hz1, ← Nat.add_mul]; exact Nat.mul_le_mul_right _ hroom
          have hr2 := run_append_room (P := P) w0 t ty e i0 ht hi0 g0 n cap0 cur hh ad m c us (by rw [hz1]; exact hus) hnews h1 hroom hfit
          rw [hr2] at hr
          cases hr; rfl
      · right
        have holds : ∀ j u, xs[j]? = some u → w0.cell? ((⟨g0, 0, none⟩ : Addr).add j) = some u := fun j u hu => by
          rw [add_none, Nat.zero_add, hown0.cell j (List.getElem?_eq_some_iff.1 hu).1]; exact hu
        have hr2 := run_append_grow (P := P) w0 t ty e i0 z ht hi0 hz0 ⟨g0, 0, none⟩ n cap0 xs (by rw [hz1]; exact hown.1) holds ad m c us (by rw [hz1]; exact hus) hnews (by omega) (by omega) (growslice_fits (by omega) (by rw [hz2]; exact hbytes))
        rw [hr2] at hr
        cases hr
        exact Below.heap_alloc w0.drew _ g0 hown0.lt
  have hbel : Below base w0 w' := (Below.refl base w0).grown hg hb (fun k hk => (World.ownsRow.lt hown k hk).1)
  refine wpList_plain rfl fun _ hK => ?_
  unfold Oper.wp execOp
  simp only [resolve, invoke, builtin, Sem.run_bind, Sem.run_pure, Result.andThen_ok, List.map_toArray, List.map_cons, List.map_nil, hs, hx, hr]
  refine hK _ _ (h g cap w' ho hbel fun j u hu => ?_)
  have hj := (List.getElem?_eq_some_iff.1 hu).1
  rcases hkeep with rfl | hk
  · have ho2 : OwR w' base e sz (.slice (some ⟨g, 0, none⟩) (n + m) cap) (n + m) (xs ++ us) := ho
    rw [(OwR.own ho2).cell j (by rw [List.length_append]; omega), List.getElem?_append_left hj]
    exact hu
  · rw [World.cell?_of_block (w := w0) hk, hown0.cell j hj]
    exact hu
end
theorem Moved.bel {R B : Nat} {a b c : World} (h : Moved R a b) (k : Below B b c) (hB : a.heap.size ≤ B) : Moved R a c :=
  ⟨k.os.trans h.os, k.tape.trans h.tape, k.output.trans h.output, Nat.le_trans h.size k.size, fun x hx hne => (k.block x (by omega)).trans (h.block x hx hne)⟩
/-- The grounds that are drawn. -/
def GrsP (R c : Nat) (w : World) (e : Ending) (w' : World) : Prop :=
  ∃ (gs : List ByteArray) (g cap : Nat), e = .returned (.slice (some ⟨g, 0, none⟩) gs.length cap) ∧ (∀ x ∈ gs, x.size ≤ 200) ∧ gs.length ≤ 13 ∧ OwR w' w.heap.size 9 1 (.slice (some ⟨g, 0, none⟩) gs.length cap) gs.length (sv gs) ∧ Rd w' R c ∧ Moved R w w'
theorem sv_one_cell (gs : List ByteArray) : ∀ u ∈ sv gs, u.oneCell' = true := by
  intro u hu
  simp only [sv, List.mem_map] at hu
  obtain ⟨x, -, rfl⟩ := hu
  rfl
/-- A machine, grounds and places are drawn. -/
def DrawnG (w : World) (e : Ending) (w' : World) : Prop :=
  ∃ (m : Mach) (gs : List ByteArray) (ps : List Int) (a : Option Addr) (cap g gc p pc : Nat), DrawnM w m a w' ∧ (∀ x ∈ gs, x.size ≤ 200) ∧ gs.length ≤ 13 ∧ ps.length ≤ 3 ∧ ps.length ≤ pc ∧ Reads w' w'.heap.size (some ⟨g, 0, none⟩) (sv gs) ∧ Reads w' w'.heap.size (some ⟨p, 0, none⟩) (iv ps) ∧
    e = .returned (.tuple #[.agg #[.slice a m.wheels.rotors.length cap, .string m.wheels.refl, .string m.rings, .string m.plugs], .slice (some ⟨g, 0, none⟩) gs.length gc, .slice (some ⟨p, 0, none⟩) ps.length pc])
end Go.Proofs.YtdmnkcmkpjmfaaaGreat

/- Menus drawn. -/
namespace Go.Proofs.YtdmnkcmkpjmfaaaGreat
open Go.RowKit

/-- A menu is drawn. -/
def MenP (R c : Nat) (w : World) (e : Ending) (w' : World) : Prop :=
  ∃ (ms : List Lnk) (g cap : Nat), e = .returned (.slice (some ⟨g, 0, none⟩) ms.length cap) ∧ 1 ≤ ms.length ∧ ms.length ≤ 12 ∧ (∀ x ∈ ms, x.p.size ≤ 10 ∧ x.c.size ≤ 10) ∧ OwR w' w.heap.size 72 3 (.slice (some ⟨g, 0, none⟩) ms.length cap) ms.length (lks ms) ∧ Rd w' R c ∧ Moved R w w'
theorem size_letr1 (n : Int) : (S [letr n]).size ≤ 10 := by rw [size_S]; simp
theorem lks_snoc (ms : List Lnk) (a b : ByteArray) (k : Int) : lks (ms ++ [⟨a, b, k⟩]) = lks ms ++ [.string a, .string b, .int .i64 k] := by rw [lks_append]; rfl
theorem sml_snoc {ms : List Lnk} {a b : ByteArray} {k : Int} (h : ∀ x ∈ ms, x.p.size ≤ 10 ∧ x.c.size ≤ 10) (ha : a.size ≤ 10) (hb : b.size ≤ 10) : ∀ x ∈ ms ++ [⟨a, b, k⟩], x.p.size ≤ 10 ∧ x.c.size ≤ 10 := by
  intro x hx
  rcases List.mem_append.1 hx with h1 | h1
  · exact h x h1
  · rw [List.mem_singleton.1 h1]; exact ⟨ha, hb⟩
set_option maxRecDepth 100000 in
set_option maxHeartbeats 2000000 in
theorem l12Menu_any (R : Nat) (c : Nat) (w : World) (h : Rd w R c) (hc : c ≤ 6000000) :
    Calls Tryz.prog 158 #[.pointer (some ⟨R, 0, none⟩)] w (MenP R (c + 100) w) := by
  have hlt := h.lt
  have z0 := World.ownsRow.alloc (World.ownsRow_lit (base := w.heap.size) (e := 72) (size := 3) w #[] 0 (Nat.le_refl _) (by unfold maxLen; omega) (by simp)) (.cells [.int .i64 4, .int .i64 6, .int .i64 10, .int .i64 3].toArray 3)
  have hr0 := (h.alloc (.cells #[] 72)).alloc (.cells [.int .i64 4, .int .i64 6, .int .i64 10, .int .i64 3].toArray 3)
  have hm0 := ((Moved.refl R w).alloc (.cells #[] 72)).alloc (.cells [.int .i64 4, .int .i64 6, .int .i64 10, .int .i64 3].toArray 3)
  go_enter Tryz.func158, Tryz.ntmps158
  go_wp2_with fail
  have on : Own ((w.alloc (.cells #[] 72)).alloc (.cells [.int .i64 4, .int .i64 6, .int .i64 10, .int .i64 3].toArray 3)) (w.heap.size + 1) (iv [4, 6, 10, 3]) := by
    have := Own.new (w.alloc (.cells #[] 72)) [.int .i64 4, .int .i64 6, .int .i64 10, .int .i64 3] 3
    rw [World.size_alloc] at this
    exact this
  refine (num_any R (w.heap.size + 1) 4 4 [4, 6, 10, 3] c _ rfl on (by simp) (by omega) hr0 (by omega) (by simp)).mono ?_
  rintro e w1 ⟨z, hz, rfl, hr1, hm1⟩
  have hzb : 3 ≤ z ∧ z ≤ 10 := by
    simp only [List.mem_cons, List.not_mem_nil, or_false] at hz
    rcases hz with rfl | rfl | rfl | rfl <;> omega
  have z1 := OwR.moved z0 hm1 hlt
  have hmw1 := hm0.trans hm1
  clear z0 hr0 hm0 hm1 hz
  generalize hB0 : w.heap.size = B0 at *
  have HB0 := Lib.hid hB0
  clear hB0
  obtain ⟨sz, rfl⟩ := Int.eq_ofNat_of_zero_le (show 0 ≤ z by omega)
  go_wp2_with fail
  refine (pick_any R _ _ _ hr1 (by omega) (by omega) (by omega)).mono ?_
  rintro e w2 ⟨y, rfl, hy0, hy1, _, hr2, hm2⟩
  have hy4 := hy1 (by omega)
  have z2 := OwR.moved z1 hm2 hlt
  have hmw2 := hmw1.trans hm2
  clear z1 hr1 hmw1 hm2 hy1
  go_wp2_with fail
  refine (pick_any R _ _ _ hr2 (by omega) (by omega) (by omega)).mono ?_
  rintro e w3 ⟨x, rfl, hx0, hx1, _, hr3, hm3⟩
  have hx9 := hx1 (by omega)
  have z3 : OwR w3 B0 72 3 (.slice (some ⟨B0, 0, none⟩) 0 0) 0 (lks []) := OwR.moved z2 hm3 hlt
  have hmw3 := hmw2.trans hm3
  clear z2 hr2 hmw2 hm3 hx1
  obtain ⟨j, hj⟩ := Int.eq_ofNat_of_zero_le (show 0 ≤ 1 + x by omega)
  have hadd : IntKind.i64.wrap (1 + x) = (j : Int) := by rw [IntWalk.i64_in _ (by omega)]; omega
  have hj9 : 1 ≤ j ∧ j ≤ 9 := by omega
  clear hj
  go_wp2_with fail
  go_loopw [3, 5, 6, 7, 8] (fun u k i _ _ wr => ∃ (j : Nat) (ms : List Lnk) (g cap : Nat) (key : Int), i = .int .i64 j ∧ k = .int .i64 key ∧ 0 ≤ key ∧ key ≤ 4 + 3 * ms.length ∧ 1 ≤ ms.length + j ∧ ms.length + j ≤ 9 ∧ u = .slice (some ⟨g, 0, none⟩) ms.length cap ∧ (∀ x ∈ ms, x.p.size ≤ 10 ∧ x.c.size ≤ 10) ∧ OwR wr B0 72 3 (.slice (some ⟨g, 0, none⟩) ms.length cap) ms.length (lks ms) ∧ Rd wr R (c + 3 + 3 * ms.length) ∧ Moved R w wr) (fun _ _ i _ _ _ => (intOf i).toNat)
  case atStart => exact ⟨j, [], B0, 0, y, rfl, rfl, by omega, by simp; omega, by simp; omega, by simp; omega, rfl, by simp, z3, hr3.more (by simp), hmw3⟩
  case round =>
    clear z3 hr3 hmw3 hadd hj9
    obtain ⟨j, ms, g, cap, key, rfl, rfl, hk0, hk1, hl1, hl2, rfl, hsm, hown, hr, hm⟩ := hrel
    have HSM := Lib.hid hsm
    clear hsm
    by_cases hj0 : 0 < j
    · go_wp2_with fail
      refine (pick_any R _ _ _ hr (by omega) (by omega) (by omega)).mono ?_
      rintro e w4 ⟨x1, rfl, hx10, hx11, _, hr4, hm4⟩
      have hx1z := hx11 (by omega)
      have own4 := OwR.moved hown hm4 hlt
      have hmw4 := hm.trans hm4
      clear hown hr hm hm4 hx11
      have hsub : IntKind.i64.wrap ((sz : Int) - 1) = (sz : Int) - 1 := IntWalk.i64_in _ (by omega)
      have hadd1 : IntKind.i64.wrap (x1 + 1) = x1 + 1 := IntWalk.i64_in _ (by omega)
      go_wp2_with fail
      refine (pick_any R _ _ _ hr4 (by omega) (by omega) (by omega)).mono ?_
      rintro e w5 ⟨x2, rfl, hx20, hx21, _, hr5, hm5⟩
      have hx2z := hx21 (by omega)
      have own5 := OwR.moved own4 hm5 hlt
      have hmw5 := hmw4.trans hm5
      clear own4 hr4 hmw4 hm5 hx21
      have hadd2 : IntKind.i64.wrap (x1 + 1 + x2) = x1 + 1 + x2 := IntWalk.i64_in _ (by omega)
      have hz0 : ((sz : Int) == 0) = false := by rw [beq_eq_false_iff_ne]; omega
      have hadd3 : IntKind.i64.wrap (key + 1) = key + 1 := IntWalk.i64_in _ (by omega)
      go_wp2_with fail
      refine (pick_any R _ _ _ hr5 (by omega) (by omega) (by omega)).mono ?_
      rintro e w6 ⟨x3, rfl, hx30, hx31, _, hr6, hm6⟩
      have hx3z := hx31 (by omega)
      have own6 := OwR.moved own5 hm6 hlt
      have hmw6 := hmw5.trans hm6
      clear own5 hr5 hmw5 hm6 hx31
      have hadd4 : IntKind.i64.wrap (key + 1 + x3) = key + 1 + x3 := IntWalk.i64_in _ (by omega)
      have hz6 : B0 ≤ w6.heap.size := by have := hmw6.size; rw [HB0.out] at this; exact this
      go_wp2_with fail
      refine (l1Letter_any _ _).mono ?_
      rintro e w7 ⟨rfl, hb7⟩
      have own7 := OwR.below own6 hb7 (Nat.le_refl _)
      have hr7 := hr6.below hb7 hr6.lt
      have hmw7 := hmw6.below hb7
      have hz7 := Nat.le_trans hz6 hb7.size
      clear own6 hr6 hmw6 hb7 hz6
      go_wp2_with fail
      refine (l1Letter_any _ _).mono ?_
      rintro e w8 ⟨rfl, hb8⟩
      have own8 := OwR.below own7 hb8 (Nat.le_refl _)
      have hr8 := hr7.below hb8 hr7.lt
      have hmw8 := hmw7.below hb8
      have hz8 := Nat.le_trans hz7 hb8.size
      clear own7 hr7 hmw7 hb8 hz7
      go_wp2_with (at_builtin; ((with_reducible refine wl_push 38 72 inf_lnk Tryz.underlying38 rfl (by omega) own8 (by omega) rfl (one_lnk _ _ _) (by omega) (by omega) rfl rfl ?_); intro g9 cap9 w9 o9 b9 s9))
      go_roundw
      case rel =>
        refine ⟨j - 1, ms ++ [⟨S [letr x1], S [letr ((x1 + 1 + x2) % (sz : Int))], key + 1 + x3⟩], g9, cap9, key + 1 + x3, by go_num, rfl, by omega, by rw [List.length_append]; simp; omega, by rw [List.length_append]; simp; omega, by rw [List.length_append]; simp; omega, by simp, sml_snoc HSM.out (size_letr1 _) (size_letr1 _), ?_, (hr8.below b9 hlt).more (by rw [List.length_append]; simp; omega), hmw8.bel b9 (by rw [HB0.out]; exact Nat.le_refl _)⟩
        rw [lks_snoc, List.length_append]
        exact o9
      case measure => simp [intOf]; omega
    · have hj0' : j = 0 := by omega
      subst hj0'
      go_wp2
      go_ret
      exact ⟨ms, g, cap, rfl, by omega, by omega, HSM.out, by rw [HB0.out]; exact hown, hr.more (by omega), hm⟩
/-- Equal letters. -/
def repS (ch : UInt8) (a : Nat) : ByteArray := S (List.replicate a ch)
theorem size_repS (ch : UInt8) (a : Nat) : (repS ch a).size = a := by unfold repS; rw [size_S]; simp
theorem repS_add (ch : UInt8) (a b : Nat) : repS ch a ++ repS ch b = repS ch (a + b) := by unfold repS; rw [S_append, List.replicate_append_replicate]
theorem wd_repS {ch : UInt8} (h : isL ch = true) {n : Nat} (hn : n ≤ 200) : Wd n (repS ch n) := by
  refine ⟨?_, size_repS ch n⟩
  simp only [wordB, Bool.and_eq_true, decide_eq_true_eq, List.all_eq_true]
  refine ⟨by rw [size_repS]; exact hn, fun c hc => ?_⟩
  have : L (repS ch n) = List.replicate n ch := L_S _
  rw [this] at hc
  rw [(List.mem_replicate.1 hc).2]; exact h
theorem l21Many_rep (ch : UInt8) (n : Nat) (w : World) (hn : n ≤ 100) :
    Calls Tryz.prog 134 #[.string (S [ch]), .int .i64 (n : Int)] w fun e w' => e = .returned (.string (repS ch n)) ∧ w = w' := by
  go_enter Tryz.func134, Tryz.ntmps134
  go_wp2
  go_loop [0, 1, 5] (fun x i o => ∃ (k a b : Nat), k ≤ n ∧ x = .string (repS ch b) ∧ i = .int .i64 k ∧ o = .string (repS ch a) ∧ a + b * k = n ∧ b ≤ 2 * n + 1) (fun _ i _ => (intOf i).toNat)
  case atStart => exact ⟨n, 0, 1, by omega, rfl, rfl, rfl, by omega, by omega⟩
  case round =>
    obtain ⟨k, a, b, hk, rfl, rfl, rfl, h1, h2⟩ := hrel
    have z1 := size_repS ch a
    have z2 := size_repS ch b
    by_cases hlt : 0 < k
    · have hst := many_step b k
      have hsk : b ≤ b * k := Nat.le_mul_of_pos_right _ hlt
      have hb10 : b ≤ n := by omega
      have hd1 := repS_add ch b b
      have hd2 := repS_add ch a b
      have g1 : (repS ch b).size ≤ 100 := by omega
      have g2 : (repS ch a).size ≤ 100 := by omega
      have HD1 := Lib.hid hd1
      have HD2 := Lib.hid hd2
      clear hd1 hd2 z1 z2
      by_cases ho : k % 2 = 1
      · have t1 : ((k : Int) % 2 == 1) = true := by rw [beq_iff_eq]; omega
        rw [if_pos ho] at hst
        have HST := Lib.hid hst
        have HH := Lib.hid h1
        clear ho hst h1
        go_wp2
        go_round
        case rel =>
          refine ⟨k / 2, a + b, b + b, by omega, by rw [HD1.out], by go_num, by rw [HD2.out], ?_, by omega⟩
          have e1 := HST.out
          have e2 := HH.out
          rw [e1] at e2; omega
        case measure => simp [intOf]; omega
      · have t1 : ((k : Int) % 2 == 1) = false := by rw [beq_eq_false_iff_ne]; omega
        rw [if_neg ho] at hst
        have HST := Lib.hid hst
        have HH := Lib.hid h1
        clear ho hst h1
        go_wp2
        go_round
        case rel =>
          refine ⟨k / 2, a, b + b, by omega, by rw [HD1.out], by go_num, rfl, ?_, by omega⟩
          have e1 := HST.out
          have e2 := HH.out
          rw [e1] at e2; omega
        case measure => simp [intOf]; omega
    · have hk0 : k = 0 := by omega
      subst hk0
      have ha : a = n := by simpa using h1
      subst ha
      go_wp2
      go_ret
      exact ⟨rfl, rfl⟩
end Go.Proofs.YtdmnkcmkpjmfaaaGreat

/- Messages, and MessageValid. (The walks are printed by genmsg.py.) -/
namespace Go.Proofs.YtdmnkcmkpjmfaaaGreat
open Go.RowKit

/-- A message. -/
structure Msg where
  start : ByteArray
  ind : ByteArray
  body : ByteArray
def msgB (x : Msg) : Bool := decide (1 ≤ x.start.size) && decide (x.start.size ≤ 3) && wordB x.start && decide (x.ind.size = x.start.size) && wordB x.ind && wordB x.body
end Go.Proofs.YtdmnkcmkpjmfaaaGreat

/- Contracts of StepMany and StepWindows, and of the laws' own comparisons. -/
namespace Go.Proofs.YtdmnkcmkpjmfaaaGreat
open Go.RowKit

/-- What StepMany answers. -/
def stepT (x : Whl) (u : ByteArray) (n : Int) : ByteArray × Bool := if fitB x u = true ∧ 0 ≤ n ∧ n ≤ 2000 then (stepN x n.toNat u, true) else (S [], false)
theorem stepT_no {x : Whl} {u : ByteArray} {n : Int} (h : ¬ (fitB x u = true ∧ 0 ≤ n ∧ n ≤ 2000)) : stepT x u n = (S [], false) := by simp only [stepT, if_neg h]
theorem stepT_yes {x : Whl} {u : ByteArray} {n : Nat} (h : fitB x u = true) (hn : n ≤ 2000) : stepT x u (n : Int) = (stepN x n u, true) := by
  unfold stepT
  rw [if_pos ⟨h, by omega, by omega⟩]; rfl
theorem FitB.step_ {x : Whl} {v : ByteArray} (h : FitB x v) : FitB x (stepW x v) := ⟨h.one, h.three, h.rot, h.refl, by rw [size_stepW]; exact h.size, word_stepW h.word⟩
theorem FitB.stepN_ {x : Whl} : ∀ (n : Nat) {v : ByteArray}, FitB x v → FitB x (Go.Proofs.YtdmnkcmkpjmfaaaGreat.stepN x n v)
  | 0, _, h => h
  | n + 1, _, h => FitB.stepN_ n h.step_
theorem rcFit_any (a : Option Addr) (n c : Nat) (x : Whl) (v : ByteArray) (w : World) (h : WhlAt w w.heap.size a n x) (hv : v.size ≤ 4294967296) :
    Calls Tryz.prog 108 #[.agg #[.slice a n c, .string x.refl], .string v] w fun e w' => e = .returned (.bool (fitB x v)) ∧ Below w.heap.size w w' := by
  have o0 := Own.new w [.slice a n c, .string x.refl] 34
  have hb0 := (Below.refl w.heap.size w).alloc (Nat.le_refl _) (.cells [.slice a n c, .string x.refl].toArray 34)
  have h' := h.alloc_ (.cells [.slice a n c, .string x.refl].toArray 34)
  have hn := h.len
  subst hn
  go_enter Tryz.func108, Tryz.ntmps108
  go_wp2_with fail
  refine (implWheelsValid_any _ _ _ _ _ h').mono ?_
  rintro e w1 ⟨rfl, hb1⟩
  have o1 := o0.below hb1 o0.lt
  have c0 := o1.at_ (i := 0) rfl
  have hb : Below w.heap.size w w1 := bt hb0 hb1
  clear o0 hb0 hb1 o1 h'
  cases hw : wheelsB x
  · have HF := Lib.hid (show fitB x v = false by simp [fitB, hw])
    go_wp2
    go_ret
    exact ⟨ret_bool HF.out.symm, hb⟩
  · cases hwd : wordB v
    · have HF := Lib.hid (show fitB x v = false by simp [fitB, hwd])
      clear hw
      have hq := fun W => implWordValid_any v W hv
      rw [hwd] at hq
      go_wp2_with (go_at_call 55; ((with_reducible refine (hq _).mono ?_); rintro e w' ⟨rfl, rfl⟩))
      go_ret
      exact ⟨ret_bool HF.out.symm, hb⟩
    · have hq := fun W => implWordValid_any v W hv
      rw [hwd] at hq
      have HF := Lib.hid (show fitB x v = ((v.size : Int) == (x.rotors.length : Int)) by
        simp only [fitB, hw, hwd, Bool.true_and, Bool.and_true]
        rw [Bool.eq_iff_iff]; simp; omega)
      clear hw hwd
      go_wp2_with (go_at_call 55; ((with_reducible refine (hq _).mono ?_); rintro e w' ⟨rfl, rfl⟩))
      go_ret
      exact ⟨ret_bool HF.out.symm, hb⟩
def rcTo (ss tt : List ByteArray) (k : Nat) : Prop := ∀ j (h1 : j < ss.length) (h2 : j < tt.length), j < k → ss[j] = tt[j]
theorem rcTexts_any (a b : Option Addr) (c d : Nat) (ss tt : List ByteArray) (w : World) (h1 : Reads w w.heap.size a (sv ss)) (h2 : Reads w w.heap.size b (sv tt)) (l1 : ss.length ≤ 1048576) :
    Calls Tryz.prog 44 #[.slice a ss.length c, .slice b tt.length d] w fun e w' => e = .returned (.bool (decide (ss = tt))) ∧ ∃ n, w' = w.drewN n := by
  by_cases hl : ss.length = tt.length
  · have t0 : ((ss.length : Int) != (tt.length : Int)) = false := by simp [hl]
    have g1 : ss.length ≤ tt.length := by omega
    have g2 : tt.length ≤ ss.length := by omega
    have HR1 := Lib.hid h1
    have HR2 := Lib.hid h2
    clear hl h1 h2
    go_enter Tryz.func44, Tryz.ntmps44
    go_wp2
    go_loopw [5] (fun i wr => ∃ k n : Nat, k ≤ ss.length ∧ i = .int .i64 k ∧ rcTo ss tt k ∧ wr = w.drewN n) (fun i _ => ss.length - (intOf i).toNat)
    case atStart => exact ⟨0, 0, Nat.zero_le _, rfl, fun _ _ _ h => absurd h (by omega), rfl⟩
    case round =>
      obtain ⟨k, n, hk, rfl, ha, rfl⟩ := hrel
      by_cases hlt : k < ss.length
      · obtain ⟨b1, off1, rfl, hb1, hc1⟩ := HR1.out.open_ (by rw [length_sv]; omega)
        obtain ⟨b2, off2, rfl, hb2, hc2⟩ := HR2.out.open_ (by rw [length_sv]; omega)
        have d1 := hc1 k (by rw [length_sv]; exact hlt)
        have d2 := hc2 k (by rw [length_sv]; omega)
        rw [sv_at hlt] at d1
        rw [sv_at (by omega)] at d2
        clear hc1 hc2
        have q1 : (k : Int) < (ss.length : Int) := by omega
        have q2 : (k : Int) < (tt.length : Int) := by omega
        by_cases he : ss[k] = tt[k]'(by omega)
        · have te : (ss[k].toList == (tt[k]'(by omega)).toList) = true := by rw [he]; simp
          have He := Lib.hid he
          clear he
          go_wp2_with fail
          go_quiet (fail)
          go_wp2
          go_roundw
          case rel =>
            refine ⟨k + 1, _, by omega, by go_num, fun j hj1 hj2 hlt' => ?_, rfl⟩
            by_cases e : j = k
            · subst e; exact He.out
            · exact ha j hj1 hj2 (by omega)
          case measure => simp [intOf]; omega
        · have te : (ss[k].toList == (tt[k]'(by omega)).toList) = false := by
            rw [toList_L, toList_L, beq_eq_false_iff_ne]
            exact fun h => he (L_inj h)
          go_wp2_with fail
          go_quiet (fail)
          go_wp2
          go_ret
          exact ⟨ret_bool (by simp; intro h; exact he (by simp [h])), n + nq, by rw [World.drewN_drewN]⟩
      · go_wp2
        go_ret
        refine ⟨ret_bool ?_, n, rfl⟩
        have : ss = tt := List.ext_getElem (by omega) fun j hj1 hj2 => ha j hj1 hj2 (by omega)
        simp [this]
  · have t0 : ((ss.length : Int) != (tt.length : Int)) = true := by rw [bne_iff_ne]; omega
    have T : Hid (decide (ss = tt) = false) := by show _ = _; simp; intro h; exact hl (by rw [h])
    clear hl
    go_enter Tryz.func44, Tryz.ntmps44
    go_wp2
    go_ret
    exact ⟨ret_bool T.out.symm, 0, rfl⟩
end Go.Proofs.YtdmnkcmkpjmfaaaGreat
