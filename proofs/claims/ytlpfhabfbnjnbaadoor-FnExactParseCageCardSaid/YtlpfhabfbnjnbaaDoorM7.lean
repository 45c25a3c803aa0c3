/- Several of my texts in one: Strs, List, CgF, CgK, Arr, CgI. -/
import Derived.Test.YtlpfhabfbnjnbaaDoorM5
import Derived.Deep.AppendLies
import Derived.Deep.Onto
import Derived.Laws.OwnMore
import Derived.OwnWalk
import Derived.Test.YtlpfhabfbnjnbaaDoorM6
import Derived.Deep.WholeRow
/- Contracts of the laws' own functions on lists of strings: their sizes, copies and comparison. -/
namespace Go.Proofs.YtlpfhabfbnjnbaaDoor
open Go.RowKit

theorem info_str : (Tryd.prog.info? 9).map (fun i => (i.zero, i.size, i.bytes)) = some (some (.string ⟨#[]⟩), 1, 16) := by kernel_rfl



def eqTo (ss tt : List ByteArray) (k : Nat) : Prop := ∀ j (h1 : j < ss.length) (h2 : j < tt.length), j < k → ss[j] = tt[j]
theorem eqStringS_any (a b : Option Addr) (c d : Nat) (ss tt : List ByteArray) (w : World) (h1 : Reads w w.heap.size a (sv ss)) (h2 : Reads w w.heap.size b (sv tt)) (l1 : ss.length ≤ 1048576) :
    Calls Tryd.prog 23 #[.slice a ss.length c, .slice b tt.length d] w fun e w' => e = .returned (.bool (decide (ss = tt))) ∧ ∃ n, w' = w.drewN n := by
  by_cases hl : ss.length = tt.length
  · have t0 : ((ss.length : Int) != (tt.length : Int)) = false := by simp [hl]
    have g1 : ss.length ≤ tt.length := by omega
    have g2 : tt.length ≤ ss.length := by omega
    have HR1 := Lib.hid h1
    have HR2 := Lib.hid h2
    clear hl h1 h2
    go_enter Tryd.func23, Tryd.ntmps23
    go_wp2
    go_loopw [5] (fun i wr => ∃ k n : Nat, k ≤ ss.length ∧ i = .int .i64 k ∧ eqTo ss tt k ∧ wr = w.drewN n) (fun i _ => ss.length - (intOf i).toNat)
    case atStart => exact ⟨0, 0, Nat.zero_le _, rfl, fun _ _ _ h => absurd h (by omega), rfl⟩
    case round =>
      obtain ⟨k, n, hk, rfl, ha, rfl⟩ := hrel
      by_cases hlt : k < ss.length
      · obtain ⟨b1, off1, rfl, hb1, hc1⟩ := HR1.out.open_ (by rw [length_sv]; omega)
        obtain ⟨b2, off2, rfl, hb2, hc2⟩ := HR2.out.open_ (by rw [length_sv]; omega)
        have d1 := hc1 k (by rw [length_sv]; exact hlt)
        have d2 := hc2 k (by rw [length_sv]; omega)
        rw [sv_at hlt] at d1
        rw [sv_at (by omega)] at d2
        clear hc1 hc2
        have q1 : (k : Int) < (ss.length : Int) := by omega
        have q2 : (k : Int) < (tt.length : Int) := by omega
        by_cases he : ss[k] = tt[k]'(by omega)
        · have te : (ss[k].toList == (tt[k]'(by omega)).toList) = true := by rw [he]; simp
          have He := Lib.hid he
          clear he
          go_wp2_with fail
          go_quiet (fail)
          go_wp2
          go_roundw
          case rel =>
            refine ⟨k + 1, _, by omega, by go_num, fun j hj1 hj2 hlt' => ?_, rfl⟩
            by_cases e : j = k
            · subst e; exact He.out
            · exact ha j hj1 hj2 (by omega)
          case measure => simp [intOf]; omega
        · have te : (ss[k].toList == (tt[k]'(by omega)).toList) = false := by
            rw [toList_L, toList_L, beq_eq_false_iff_ne]
            exact fun h => he (L_inj h)
          go_wp2_with fail
          go_quiet (fail)
          go_wp2
          go_ret
          exact ⟨ret_bool (by simp; intro h; exact he (by simp [h])), n + nq, by rw [World.drewN_drewN]⟩
      · go_wp2
        go_ret
        refine ⟨ret_bool ?_, n, rfl⟩
        have : ss = tt := List.ext_getElem (by omega) fun j hj1 hj2 => ha j hj1 hj2 (by omega)
        simp [this]
  · have t0 : ((ss.length : Int) != (tt.length : Int)) = true := by rw [bne_iff_ne]; omega
    have T : Hid (decide (ss = tt) = false) := by show _ = _; simp; intro h; exact hl (by rw [h])
    clear hl
    go_enter Tryd.func23, Tryd.ntmps23
    go_wp2
    go_ret
    exact ⟨ret_bool T.out.symm, 0, rfl⟩
end Go.Proofs.YtlpfhabfbnjnbaaDoor

/- Slices that a call owns and grows by append. -/
namespace Go.Proofs.YtlpfhabfbnjnbaaDoor
open Go.RowKit

/-- The slice v with n elements of type e, of sz cells each, holds the cells xs in a row from block base on. -/
abbrev OwR (w : World) (base : Nat) (e : TypeId) (sz : Nat) (v : Value) (n : Nat) (xs : List Value) : Prop := w.ownsRow base e sz v n xs
section
variable {w w' : World} {base sz n : Nat} {e : TypeId} {v : Value} {xs : List Value}
theorem OwR.below (h : OwR w base e sz v n xs) {B : Nat} (hb : Below B w w') (hB : w.heap.size ≤ B) : OwR w' base e sz v n xs := by
  refine ⟨h.1, ?_⟩
  rcases h.2 with h0 | ⟨g, cap, cur, rfl, hg, hh, h1⟩
  · exact .inl h0
  · have hlt : g < w.heap.size := by
      rcases Nat.lt_or_ge g w.heap.size with h2 | h2
      · exact h2
      · rw [Array.getElem?_eq_none h2] at hh; cases hh
    exact .inr ⟨g, cap, cur, rfl, hg, (hb.block g (by omega)).trans hh, h1⟩
theorem OwR.far (h : OwR w base e sz v n xs) {p : Addr} (hp : p.block < base) (u : Value) : OwR (w.setCell p u) base e sz v n xs := by
  refine ⟨h.1, ?_⟩
  rcases h.2 with h0 | ⟨g, cap, cur, rfl, hg, hh, h1⟩
  · exact .inl h0
  · exact .inr ⟨g, cap, cur, rfl, hg, (Below.heap_setCell w p u g (by omega)).trans hh, h1⟩
theorem OwR.moved {R : Nat} (h : OwR w base e sz v n xs) (hb : w.grownBy w' (some R)) (hR : R < base) : OwR w' base e sz v n xs := by
  refine World.ownsRow.kept h hb ?_
  cases e' : v.ownBlock with
  | none => exact .inl rfl
  | some g => have := (World.ownsRow.lt h g e').1; exact .inr (by simp; omega)
theorem OwR.movedR {R : Nat} (h : OwR w base e sz v n xs) (hb : w.grownBy w' (some R)) (hR : v.ownBlock ≠ some R) : OwR w' base e sz v n xs := World.ownsRow.kept h hb (.inr hR)
theorem OwR.off (h : OwR w base e sz v n xs) {p : Addr} (hp : v.ownBlock ≠ some p.block) (u : Value) : OwR (w.setCell p u) base e sz v n xs := by
  refine ⟨h.1, ?_⟩
  rcases h.2 with h0 | ⟨g, cap, cur, rfl, hg, hh, h1⟩
  · exact .inl h0
  · exact .inr ⟨g, cap, cur, rfl, hg, (Below.heap_setCell w p u g (fun e => hp (by rw [← e]; rfl))).trans hh, h1⟩
theorem OwR.drewN (h : OwR w base e sz v n xs) (k : Nat) : OwR (w.drewN k) base e sz v n xs := h
theorem OwR.val (h : OwR w base e sz v n xs) : ∃ a c, v = .slice a n c ∧ n ≤ c ∧ Reads w w.heap.size a xs ∧ (n = 0 ∨ ∃ g, a = some ⟨g, 0, none⟩ ∧ base ≤ g ∧ Own w g xs) := by
  rcases h.2 with ⟨rfl, h0⟩ | ⟨g, cap, cur, rfl, hb, hh, hn, hm, hs, ht⟩
  · have := h.1; rw [h0] at this ⊢
    exact ⟨none, 0, rfl, Nat.le_refl _, .inl (List.eq_nil_of_length_eq_zero (by omega)), .inl rfl⟩
  · have hlt : g < w.heap.size := by
      rcases Nat.lt_or_ge g w.heap.size with h1 | h1
      · exact h1
      · rw [Array.getElem?_eq_none h1] at hh; cases hh
    have ho : Own w g xs := by
      refine ⟨hlt, fun i hi => ?_, fun i hi => by simp [World.frozen?, hh]⟩
      rw [cell_of_row w g i cur _ _ hh, ← ht]
      have : i < n * sz := by rw [← h.1]; exact hi
      rw [List.getElem?_take_of_lt this]
      simp
    exact ⟨_, _, rfl, hn, Reads.of_own ho hlt, .inr ⟨g, rfl, hb, ho⟩⟩
end

section
variable {P : Program} {ops : Array Oper} {rest : List Oper} {dst : Option Tmp} {ty : TypeId} {pos : String} {after : Array Edge} {a : Act} {w0 : World} {Q : Exit → Act → World → Prop}
/-- 'x = append(x, u)', x of the call's own. -/
theorem wl_push (t e : TypeId) {s x : Operand} {z : Value} {sz bytes : Nat} (hinfo : (P.info? e).map (fun i => (i.zero, i.size, i.bytes)) = some (some z, sz, bytes)) (ht : P.underlying t = some (.slice e)) (hzs : z.cells.size = sz) (hsz : 0 < sz)
    {base n : Nat} {v : Value} {xs us : List Value} (hown : OwR w0 base e sz v n xs) (hb : base ≤ w0.heap.size) (hus : us.length = sz) (h1 : ∀ u ∈ us, u.oneCell' = true) (hn : n ≤ 1048576) (hby : bytes ≤ 1000)
    (hs : a.eval s = v) (hx : a.eval x = .slice (some ⟨w0.heap.size, 0, none⟩) 1 1)
    (h : ∀ g cap w', OwR w' base e sz (.slice (some ⟨g, 0, none⟩) (n + 1) cap) (n + 1) (xs ++ us) → Below base w0 w' → w0.heap.size < w'.heap.size → wpList P ops Q rest (a.put dst (.slice (some ⟨g, 0, none⟩) (n + 1) cap)) w') :
    wpList P ops Q (⟨dst, .call { callee := .builtin .append, args := #[s, x], argTypes := #[t, t] }, ty, pos, after, none⟩ :: rest) a (w0.alloc (.cells us.toArray e)) := by
  obtain ⟨i0, hi0, hz0, hz1, hz2⟩ := info_parts hinfo
  refine wpList_append_lies _ rfl s x t rfl base e i0 z sz bytes ht hi0 hz0 hz1 hz2 hzs hsz v n xs hs (World.ownsRow.alloc hown _) ⟨w0.heap.size, 0, none⟩ 1 1 us hx (by omega) ?_ h1 (by omega) (by unfold maxLen; omega) ?_ (by simp; omega) (w0.heap.size + 1) (by simp) ?_
  · intro j u hu
    rw [show ((⟨w0.heap.size, 0, none⟩ : Addr).add j) = ⟨w0.heap.size, j, none⟩ by unfold Addr.add; split <;> simp_all]
    rw [World.cell?_alloc_mark]; simpa using hu
  · have : (n + 1) * bytes ≤ (1048576 + 1) * 1000 := Nat.mul_le_mul (by omega) hby
    omega
  · intro g cap w' ho hg hat hlt
    refine h g cap w' ho ?_ ?_
    · refine ((Below.refl base w0).alloc hb _).grown hg (by simp; omega) (fun k hk => ?_)
      exact (World.ownsRow.lt hown k hk).1
    · have := hg.size; simp at this; omega
end

theorem OwR.last {w : World} {base g cap n : Nat} {e : TypeId} {xs : List Value} {u : Value} (h : OwR w base e 1 (.slice (some ⟨g, 0, none⟩) (n + 1) cap) (n + 1) (xs ++ [u])) : w.cell? ⟨g, n, none⟩ = some u := by
  rw [World.ownsRow.cellAt h n (by omega)]
  have := h.1
  simp only [List.length_append, List.length_cons, List.length_nil] at this
  rw [List.getElem?_append_right (by omega), show n - xs.length = 0 by omega]; rfl
/-- What a function that answers a slice leaves. -/
def RowPost (e : TypeId) (sz n : Nat) (xs : List Value) (w : World) (E : Ending) (w' : World) : Prop := ∃ v, E = .returned v ∧ OwR w' w.heap.size e sz v n xs ∧ Below w.heap.size w w'
theorem sv_append (a b : List ByteArray) : sv (a ++ b) = sv a ++ sv b := by simp [sv]
theorem sv_one (s : ByteArray) : sv [s] = [.string s] := rfl
end Go.Proofs.YtlpfhabfbnjnbaaDoor

/- Contracts of FormatCage of both sides. -/
namespace Go.Proofs.YtlpfhabfbnjnbaaDoor
open Go.RowKit

theorem join_len {d : UInt8} {m : Nat} : ∀ {ps : List (List UInt8)}, (∀ p ∈ ps, p.length ≤ m) → (Lib.join ps [d]).length ≤ ps.length * (m + 1)
  | [], _ => by simp [Lib.join_nil]
  | [x], h => by rw [Lib.join_one]; have := h x (by simp); simp; omega
  | x :: y :: r, h => by
    have ih := join_len (d := d) (m := m) (ps := y :: r) (fun p hp => h p (by simp [List.mem_cons.1 hp]))
    have hx := h x (by simp)
    rw [join_two]
    simp only [List.length_append, List.length_cons, List.length_nil] at ih ⊢
    have e1 : (r.length + 1 + 1) * (m + 1) = (r.length + 1) * (m + 1) + (m + 1) := Nat.succ_mul _ _
    omega
theorem join_snoc {d : UInt8} {x : List UInt8} : ∀ {ps : List (List UInt8)}, ps ≠ [] → Lib.join (ps ++ [x]) [d] = Lib.join ps [d] ++ [d] ++ x
  | [], h => absurd rfl h
  | [y], _ => by simp [join_two, Lib.join_one]
  | y :: z :: r, _ => by
    rw [List.cons_append, List.cons_append, join_two, ← List.cons_append, join_snoc (ps := z :: r) (by simp), join_two]
    simp
/-- The first k pieces joined. -/
def joT (ps : List (List UInt8)) (k : Nat) : List UInt8 := Lib.join (ps.take k) [32]
theorem joT_zero (ps : List (List UInt8)) : joT ps 0 = [] := by simp [joT, Lib.join_nil]
theorem joT_succ {ps : List (List UInt8)} {k : Nat} (h : k < ps.length) : joT ps (k + 1) = (joT ps k ++ if 0 < k then [32] else []) ++ ps[k] := by
  unfold joT
  rw [List.take_succ_eq_append_getElem h]
  by_cases h0 : 0 < k
  · rw [join_snoc (fun e => by have := congrArg List.length e; rw [List.length_take, List.length_nil] at this; omega), if_pos h0]
  · have : k = 0 := by omega
    subst this
    simp [Lib.join_one, Lib.join_nil]
theorem joT_all (ps : List (List UInt8)) : joT ps ps.length = Lib.join ps [32] := by rw [joT, List.take_length]
theorem whl_len {ws : List ByteArray} {bs : List Int} (h : cageB ws bs = true) : ∀ p ∈ ws.map L, p.length ≤ 9 := by
  intro p hp
  obtain ⟨s, hs, rfl⟩ := List.mem_map.1 hp
  rw [size_L]
  exact (bitsB_size ((cage_iff.1 h).2.1 s hs)).2
theorem bar_len {ws : List ByteArray} {bs : List Int} (h : cageB ws bs = true) : ∀ p ∈ bs.map dcB, p.length ≤ 2 := by
  intro p hp
  obtain ⟨b, hb, rfl⟩ := List.mem_map.1 hp
  have := cage_bar h b hb
  exact (dec_len (n := b.toNat) (by omega)).2
theorem joT_len {ps : List (List UInt8)} {m : Nat} (h : ∀ p ∈ ps, p.length ≤ m) (k : Nat) : (joT ps k).length ≤ ps.length * (m + 1) := by
  refine Nat.le_trans (join_len (fun p hp => h p (List.mem_of_mem_take hp))) (Nat.mul_le_mul_right _ ?_)
  rw [List.length_take]; omega
theorem inf_str1 : (Tryd.prog.info? 9).map (fun i => (i.zero, i.size, i.bytes)) = some (some (.string ⟨#[]⟩), 1, 16) := by kernel_rfl
/-- The digits of the first k bars. -/
def dcs (bs : List Int) (k : Nat) : List ByteArray := (bs.take k).map fun b => S (dcB b)
theorem len_dcs {bs : List Int} {k : Nat} (h : k ≤ bs.length) : (dcs bs k).length = k := by simp [dcs]; omega
theorem dcs_succ {bs : List Int} {k : Nat} (h : k < bs.length) : dcs bs (k + 1) = dcs bs k ++ [S (dcB bs[k])] := by
  unfold dcs
  rw [List.take_succ_eq_append_getElem h, List.map_append]; rfl
theorem dcs_all (bs : List Int) : (dcs bs bs.length).map L = bs.map dcB := by
  unfold dcs
  rw [List.take_length, List.map_map]
  exact List.map_congr_left fun b _ => L_S _
theorem fmt_cat {ws : List ByteArray} {bs : List Int} (h : cageB ws bs = true) : (S (Lib.join (ws.map L) [32]) ++ S [47]) ++ S (Lib.join (bs.map dcB) [32]) = fmtC ws bs := by
  unfold fmtC
  rw [if_pos h, S_append, S_append]
  simp [fmtL]
theorem joinS_any (a : Option Addr) (n c : Nat) (xs : List ByteArray) (w : World) (r : Reads w w.heap.size a (sv xs)) (hn : xs.length = n) (h0 : 0 < n) (hc : n ≤ c) (hl : (Lib.join (xs.map L) [32]).length ≤ 10000) (hb : n ≤ 10000) :
    Calls Tryd.prog 31 #[.slice a n c, .string ⟨#[32]⟩] w fun e w' => e = .returned (.string (S (Lib.join (xs.map L) [32]))) ∧ Below w.heap.size w w' := by
  subst hn
  obtain ⟨b, off, rfl, hbl, hcl⟩ := r.open_ (by rw [length_sv]; exact h0)
  exact Tryd.strings_Join b off c xs ⟨#[32]⟩ w (fun j x hx => by
    have hj : j < xs.length := by
      rcases Nat.lt_or_ge j xs.length with h | h
      · exact h
      · rw [List.getElem?_eq_none h] at hx; cases hx
    rw [hcl j (by rw [length_sv]; exact hj), sv_at hj]
    rw [List.getElem?_eq_getElem hj] at hx
    rw [Option.some.inj hx]) hbl (by omega) hc (Nat.le_trans hl (by decide))
set_option maxRecDepth 100000 in
set_option maxHeartbeats 2000000 in
theorem implFormatCage_any (a1 a2 : Option Addr) (c1 c2 : Nat) (ws : List ByteArray) (bs : List Int) (w : World) (h1 : Reads w w.heap.size a1 (sv ws)) (h2 : Reads w w.heap.size a2 (iv bs)) (hz : ∀ s ∈ ws, s.size ≤ 4294967296) (hl1 : ws.length ≤ 4294967296) (hl2 : bs.length ≤ 4294967296) (hc1 : ws.length ≤ c1) :
    Calls Tryd.prog 11 #[.agg #[.slice a1 ws.length c1, .slice a2 bs.length c2]] w fun e w' => e = .returned (.string (fmtC ws bs)) ∧ Below w.heap.size w w' := by
  have o0 := Own.new w [.slice a1 ws.length c1, .slice a2 bs.length c2] 25
  have hb0 := (Below.refl w.heap.size w).alloc (Nat.le_refl _) (.cells [.slice a1 ws.length c1, .slice a2 bs.length c2].toArray 25)
  have f0 := o0.at_ (i := 0) rfl
  have f1 := o0.at_ (i := 1) rfl
  have r1 := h1.alloc_ (.cells [.slice a1 ws.length c1, .slice a2 bs.length c2].toArray 25)
  have r2 := (h2.below hb0 (Nat.le_refl _)).more hb0.size
  have nv := fun W r1 r2 => implCageValid_any a1 a2 c1 c2 ws bs W r1 r2 hz hl1 hl2
  clear h1 h2 hz
  by_cases hc : cageB ws bs = true
  case neg =>
    have hc' : cageB ws bs = false := by rw [Bool.eq_false_iff]; exact hc
    have HE : Hid (fmtC ws bs = ⟨#[]⟩) := Lib.hid (by unfold fmtC; rw [if_neg hc]; rfl)
    rw [hc'] at nv
    go_enter Tryd.func11, Tryd.ntmps11
    go_wp2_with fail
    refine (nv _ r1 r2).mono ?_
    rintro e w1 ⟨rfl, hb1⟩
    go_wp2
    go_ret
    exact ⟨ret_str HE.out.symm, bt hb0 hb1⟩
  rw [hc] at nv
  have HC := Lib.hid hc
  clear hc
  go_enter Tryd.func11, Tryd.ntmps11
  go_wp2_with fail
  refine (nv _ r1 r2).mono ?_
  rintro e w1 ⟨rfl, hb1⟩
  have o1 := o0.below hb1 o0.lt
  have hbw1 := bt hb0 hb1
  have q1 := (r1.below hb1 (Nat.le_refl _)).more hb1.size
  have q2 := (r2.below hb1 (Nat.le_refl _)).more hb1.size
  have e0 := o1.at_ (i := 0) rfl
  have e1 := o1.at_ (i := 1) rfl
  clear o0 hb0 f0 f1 r1 r2 nv hb1
  obtain ⟨Bl, hBl⟩ : ∃ Bl, Bl = w1.heap.size := ⟨_, rfl⟩
  have hwB : w.heap.size < Bl := by rw [hBl]; exact o1.lt
  rw [← hBl] at q1 q2
  go_wp2_with fail
  go_loopw [3, 5, 12] (fun l _ i wr => ∃ k : Nat, k ≤ bs.length ∧ i = .int .i64 (k : Int) ∧ OwR wr Bl 9 1 l k (sv (dcs bs k)) ∧ Below Bl w1 wr) (fun _ _ i _ => bs.length - (intOf i).toNat)
  case atStart => exact ⟨0, Nat.zero_le _, rfl, World.ownsRow_nil w1 Bl 9 1, Below.refl _ _⟩
  case round =>
    obtain ⟨k, hk, rfl, hown, hb⟩ := hrel
    have hz := hb.size
    by_cases hlt : k < bs.length
    · obtain ⟨b, off, rfl, hbl, hcl⟩ := (q2.below hb (Nat.le_refl _)).open_ (by rw [length_iv]; omega)
      have d1 := hcl k (by rw [length_iv]; exact hlt)
      rw [iv_at hlt] at d1
      have p1 : (0 : Int) ≤ (k : Int) := by omega
      have p2 : (k : Int) < (bs.length : Int) := by omega
      obtain ⟨hx0, hx1⟩ := cage_bar HC.out _ (List.getElem_mem hlt)
      have HS : Hid (dcs bs (k + 1) = dcs bs k ++ [S (Lib.decDigits bs[k].toNat)]) := Lib.hid (dcs_succ hlt)
      clear hcl
      generalize bs[k] = x at *
      obtain ⟨n, rfl⟩ := Int.eq_ofNat_of_zero_le hx0
      have nit : ∀ W, Calls Tryd.prog 30 #[.int .i64 (n : Int)] W fun e w' => e = .returned (.string (S (Lib.decDigits n))) ∧ w' = W := fun W => Tryd.strconv_Itoa_small n (by omega) W
      rw [Int.toNat_natCast] at HS
      generalize Lib.decDigits n = dn at *
      have hk9 : k ≤ 1048576 := by have := (cage_iff.1 HC.out).1; omega
      have hlo : (sv (dcs bs k)).length = k := by rw [length_sv, len_dcs hk]
      have HLO := Lib.hid hlo
      clear hlo
      go_wp2_with fail
      refine (nit _).mono ?_
      rintro e w' ⟨rfl, rfl⟩
      go_wp2_with (at_builtin; ((with_reducible refine wl_push 22 9 inf_str1 Tryd.underlying22 rfl (by omega) hown (by omega) rfl (by simp [Value.oneCell']) (by omega) (by omega) rfl rfl ?_); intro g4 cap w4 o4 b4 k4))
      go_roundw
      case rel => exact ⟨k + 1, by omega, by go_num, by rw [HS.out, sv_append]; exact o4, hb.trans b4⟩
      case measure => simp [intOf]; omega
    · have hk' : k = bs.length := by omega
      subst hk'
      have r1 := q1.below hb (Nat.le_refl _)
      have g0 := (hb.cell (p := ⟨w.heap.size, 0, none⟩) hwB).trans e0
      have g1 := (hb.cell (p := ⟨w.heap.size, 1, none⟩) hwB).trans e1
      have hbw := hbw1.trans (hb.mono (by omega))
      have hw1 := whl_len HC.out
      have hd1 := bar_len HC.out
      obtain ⟨⟨l1, l2, l3, l4⟩, -, -⟩ := cage_iff.1 HC.out
      have hj1 : (Lib.join (ws.map L) [32]).length ≤ 10000 := by
        have h := join_len (d := 32) hw1
        rw [List.length_map] at h
        omega
      have hj2 : (Lib.join (bs.map dcB) [32]).length ≤ 10000 := by
        have h := join_len (d := 32) hd1
        rw [List.length_map] at h
        omega
      have HF := Lib.hid (fmt_cat HC.out)
      have HD := Lib.hid (dcs_all bs)
      have HN := Lib.hid (len_dcs (Nat.le_refl bs.length))
      have s1 : (S (Lib.join (ws.map L) [32])).size ≤ 10000 := by rw [size_S]; exact hj1
      have s2 : (S (Lib.join (bs.map dcB) [32])).size ≤ 10000 := by rw [size_S]; exact hj2
      obtain ⟨al, cl, rfl, hcl, hrl, -⟩ := OwR.val hown
      go_wp2_with fail
      refine (joinS_any a1 ws.length c1 ws wr (r1.more (by omega)) rfl (by omega) hc1 hj1 (by omega)).mono ?_
      rintro e w5 ⟨rfl, hb5⟩
      have hbw5 := bt hbw hb5
      have hr5 := (hrl.below hb5 (Nat.le_refl _)).more hb5.size
      generalize S (Lib.join (ws.map L) [32]) = j1 at *
      go_wp2_with fail
      refine (joinS_any al bs.length cl (dcs bs bs.length) w5 hr5 HN.out (by omega) hcl (by rw [HD.out]; exact hj2) (by omega)).mono ?_
      rintro e w6 ⟨rfl, hb6⟩
      rw [HD.out]
      generalize S (Lib.join (bs.map dcB) [32]) = j2 at *
      go_wp2
      go_ret
      exact ⟨ret_str HF.out, bt hbw5 hb6⟩
end Go.Proofs.YtlpfhabfbnjnbaaDoor

/- The library's contracts that ParseCage needs, in plain words; the package variables that they read. -/
namespace Go.Proofs.YtlpfhabfbnjnbaaDoor
open Go.RowKit

theorem cell_lt {w : World} {p : Addr} {u : Value} (h : w.cell? p = some u) : p.block < w.heap.size := by
  rcases Nat.lt_or_ge p.block w.heap.size with h1 | h1
  · exact h1
  · simp only [World.cell?, Array.getElem?_eq_none h1] at h
    cases h
/-- A variable that holds an error, or none. -/
def ErrAt (w : World) (g : Nat) : Prop := ∃ ev, w.cell? ⟨g, 0, none⟩ = some ev ∧ (ev = .nilIface ∨ ∃ te pe, ev = .iface te pe)
/-- The package variables that the library reads. -/
structure GlB (w : World) : Prop where
  max : ∃ m, w.cell? ⟨0, 0, none⟩ = some (.int .i64 m)
  syn : ErrAt w 1
  ran : ErrAt w 2
theorem ErrAt.below {w w' : World} {g : Nat} (h : ErrAt w g) (hb : Below w.heap.size w w') : ErrAt w' g := by
  obtain ⟨ev, h1, h2⟩ := h
  exact ⟨ev, (hb.cell (p := ⟨g, 0, none⟩) (cell_lt h1)).trans h1, h2⟩
theorem GlB.below {w w' : World} (h : GlB w) (hb : Below w.heap.size w w') : GlB w' := by
  obtain ⟨m, h1⟩ := h.max
  exact ⟨⟨m, (hb.cell (p := ⟨0, 0, none⟩) (cell_lt h1)).trans h1⟩, h.syn.below hb, h.ran.below hb⟩
theorem GlB.low {w w' : World} {B : Nat} (h : GlB w) (hb : Below B w w') (hB : 2 < B) : GlB w' := by
  obtain ⟨m, h1⟩ := h.max
  obtain ⟨e1, h2, h3⟩ := h.syn
  obtain ⟨e2, h4, h5⟩ := h.ran
  exact ⟨⟨m, (hb.cell (p := ⟨0, 0, none⟩) (by simp; omega)).trans h1⟩, ⟨e1, (hb.cell (p := ⟨1, 0, none⟩) (by simp; omega)).trans h2, h3⟩, ⟨e2, (hb.cell (p := ⟨2, 0, none⟩) (by simp; omega)).trans h4, h5⟩⟩
theorem GlB.big {w : World} (h : GlB w) : 2 < w.heap.size := by
  obtain ⟨e2, h4, -⟩ := h.ran
  exact cell_lt h4
theorem GlB.alloc {w : World} (h : GlB w) (o : Obj) : GlB (w.alloc o) := h.below ((Below.refl _ _).alloc (Nat.le_refl _) o)
theorem GlB.drewN {w : World} (h : GlB w) (n : Nat) : GlB (w.drewN n) := ⟨h.max, h.syn, h.ran⟩
theorem GlB.far {w : World} (h : GlB w) {p : Addr} (hp : 2 < p.block) (u : Value) : GlB (w.setCell p u) :=
  h.low ((Below.refl 3 w).setCell (by omega) u) (by omega)
theorem dn_below {B : Nat} {w : World} (n : Nat) : Below B w (w.drewN n) := ⟨rfl, rfl, rfl, Nat.le_refl _, fun _ _ => rfl⟩
theorem spl_len {c : UInt8} (l : List UInt8) : ∀ p ∈ spl c l, p.length ≤ l.length := by
  rcases first_of c l with h | ⟨a, b, e, ha⟩
  · rw [spl_free h]; simp
  · have ih := spl_len (c := c) b
    have hl := congrArg List.length e
    simp only [List.length_append, List.length_cons] at hl
    rw [e, spl_at ha]
    intro p hp
    simp only [List.length_append, List.length_cons]
    rcases List.mem_cons.1 hp with rfl | hp
    · omega
    · have := ih p hp
      omega
termination_by l.length
decreasing_by exact first_len e
theorem cut_yes (s : ByteArray) (A B : List UInt8) (w : World) (hG : GlB w) (hs : s.size ≤ 2000000) (e : L s = A ++ 47 :: B) (hA : (47 : UInt8) ∉ A) :
    Calls Tryd.prog 19 #[.string s, .string ⟨#[47]⟩] w fun e w' => e = .returned (.tuple #[.string (S A), .string (S B), .bool true]) ∧ ∃ n, w' = w.drewN n := by
  obtain ⟨m, hm⟩ := hG.max
  have h := Tryd.strings_Cut s ⟨#[47]⟩ m w (by omega) hm
  have hc : Lib.cut s.data.toList [47] = (A, B, true) := by
    have hi : Lib.index s.data.toList [47] = (A.length : Int) := by
      have := index_at (c := 47) (b := B) hA
      rw [← e] at this; exact this
    unfold Lib.cut
    rw [hi, if_pos (by omega)]
    have e' : s.data.toList = A ++ 47 :: B := e
    rw [e']
    simp
  have hd : (⟨#[47]⟩ : ByteArray).data.toList = [47] := rfl
  rw [hd, hc] at h
  exact h
theorem cut_no (s : ByteArray) (w : World) (hG : GlB w) (hs : s.size ≤ 2000000) (h47 : (47 : UInt8) ∉ L s) :
    Calls Tryd.prog 19 #[.string s, .string ⟨#[47]⟩] w fun e w' => e = .returned (.tuple #[.string s, .string ⟨#[]⟩, .bool false]) ∧ ∃ n, w' = w.drewN n := by
  obtain ⟨m, hm⟩ := hG.max
  have h := Tryd.strings_Cut s ⟨#[47]⟩ m w (by omega) hm
  have hc : Lib.cut s.data.toList [47] = (s.data.toList, [], false) := by
    have hi : Lib.index s.data.toList [47] = -1 := index_free h47
    unfold Lib.cut
    rw [hi, if_neg (by omega)]
  have hd : (⟨#[47]⟩ : ByteArray).data.toList = [47] := rfl
  rw [hd, hc] at h
  have hS : (⟨s.data.toList.toArray⟩ : ByteArray) = s := S_L s
  simp only [hS] at h
  exact h
theorem count_any (s : ByteArray) (w : World) :
    Calls Tryd.prog 20 #[.string s, .string ⟨#[32]⟩] w fun e w' => e = .returned (.int .i64 (((L s).count 32 : Nat) : Int)) ∧ w' = w := Tryd.strings_Count_one s 32 w
theorem split_any (l : List UInt8) (w : World) (hG : GlB w) (hs : l.length ≤ 2000000) :
    Calls Tryd.prog 21 #[.string (S l), .string ⟨#[32]⟩] w fun e w' => e = .returned (.slice (some ⟨w.heap.size, 0, none⟩) (spl 32 l).length (spl 32 l).length) ∧ w' = w.alloc (.cells (sv ((spl 32 l).map S)).toArray 9) := by
  obtain ⟨m, hm⟩ := hG.max
  have h := Tryd.strings_Split (S l) ⟨#[32]⟩ m w (by rw [size_S]; omega) hm (by decide)
  rw [countB_one, splitB_one, L_S] at h
  exact h
theorem atoi_any (t : List UInt8) (w : World) (hG : GlB w) (hl : t.length ≤ 2000000) :
    Calls Tryd.prog 22 #[.string (S t)] w fun e w' => Below w.heap.size w w' ∧ ((∃ v, Lib.atoiAll t = .ok v ∧ e = .returned (.tuple #[.int .i64 v, .nilIface])) ∨ ((∀ v, Lib.atoiAll t ≠ .ok v) ∧ ∃ v N, e = .returned (.tuple #[.int .i64 v, .iface 78 (.pointer (some ⟨N, 0, none⟩))]))) := by
  have ht : (S t).data.toList = t := by simp [S]
  cases ha : Lib.atoiAll t with
  | ok v =>
    refine (Tryd.strconv_Atoi_ok (S t) (by rw [size_S]; omega) v (by rw [ht]; exact ha) w).mono ?_
    rintro e w' ⟨rfl, hw⟩
    refine ⟨?_, .inl ⟨v, rfl, rfl⟩⟩
    rcases hw with rfl | ⟨t', rfl⟩
    · exact Below.refl _ _
    · exact Lib.bytesWorld_below _ _ _
  | range =>
    obtain ⟨ev, h1, h2⟩ := hG.ran
    refine (Tryd.strconv_Atoi_range (S t) (by rw [size_S]; omega) (by rw [ht]; exact ha) ev w h1 h2).mono ?_
    rintro e w' ⟨N, rfl, -, -, hb⟩
    exact ⟨hb, .inr ⟨fun v h => (by cases h), _, N, rfl⟩⟩
  | _ =>
    obtain ⟨ev, h1, h2⟩ := hG.syn
    refine (Tryd.strconv_Atoi_syntax (S t) (by rw [size_S]; omega) (fun v h => by rw [ht, ha] at h; cases h) (fun h => by rw [ht, ha] at h; cases h) ev w h1 h2).mono ?_
    rintro e w' ⟨N, rfl, -, -, hb⟩
    exact ⟨hb, .inr ⟨fun v h => (by cases h), _, N, rfl⟩⟩
end Go.Proofs.YtlpfhabfbnjnbaaDoor

/- Laws of the walk for whole arrays and structs in memory: loading, storing, indexing; their cells told by a list. -/
namespace Go.Proofs.YtlpfhabfbnjnbaaDoor
open Go.RowKit
variable {P : Program}

/-- Block g has the cells cs from offset off on. -/
def Cells (w : World) (g off : Nat) (cs : List Value) : Prop := ∀ i, i < cs.length → w.cell? ⟨g, off + i, none⟩ = cs[i]?
theorem Own.cells {w : World} {g : Nat} {cs : List Value} (h : Own w g cs) : Cells w g 0 cs := fun i hi => by rw [Nat.zero_add]; exact h.cell i hi
theorem Cells.at_ {w : World} {g off : Nat} {cs : List Value} (h : Cells w g off cs) {i : Nat} {u : Value} (hu : cs[i]? = some u) : w.cell? ⟨g, off + i, none⟩ = some u := by
  have hi : i < cs.length := by
    rcases Nat.lt_or_ge i cs.length with h1 | h1
    · exact h1
    · rw [List.getElem?_eq_none h1] at hu; cases hu
  rw [h i hi, hu]
theorem Cells.sub {w : World} {g off : Nat} {cs : List Value} (h : Cells w g off cs) (k n : Nat) (hk : k + n ≤ cs.length) : Cells w g (off + k) ((cs.drop k).take n) := fun i hi => by
  have hi' : i < n := by simp at hi; omega
  rw [Nat.add_assoc, h (k + i) (by omega), List.getElem?_take_of_lt hi', List.getElem?_drop]
theorem Cells.lt {w : World} {g off : Nat} {cs : List Value} (h : Cells w g off cs) (h0 : 0 < cs.length) : g < w.heap.size := by
  have := h 0 h0
  rw [List.getElem?_eq_getElem h0] at this
  exact block_lt_of_cell this
theorem Cells.keep {w w' : World} {g off : Nat} {cs : List Value} (h : Cells w g off cs) (hb : w'.heap[g]? = w.heap[g]?) : Cells w' g off cs := fun i hi => by rw [← h i hi]; exact World.cell?_of_block (w := w) hb
theorem Cells.below {w w' : World} {g off B : Nat} {cs : List Value} (h : Cells w g off cs) (hb : Below B w w') (hg : g < B) : Cells w' g off cs := h.keep (hb.block g hg)
theorem Cells.grown {w w' : World} {g off : Nat} {cs : List Value} {row : Option Nat} (h : Cells w g off cs) (h0 : g < w.heap.size) (hb : w.grownBy w' row) (hg : some g ≠ row) : Cells w' g off cs := h.keep (hb.block g h0 hg)
theorem Cells.drew {w : World} {g off : Nat} {cs : List Value} (h : Cells w g off cs) : Cells w.drew g off cs := h
theorem Reads.cells {w : World} {B : Nat} {a : Option Addr} {xs : List Value} (h : Reads w B a xs) (h0 : 0 < xs.length) : ∃ g off, a = some ⟨g, off, none⟩ ∧ g < B ∧ Cells w g off xs := by
  obtain ⟨b, off, ha, hb, hc⟩ := h.open_ h0
  exact ⟨b, off, ha, hb, hc⟩

theorem add_none (g off j : Nat) : (⟨g, off, none⟩ : Addr).add j = ⟨g, off + j, none⟩ := by unfold Addr.add; split <;> simp_all

/-- A type of several cells. -/
def aggD (d : TypeDesc) : Bool := match d with | .struct _ | .array _ _ => true | _ => false
theorem run_loadVar_cells (w : World) (g off : Nat) (ty : TypeId) (cs : List Value) (d : TypeDesc) (hc : Cells w g off cs)
    (hu : P.underlying ty = some d) (hd : aggD d = true) (hi : (P.info? ty).map (·.size) = some cs.length) :
    (loadVar ty ⟨g, off, none⟩).run P w = .ok (.agg cs.toArray) w := by
  have hl : (loadCells ⟨g, off, none⟩ cs.length).run P w = .ok cs.toArray w :=
    run_loadCells_list (P := P) w ⟨g, off, none⟩ cs (fun j v hv => by rw [add_none]; exact hc.at_ hv)
  cases hq : P.info? ty with
  | none => simp [hq] at hi
  | some i =>
    have hs : i.size = cs.length := by simpa [hq] using hi
    have hagg : (isAgg ty).run P w = .ok true w := by
      unfold isAgg
      rw [Sem.run_bind, run_underlying hu w]
      cases d <;> simp_all [aggD]
    simp [loadVar, Sem.run_bind, hagg, sizeOf, typeInfo, hq, hs, hl]

section
variable {ops : Array Oper} {rest : List Oper} {dst : Option Tmp} {t : TypeId} {pos : String} {after : Array Edge} {guard : Option (Nat × Bool)} {a : Act} {w : World} {Q : Exit → Act → World → Prop}
theorem wl_load (ty : TypeId) {x : Operand} {g off : Nat} {cs : List Value} {d : TypeDesc} (hc : Cells w g off cs) (hi : (P.info? ty).map (·.size) = some cs.length) (hu : P.underlying ty = some d) (hd : aggD d = true)
    (hw : Region.wanted ⟨dst, .load ty x, t, pos, after, guard⟩ (yielded ops a.tmps) = true) (hx : a.eval x = .pointer (some ⟨g, off, none⟩))
    (h : wpList P ops Q rest (a.put dst (.agg cs.toArray)) w) : wpList P ops Q (⟨dst, .load ty x, t, pos, after, guard⟩ :: rest) a w :=
  BigFrame.wpList_want hw fun _ hK => by
    unfold Oper.wp execOp
    simp only [hx, Instr.loadAt, Instr.sureAddr, Sem.run_bind, Sem.run_pure, Result.andThen_ok, run_loadVar_cells w g off ty cs d hc hu hd hi]
    exact hK _ _ h
end

/-- Some cells replaced. -/
def put (cs : List Value) (off : Nat) (vs : List Value) : List Value := cs.take off ++ vs ++ cs.drop (off + vs.length)
theorem len_put {cs vs : List Value} {off : Nat} (h : off + vs.length ≤ cs.length) : (put cs off vs).length = cs.length := by simp [put]; omega
theorem put_all {cs vs : List Value} (h : vs.length = cs.length) : put cs 0 vs = vs := by simp [put, h]

theorem grown_setCell (w : World) (g i : Nat) (u : Value) : w.grownBy (w.setCell ⟨g, i, none⟩ u) (some g) :=
  ⟨rfl, rfl, rfl, by simp [World.setCell], fun k _ hk => Below.heap_setCell w ⟨g, i, none⟩ u k (by simpa using hk)⟩
theorem grown_trans {g : Nat} {a b c : World} (h : a.grownBy b (some g)) (k : b.grownBy c (some g)) : a.grownBy c (some g) :=
  ⟨k.os.trans h.os, k.tape.trans h.tape, k.output.trans h.output, Nat.le_trans h.size k.size, fun i hi hn => (k.block i (Nat.lt_of_lt_of_le hi h.size) hn).trans (h.block i hi hn)⟩
theorem run_storeCells_own (g off : Nat) : ∀ (vs : List Value) (i : Nat) (w : World) (cs : List Value), Own w g cs → off + i + vs.length ≤ cs.length → (∀ v ∈ vs, v.oneCell' = true) →
    ∃ w', (storeCells ⟨g, off, none⟩ vs i).run P w = .ok () w' ∧ Own w' g (put cs (off + i) vs) ∧ w.grownBy w' (some g) ∧ w'.heap.size = w.heap.size
  | [], i, w, cs, h, hl, _ => ⟨w, rfl, by simpa [put] using h, World.grownBy.refl w _, rfl⟩
  | v :: vs, i, w, cs, h, hl, h1 => by
    have hi : off + i < cs.length := by simp at hl; omega
    have hst : (store ((⟨g, off, none⟩ : Addr).add i) v).run P w = .ok () (w.setCell ⟨g, off + i, none⟩ v) := by
      rw [add_none, run_store P w _ v _ (h1 v (by simp)), h.cell _ hi, List.getElem?_eq_getElem hi]
      simp [h.free _ hi]
    obtain ⟨w', hr, ho, hg, hs⟩ := run_storeCells_own g off vs (i + 1) (w.setCell ⟨g, off + i, none⟩ v) (cs.set (off + i) v) (h.set_ hi v) (by simp at hl ⊢; omega) (fun u hu => h1 u (by simp [hu]))
    refine ⟨w', by simp only [storeCells, Sem.run_bind, hst, Result.andThen_ok, hr], ?_, grown_trans (grown_setCell w g _ v) hg, by rw [hs]; simp [World.setCell]⟩
    have he : put (cs.set (off + i) v) (off + (i + 1)) vs = put cs (off + i) (v :: vs) := by
      simp only [put, List.length_cons]
      rw [show off + (i + 1) = off + i + 1 by omega, List.drop_set_of_lt (by omega), show off + i + 1 + vs.length = off + i + (vs.length + 1) by omega]
      rw [List.take_succ_eq_append_getElem (by simpa using hi), List.getElem_set_self, List.take_set_of_le (Nat.le_refl _)]
      simp
    rw [← he]; exact ho
section
variable {ops : Array Oper} {rest : List Oper} {dst : Option Tmp} {t : TypeId} {pos : String} {after : Array Edge} {guard : Option (Nat × Bool)} {a : Act} {w : World} {Q : Exit → Act → World → Prop}
theorem wl_store (ty : TypeId) {x y : Operand} {g : Nat} (off : Nat) {cs vs : List Value} (hown : Own w g cs) (hi : (P.info? ty).map (·.size) = some vs.length) (h1 : ∀ v ∈ vs, v.oneCell' = true) (hl : off + vs.length ≤ cs.length)
    (hw : Region.wanted ⟨dst, .store ty x y, t, pos, after, guard⟩ (yielded ops a.tmps) = true) (hx : a.eval x = .pointer (some ⟨g, off, none⟩)) (hy : a.eval y = .agg vs.toArray)
    (h : ∀ w', Own w' g (put cs off vs) → w.grownBy w' (some g) → w'.heap.size = w.heap.size → wpList P ops Q rest (a.put dst undef) w') : wpList P ops Q (⟨dst, .store ty x y, t, pos, after, guard⟩ :: rest) a w := by
  obtain ⟨w', hr, hown', hg, hs⟩ := run_storeCells_own (P := P) g off vs 0 w cs hown (by omega) h1
  refine BigFrame.wpList_want hw fun _ hK => ?_
  have hsv : (storeVar ty ⟨g, off, none⟩ (.agg vs.toArray)).run P w = .ok () w' := by
    cases hq : P.info? ty with
    | none => simp [hq] at hi
    | some i =>
      have hs : vs.length = i.size := by simp [hq] at hi; omega
      simp [storeVar, sizeOf, typeInfo, hq, Value.cells, hs, hr]
  unfold Oper.wp execOp
  simp only [hx, hy, Instr.storeAt, Instr.sureAddr, Sem.run_bind, Sem.run_pure, Result.andThen_ok, hsv]
  exact hK _ _ (h w' hown' hg hs)
/-- 'x := v' of a variable in memory. -/
theorem wl_box (ty : TypeId) {x : Operand} {cs : List Value} (hw : Region.wanted ⟨dst, .box ty x, t, pos, after, guard⟩ (yielded ops a.tmps) = true) (hx : a.eval x = .agg cs.toArray)
    (h : ∀ w', Own w' w.heap.size cs → Below w.heap.size w w' → w'.heap.size = w.heap.size + 1 → wpList P ops Q rest (a.put dst (.pointer (some ⟨w.heap.size, 0, none⟩))) w') : wpList P ops Q (⟨dst, .box ty x, t, pos, after, guard⟩ :: rest) a w := by
  refine BigFrame.wpList_want hw fun _ hK => ?_
  have hr := h (w.alloc (.cells cs.toArray ty)) (Own.new w cs ty) ((Below.refl _ _).alloc (Nat.le_refl _) _) (by simp)
  unfold Oper.wp execOp
  simp only [hx]
  simp [go_sem, Value.cells]
  exact hK _ _ hr
theorem wl_alloc (ty : TypeId) {cs : List Value} (hz : ∀ w, (zeroValue ty).run P w = .ok (.agg cs.toArray) w) (hw : Region.wanted ⟨dst, .alloc ty, t, pos, after, guard⟩ (yielded ops a.tmps) = true)
    (h : ∀ w', Own w' w.heap.size cs → Below w.heap.size w w' → w'.heap.size = w.heap.size + 1 → wpList P ops Q rest (a.put dst (.pointer (some ⟨w.heap.size, 0, none⟩))) w') : wpList P ops Q (⟨dst, .alloc ty, t, pos, after, guard⟩ :: rest) a w := by
  refine BigFrame.wpList_want hw fun _ hK => ?_
  have hr := h (w.alloc (.cells cs.toArray ty)) (Own.new w cs ty) ((Below.refl _ _).alloc (Nat.le_refl _) _) (by simp)
  unfold Oper.wp execOp
  simp [go_sem, Value.cells, hz]
  exact hK _ _ hr
/-- 'x[i]' of an array of one-cell elements. -/
theorem wl_index (ty : TypeId) {x y : Operand} {cs : List Value} {k n : Nat} {e : TypeId} {v : Value} (hv : cs[k]? = some v) (hn : k < n) (hu : P.underlying ty = some (.array n e)) (he : ∀ w, (isAgg e).run P w = .ok false w) (hz : (P.info? e).map (·.size) = some 1)
    (hw : Region.wanted ⟨dst, .index ty x y, t, pos, after, guard⟩ (yielded ops a.tmps) = true) (hx : a.eval x = .agg cs.toArray) (hy : a.eval y = .int .i64 (k : Int))
    (h : wpList P ops Q rest (a.put dst v) w) : wpList P ops Q (⟨dst, .index ty x y, t, pos, after, guard⟩ :: rest) a w := by
  refine BigFrame.wpList_want hw fun _ hK => ?_
  cases hq : P.info? e with
  | none => simp [hq] at hz
  | some i =>
    have hs : i.size = 1 := by simpa [hq] using hz
    unfold Oper.wp execOp
    simp only [hx, hy, Instr.index]
    simp [go_sem, run_underlying hu, hn, sizeOf, typeInfo, hq, hs, he, hv, Oper.upon]
    exact hK _ _ h
theorem wl_neq (ty : TypeId) {x y : Operand} {t2 : TypeId} {xs ys : Array Value} {r : Bool} (hq : (Op.equal ty (.agg xs) (.agg ys)).run P w = .ok r w) (hg : P.eqGuardType P.depth ty = false)
    (hw : Region.wanted ⟨dst, .binOp .neq ty x y t2, t, pos, after, guard⟩ (yielded ops a.tmps) = true) (hx : a.eval x = .agg xs) (hy : a.eval y = .agg ys)
    (h : wpList P ops Q rest (a.put dst (.bool (!r))) w) : wpList P ops Q (⟨dst, .binOp .neq ty x y t2, t, pos, after, guard⟩ :: rest) a w := by
  refine BigFrame.wpList_want hw fun _ hK => ?_
  have hgd : (eqGuard .neq ty x y (.agg xs) (.agg ys)).run P w = .ok () w := by
    have hpr : ∀ w : World, (Sem.program Sem.pure).run P w = .ok P w := fun _ => rfl
    simp [eqGuard, program, hpr, hg]
  have hb : (binOp .neq ty (.agg xs) (.agg ys)).run P w = .ok (.bool (!r)) w := by
    have he : binOp .neq ty (.agg xs) (.agg ys) = (do pure (.bool (!(← Op.equal ty (.agg xs) (.agg ys))))) := rfl
    rw [he, Sem.run_bind, hq]
    rfl
  unfold Oper.wp execOp
  simp only [hx, hy, Sem.run_bind, hgd, Result.andThen_ok, hb]
  exact hK _ _ h
theorem wl_eql (ty : TypeId) {x y : Operand} {t2 : TypeId} {xs ys : Array Value} {r : Bool} (hq : (Op.equal ty (.agg xs) (.agg ys)).run P w = .ok r w) (hg : P.eqGuardType P.depth ty = false)
    (hw : Region.wanted ⟨dst, .binOp .eql ty x y t2, t, pos, after, guard⟩ (yielded ops a.tmps) = true) (hx : a.eval x = .agg xs) (hy : a.eval y = .agg ys)
    (h : wpList P ops Q rest (a.put dst (.bool r)) w) : wpList P ops Q (⟨dst, .binOp .eql ty x y t2, t, pos, after, guard⟩ :: rest) a w := by
  refine BigFrame.wpList_want hw fun _ hK => ?_
  have hgd : (eqGuard .eql ty x y (.agg xs) (.agg ys)).run P w = .ok () w := by
    have hpr : ∀ w : World, (Sem.program Sem.pure).run P w = .ok P w := fun _ => rfl
    simp [eqGuard, program, hpr, hg]
  have hb : (binOp .eql ty (.agg xs) (.agg ys)).run P w = .ok (.bool r) w := by
    have he : binOp .eql ty (.agg xs) (.agg ys) = (do pure (.bool (← Op.equal ty (.agg xs) (.agg ys)))) := rfl
    rw [he, Sem.run_bind, hq]
    rfl
  unfold Oper.wp execOp
  simp only [hx, hy, Sem.run_bind, hgd, Result.andThen_ok, hb]
  exact hK _ _ h
end
/-- A result in a cell. -/
theorem results_cell_own {fn : Func} {p : Tmp} {ty : TypeId} (h : fn.results = #[.cell p ty]) (tmps : Array Value) (w : World) (g : Nat) (cs : List Value) (d : TypeDesc)
    (hp : tmps.getD p undef = .pointer (some ⟨g, 0, none⟩)) (hc : Cells w g 0 cs)
    (hu : P.underlying ty = some d) (hd : aggD d = true) (hi : (P.info? ty).map (·.size) = some cs.length) :
    (results fn tmps).run P w = .ok (.agg cs.toArray) w := by
  have hp' : tmps[p]?.getD undef = .pointer (some ⟨g, 0, none⟩) := by simpa using hp
  simp [results, h, hp', asAddr, run_loadVar_cells w g 0 ty cs d hc hu hd hi]
/-- Two results, the first one in a cell. -/
theorem results_cell_tmp_own {fn : Func} {p u : Tmp} {ty : TypeId} (h : fn.results = #[.cell p ty, .tmp u]) (tmps : Array Value) (w : World) (g : Nat) (cs : List Value) (d : TypeDesc) (v : Value)
    (hp : tmps.getD p undef = .pointer (some ⟨g, 0, none⟩)) (hv : tmps.getD u undef = v) (hc : Cells w g 0 cs)
    (hu : P.underlying ty = some d) (hd : aggD d = true) (hi : (P.info? ty).map (·.size) = some cs.length) :
    (results fn tmps).run P w = .ok (.tuple #[.agg cs.toArray, v]) w := by
  have hp' : tmps[p]?.getD undef = .pointer (some ⟨g, 0, none⟩) := by simpa using hp
  have hv' : tmps[u]?.getD undef = v := by simpa using hv
  simp [results, h, hp', hv', asAddr, run_loadVar_cells w g 0 ty cs d hc hu hd hi]
end Go.Proofs.YtlpfhabfbnjnbaaDoor

/- The contract of ParseCage, in the program. -/
namespace Go.Proofs.YtlpfhabfbnjnbaaDoor
open Go.RowKit

/-- What ParseCage answers. -/
def PcPost (s : ByteArray) (w : World) (e : Ending) (w' : World) : Prop :=
  Below w.heap.size w w' ∧ ((∃ (ws : List ByteArray) (bs : List Int) (g1 c1 g2 c2 : Nat), ansIs s ws bs ∧ e = .returned (.tuple #[.agg #[.slice (some ⟨g1, 0, none⟩) ws.length c1, .slice (some ⟨g2, 0, none⟩) bs.length c2], .bool true]) ∧ w.heap.size ≤ g1 ∧ w.heap.size ≤ g2 ∧ g1 ≠ g2 ∧ ws.length ≤ c1 ∧ Own w' g1 (sv ws) ∧ Own w' g2 (iv bs)) ∨
    ((∀ ws bs, ¬ ansIs s ws bs) ∧ e = .returned (.tuple #[.agg #[.slice none 0 0, .slice none 0 0], .bool false])))
theorem inf_int1 : (Tryd.prog.info? 3).map (fun i => (i.zero, i.size, i.bytes)) = some (some (.int .i64 0), 1, 8) := by kernel_rfl
set_option maxRecDepth 100000 in
set_option maxHeartbeats 2000000 in
theorem implParseCage_any (s : ByteArray) (w : World) (hG : GlB w) (hs : s.size ≤ 1500000) :
    Calls Tryd.prog 6 #[.string s] w (PcPost s w) := by
  have hB := hG.big
  have hG0 := hG.alloc (.cells [.slice none 0 0, .slice none 0 0].toArray 25)
  have ob := Own.new w [.slice none 0 0, .slice none 0 0] 25
  have hb0 := (Below.refl w.heap.size w).alloc (Nat.le_refl _) (.cells [.slice none 0 0, .slice none 0 0].toArray 25)
  rcases first_of 47 (L s) with h47 | ⟨A, B, hAB, hA⟩
  · have hno : ∀ ws bs, ¬ ansIs s ws bs := fun ws bs h => h47 (ans_cut h)
    go_enter Tryd.func6, Tryd.ntmps6
    go_wp2_with fail
    refine (cut_no s _ hG0 (by omega) h47).mono ?_
    rintro e w1 ⟨rfl, n1, rfl⟩
    go_wp2_with fail
    have o1 := ((ob.drewN n1).set_ (i := 0) (by simp) (.slice none 0 0)).set_ (i := 1) (by simp) (.slice none 0 0)
    have hb1 := ((hb0.trans (dn_below n1)).setCell (p := ⟨w.heap.size, 0, none⟩) (Nat.le_refl _) (.slice none 0 0)).setCell (p := ⟨w.heap.size, 1, none⟩) (Nat.le_refl _) (.slice none 0 0)
    refine bodyPost_ret (results_cell_tmp_own Tryd.results6 _ _ _ _ _ _ (by rfl) (by rfl) o1.cells Tryd.underlying25 rfl (by kernel_rfl)) rfl ?_
    exact ⟨hb1, .inr ⟨hno, rfl⟩⟩
  · go_enter Tryd.func6, Tryd.ntmps6
    go_wp2_with fail
    refine (cut_yes s A B _ hG0 (by omega) hAB hA).mono ?_
    rintro e w1 ⟨rfl, n1, rfl⟩
    go_wp2_with fail
    refine (count_any s _).mono ?_
    rintro e w' ⟨rfl, rfl⟩
    have o1 := ob.drewN n1
    have hb1 := hb0.trans (dn_below (B := w.heap.size) (w := w.alloc (.cells [.slice none 0 0, .slice none 0 0].toArray 25)) n1)
    have hG1 := hG0.drewN n1
    generalize ((w.alloc (.cells [.slice none 0 0, .slice none 0 0].toArray 25)).drewN n1) = W1 at *
    clear ob hb0 hG0
    by_cases hct : 13 ≤ (L s).count 32
    · have hno : ∀ ws bs, ¬ ansIs s ws bs := fun ws bs h => by have := ans_spaces h; omega
      have t13 : decide ((13 : Int) ≤ (((L s).count 32 : Nat) : Int)) = true := decide_eq_true (by omega)
      generalize (L s).count 32 = ct at *
      have u0 := o1.at_ (i := 0) rfl
      have u1 := o1.at_ (i := 1) rfl
      have v0 := o1.free 0 (by simp)
      have v1 := o1.free 1 (by simp)
      go_wp2_with fail
      have o2 := (o1.set_ (i := 0) (by simp) (.slice none 0 0)).set_ (i := 1) (by simp) (.slice none 0 0)
      have hb2 := (hb1.setCell (p := ⟨w.heap.size, 0, none⟩) (Nat.le_refl _) (.slice none 0 0)).setCell (p := ⟨w.heap.size, 1, none⟩) (Nat.le_refl _) (.slice none 0 0)
      refine bodyPost_ret (results_cell_tmp_own Tryd.results6 _ _ _ _ _ _ (by rfl) (by rfl) o2.cells Tryd.underlying25 rfl (by kernel_rfl)) rfl ?_
      exact ⟨hb2, .inr ⟨hno, rfl⟩⟩
    · have t13 : decide ((13 : Int) ≤ (((L s).count 32 : Nat) : Int)) = false := decide_eq_false (by omega)
      have hln := congrArg List.length hAB
      rw [size_L, List.length_append, List.length_cons] at hln
      have hcc := congrArg (List.count 32) hAB
      rw [List.count_append, List.count_cons] at hcc
      have hcA : List.count 32 A ≤ 12 := by omega
      have hcB : List.count 32 B ≤ 12 := by omega
      clear hcc
      generalize (L s).count 32 = ct at *
      go_wp2_with fail
      refine (split_any A _ hG1 (by omega)).mono ?_
      rintro e w2 ⟨rfl, hw2⟩
      have oW2 := Own.new W1 (sv ((spl 32 A).map S)) 9
      rw [← hw2] at oW2
      have ob2 := o1.alloc (.cells (sv ((spl 32 A).map S)).toArray 9)
      rw [← hw2] at ob2
      have hb2 := hb1.alloc hb1.size (.cells (sv ((spl 32 A).map S)).toArray 9)
      rw [← hw2] at hb2
      have hG2 := hG1.alloc (.cells (sv ((spl 32 A).map S)).toArray 9)
      rw [← hw2] at hG2
      have hgw : w.heap.size < W1.heap.size := o1.lt
      generalize W1.heap.size = gW at *
      clear hw2 o1 hb1 hG1
      have oc3 := Own.new w2 [.slice (some ⟨gW, 0, none⟩) (spl 32 A).length (spl 32 A).length, .slice none 0 0] 25
      have oW3 := oW2.alloc (.cells [.slice (some ⟨gW, 0, none⟩) (spl 32 A).length (spl 32 A).length, .slice none 0 0].toArray 25)
      have ob3 := ob2.alloc (.cells [.slice (some ⟨gW, 0, none⟩) (spl 32 A).length (spl 32 A).length, .slice none 0 0].toArray 25)
      have hb3 := hb2.alloc hb2.size (.cells [.slice (some ⟨gW, 0, none⟩) (spl 32 A).length (spl 32 A).length, .slice none 0 0].toArray 25)
      have hG3 := hG2.alloc (.cells [.slice (some ⟨gW, 0, none⟩) (spl 32 A).length (spl 32 A).length, .slice none 0 0].toArray 25)
      have hgc : gW < w2.heap.size := oW2.lt
      go_wp2_with fail
      generalize (w2.alloc (.cells [.slice (some ⟨gW, 0, none⟩) (spl 32 A).length (spl 32 A).length, .slice none 0 0].toArray 25)) = w3 at *
      generalize w2.heap.size = gC at *
      clear oW2 ob2 hb2 hG2
      refine (split_any B _ hG3 (by omega)).mono ?_
      rintro e w4 ⟨rfl, hw4⟩
      have oT4 := Own.new w3 (sv ((spl 32 B).map S)) 9
      have oc4 := oc3.alloc (.cells (sv ((spl 32 B).map S)).toArray 9)
      have oW4 := oW3.alloc (.cells (sv ((spl 32 B).map S)).toArray 9)
      have ob4 := ob3.alloc (.cells (sv ((spl 32 B).map S)).toArray 9)
      have hb4 := hb3.alloc hb3.size (.cells (sv ((spl 32 B).map S)).toArray 9)
      have hG4 := hG3.alloc (.cells (sv ((spl 32 B).map S)).toArray 9)
      rw [← hw4] at oT4 oc4 oW4 ob4 hb4 hG4
      have hgt : gC < w3.heap.size := oc3.lt
      generalize w3.heap.size = gT at *
      clear hw4 oc3 oW3 ob3 hb3 hG3
      go_wp2_with fail
      obtain ⟨Bl, hBl⟩ : ∃ Bl, Bl = w4.heap.size := ⟨_, rfl⟩
      have hTB : gT < Bl := by rw [hBl]; exact oT4.lt
      have HTS : Hid (∀ t ∈ spl 32 B, t.length ≤ 2000000) := Lib.hid (fun t ht => by have := spl_len B t ht; omega)
      have HAB := Lib.hid hAB
      have HA := Lib.hid hA
      have hpc := spl_count 32 B
      have HTL : Hid ((spl 32 B).length ≤ 13) := Lib.hid (by omega)
      have HWL : Hid ((spl 32 A).length ≤ 13) := Lib.hid (by have h1 := spl_count 32 A; omega)
      have HWZ : Hid (∀ t ∈ (spl 32 A).map S, t.size ≤ 4294967296) := Lib.hid (fun t ht => by
        obtain ⟨p, hp, rfl⟩ := List.mem_map.1 ht
        rw [size_S]
        have := spl_len A p hp
        omega)
      have HRD := Lib.hid (fun vs (hv : saysN (spl 32 B) vs) hl ws bs h => ans_read hAB hA (ws := ws) (bs := bs) hv hl h)
      have HAT := Lib.hid (fun ws bs h => ans_atoi hAB hA (ws := ws) (bs := bs) h)
      clear hAB hA hpc hcA hcB hln hct t13
      generalize spl 32 B = ts at *
      generalize hws : (spl 32 A).map S = ws at *
      have hwl : (spl 32 A).length = ws.length := by rw [← hws, List.length_map]
      rw [hwl] at oc4 HWL ⊢
      clear hwl hws
      have hB0 : 2 < w.heap.size := hB
      have HG4 := Lib.hid hG4
      have HTN := Lib.hid (show (sv (ts.map S)).length = ts.length by rw [length_sv, List.length_map])
      clear hG4
      go_loopw [9, 10, 11, 32] (fun _ _ _ i wr => ∃ (k : Nat) (vs : List Int) (v : Value), k ≤ ts.length ∧ i = .int .i64 (k : Int) ∧ vs.length = k ∧ saysN ts vs ∧ Bl ≤ wr.heap.size ∧ OwR wr Bl 3 1 v k (iv vs) ∧ Own wr gC [.slice (some ⟨gW, 0, none⟩) ws.length ws.length, v] ∧ Own wr gT (sv (ts.map S)) ∧ Own wr gW (sv ws) ∧ Own wr w.heap.size [.slice none 0 0, .slice none 0 0] ∧ GlB wr ∧ Below w.heap.size w wr) (fun _ _ _ i _ => ts.length - (intOf i).toNat)
      case atStart => exact ⟨0, [], .slice none 0 0, Nat.zero_le _, rfl, rfl, says_nil _, by omega, World.ownsRow_nil w4 Bl 3 1, oc4, oT4, oW4, ob4, HG4.out, hb4⟩
      case round =>
        clear oc4 oT4 oW4 ob4 HG4 hb4
        obtain ⟨k, vs, v, hk, rfl, hvl, hsn, hBr, hown, oc, oT, oW, ob, hGr, hb⟩ := hrel
        have HVL := Lib.hid hvl
        have HSN := Lib.hid hsn
        clear hsn
        have hu0 := ob.at_ (i := 0) rfl
        have hu1 := ob.at_ (i := 1) rfl
        by_cases hlt : k < ts.length
        · have d1 := oT.at_ (i := k) (u := .string (S ts[k])) (by rw [sv_at (by rw [List.length_map]; exact hlt), List.getElem_map])
          have p1 : (0 : Int) ≤ (k : Int) := by omega
          have p2 : (k : Int) < (ts.length : Int) := by omega
          have nat := fun W hG => atoi_any ts[k] W hG (HTS.out _ (List.getElem_mem hlt))
          have HNX := Lib.hid (fun x (hx : Lib.atoiAll ts[k] = .ok x) => says_snoc (v := x) HSN.out (by rw [HVL.out]; exact hlt) (fun n hn e => by
            have e' : ts[k] = Lib.decDigits n := by rw [← e]; congr 1; exact HVL.out.symm
            rw [e', atoi_dec hn] at hx
            injection hx with hx
            exact hx.symm))
          have HBD := Lib.hid (fun (hbad : ∀ x, Lib.atoiAll ts[k] ≠ .ok x) ws bs h => by
            obtain ⟨n, -, -, h3⟩ := HAT.out ws bs h _ (List.getElem_mem hlt)
            exact hbad _ h3)
          have hk6 : k ≤ 1048576 ∨ 1048576 < k := by omega
          clear hvl
          generalize ts[k] = t at *
          go_wp2_with fail
          refine (nat _ hGr).mono ?_
          rintro e w5 ⟨hb5, ⟨x, hx, rfl⟩ | ⟨hbad, x, N, rfl⟩⟩
          · have HSN2 := Lib.hid (HNX.out x hx)
            have own5 := OwR.below hown hb5 (Nat.le_refl _)
            have oc5 := oc.below hb5 oc.lt
            have oT5 := oT.below hb5 oT.lt
            have oW5 := oW.below hb5 oW.lt
            have ob5 := ob.below hb5 ob.lt
            have hG5 := hGr.below hb5
            have hbw5 := bt hb hb5
            have hB5 : Bl ≤ w5.heap.size := Nat.le_trans hBr hb5.size
            have e1 := oc5.at_ (i := 1) rfl
            have hk13 : k ≤ 1048576 := by have := HTL.out; omega
            clear hown oc oT oW ob hGr hb hBr d1 nat HNX HBD hk6 hx hu0 hu1
            go_wp2_with (first | ((at_builtin; ((with_reducible refine wl_push 23 3 inf_int1 Tryd.underlying23 rfl (by omega) own5 hB5 rfl (by simp [Value.oneCell']) (by omega) (by omega) rfl rfl ?_); intro g6 cap w6 o6 b6 k6)); have oc6 := oc5.below b6 (Nat.lt_trans hgt hTB); have u1 := oc6.at_ (i := 1) rfl; have v1 := oc6.free 1 (by simp)))
            have oT6 := (oT5.below b6 hTB).far (p := ⟨gC, 1, none⟩) (by simp; omega) (.slice (some ⟨g6, 0, none⟩) (k + 1) cap)
            have oW6 := (oW5.below b6 (by omega)).far (p := ⟨gC, 1, none⟩) (by simp; omega) (.slice (some ⟨g6, 0, none⟩) (k + 1) cap)
            have ob6 := (ob5.below b6 (by omega)).far (p := ⟨gC, 1, none⟩) (by simp; omega) (.slice (some ⟨g6, 0, none⟩) (k + 1) cap)
            have oc7 := oc6.set_ (i := 1) (by simp) (.slice (some ⟨g6, 0, none⟩) (k + 1) cap)
            have hG6 := (hG5.low b6 (by omega)).far (p := ⟨gC, 1, none⟩) (by simp; omega) (.slice (some ⟨g6, 0, none⟩) (k + 1) cap)
            have o7 := OwR.far o6 (p := ⟨gC, 1, none⟩) (by simp; omega) (.slice (some ⟨g6, 0, none⟩) (k + 1) cap)
            have hb7 := (hbw5.trans (b6.mono (by omega))).setCell (p := ⟨gC, 1, none⟩) (by simp; omega) (.slice (some ⟨g6, 0, none⟩) (k + 1) cap)
            go_roundw
            case rel => exact ⟨k + 1, vs ++ [x], _, by omega, by go_num, by rw [List.length_append, HVL.out]; rfl, HSN2.out, by simp [World.setCell]; omega, by rw [show iv (vs ++ [x]) = iv vs ++ [.int .i64 x] by simp [iv]]; exact o7, oc7, oT6, oW6, ob6, hG6, hb7⟩
            case measure => simp [intOf]; omega
          · have hno := HBD.out hbad
            have o5 := ob.below hb5 ob.lt
            have hbw := bt hb hb5
            have u0 := o5.at_ (i := 0) rfl
            have u1 := o5.at_ (i := 1) rfl
            have v0 := o5.free 0 (by simp)
            have v1 := o5.free 1 (by simp)
            go_wp2_with fail
            have o2 := (o5.set_ (i := 0) (by simp) (.slice none 0 0)).set_ (i := 1) (by simp) (.slice none 0 0)
            have hb2 := (hbw.setCell (p := ⟨w.heap.size, 0, none⟩) (Nat.le_refl _) (.slice none 0 0)).setCell (p := ⟨w.heap.size, 1, none⟩) (Nat.le_refl _) (.slice none 0 0)
            refine bodyPost_ret (results_cell_tmp_own Tryd.results6 _ _ _ _ _ _ (by rfl) (by rfl) o2.cells Tryd.underlying25 rfl (by kernel_rfl)) rfl ?_
            exact ⟨hb2, .inr ⟨hno, rfl⟩⟩
        · have hk' : k = ts.length := by omega
          subst hk'
          have rW : Reads wr wr.heap.size (some ⟨gW, 0, none⟩) (sv ws) := Reads.of_own oW oW.lt
          obtain ⟨aB, cB, rfl, hcB, hrB, hgB⟩ := OwR.val hown
          have c0 := oc.at_ (i := 0) rfl
          have c1 := oc.at_ (i := 1) rfl
          have hvl' : vs.length = ts.length := hvl
          have nf := fun W r1 r2 => implFormatCage_any (some ⟨gW, 0, none⟩) aB ws.length cB ws vs W r1 r2 HWZ.out (by have := HWL.out; omega) (by have := HTL.out; omega) (Nat.le_refl _)
          rw [hvl'] at nf
          clear hvl hvl'
          go_wp2_with fail
          refine (nf _ rW hrB).mono ?_
          rintro e w5 ⟨rfl, hb5⟩
          have oc5 := oc.below hb5 oc.lt
          have oW5 := oW.below hb5 oW.lt
          have ob5 := ob.below hb5 ob.lt
          have hbw5 := bt hb hb5
          have e0 := oc5.at_ (i := 0) rfl
          have e1 := oc5.at_ (i := 1) rfl
          have u0 := ob5.at_ (i := 0) rfl
          have u1 := ob5.at_ (i := 1) rfl
          have v0 := ob5.free 0 (by simp)
          have v1 := ob5.free 1 (by simp)
          clear oc oW ob hb c0 c1 nf hu0 hu1 oT hGr
          by_cases hf : fmtC ws vs = s
          · have te : ((fmtC ws vs).toList == s.toList) = true := by rw [hf]; simp
            have hans := fmt_ne (by have := congrArg List.length HAB.out; rw [size_L, List.length_append, List.length_cons] at this; omega) hf
            have h1 := (cage_iff.1 hans.1).1
            have HV2 := HVL.out
            obtain ⟨g2, rfl, hg2, oB⟩ := hgB.resolve_left (by omega)
            have oB5 := oB.below hb5 oB.lt
            have HANS := Lib.hid hans
            have HVV := Lib.hid HV2
            clear hans h1 HV2 hf oB hown hrB rW hb5
            generalize fmtC ws vs = fs at *
            go_wp2_with fail
            have o2 := (ob5.set_ (i := 0) (by simp) (.slice (some ⟨gW, 0, none⟩) ws.length ws.length)).set_ (i := 1) (by simp) (.slice (some ⟨g2, 0, none⟩) ts.length cB)
            have hb2 := (hbw5.setCell (p := ⟨w.heap.size, 0, none⟩) (Nat.le_refl _) (.slice (some ⟨gW, 0, none⟩) ws.length ws.length)).setCell (p := ⟨w.heap.size, 1, none⟩) (Nat.le_refl _) (.slice (some ⟨g2, 0, none⟩) ts.length cB)
            have oW6 := (oW5.far (p := ⟨w.heap.size, 0, none⟩) (by simp; omega) (.slice (some ⟨gW, 0, none⟩) ws.length ws.length)).far (p := ⟨w.heap.size, 1, none⟩) (by simp; omega) (.slice (some ⟨g2, 0, none⟩) ts.length cB)
            have oB6 := (oB5.far (p := ⟨w.heap.size, 0, none⟩) (by simp; omega) (.slice (some ⟨gW, 0, none⟩) ws.length ws.length)).far (p := ⟨w.heap.size, 1, none⟩) (by simp; omega) (.slice (some ⟨g2, 0, none⟩) ts.length cB)
            refine bodyPost_ret (results_cell_tmp_own Tryd.results6 _ _ _ _ _ _ (by rfl) (by rfl) o2.cells Tryd.underlying25 rfl (by kernel_rfl)) rfl ?_
            exact ⟨hb2, .inl ⟨ws, vs, gW, ws.length, g2, cB, HANS.out, by rw [HVV.out]; rfl, by omega, by omega, by omega, Nat.le_refl _, oW6, oB6⟩⟩
          · have te : ((fmtC ws vs).toList == s.toList) = false := by
              rw [toList_L, toList_L, beq_eq_false_iff_ne]
              exact fun h => hf (L_inj h)
            have hno : ∀ ws' bs, ¬ ansIs s ws' bs := fun ws' bs h => by
              obtain ⟨rfl, rfl⟩ := HRD.out vs HSN.out (by rw [HVL.out]; omega) ws' bs h
              exact hf h.2
            clear hf
            generalize fmtC ws vs = fs at *
            go_wp2_with fail
            have o2 := (ob5.set_ (i := 0) (by simp) (.slice none 0 0)).set_ (i := 1) (by simp) (.slice none 0 0)
            have hb2 := (hbw5.setCell (p := ⟨w.heap.size, 0, none⟩) (Nat.le_refl _) (.slice none 0 0)).setCell (p := ⟨w.heap.size, 1, none⟩) (Nat.le_refl _) (.slice none 0 0)
            refine bodyPost_ret (results_cell_tmp_own Tryd.results6 _ _ _ _ _ _ (by rfl) (by rfl) o2.cells Tryd.underlying25 rfl (by kernel_rfl)) rfl ?_
            exact ⟨hb2, .inr ⟨hno, rfl⟩⟩
end Go.Proofs.YtlpfhabfbnjnbaaDoor
