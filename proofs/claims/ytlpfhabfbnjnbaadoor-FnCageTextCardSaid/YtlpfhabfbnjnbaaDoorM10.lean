/- Several of my texts in one: DrawTape, List2, CgD, CgD2, CgD3. -/
import Derived.Test.YtlpfhabfbnjnbaaDoorM6
import Derived.Test.YtlpfhabfbnjnbaaDoorM7
import Derived.Laws.MakeOwn
import Derived.RangeFuncOwn
import Derived.Test.YtlpfhabfbnjnbaaDoorM9
import Derived.Deep.RegionHeld3
import Derived.Deep.RegionLaw
import Derived.Deep.AppendLies
import Derived.Deep.DeepCutAuto
import Derived.Test.YtlpfhabfbnjnbaaDoorM5
/- Contracts of the functions that draw wheels, tapes and numbers. -/
namespace Go.Proofs.YtlpfhabfbnjnbaaDoor
open Go.RowKit

/-- What the drawing of a string leaves: a string of at most m bytes. -/
def StrPost (R : Nat) (m : Nat) (c : Nat) (w : World) (e : Ending) (w' : World) : Prop :=
  ∃ s : ByteArray, s.size ≤ m ∧ e = .returned (.string s) ∧ Rd w' R c ∧ Moved R w w'

set_option maxRecDepth 100000 in
theorem l15Wheel_any (R : Nat) (c : Nat) (w : World) (h : Rd w R c) (hc : c ≤ 10000000) :
    Calls Tryd.prog 56 #[.pointer (some ⟨R, 0, none⟩)] w (StrPost R 9 (c + 11) w) := by
  go_enter Tryd.func56, Tryd.ntmps56
  go_wp2_with fail
  refine (pick_any R _ c w h (by omega) (by omega) (by omega)).mono ?_
  rintro e w1 ⟨v, rfl, hv0, hv1, _, hr, hm⟩
  have hv2 : v < 8 := hv1 (by omega)
  clear hv1
  go_wp2_with fail
  go_loopw [3, 4] (fun o i wr => ∃ (k : Nat) (s : ByteArray), k ≤ 9 ∧ i = .int .i64 k ∧ o = .string s ∧ s.size + k ≤ 9 ∧ Rd wr R (c + 11 - k) ∧ Moved R w wr) (fun _ i _ => (intOf i).toNat)
  case atStart =>
    obtain ⟨k, rfl⟩ := Int.eq_ofNat_of_zero_le hv0
    exact ⟨k + 2, ⟨#[]⟩, by omega, by congr 1; omega, rfl, by rw [size_nil]; omega, hr.more (by omega), hm⟩
  case round =>
    obtain ⟨k, s, hk, rfl, rfl, hs, hr', hm'⟩ := hrel
    by_cases hlt : 0 < k
    · go_wp2_with fail
      refine (of_any R _ _ _ [⟨#[48]⟩, ⟨#[49]⟩] (c + 11 - k) _ rfl (Own.new _ _ _) (by simp) (by have := hr'.lt; simp; omega) (hr'.alloc _) (by omega) (by simp)).mono ?_
      rintro e w2 ⟨t, ht, rfl, hr2, hm2⟩
      have hts : t.size = 1 := by
        simp at ht
        rcases ht with rfl | rfl <;> rfl
      have hts1 : t.size ≤ 1 := by omega
      have Ht := Lib.hid hts
      clear hts ht
      go_wp2
      go_roundw
      case rel =>
        refine ⟨k - 1, s ++ t, by omega, ?_, rfl, ?_, hr2.more (by omega), hm'.trans ((Moved.refl _ _).alloc _ |>.trans hm2)⟩
        · congr 1; omega
        · rw [ByteArray.size_append, Ht.out]; omega
      case measure => simp [intOf]; omega
    · go_wp2
      go_ret
      exact ⟨s, by omega, rfl, hr'.more (by omega), hm'⟩
theorem many_step (s k : Nat) : s * k = (s + s) * (k / 2) + (if k % 2 = 1 then s else 0) := by
  have e : ∀ q, (s + s) * q = s * (2 * q) := fun q => by rw [← Nat.two_mul, Nat.mul_assoc 2 s q, Nat.mul_left_comm]
  rcases Nat.mod_two_eq_zero_or_one k with h | h
  · rw [e, if_neg (by omega), show 2 * (k / 2) = k by omega, Nat.add_zero]
  · rw [e, if_pos h, ← Nat.mul_succ, show (2 * (k / 2)).succ = k by omega]

/-- What the drawing of a number leaves. -/
def IntPost (R : Nat) (P : Int → Prop) (c : Nat) (w : World) (e : Ending) (w' : World) : Prop :=
  ∃ n : Int, P n ∧ e = .returned (.int .i64 n) ∧ Rd w' R c ∧ Moved R w w'
def Is64 (n : Int) : Prop := -9223372036854775808 ≤ n ∧ n ≤ 9223372036854775807
end Go.Proofs.YtlpfhabfbnjnbaaDoor

/- 'x = append(x, u)' of an owned slice, and where the new row lies; a row made with a capacity. -/
namespace Go.Proofs.YtlpfhabfbnjnbaaDoor
open Go.RowKit

section
variable {P : Program} {ops : Array Oper} {rest : List Oper} {dst : Option Tmp} {ty : TypeId} {pos : String} {after : Array Edge} {a : Act} {w0 : World} {Q : Exit → Act → World → Prop}
theorem wl_pushG (t e : TypeId) {s x : Operand} {z : Value} {sz bytes : Nat} (hinfo : (P.info? e).map (fun i => (i.zero, i.size, i.bytes)) = some (some z, sz, bytes)) (ht : P.underlying t = some (.slice e)) (hzs : z.cells.size = sz) (hsz : 0 < sz)
    {base n : Nat} {v : Value} {xs us : List Value} (hown : OwR w0 base e sz v n xs) (hb : base ≤ w0.heap.size) (hus : us.length = sz) (h1 : ∀ u ∈ us, u.oneCell' = true) (hn : n ≤ 1048576) (hby : bytes ≤ 1000)
    (hs : a.eval s = v) (hx : a.eval x = .slice (some ⟨w0.heap.size, 0, none⟩) 1 1)
    (h : ∀ g cap w', OwR w' base e sz (.slice (some ⟨g, 0, none⟩) (n + 1) cap) (n + 1) (xs ++ us) → w0.grownBy w' v.ownBlock → (v.ownBlock = some g ∨ w0.heap.size < g) → w0.heap.size < w'.heap.size → KeepsOthers w0 w' → wpList P ops Q rest (a.put dst (.slice (some ⟨g, 0, none⟩) (n + 1) cap)) w') :
    wpList P ops Q (⟨dst, .call { callee := .builtin .append, args := #[s, x], argTypes := #[t, t] }, ty, pos, after, none⟩ :: rest) a (w0.alloc (.cells us.toArray e)) := by
  obtain ⟨i0, hi0, hz0, hz1, hz2⟩ := info_parts hinfo
  refine wpList_append_lies _ rfl s x t rfl base e i0 z sz bytes ht hi0 hz0 hz1 hz2 hzs hsz v n xs hs (World.ownsRow.alloc hown _) ⟨w0.heap.size, 0, none⟩ 1 1 us hx (by omega) ?_ h1 (by omega) (by unfold maxLen; omega) ?_ (by simp; omega) (w0.heap.size + 1) (by simp) ?_
  · intro j u hu
    rw [show ((⟨w0.heap.size, 0, none⟩ : Addr).add j) = ⟨w0.heap.size, j, none⟩ by unfold Addr.add; split <;> simp_all]
    rw [World.cell?_alloc_mark]; simpa using hu
  · have : (n + 1) * bytes ≤ (1048576 + 1) * 1000 := Nat.mul_le_mul (by omega) hby
    omega
  · intro g cap w' ho hg hat hlt
    have hs' := hg.size
    simp only [World.size_alloc] at hs'
    refine h g cap w' ho ?_ ?_ (by omega) ?_
    · exact ⟨hg.os, hg.tape, hg.output, by omega, fun k hk hne => (hg.block k (by simp; omega) hne).trans (Below.heap_alloc w0 _ k hk)⟩
    · rcases hat with h1 | h1
      · exact .inl h1
      · exact .inr (by omega)
    · refine (KeepsOthers.alloc w0 _).trans (KeepsOthers.of_grownBy hg fun j o ej hj => ?_)
      rcases hown.2 with ⟨rfl, _⟩ | ⟨g', cap', cur, rfl, _, hh, _⟩
      · simp [Value.ownBlock] at ej
      · simp only [Value.ownBlock, Option.some.injEq] at ej
        subst ej
        have hlt' : g' < w0.heap.size := (Array.getElem?_eq_some_iff.1 hh).1
        rw [Below.heap_alloc w0 _ g' hlt', hh] at hj
        cases hj
        rfl
end
theorem OwR.lt_ {w : World} {base n cap g sz : Nat} {e : TypeId} {xs : List Value} (h : OwR w base e sz (.slice (some ⟨g, 0, none⟩) n cap) n xs) : g < w.heap.size := (World.ownsRow.lt h g rfl).2
/-- The row of a slice is kept where its block is. -/
theorem OwR.same {w w' : World} {base n cap g sz : Nat} {e : TypeId} {xs : List Value} (h : OwR w base e sz (.slice (some ⟨g, 0, none⟩) n cap) n xs) (hb : w'.heap[g]? = w.heap[g]?) : OwR w' base e sz (.slice (some ⟨g, 0, none⟩) n cap) n xs := by
  refine ⟨h.1, ?_⟩
  rcases h.2 with ⟨h0, _⟩ | ⟨g', cap', cur, hv, hg, hh, h1⟩
  · cases h0
  · cases hv
    exact .inr ⟨g, cap, cur, rfl, hg, hb.trans hh, h1⟩
/-- What lay below stays, and what is no cells. -/
theorem keeps_below {w w' : World} (h : Below w.heap.size w w') : KeepsOthers w w' := ⟨h.size, fun k _ hk _ => (h.block k (Array.getElem?_eq_some_iff.1 hk).1).trans hk⟩
end Go.Proofs.YtlpfhabfbnjnbaaDoor

/- A cage that is drawn: what lies where. -/
namespace Go.Proofs.YtlpfhabfbnjnbaaDoor
open Go.RowKit

theorem inf_str2 : (Tryd.prog.info? 9).map (fun i => (i.zero, i.size, i.bytes)) = some (some (.string ⟨#[]⟩), 1, 16) := by kernel_rfl
theorem inf_int2 : (Tryd.prog.info? 3).map (fun i => (i.zero, i.size, i.bytes)) = some (some (.int .i64 0), 1, 8) := by kernel_rfl
section
variable {P : Program} {ops : Array Oper} {o : Oper} {a : Act} {w0 : World} {K : Act → World → Prop} {Q : Exit → Act → World → Prop} {E : Prop}
theorem st_pushG (t e : TypeId) {s x : Operand} {z : Value} {sz bytes : Nat} (hinfo : (P.info? e).map (fun i => (i.zero, i.size, i.bytes)) = some (some z, sz, bytes)) (ht : P.underlying t = some (.slice e)) (hzs : z.cells.size = sz) (hsz : 0 < sz)
    {base n : Nat} {v : Value} {xs us : List Value} (hgd : o.guard = none) (ho : o.op = .call { callee := .builtin .append, args := #[s, x], argTypes := #[t, t] }) (hown : OwR w0 base e sz v n xs) (hb : base ≤ w0.heap.size) (hus : us.length = sz) (h1 : ∀ u ∈ us, u.oneCell' = true) (hn : n ≤ 1048576) (hby : bytes ≤ 1000)
    (hs : a.eval s = v) (hx : a.eval x = .slice (some ⟨w0.heap.size, 0, none⟩) 1 1)
    (h : ∀ g cap w', OwR w' base e sz (.slice (some ⟨g, 0, none⟩) (n + 1) cap) (n + 1) (xs ++ us) → w0.grownBy w' v.ownBlock → (v.ownBlock = some g ∨ w0.heap.size < g) → w0.heap.size < w'.heap.size → Below base w0 w' → K (a.put o.dst (.slice (some ⟨g, 0, none⟩) (n + 1) cap)) w') :
    if Region.wanted o (yielded ops a.tmps) = true then Oper.wp P o a (w0.alloc (.cells us.toArray e)) K Q else E := by
  obtain ⟨i0, hi0, hz0, hz1, hz2⟩ := info_parts hinfo
  refine step_append_lies _ hgd s x t ho base e i0 z sz bytes ht hi0 hz0 hz1 hz2 hzs hsz v n xs hs (World.ownsRow.alloc hown _) ⟨w0.heap.size, 0, none⟩ 1 1 us hx (by omega) ?_ h1 (by omega) (by unfold maxLen; omega) ?_ (by simp; omega) (w0.heap.size + 1) (by simp) ?_
  · intro j u hu
    rw [add_none, Nat.zero_add, World.cell?_alloc_mark]; simpa using hu
  · have : (n + 1) * bytes ≤ (1048576 + 1) * 1000 := Nat.mul_le_mul (by omega) hby
    omega
  · intro g cap w' ho hg hat hlt
    have hs' := hg.size
    simp only [World.size_alloc] at hs'
    refine h g cap w' ho ?_ ?_ (by omega) ?_
    · exact ⟨hg.os, hg.tape, hg.output, by omega, fun k hk hne => (hg.block k (by simp; omega) hne).trans (Below.heap_alloc w0 _ k hk)⟩
    · rcases hat with h1 | h1
      · exact .inl h1
      · exact .inr (by omega)
    · refine ((Below.refl base w0).alloc hb _).grown hg (by simp; omega) (fun k hk => ?_)
      exact (World.ownsRow.lt hown k hk).1
end

/-- Two rows that lie apart. -/
def Ap (a b : Option Nat) : Prop := ∀ g, a = some g → b ≠ some g
theorem Ap.symm {a b : Option Nat} (h : Ap a b) : Ap b a := fun g hb ha => h g ha hb
theorem Ap.kept {a b : Option Nat} (h : Ap a b) : b = none ∨ b ≠ a := by
  cases b with
  | none => exact .inl rfl
  | some g => exact .inr (fun e => h g e.symm rfl)
theorem Ap.none_ (b : Option Nat) : Ap none b := fun _ h => by cases h
/-- The lists of a drawn cage, and of its positions. -/
structure CgW (w0 w : World) (R B : Nat) (v1 v2 v3 : Value) (ws : List ByteArray) (bs ps : List Int) (c : Nat) : Prop where
  o1 : OwR w B 9 1 v1 ws.length (sv ws)
  o2 : OwR w B 3 1 v2 bs.length (iv bs)
  o3 : OwR w B 3 1 v3 ps.length (iv ps)
  a12 : Ap v1.ownBlock v2.ownBlock
  a13 : Ap v1.ownBlock v3.ownBlock
  a23 : Ap v2.ownBlock v3.ownBlock
  rd : Rd w R c
  mv : Moved R w0 w
  RB : R < B
  Bw : B ≤ w.heap.size
  wB : w0.heap.size ≤ B
section
variable {w0 w w' : World} {R B c c' : Nat} {v1 v2 v3 : Value} {ws : List ByteArray} {bs ps : List Int}
theorem CgW.call (h : CgW w0 w R B v1 v2 v3 ws bs ps c) (hm : Moved R w w') (hr : Rd w' R c') : CgW w0 w' R B v1 v2 v3 ws bs ps c' :=
  ⟨h.o1.moved hm h.RB, h.o2.moved hm h.RB, h.o3.moved hm h.RB, h.a12, h.a13, h.a23, hr, h.mv.trans hm, h.RB, Nat.le_trans h.Bw hm.size, h.wB⟩
theorem CgW.more (h : CgW w0 w R B v1 v2 v3 ws bs ps c) (hc : c ≤ c') : CgW w0 w R B v1 v2 v3 ws bs ps c' := ⟨h.o1, h.o2, h.o3, h.a12, h.a13, h.a23, h.rd.more hc, h.mv, h.RB, h.Bw, h.wB⟩
theorem CgW.base {B' : Nat} (h : CgW w0 w R B v1 v2 v3 ws bs ps c) (hB : B' ≤ B) (hR : R < B') (h0 : w0.heap.size ≤ B') : CgW w0 w R B' v1 v2 v3 ws bs ps c := ⟨World.ownsRow.mono h.o1 hB, World.ownsRow.mono h.o2 hB, World.ownsRow.mono h.o3 hB, h.a12, h.a13, h.a23, h.rd, h.mv, hR, Nat.le_trans hB h.Bw, h0⟩
theorem CgW.drew (h : CgW w0 w R B v1 v2 v3 ws bs ps c) : CgW w0 w.drew R B v1 v2 v3 ws bs ps c :=
  ⟨h.o1, h.o2, h.o3, h.a12, h.a13, h.a23, h.rd.drew, h.mv.drew, h.RB, h.Bw, h.wB⟩
theorem CgW.alloc (h : CgW w0 w R B v1 v2 v3 ws bs ps c) (o : Obj) : CgW w0 (w.alloc o) R B v1 v2 v3 ws bs ps c :=
  ⟨World.ownsRow.alloc h.o1 o, World.ownsRow.alloc h.o2 o, World.ownsRow.alloc h.o3 o, h.a12, h.a13, h.a23, h.rd.alloc o, h.mv.alloc o, h.RB, by have := h.Bw; simp; omega, h.wB⟩
theorem CgW.far (h : CgW w0 w R B v1 v2 v3 ws bs ps c) {p : Addr} (hp : p.block < B) (hR : R < p.block) (h0 : w0.heap.size ≤ p.block) (u : Value) : CgW w0 (w.setCell p u) R B v1 v2 v3 ws bs ps c :=
  ⟨h.o1.far hp u, h.o2.far hp u, h.o3.far hp u, h.a12, h.a13, h.a23, h.rd.far hR u, h.mv.set_ (.inr h0) u, h.RB, by simpa [World.setCell] using h.Bw, h.wB⟩
theorem ap_new {w : World} {B n g sz : Nat} {e : TypeId} {v u : Value} {xs : List Value} (hu : OwR w B e sz u n xs) (ha : v.ownBlock = some g ∨ w.heap.size < g) (hap : Ap v.ownBlock u.ownBlock) : Ap (some g) u.ownBlock := by
  rintro g' e' h
  cases e'
  rcases ha with ha | ha
  · exact hap g ha h
  · have := (World.ownsRow.lt hu g h).2; omega
theorem grown_row {R : Nat} {row : Option Nat} (h : Moved R w0 w) (hg : w.grownBy w' row) (hr : ∀ g, row = some g → w0.heap.size ≤ g) : Moved R w0 w' :=
  ⟨hg.os.trans h.os, hg.tape.trans h.tape, hg.output.trans h.output, Nat.le_trans h.size hg.size, fun i hi hne => (hg.block i (Nat.lt_of_lt_of_le hi h.size) (fun e => by have := hr i e.symm; omega)).trans (h.block i hi hne)⟩
theorem CgW.off3 (h : CgW w0 w R B v1 v2 v3 ws bs ps c) {b : Nat} (hb : b < B) : some b ≠ v3.ownBlock := fun e => by have := (World.ownsRow.lt h.o3 b e.symm).1; omega
theorem CgW.push1 {s : ByteArray} {g cap : Nat} (h : CgW w0 w R B v1 v2 v3 ws bs ps c) (ho : OwR w' B 9 1 (.slice (some ⟨g, 0, none⟩) (ws.length + 1) cap) (ws.length + 1) (sv ws ++ [.string s])) (hg : w.grownBy w' v1.ownBlock) (ha : v1.ownBlock = some g ∨ w.heap.size < g) : CgW w0 w' R B (.slice (some ⟨g, 0, none⟩) (ws.length + 1) cap) v2 v3 (ws ++ [s]) bs ps c :=
  ⟨by rw [List.length_append, sv_append]; exact ho, World.ownsRow.kept h.o2 hg h.a12.kept, World.ownsRow.kept h.o3 hg h.a13.kept, ap_new h.o2 ha h.a12, ap_new h.o3 ha h.a13, h.a23,
    h.rd.grown hg (fun k hk => by have := (World.ownsRow.lt h.o1 k hk).1; have := h.RB; omega), grown_row h.mv hg (fun k hk => by have := (World.ownsRow.lt h.o1 k hk).1; have := h.wB; omega), h.RB, Nat.le_trans h.Bw hg.size, h.wB⟩
theorem CgW.set1 {g cap k : Nat} (h : CgW w0 w R B (.slice (some ⟨g, 0, none⟩) ws.length cap) v2 v3 ws bs ps c) (t : ByteArray) : CgW w0 (w.setCell ⟨g, k, none⟩ (.string t)) R B (.slice (some ⟨g, 0, none⟩) ws.length cap) v2 v3 (ws.set k t) bs ps c := by
  have hg := (World.ownsRow.lt h.o1 g rfl).1
  have hR := h.RB
  have hw := h.wB
  refine ⟨?_, h.o2.off (h.a12 g rfl) _, h.o3.off (h.a13 g rfl) _, h.a12, h.a13, h.a23, h.rd.far (by simp; omega) _, h.mv.set_ (.inr (by simp; omega)) _, h.RB, by simpa [World.setCell] using h.Bw, h.wB⟩
  have := (World.ownsRow.stored h.o1 k (.string t)).1
  rw [List.length_set]
  simpa [sv, List.map_set] using this
theorem CgW.set2 {g cap k : Nat} (h : CgW w0 w R B v1 (.slice (some ⟨g, 0, none⟩) bs.length cap) v3 ws bs ps c) (t : Int) : CgW w0 (w.setCell ⟨g, k, none⟩ (.int .i64 t)) R B v1 (.slice (some ⟨g, 0, none⟩) bs.length cap) v3 ws (bs.set k t) ps c := by
  have hg := (World.ownsRow.lt h.o2 g rfl).1
  have hR := h.RB
  have hw := h.wB
  refine ⟨h.o1.off (h.a12.symm g rfl) _, ?_, h.o3.off (h.a23 g rfl) _, h.a12, h.a13, h.a23, h.rd.far (by simp; omega) _, h.mv.set_ (.inr (by simp; omega)) _, h.RB, by simpa [World.setCell] using h.Bw, h.wB⟩
  have := (World.ownsRow.stored h.o2 k (.int .i64 t)).1
  rw [List.length_set]
  simpa [iv, List.map_set] using this
theorem CgW.set3 {g cap k : Nat} (h : CgW w0 w R B v1 v2 (.slice (some ⟨g, 0, none⟩) ps.length cap) ws bs ps c) (t : Int) : CgW w0 (w.setCell ⟨g, k, none⟩ (.int .i64 t)) R B v1 v2 (.slice (some ⟨g, 0, none⟩) ps.length cap) ws bs (ps.set k t) c := by
  have hg := (World.ownsRow.lt h.o3 g rfl).1
  have hR := h.RB
  have hw := h.wB
  refine ⟨h.o1.off (h.a13.symm g rfl) _, h.o2.off (h.a23.symm g rfl) _, ?_, h.a12, h.a13, h.a23, h.rd.far (by simp; omega) _, h.mv.set_ (.inr (by simp; omega)) _, h.RB, by simpa [World.setCell] using h.Bw, h.wB⟩
  have := (World.ownsRow.stored h.o3 k (.int .i64 t)).1
  rw [List.length_set]
  simpa [iv, List.map_set] using this
theorem rd_set {B : Nat} {a : Option Addr} {xs : List Value} (h : Reads w B a xs) {p : Addr} (hp : B ≤ p.block) (u : Value) : Reads (w.setCell p u) B a xs := h.keep fun q hq => World.cell?_setCell_other w p q u (fun e => by subst e; omega)
theorem OwR.rd {g n n' cap B' : Nat} {e : TypeId} {xs : List Value} (h : OwR w B e 1 (.slice (some ⟨g, 0, none⟩) n cap) n' xs) (h0 : 0 < n') (hg : g < B') : Reads w B' (some ⟨g, 0, none⟩) xs := by
  obtain ⟨a, cc, e1, -, -, hgx⟩ := OwR.val h
  obtain ⟨g', e2, -, hox⟩ := hgx.resolve_left (by omega)
  injection e1 with e3 e4 e5
  rw [e2] at e3
  simp at e3
  subst e3
  exact Reads.of_own hox hg
theorem iv_snoc (bs : List Int) (x : Int) : iv (bs ++ [x]) = iv bs ++ [.int .i64 x] := by simp [iv]
theorem CgW.push2 {x : Int} {g cap : Nat} (h : CgW w0 w R B v1 v2 v3 ws bs ps c) (ho : OwR w' B 3 1 (.slice (some ⟨g, 0, none⟩) (bs.length + 1) cap) (bs.length + 1) (iv bs ++ [.int .i64 x])) (hg : w.grownBy w' v2.ownBlock) (ha : v2.ownBlock = some g ∨ w.heap.size < g) : CgW w0 w' R B v1 (.slice (some ⟨g, 0, none⟩) (bs.length + 1) cap) v3 ws (bs ++ [x]) ps c :=
  ⟨World.ownsRow.kept h.o1 hg h.a12.symm.kept, by rw [List.length_append, iv_snoc]; exact ho, World.ownsRow.kept h.o3 hg h.a23.kept, (ap_new h.o1 ha h.a12.symm).symm, h.a13, ap_new h.o3 ha h.a23,
    h.rd.grown hg (fun k hk => by have := (World.ownsRow.lt h.o2 k hk).1; have := h.RB; omega), grown_row h.mv hg (fun k hk => by have := (World.ownsRow.lt h.o2 k hk).1; have := h.wB; omega), h.RB, Nat.le_trans h.Bw hg.size, h.wB⟩
theorem CgW.push3 {x : Int} {g cap : Nat} (h : CgW w0 w R B v1 v2 v3 ws bs ps c) (ho : OwR w' B 3 1 (.slice (some ⟨g, 0, none⟩) (ps.length + 1) cap) (ps.length + 1) (iv ps ++ [.int .i64 x])) (hg : w.grownBy w' v3.ownBlock) (ha : v3.ownBlock = some g ∨ w.heap.size < g) : CgW w0 w' R B v1 v2 (.slice (some ⟨g, 0, none⟩) (ps.length + 1) cap) ws bs (ps ++ [x]) c :=
  ⟨World.ownsRow.kept h.o1 hg h.a13.symm.kept, World.ownsRow.kept h.o2 hg h.a23.symm.kept, by rw [List.length_append, iv_snoc]; exact ho, h.a12, (ap_new h.o1 ha h.a13.symm).symm, (ap_new h.o2 ha h.a23.symm).symm,
    h.rd.grown hg (fun k hk => by have := (World.ownsRow.lt h.o3 k hk).1; have := h.RB; omega), grown_row h.mv hg (fun k hk => by have := (World.ownsRow.lt h.o3 k hk).1; have := h.wB; omega), h.RB, Nat.le_trans h.Bw hg.size, h.wB⟩
end
end Go.Proofs.YtlpfhabfbnjnbaaDoor

/- A cage is drawn: l15Some. -/
namespace Go.Proofs.YtlpfhabfbnjnbaaDoor
open Go.RowKit

theorem shl_bd {n : Nat} (h : n ≤ 4) : -4294967296 ≤ IntKind.i64.wrap (2 ^ min (IntKind.u64.wrap (n : Int)).toNat 64) ∧ IntKind.i64.wrap (2 ^ min (IntKind.u64.wrap (n : Int)).toNat 64) ≤ 4294967296 := by
  have : n = 0 ∨ n = 1 ∨ n = 2 ∨ n = 3 ∨ n = 4 := by omega
  rcases this with rfl | rfl | rfl | rfl | rfl <;> exact ⟨by decide +kernel, by decide +kernel⟩
theorem shl_is {n : Nat} (h : n ≤ 4) : IntKind.i64.wrap (2 ^ min (IntKind.u64.wrap (n : Int)).toNat 64) = 2 ^ n ∧ (1 : Int) ≤ 2 ^ n := by
  have : n = 0 ∨ n = 1 ∨ n = 2 ∨ n = 3 ∨ n = 4 := by omega
  rcases this with rfl | rfl | rfl | rfl | rfl <;> exact ⟨by decide +kernel, by decide +kernel⟩
set_option maxRecDepth 100000 in
theorem l15WheelB_any (R : Nat) (c : Nat) (w : World) (h : Rd w R c) (hc : c ≤ 10000000) :
    Calls Tryd.prog 56 #[.pointer (some ⟨R, 0, none⟩)] w fun e w' => ∃ s : ByteArray, bitsB s = true ∧ e = .returned (.string s) ∧ Rd w' R (c + 11) ∧ Moved R w w' := by
  go_enter Tryd.func56, Tryd.ntmps56
  go_wp2_with fail
  refine (pick_any R _ c w h (by omega) (by omega) (by omega)).mono ?_
  rintro e w1 ⟨v, rfl, hv0, hv1, _, hr, hm⟩
  have hv2 : v < 8 := hv1 (by omega)
  obtain ⟨n, rfl⟩ := Int.eq_ofNat_of_zero_le hv0
  clear hv1
  go_wp2_with fail
  go_loopw [3, 4] (fun o i wr => ∃ (k : Nat) (s : ByteArray), k ≤ 9 ∧ i = .int .i64 k ∧ o = .string s ∧ s.size ≤ n + 2 - k ∧ n + 2 - k ≤ s.size ∧ k ≤ n + 2 ∧ (L s).all isBit = true ∧ Rd wr R (c + 11 - k) ∧ Moved R w wr) (fun _ i _ => (intOf i).toNat)
  case atStart => exact ⟨n + 2, ⟨#[]⟩, by omega, by congr 1; omega, rfl, by rw [size_nil]; omega, by rw [size_nil]; omega, by omega, rfl, hr.more (by omega), hm⟩
  case round =>
    obtain ⟨k, s, hk, rfl, rfl, hs, hs2, hkn, hall, hr', hm'⟩ := hrel
    have HALL := Lib.hid hall
    clear hall
    by_cases hlt : 0 < k
    · go_wp2_with fail
      refine (of_any R _ _ _ [⟨#[48]⟩, ⟨#[49]⟩] (c + 11 - k) _ rfl (Own.new _ _ _) (by simp) (by have := hr'.lt; simp; omega) (hr'.alloc _) (by omega) (by simp)).mono ?_
      rintro e w2 ⟨t, ht, rfl, hr2, hm2⟩
      have hts : t.size = 1 := by
        simp at ht
        rcases ht with rfl | rfl <;> rfl
      have hta : (L t).all isBit = true := by
        simp at ht
        rcases ht with rfl | rfl <;> rfl
      have hts1 : t.size ≤ 1 := by omega
      have Ht := Lib.hid hts
      have Hta := Lib.hid hta
      clear hts ht hta
      go_wp2
      go_roundw
      case rel =>
        refine ⟨k - 1, s ++ t, by omega, ?_, rfl, ?_, ?_, by omega, ?_, hr2.more (by omega), hm'.trans ((Moved.refl _ _).alloc _ |>.trans hm2)⟩
        · congr 1; omega
        · rw [ByteArray.size_append, Ht.out]; omega
        · rw [ByteArray.size_append, Ht.out]; omega
        · rw [L_append, List.all_append, HALL.out, Hta.out]; rfl
      case measure => simp [intOf]; omega
    · have HB : Hid (bitsB s = true) := Lib.hid (by
        simp only [bitsB, Bool.and_eq_true, decide_eq_true_eq]
        exact ⟨⟨by omega, by omega⟩, HALL.out⟩)
      go_wp2
      go_ret
      exact ⟨s, HB.out, rfl, hr'.more (by omega), hm'⟩
/-- What l15Some leaves. -/
def SomePost (R c : Nat) (w : World) (e : Ending) (w' : World) : Prop :=
  ∃ (v1 v2 v3 : Value) (ws : List ByteArray) (bs ps : List Int), e = .returned (.tuple #[.agg #[v1, v2], v3]) ∧ (1 ≤ ws.length ∧ ws.length ≤ 4 ∧ 1 ≤ bs.length ∧ bs.length ≤ 9 ∧ ps.length = ws.length) ∧ cageB ws bs = true ∧ CgW w w' R w.heap.size v1 v2 v3 ws bs ps (c + 100)
set_option maxRecDepth 100000 in
set_option maxHeartbeats 2000000 in
theorem l15Some_any (R c : Nat) (w : World) (h : Rd w R c) (hc : c ≤ 1000000) :
    Calls Tryd.prog 38 #[.pointer (some ⟨R, 0, none⟩)] w (SomePost R c w) := by
  have hRw := h.lt
  have ob := ((Own.new w [.slice none 0 0, .slice none 0 0] 25).alloc (.cells [.slice none 0 0, .slice none 0 0].toArray 25)).alloc (.cells #[] 3)
  have oc := (Own.new (w.alloc (.cells [.slice none 0 0, .slice none 0 0].toArray 25)) [.slice none 0 0, .slice none 0 0] 25).alloc (.cells #[] 3)
  have z0 := World.ownsRow_lit (base := w.heap.size + 2) (e := 3) (size := 1) ((w.alloc (.cells [.slice none 0 0, .slice none 0 0].toArray 25)).alloc (.cells [.slice none 0 0, .slice none 0 0].toArray 25)) #[] 0 (by simp) (by unfold maxLen; omega) (by simp)
  have hr0 := ((h.alloc (.cells [.slice none 0 0, .slice none 0 0].toArray 25)).alloc (.cells [.slice none 0 0, .slice none 0 0].toArray 25)).alloc (.cells #[] 3)
  have hm0 := (((Moved.refl R w).alloc (.cells [.slice none 0 0, .slice none 0 0].toArray 25)).alloc (.cells [.slice none 0 0, .slice none 0 0].toArray 25)).alloc (.cells #[] 3)
  simp only [World.size_alloc] at oc z0
  go_enter Tryd.func38, Tryd.ntmps38
  go_wp2_with fail
  generalize hW1 : (((w.alloc (.cells [.slice none 0 0, .slice none 0 0].toArray 25)).alloc (.cells [.slice none 0 0, .slice none 0 0].toArray 25)).alloc (.cells #[] 3)) = W1 at *
  have hz1 : w.heap.size + 3 = W1.heap.size := by rw [← hW1]; simp
  clear hW1
  refine (pick_any R _ c W1 hr0 (by omega) (by omega) (by omega)).mono ?_
  rintro e w2 ⟨v, rfl, hv0, hv1, _, hr2, hm2⟩
  have hv2 : v < 4 := hv1 (by omega)
  obtain ⟨n, rfl⟩ := Int.eq_ofNat_of_zero_le hv0
  have cw2 : CgW w w2 R (w.heap.size + 2) (.slice none 0 0) (.slice none 0 0) (.slice (some ⟨w.heap.size + 1 + 1, 0, none⟩) 0 0) [] [] [] (c + 1) :=
    ⟨World.ownsRow_nil _ _ _ _, World.ownsRow_nil _ _ _ _, OwR.moved z0 hm2 (by omega), Ap.none_ _, Ap.none_ _, Ap.none_ _, hr2, hm0.trans hm2, by omega, by have := hm2.size; omega, by omega⟩
  have oc2 := oc.grown hm2 (by simp; omega)
  have ob2 := ob.grown hm2 (by simp; omega)
  clear oc ob z0 hr0 hm0 hr2 hm2 hv1
  go_wp2_with fail
  go_loopw [5, 6] (fun v3 i wr => ∃ (k : Nat) (v1 : Value) (ws : List ByteArray) (ps : List Int), i = .int .i64 (k : Int) ∧ ws.length + k = n + 1 ∧ ps.length = ws.length ∧ (∀ s ∈ ws, bitsB s = true) ∧ CgW w wr R (w.heap.size + 2) v1 (.slice none 0 0) v3 ws [] ps (c + 1 + 12 * (n + 1 - k)) ∧ Own wr (w.heap.size + 1) [v1, .slice none 0 0] ∧ Own wr w.heap.size [.slice none 0 0, .slice none 0 0]) (fun _ i _ => (intOf i).toNat)
  case atStart => exact ⟨n + 1, _, [], [], by congr 1; omega, by simp, rfl, by simp, by rw [show n + 1 - (n + 1) = 0 by omega]; exact cw2, oc2, ob2⟩
  case round =>
    clear cw2 oc2 ob2
    obtain ⟨k, v1, ws, ps, rfl, hlk, hps, hsz, cw, oc, ob⟩ := hrel
    have HLK := Lib.hid hlk
    have HPS := Lib.hid hps
    have HSZ := Lib.hid hsz
    have hw4 : ws.length ≤ 4 := by omega
    have hk4 : k ≤ 4 := by omega
    clear hlk hps hsz
    have f0 := oc.at_ (i := 0) rfl
    by_cases hlt : 0 < k
    · go_wp2_with fail
      go_region_law (first | (go_simp; go_at_call 56; refine (l15WheelB_any R _ _ cw.rd.drew (by omega)).mono ?_; rintro e w3 ⟨s, hs, rfl, hr3, hm3⟩; have cw3 := cw.drew.call hm3 hr3; have oc3 := oc.drew.grown hm3 (by simp; omega); have ob3 := ob.drew.grown hm3 (by simp; omega); have f3 := oc3.at_ (i := 0) rfl; have fr3 := oc3.free 0 (by simp); have lt3 := oc3.lt) | (refine st_pushG 22 9 inf_str2 Tryd.underlying22 rfl (by omega) (by rfl) (by rfl) cw3.o1 cw3.Bw rfl (by simp [Value.oneCell']) (by omega) (by omega) (by rfl) (by rfl) ?_; intro g cap w4 o4 g4 a4 l4 b4; have cw4 := cw3.push1 o4 g4 a4; have oc4 := oc3.below b4 (by omega); have ob4 := ob3.below b4 (by omega); have f4 := oc4.at_ (i := 0) rfl; have fr4 := oc4.free 0 (by simp)))
      all_goals
        have cw5 := cw4.far (p := ⟨w.heap.size + 1, 0, none⟩) (by simp) (by simp; omega) (by simp) (.slice (some ⟨g, 0, none⟩) (ws.length + 1) cap)
        have oc5 : Own (w4.setCell ⟨w.heap.size + 1, 0, none⟩ (.slice (some ⟨g, 0, none⟩) (ws.length + 1) cap)) (w.heap.size + 1) [.slice (some ⟨g, 0, none⟩) (ws.length + 1) cap, .slice none 0 0] := oc4.set_ (i := 0) (by simp) (.slice (some ⟨g, 0, none⟩) (ws.length + 1) cap)
        have ob5 := ob4.far (p := ⟨w.heap.size + 1, 0, none⟩) (by simp) (.slice (some ⟨g, 0, none⟩) (ws.length + 1) cap)
        have o5 := OwR.far o4 (p := ⟨w.heap.size + 1, 0, none⟩) (by simp) (.slice (some ⟨g, 0, none⟩) (ws.length + 1) cap)
        have c5 := OwR.last o5
        have hsz9 := (bitsB_size hs).2
        have HS9 := Lib.hid hs
        clear hs
        have e0 := oc5.at_ (i := 0) rfl
        clear cw oc ob f0 cw3 oc3 ob3 f3 fr3 lt3 cw4 oc4 ob4 f4 fr4 o4 g4 a4 l4 b4 o5 hr3 hm3
        generalize (w4.setCell ⟨w.heap.size + 1, 0, none⟩ (.slice (some ⟨g, 0, none⟩) (ws.length + 1) cap)) = w5 at *
        go_wp2_with fail
        refine (pick_any R _ _ w5 cw5.rd (by omega) (by omega) (by omega)).mono ?_
        rintro e w6 ⟨x, rfl, hx0, -, -, hr6, hm6⟩
        have cw6 := cw5.call hm6 hr6
        have oc6 := oc5.grown hm6 (by simp; omega)
        have ob6 := ob5.grown hm6 (by simp; omega)
        have hp6 : ps.length ≤ 1048576 := by have := HPS.out; omega
        clear cw5 oc5 ob5 c5 e0 hr6 hm6
        go_wp2_with (at_builtin; ((with_reducible refine wl_pushG 23 3 inf_int2 Tryd.underlying23 rfl (by omega) cw6.o3 cw6.Bw rfl (by simp [Value.oneCell']) (by omega) (by omega) rfl rfl ?_); intro g7 cap7 w7 o7 gr7 a7 l7 k7))
        have cw7 := cw6.push3 o7 gr7 a7
        have oc7 := oc6.grown gr7 (cw6.off3 (by omega))
        have ob7 := ob6.grown gr7 (cw6.off3 (by omega))
        go_roundw
        case rel => exact ⟨k - 1, _, ws ++ [s], ps ++ [x], by congr 1; omega, by rw [List.length_append]; simp; have := HLK.out; omega, by rw [List.length_append, List.length_append, HPS.out]; rfl, by
          intro t ht
          rcases List.mem_append.1 ht with ht | ht
          · exact HSZ.out t ht
          · rw [List.mem_singleton.1 ht]; exact HS9.out, cw7.more (by have := HLK.out; omega), oc7, ob7⟩
        case measure => simp [intOf]; omega
    · have hk0 : k = 0 := by omega
      subst hk0
      have hwl : ws.length = n + 1 := by have := HLK.out; omega
      have cw := cw.more (c' := c + 49) (by omega)
      go_wp2_with fail
      refine (pick_any R _ _ wr cw.rd (by omega) (by omega) (by omega)).mono ?_
      rintro e w3 ⟨y, rfl, hy0, hy1, _, hr3, hm3⟩
      have hy2 : y < 9 := hy1 (by omega)
      obtain ⟨m, rfl⟩ := Int.eq_ofNat_of_zero_le hy0
      have cw3 := cw.call hm3 hr3
      have oc3 := oc.grown hm3 (by simp; omega)
      have ob3 := ob.grown hm3 (by simp; omega)
      obtain ⟨a1, q1, rfl, -, -, -⟩ := OwR.val cw.o1
      obtain ⟨k1, k2⟩ := shl_bd (n := ws.length) (by omega)
      have HSH := Lib.hid (shl_is (n := ws.length) (by omega))
      have hwl4 : ws.length ≤ 4 := by omega
      have HWL := Lib.hid (show 1 ≤ ws.length ∧ ws.length ≤ 4 by omega)
      clear cw oc ob f0 hr3 hm3 hy1 hwl hw4
      go_wp2_with fail
      go_loopw [7] (fun i wr => ∃ (j : Nat) (v2 : Value) (bs : List Int), i = .int .i64 (j : Int) ∧ bs.length + j = m + 1 ∧ (∀ b ∈ bs, 0 ≤ b ∧ b < 2 ^ ws.length) ∧ CgW w wr R (w.heap.size + 2) (.slice a1 ws.length q1) v2 u5 ws bs ps (c + 50 + (m + 1 - j)) ∧ Own wr (w.heap.size + 1) [.slice a1 ws.length q1, v2] ∧ Own wr w.heap.size [.slice none 0 0, .slice none 0 0]) (fun i _ => (intOf i).toNat)
      case atStart => exact ⟨m + 1, _, [], by congr 1; omega, by simp, by simp, cw3.more (by omega), oc3, ob3⟩
      case round =>
        clear cw3 oc3 ob3
        obtain ⟨j, v2, bs, rfl, hlj, hbb, cw, oc, ob⟩ := hrel
        have HBB := Lib.hid hbb
        clear hbb
        have HLJ := Lib.hid hlj
        have hb9 : bs.length ≤ 9 := by omega
        have hj9 : j ≤ 9 := by omega
        clear hlj
        have f0 := oc.at_ (i := 0) rfl
        have f1 := oc.at_ (i := 1) rfl
        by_cases hlt2 : 0 < j
        · go_wp2_with fail
          go_region_law (first | (go_simp; go_at_call 39; refine (pick_any R _ _ _ cw.rd.drew (by omega) (by assumption) (by assumption)).mono ?_; rintro e w3 ⟨x, rfl, hx0, hx1, -, hr3, hm3⟩; have HX1 : Hid (x < 2 ^ ws.length) := Lib.hid (by rw [HSH.out.1] at hx1; exact hx1 HSH.out.2); clear hx1; have cw3 := cw.drew.call hm3 hr3; have oc3 := oc.drew.grown hm3 (by simp; omega); have ob3 := ob.drew.grown hm3 (by simp; omega); have f3 := oc3.at_ (i := 0) rfl; have f3' := oc3.at_ (i := 1) rfl; have fr3 := oc3.free 1 (by simp); have lt3 := oc3.lt) | (refine st_pushG 23 3 inf_int2 Tryd.underlying23 rfl (by omega) (by rfl) (by rfl) cw3.o2 cw3.Bw rfl (by simp [Value.oneCell']) (by omega) (by omega) (by rfl) (by rfl) ?_; intro g cap w4 o4 g4 a4 l4 b4; have cw4 := cw3.push2 o4 g4 a4; have oc4 := oc3.below b4 (by omega); have ob4 := ob3.below b4 (by omega); have f4 := oc4.at_ (i := 0) rfl; have f4' := oc4.at_ (i := 1) rfl; have fr4 := oc4.free 1 (by simp)))
          all_goals
            have cw5 := cw4.far (p := ⟨w.heap.size + 1, 1, none⟩) (by simp) (by simp; omega) (by simp) (.slice (some ⟨g, 0, none⟩) (bs.length + 1) cap)
            have oc5 : Own (w4.setCell ⟨w.heap.size + 1, 1, none⟩ (.slice (some ⟨g, 0, none⟩) (bs.length + 1) cap)) (w.heap.size + 1) [.slice a1 ws.length q1, .slice (some ⟨g, 0, none⟩) (bs.length + 1) cap] := oc4.set_ (i := 1) (by simp) (.slice (some ⟨g, 0, none⟩) (bs.length + 1) cap)
            have ob5 := ob4.far (p := ⟨w.heap.size + 1, 1, none⟩) (by simp) (.slice (some ⟨g, 0, none⟩) (bs.length + 1) cap)
            clear cw oc ob f0 f1 cw3 oc3 ob3 f3 f3' fr3 lt3 cw4 oc4 ob4 f4 f4' fr4 o4 g4 a4 l4 b4 hr3 hm3
            go_wp2_with fail
            go_roundw
            case rel => exact ⟨j - 1, _, bs ++ [x], by congr 1; omega, by rw [List.length_append]; simp; have := HLJ.out; omega, fun b hb => by
              rcases List.mem_append.1 hb with hb | hb
              · exact HBB.out b hb
              · rw [List.mem_singleton.1 hb]; exact ⟨hx0, HX1.out⟩, cw5.more (by have := HLJ.out; omega), oc5, ob5⟩
            case measure => simp [intOf]; omega
        · have hj0 : j = 0 := by omega
          subst hj0
          have hbl : bs.length = m + 1 := by have := HLJ.out; omega
          have HBL := Lib.hid (show 1 ≤ bs.length ∧ bs.length ≤ 9 by omega)
          obtain ⟨a2, q2, rfl, -, -, -⟩ := OwR.val cw.o2
          obtain ⟨a3, q3, rfl, -, -, -⟩ := OwR.val cw.o3
          have u0 := ob.at_ (i := 0) rfl
          have u1 := ob.at_ (i := 1) rfl
          have e0 := ob.free 0 (by simp)
          have e1 := ob.free 1 (by simp)
          clear hbl
          go_wp2_with fail
          have o2 := (ob.set_ (i := 0) (by simp) (.slice a1 ws.length q1)).set_ (i := 1) (by simp) (.slice a2 bs.length q2)
          have cwe := ((cw.far (p := ⟨w.heap.size, 0, none⟩) (by simp) (by simp; omega) (by simp) (.slice a1 ws.length q1)).far (p := ⟨w.heap.size, 1, none⟩) (by simp) (by simp; omega) (by simp) (.slice a2 bs.length q2)).base (B' := w.heap.size) (by omega) hRw (Nat.le_refl _)
          refine bodyPost_ret (results_cell_tmp_own Tryd.results38 _ _ _ _ _ _ (by rfl) (by rfl) o2.cells Tryd.underlying25 rfl (by kernel_rfl)) rfl ?_
          exact ⟨_, _, _, ws, bs, ps, rfl, ⟨HWL.out.1, HWL.out.2, HBL.out.1, HBL.out.2, HPS.out⟩, cage_iff.2 ⟨⟨HWL.out.1, HWL.out.2, HBL.out.1, HBL.out.2⟩, HSZ.out, HBB.out⟩, cwe.more (by omega)⟩
end Go.Proofs.YtlpfhabfbnjnbaaDoor

/- A drawn cage is spoilt: l15Bad. -/
namespace Go.Proofs.YtlpfhabfbnjnbaaDoor
open Go.RowKit

/-- Below block B only the reader R has turned. -/
structure Bx (R B : Nat) (w w' : World) : Prop where
  os : w'.os = w.os
  tape : w'.tape = w.tape
  output : w'.output = w.output
  size : w.heap.size ≤ w'.heap.size
  block : ∀ k, k < B → k ≠ R → w'.heap[k]? = w.heap[k]?
section
variable {R B : Nat} {a b c : World}
theorem Bx.refl (R B : Nat) (w : World) : Bx R B w w := ⟨rfl, rfl, rfl, Nat.le_refl _, fun _ _ _ => rfl⟩
theorem Bx.alloc (h : Bx R B a b) (hB : B ≤ b.heap.size) (o : Obj) : Bx R B a (b.alloc o) := ⟨h.os, h.tape, h.output, Nat.le_trans h.size (by simp), fun k hk hne => (Below.heap_alloc b o k (by omega)).trans (h.block k hk hne)⟩
theorem Bx.moved (h : Bx R B a b) (k : Moved R b c) (hB : B ≤ b.heap.size) : Bx R B a c := ⟨k.os.trans h.os, k.tape.trans h.tape, k.output.trans h.output, Nat.le_trans h.size k.size, fun i hi hne => (k.block i (by omega) (by simpa using hne)).trans (h.block i hi hne)⟩
theorem Bx.setCell (h : Bx R B a b) {p : Addr} (hp : B ≤ p.block) (u : Value) : Bx R B a (b.setCell p u) := ⟨h.os, h.tape, h.output, by simpa [World.setCell] using h.size, fun k hk hne => (Below.heap_setCell b p u k (by omega)).trans (h.block k hk hne)⟩
theorem Bx.grown {row : Option Nat} (h : Bx R B a b) (k : b.grownBy c row) (hB : B ≤ b.heap.size) (hr : ∀ q, row = some q → B ≤ q) : Bx R B a c := ⟨k.os.trans h.os, k.tape.trans h.tape, k.output.trans h.output, Nat.le_trans h.size k.size, fun i hi hne => (k.block i (by omega) (fun e => by have := hr i e.symm; omega)).trans (h.block i hi hne)⟩
theorem Bx.own {g : Nat} {cs : List Value} (h : Bx R B a b) (ho : Own a g cs) (hg : g < B) (hne : g ≠ R) : Own b g cs := ho.keep (Nat.lt_of_lt_of_le ho.lt h.size) (h.block g hg hne)
theorem Bx.toBelow (h : Bx R B a b) (hR : R ≤ B) : Below R a b := ⟨h.os, h.tape, h.output, h.size, fun k hk => h.block k (by omega) (by omega)⟩
end
theorem OwR.ow {w : World} {B g n n' cap : Nat} {e : TypeId} {xs : List Value} (h : OwR w B e 1 (.slice (some ⟨g, 0, none⟩) n cap) n' xs) (h0 : 0 < n') : Own w g xs := by
  obtain ⟨a, cc, e1, -, -, hgx⟩ := OwR.val h
  obtain ⟨g', e2, -, hox⟩ := hgx.resolve_left (by omega)
  injection e1 with e3 e4 e5
  rw [e2] at e3
  simp at e3
  subst e3
  exact hox
/-- What l15Bad leaves: some cage. -/
def BadPost (R B : Nat) (w : World) (e : Ending) (w' : World) : Prop :=
  Bx R B w w' ∧ ∃ (g1 c1 g2 c2 : Nat) (v3 : Value) (ws : List ByteArray) (bs : List Int), e = .returned (.tuple #[.agg #[.slice (some ⟨g1, 0, none⟩) ws.length c1, .slice (some ⟨g2, 0, none⟩) bs.length c2], v3]) ∧ ws.length ≤ 4 ∧ ws.length ≤ c1 ∧ bs.length ≤ 9 ∧ (∀ s ∈ ws, s.size ≤ 10) ∧ B ≤ g1 ∧ B ≤ g2 ∧ Own w' g1 (sv ws) ∧ Own w' g2 (iv bs)
set_option maxRecDepth 100000 in
set_option maxHeartbeats 1000000 in
theorem l15Bad_any (R B c : Nat) (w00 w : World) (v1 v2 v3 : Value) (ws : List ByteArray) (bs ps : List Int) (h : CgW w00 w R B v1 v2 v3 ws bs ps c) (hl : 1 ≤ ws.length ∧ ws.length ≤ 4 ∧ 1 ≤ bs.length ∧ bs.length ≤ 9 ∧ ps.length = ws.length) (hsz : ∀ s ∈ ws, s.size ≤ 9) (hc : c ≤ 1000000) :
    Calls Tryd.prog 64 #[.pointer (some ⟨R, 0, none⟩), .agg #[v1, v2], v3] w (BadPost R B w) := by
  obtain ⟨l1, l2, l3, l4, l5⟩ := hl
  obtain ⟨a1, c1, rfl, hc1, -, hg1⟩ := OwR.val h.o1
  obtain ⟨g1, rfl, hg1, -⟩ := hg1.resolve_left (by omega)
  obtain ⟨a2, c2, rfl, hc2, -, hg2⟩ := OwR.val h.o2
  obtain ⟨g2, rfl, hg2, -⟩ := hg2.resolve_left (by omega)
  obtain ⟨a3, c3, rfl, hc3, -, hg3⟩ := OwR.val h.o3
  obtain ⟨g3, rfl, hg3, -⟩ := hg3.resolve_left (by omega)
  have lg1 := (World.ownsRow.lt h.o1 g1 rfl).2
  have lg2 := (World.ownsRow.lt h.o2 g2 rfl).2
  have lg3 := (World.ownsRow.lt h.o3 g3 rfl).2
  have hRB := h.RB
  have hBw := h.Bw
  have HL5 := Lib.hid l5
  have HSZ := Lib.hid hsz
  have ob := (Own.new w [.slice (some ⟨g1, 0, none⟩) ws.length c1, .slice (some ⟨g2, 0, none⟩) bs.length c2] 25).alloc (.cells [.slice none 0 0, .slice none 0 0].toArray 25)
  have orr := Own.new (w.alloc (.cells [.slice (some ⟨g1, 0, none⟩) ws.length c1, .slice (some ⟨g2, 0, none⟩) bs.length c2].toArray 25)) [.slice none 0 0, .slice none 0 0] 25
  have cw := (h.alloc (.cells [.slice (some ⟨g1, 0, none⟩) ws.length c1, .slice (some ⟨g2, 0, none⟩) bs.length c2].toArray 25)).alloc (.cells [.slice none 0 0, .slice none 0 0].toArray 25)
  have hb := ((Bx.refl R B w).alloc (by omega) (.cells [.slice (some ⟨g1, 0, none⟩) ws.length c1, .slice (some ⟨g2, 0, none⟩) bs.length c2].toArray 25)).alloc (by simp; omega) (.cells [.slice none 0 0, .slice none 0 0].toArray 25)
  simp only [World.size_alloc] at orr
  clear h l5 hsz
  go_enter Tryd.func64, Tryd.ntmps64
  go_wp2_with fail
  generalize hW1 : ((w.alloc (.cells [.slice (some ⟨g1, 0, none⟩) ws.length c1, .slice (some ⟨g2, 0, none⟩) bs.length c2].toArray 25)).alloc (.cells [.slice none 0 0, .slice none 0 0].toArray 25)) = W1 at *
  have hz1 : w.heap.size + 2 = W1.heap.size := by rw [← hW1]; simp
  clear hW1
  refine (pick_any R _ _ W1 cw.rd (by omega) (by omega) (by have := HL5.out; omega)).mono ?_
  rintro e w2 ⟨x, rfl, hx0, hx1, _, hr2, hm2⟩
  obtain ⟨k, rfl⟩ := Int.eq_ofNat_of_zero_le hx0
  have hk : k < ws.length := by have := HL5.out; have := hx1 (by omega); omega
  have cw2 := cw.call hm2 hr2
  have ob2 := ob.grown hm2 (by simp; omega)
  have orr2 := orr.grown hm2 (by simp; omega)
  have hb2 := hb.moved hm2 (by omega)
  clear cw ob orr hb hx1 hr2
  go_wp2_with fail
  refine (pick_any R _ _ w2 cw2.rd (by omega) (by omega) (by omega)).mono ?_
  rintro e w3 ⟨y, rfl, hy0, hy1, _, hr3, hm3⟩
  have cw3 := cw2.call hm3 hr3
  have ob3 := ob2.grown hm3 (by simp; omega)
  have orr3 := orr2.grown hm3 (by simp; omega)
  have hb3 := hb2.moved hm3 (by have := hm2.size; omega)
  have hz3 : w.heap.size + 2 ≤ w3.heap.size := by have := hm2.size; have := hm3.size; omega
  have q1 : (0 : Int) ≤ (k : Int) := by omega
  have q2 : (k : Int) < (ws.length : Int) := by omega
  have q3 : (k : Int) < (ps.length : Int) := by have := HL5.out; omega
  have q4 : (0 : Int) < (bs.length : Int) := by omega
  have q4' : 0 < bs.length := by omega
  have lt3 := ob3.lt
  have f0 := ob3.at_ (i := 0) rfl
  have f1 := ob3.at_ (i := 1) rfl
  clear cw2 ob2 orr2 hb2 hy1 hr3 hm2 hm3
  by_cases j0 : y = 0
  · have t0 : (y == 0) = true := by simp [j0]
    clear j0
    go_upto_region 4 with fail
    go_region_law (first | (go_simp; go_at_call 40; refine (of_any R _ _ _ [⟨#[]⟩, ⟨#[49]⟩, ⟨#[48, 49, 48, 49, 48, 49, 48, 49, 48, 49]⟩, ⟨#[48, 49, 50]⟩] _ _ rfl (by first | exact Own.new _ _ _ | exact (Own.new _ _ _).drew) (by simp) (by have := cw3.rd.lt; simp; omega) (by first | exact cw3.rd.drew.alloc _ | exact (cw3.rd.alloc _).drew) (by omega) (by simp)).mono ?_; rintro e w4 ⟨t, ht, rfl, hr4, hm4⟩; have hm4' : Moved R w3 w4 := (by first | exact ((Moved.refl R w3).drew.alloc _).trans hm4 | exact (((Moved.refl R w3).alloc _).drew).trans hm4); have cw4 := cw3.call hm4' hr4; have ob4 := ob3.grown hm4' (by simp; omega); have orr4 := orr3.grown hm4' (by simp; omega); have e0 := ob4.at_ (i := 0) rfl; have c4 : w4.cell? ⟨g1, k, none⟩ = some _ := (World.ownsRow.cellAt cw4.o1 k (by omega)).trans (sv_at hk); have fr4 := World.ownsRow.frozenAt cw4.o1 k))
    all_goals
      have ht10 : t.size ≤ 10 := by
        simp at ht
        rcases ht with rfl | rfl | rfl | rfl <;> decide
      have hb4 := (hb3.moved hm4' (by omega)).setCell (p := ⟨g1, k, none⟩) (by simp; omega) (.string t)
      have cwz := cw4.set1 (k := k) t
      have obz := ob4.far (p := ⟨g1, k, none⟩) (by simp; omega) (.string t)
      have orz := orr4.far (p := ⟨g1, k, none⟩) (by simp; omega) (.string t)
      have hbz := hb4
      have hz4 := hm4'.size
      have hz5 : w.heap.size + 2 ≤ (w4.setCell ⟨g1, k, none⟩ (.string t)).heap.size := by simp [World.setCell]; omega
      clear ht hb4 cw4 ob4 orr4 e0 c4 fr4 hr4 hm4 hm4' cw3 ob3 orr3 hb3 f0 f1
      have hrd1 : Own (w4.setCell ⟨g1, k, none⟩ (.string t)) g1 (sv (ws.set k t)) := cwz.o1.ow (by first | omega | (rw [List.length_set]; omega))
      have hrd2 : Own (w4.setCell ⟨g1, k, none⟩ (.string t)) g2 (iv bs) := cwz.o2.ow (by first | omega | (rw [List.length_set]; omega))
      have u0 := obz.at_ (i := 0) rfl
      have u1 := obz.at_ (i := 1) rfl
      have y0 := orz.at_ (i := 0) rfl
      have y1 := orz.at_ (i := 1) rfl
      have z0 := orz.free 0 (by simp)
      have z1 := orz.free 1 (by simp)
      have hne : ¬ w.heap.size = w.heap.size + 1 := by omega
      generalize w4.setCell ⟨g1, k, none⟩ (.string t) = W at *
      go_wp2_with fail
      have o2 := (orz.set_ (i := 0) (by simp) (.slice (some ⟨g1, 0, none⟩) ws.length c1)).set_ (i := 1) (by simp) (.slice (some ⟨g2, 0, none⟩) bs.length c2)
      have hb9 := (hbz.setCell (p := ⟨w.heap.size + 1, 0, none⟩) (by simp; omega) (.slice (some ⟨g1, 0, none⟩) ws.length c1)).setCell (p := ⟨w.heap.size + 1, 1, none⟩) (by simp; omega) (.slice (some ⟨g2, 0, none⟩) bs.length c2)
      refine bodyPost_ret (results_cell_tmp_own Tryd.results64 _ _ _ _ _ _ (by rfl) (by rfl) o2.cells Tryd.underlying25 rfl (by kernel_rfl)) rfl ?_
      refine ⟨hb9, g1, c1, g2, c2, _, (ws.set k t), bs, by rw [List.length_set]; rfl, ?_, ?_, ?_, ?_, hg1, hg2, ?_, ?_⟩
      · first | omega | (rw [List.length_set]; omega)
      · first | omega | (rw [List.length_set]; omega)
      · first | omega | (rw [List.length_set]; omega) | simp
      · exact fun s hs => by
          rcases List.mem_or_eq_of_mem_set hs with hs | rfl
          · exact Nat.le_trans (HSZ.out s hs) (by omega)
          · omega
      · exact (hrd1.far (p := ⟨w.heap.size + 1, 0, none⟩) (by simp; omega) _).far (p := ⟨w.heap.size + 1, 1, none⟩) (by simp; omega) _
      · exact (hrd2.far (p := ⟨w.heap.size + 1, 0, none⟩) (by simp; omega) _).far (p := ⟨w.heap.size + 1, 1, none⟩) (by simp; omega) _
  have t0 : (y == 0) = false := by simp [j0]
  clear j0
  by_cases j1 : y = 1
  · have t1 : (y == 1) = true := by simp [j1]
    clear j1
    go_upto_region 6 with fail
    go_region_law (first | (go_simp; go_at_call 76; refine (num_any R _ _ _ [-1, _, 9223372036854775807] _ _ rfl (by first | exact Own.new _ _ _ | exact (Own.new _ _ _).drew) (by simp) (by have := cw3.rd.lt; simp; omega) (by first | exact cw3.rd.drew.alloc _ | exact (cw3.rd.alloc _).drew) (by omega) (by simp)).mono ?_; rintro e w4 ⟨t, ht, rfl, hr4, hm4⟩; have hm4' : Moved R w3 w4 := (by first | exact ((Moved.refl R w3).drew.alloc _).trans hm4 | exact (((Moved.refl R w3).alloc _).drew).trans hm4); have cw4 := cw3.call hm4' hr4; have ob4 := ob3.grown hm4' (by simp; omega); have orr4 := orr3.grown hm4' (by simp; omega); have e0 := ob4.at_ (i := 0) rfl; have e1 := ob4.at_ (i := 1) rfl; have c4 : w4.cell? ⟨g2, 0, none⟩ = some _ := (World.ownsRow.cellAt cw4.o2 0 (by omega)).trans (iv_at (by omega)); have fr4 := World.ownsRow.frozenAt cw4.o2 0))
    all_goals
      have hb4 := (hb3.moved hm4' (by omega)).setCell (p := ⟨g2, 0, none⟩) (by simp; omega) (.int .i64 t)
      have cwz := cw4.set2 (k := 0) t
      have obz := ob4.far (p := ⟨g2, 0, none⟩) (by simp; omega) (.int .i64 t)
      have orz := orr4.far (p := ⟨g2, 0, none⟩) (by simp; omega) (.int .i64 t)
      have hbz := hb4
      have hz4 := hm4'.size
      have hz5 : w.heap.size + 2 ≤ (w4.setCell ⟨g2, 0, none⟩ (.int .i64 t)).heap.size := by simp [World.setCell]; omega
      clear ht hb4 cw4 ob4 orr4 e0 e1 c4 fr4 hr4 hm4 hm4' cw3 ob3 orr3 hb3 f0 f1
      have hrd1 : Own (w4.setCell ⟨g2, 0, none⟩ (.int .i64 t)) g1 (sv ws) := cwz.o1.ow (by first | omega | (rw [List.length_set]; omega))
      have hrd2 : Own (w4.setCell ⟨g2, 0, none⟩ (.int .i64 t)) g2 (iv (bs.set 0 t)) := cwz.o2.ow (by first | omega | (rw [List.length_set]; omega))
      have u0 := obz.at_ (i := 0) rfl
      have u1 := obz.at_ (i := 1) rfl
      have y0 := orz.at_ (i := 0) rfl
      have y1 := orz.at_ (i := 1) rfl
      have z0 := orz.free 0 (by simp)
      have z1 := orz.free 1 (by simp)
      have hne : ¬ w.heap.size = w.heap.size + 1 := by omega
      generalize w4.setCell ⟨g2, 0, none⟩ (.int .i64 t) = W at *
      go_wp2_with fail
      have o2 := (orz.set_ (i := 0) (by simp) (.slice (some ⟨g1, 0, none⟩) ws.length c1)).set_ (i := 1) (by simp) (.slice (some ⟨g2, 0, none⟩) bs.length c2)
      have hb9 := (hbz.setCell (p := ⟨w.heap.size + 1, 0, none⟩) (by simp; omega) (.slice (some ⟨g1, 0, none⟩) ws.length c1)).setCell (p := ⟨w.heap.size + 1, 1, none⟩) (by simp; omega) (.slice (some ⟨g2, 0, none⟩) bs.length c2)
      refine bodyPost_ret (results_cell_tmp_own Tryd.results64 _ _ _ _ _ _ (by rfl) (by rfl) o2.cells Tryd.underlying25 rfl (by kernel_rfl)) rfl ?_
      refine ⟨hb9, g1, c1, g2, c2, _, ws, (bs.set 0 t), by rw [List.length_set]; rfl, ?_, ?_, ?_, ?_, hg1, hg2, ?_, ?_⟩
      · first | omega | (rw [List.length_set]; omega)
      · first | omega | (rw [List.length_set]; omega)
      · first | omega | (rw [List.length_set]; omega) | simp
      · exact fun s hs => Nat.le_trans (HSZ.out s hs) (by omega)
      · exact (hrd1.far (p := ⟨w.heap.size + 1, 0, none⟩) (by simp; omega) _).far (p := ⟨w.heap.size + 1, 1, none⟩) (by simp; omega) _
      · exact (hrd2.far (p := ⟨w.heap.size + 1, 0, none⟩) (by simp; omega) _).far (p := ⟨w.heap.size + 1, 1, none⟩) (by simp; omega) _
  have t1 : (y == 1) = false := by simp [j1]
  clear j1
  by_cases j2 : y = 2
  · have t2 : (y == 2) = true := by simp [j2]
    clear j2
    have r1 := ob3.free 1 (by simp)
    have obz : Own (w3.setCell ⟨w.heap.size, 1, none⟩ (.slice (some ⟨g2, 0, none⟩) 0 c2)) w.heap.size [.slice (some ⟨g1, 0, none⟩) ws.length c1, .slice (some ⟨g2, 0, none⟩) 0 c2] := ob3.set_ (i := 1) (by simp) (.slice (some ⟨g2, 0, none⟩) 0 c2)
    have orz := orr3.far (p := ⟨w.heap.size, 1, none⟩) (by simp) (.slice (some ⟨g2, 0, none⟩) 0 c2)
    have hbz := hb3.setCell (p := ⟨w.heap.size, 1, none⟩) (by simp; omega) (.slice (some ⟨g2, 0, none⟩) 0 c2)
    have hz5 : w.heap.size + 2 ≤ (w3.setCell ⟨w.heap.size, 1, none⟩ (.slice (some ⟨g2, 0, none⟩) 0 c2)).heap.size := by simp [World.setCell]; omega
    have hrd1 : Own (w3.setCell ⟨w.heap.size, 1, none⟩ (.slice (some ⟨g2, 0, none⟩) 0 c2)) g1 (sv ws) := (cw3.o1.ow (by omega)).far (by simp; omega) _
    have hrd2 : Own (w3.setCell ⟨w.heap.size, 1, none⟩ (.slice (some ⟨g2, 0, none⟩) 0 c2)) g2 (iv []) := ⟨by simp [World.setCell]; omega, fun i hi => absurd hi (by simp [iv]), fun i hi => absurd hi (by simp [iv])⟩
    go_upto_region 13 with fail
    clear r1 cw3 ob3 orr3 hb3 f0 f1
    have u0 := obz.at_ (i := 0) rfl
    have u1 := obz.at_ (i := 1) rfl
    have y0 := orz.at_ (i := 0) rfl
    have y1 := orz.at_ (i := 1) rfl
    have z0 := orz.free 0 (by simp)
    have z1 := orz.free 1 (by simp)
    have hne : ¬ w.heap.size = w.heap.size + 1 := by omega
    generalize (w3.setCell ⟨w.heap.size, 1, none⟩ (.slice (some ⟨g2, 0, none⟩) 0 c2)) = W at *
    go_wp2_with fail
    have o2 := (orz.set_ (i := 0) (by simp) (.slice (some ⟨g1, 0, none⟩) ws.length c1)).set_ (i := 1) (by simp) (.slice (some ⟨g2, 0, none⟩) 0 c2)
    have hb9 := (hbz.setCell (p := ⟨w.heap.size + 1, 0, none⟩) (by simp; omega) (.slice (some ⟨g1, 0, none⟩) ws.length c1)).setCell (p := ⟨w.heap.size + 1, 1, none⟩) (by simp; omega) (.slice (some ⟨g2, 0, none⟩) 0 c2)
    refine bodyPost_ret (results_cell_tmp_own Tryd.results64 _ _ _ _ _ _ (by rfl) (by rfl) o2.cells Tryd.underlying25 rfl (by kernel_rfl)) rfl ?_
    refine ⟨hb9, g1, c1, g2, c2, _, ws, [], rfl, ?_, ?_, ?_, ?_, hg1, hg2, ?_, ?_⟩
    · first | omega | (rw [List.length_set]; omega)
    · first | omega | (rw [List.length_set]; omega)
    · first | omega | (rw [List.length_set]; omega) | simp
    · exact fun s hs => Nat.le_trans (HSZ.out s hs) (by omega)
    · exact (hrd1.far (p := ⟨w.heap.size + 1, 0, none⟩) (by simp; omega) _).far (p := ⟨w.heap.size + 1, 1, none⟩) (by simp; omega) _
    · exact (hrd2.far (p := ⟨w.heap.size + 1, 0, none⟩) (by simp; omega) _).far (p := ⟨w.heap.size + 1, 1, none⟩) (by simp; omega) _
  have t2 : (y == 2) = false := by simp [j2]
  clear j2
  by_cases j3 : y = 3
  · have t3 : (y == 3) = true := by simp [j3]
    clear j3
    have d1 : w3.cell? ⟨g1, k, none⟩ = some _ := (World.ownsRow.cellAt cw3.o1 k (by omega)).trans (sv_at hk)
    have hsk := HSZ.out _ (List.getElem_mem hk)
    have HSK := Lib.hid (show ws[k]? = some ws[k] from List.getElem?_eq_getElem hk)
    have hsv : (sv ws)[k]? = some (.string ws[k]) := sv_at hk
    generalize ws[k] = sk at *
    go_wp2_with fail
    refine (num_any R _ _ _ [-1, (sk.size : Int), 9223372036854775807] _ _ rfl (Own.new _ _ _) (by simp) (by have := cw3.rd.lt; simp; omega) (cw3.rd.alloc _) (by omega) (by simp)).mono ?_
    rintro e w4 ⟨t, ht, rfl, hr4, hm4⟩
    have hm4' : Moved R w3 w4 := ((Moved.refl R w3).alloc _).trans hm4
    have cw4 := cw3.call hm4' hr4
    have ob4 := ob3.grown hm4' (by simp; omega)
    have orr4 := orr3.grown hm4' (by simp; omega)
    have c4 : w4.cell? ⟨g3, k, none⟩ = some _ := (World.ownsRow.cellAt cw4.o3 k (by have := HL5.out; omega)).trans (iv_at (by have := HL5.out; omega))
    have fr4 := World.ownsRow.frozenAt cw4.o3 k
    have hb4 := (hb3.moved hm4' (by omega)).setCell (p := ⟨g3, k, none⟩) (by simp; omega) (.int .i64 t)
    have cwz := cw4.set3 (k := k) t
    have obz := ob4.far (p := ⟨g3, k, none⟩) (by simp; omega) (.int .i64 t)
    have orz := orr4.far (p := ⟨g3, k, none⟩) (by simp; omega) (.int .i64 t)
    have hbz := hb4
    have hz4 := hm4'.size
    have hz5 : w.heap.size + 2 ≤ (w4.setCell ⟨g3, k, none⟩ (.int .i64 t)).heap.size := by simp [World.setCell]; omega
    clear ht hb4 cw4 ob4 orr4 hr4 hm4 hm4' cw3 ob3 orr3 hb3 f0 f1 d1
    have hrd1 : Own (w4.setCell ⟨g3, k, none⟩ (.int .i64 t)) g1 (sv ws) := cwz.o1.ow (by first | omega | (rw [List.length_set]; omega))
    have hrd2 : Own (w4.setCell ⟨g3, k, none⟩ (.int .i64 t)) g2 (iv bs) := cwz.o2.ow (by first | omega | (rw [List.length_set]; omega))
    have u0 := obz.at_ (i := 0) rfl
    have u1 := obz.at_ (i := 1) rfl
    have y0 := orz.at_ (i := 0) rfl
    have y1 := orz.at_ (i := 1) rfl
    have z0 := orz.free 0 (by simp)
    have z1 := orz.free 1 (by simp)
    have hne : ¬ w.heap.size = w.heap.size + 1 := by omega
    go_wp2_with fail
    have o2 := (orz.set_ (i := 0) (by simp) (.slice (some ⟨g1, 0, none⟩) ws.length c1)).set_ (i := 1) (by simp) (.slice (some ⟨g2, 0, none⟩) bs.length c2)
    have hb9 := (hbz.setCell (p := ⟨w.heap.size + 1, 0, none⟩) (by simp; omega) (.slice (some ⟨g1, 0, none⟩) ws.length c1)).setCell (p := ⟨w.heap.size + 1, 1, none⟩) (by simp; omega) (.slice (some ⟨g2, 0, none⟩) bs.length c2)
    refine bodyPost_ret (results_cell_tmp_own Tryd.results64 _ _ _ _ _ _ (by rfl) (by rfl) o2.cells Tryd.underlying25 rfl (by kernel_rfl)) rfl ?_
    refine ⟨hb9, g1, c1, g2, c2, _, ws, bs, rfl, ?_, ?_, ?_, ?_, hg1, hg2, ?_, ?_⟩
    · first | omega | (rw [List.length_set]; omega)
    · first | omega | (rw [List.length_set]; omega)
    · first | omega | (rw [List.length_set]; omega) | simp
    · exact fun s hs => Nat.le_trans (HSZ.out s hs) (by omega)
    · exact (hrd1.far (p := ⟨w.heap.size + 1, 0, none⟩) (by simp; omega) _).far (p := ⟨w.heap.size + 1, 1, none⟩) (by simp; omega) _
    · exact (hrd2.far (p := ⟨w.heap.size + 1, 0, none⟩) (by simp; omega) _).far (p := ⟨w.heap.size + 1, 1, none⟩) (by simp; omega) _
  have t3 : (y == 3) = false := by simp [j3]
  clear j3
  by_cases j4 : y = 4
  · have t4 : (y == 4) = true := by simp [j4]
    clear j4
    have hp6 : ps.length ≤ 1048576 := by have := HL5.out; omega
    have nb1 : some w.heap.size ≠ (Value.slice (some ⟨g3, 0, none⟩) ps.length c3).ownBlock := by simp [Value.ownBlock]; omega
    have nb2 : some (w.heap.size + 1) ≠ (Value.slice (some ⟨g3, 0, none⟩) ps.length c3).ownBlock := by simp [Value.ownBlock]; omega
    have hne : ¬ w.heap.size = w.heap.size + 1 := by omega
    go_upto_region 12 with fail
    go_wp2_with (first | ((at_builtin; ((with_reducible refine wl_pushG 23 3 inf_int2 Tryd.underlying23 rfl (by omega) cw3.o3 cw3.Bw rfl (by simp [Value.oneCell']) (by omega) (by omega) rfl rfl ?_); intro g7 cap7 w7 o7 gr7 a7 l7 k7)); have obz := ob3.grown gr7 nb1; have orz := orr3.grown gr7 nb2; have u0 := obz.at_ (i := 0) rfl; have u1 := obz.at_ (i := 1) rfl; have y0 := orz.at_ (i := 0) rfl; have y1 := orz.at_ (i := 1) rfl; have z0 := orz.free 0 (by simp); have z1 := orz.free 1 (by simp)))
    have cwz := cw3.push3 o7 gr7 a7
    have hbz := hb3.grown gr7 (by omega) (fun q hq => by simp [Value.ownBlock] at hq; omega)
    have hz5 : w.heap.size + 2 ≤ w7.heap.size := by omega
    have hrd1 : Own w7 g1 (sv ws) := cwz.o1.ow (by first | omega | (rw [List.length_set]; omega))
    have hrd2 : Own w7 g2 (iv bs) := cwz.o2.ow (by first | omega | (rw [List.length_set]; omega))
    have o2 := (orz.set_ (i := 0) (by simp) (.slice (some ⟨g1, 0, none⟩) ws.length c1)).set_ (i := 1) (by simp) (.slice (some ⟨g2, 0, none⟩) bs.length c2)
    have hb9 := (hbz.setCell (p := ⟨w.heap.size + 1, 0, none⟩) (by simp; omega) (.slice (some ⟨g1, 0, none⟩) ws.length c1)).setCell (p := ⟨w.heap.size + 1, 1, none⟩) (by simp; omega) (.slice (some ⟨g2, 0, none⟩) bs.length c2)
    refine bodyPost_ret (results_cell_tmp_own Tryd.results64 _ _ _ _ _ _ (by rfl) (by rfl) o2.cells Tryd.underlying25 rfl (by kernel_rfl)) rfl ?_
    refine ⟨hb9, g1, c1, g2, c2, _, ws, bs, rfl, ?_, ?_, ?_, ?_, hg1, hg2, ?_, ?_⟩
    · first | omega | (rw [List.length_set]; omega)
    · first | omega | (rw [List.length_set]; omega)
    · first | omega | (rw [List.length_set]; omega) | simp
    · exact fun s hs => Nat.le_trans (HSZ.out s hs) (by omega)
    · exact (hrd1.far (p := ⟨w.heap.size + 1, 0, none⟩) (by simp; omega) _).far (p := ⟨w.heap.size + 1, 1, none⟩) (by simp; omega) _
    · exact (hrd2.far (p := ⟨w.heap.size + 1, 0, none⟩) (by simp; omega) _).far (p := ⟨w.heap.size + 1, 1, none⟩) (by simp; omega) _
  have t4 : (y == 4) = false := by simp [j4]
  clear j4
  have cwz := cw3
  have obz := ob3
  have orz := orr3
  have hbz := hb3
  have hz5 := hz3
  have hrd1 : Own w3 g1 (sv ws) := cwz.o1.ow (by first | omega | (rw [List.length_set]; omega))
  have hrd2 : Own w3 g2 (iv bs) := cwz.o2.ow (by first | omega | (rw [List.length_set]; omega))
  have u0 := obz.at_ (i := 0) rfl
  have u1 := obz.at_ (i := 1) rfl
  have y0 := orz.at_ (i := 0) rfl
  have y1 := orz.at_ (i := 1) rfl
  have z0 := orz.free 0 (by simp)
  have z1 := orz.free 1 (by simp)
  have hne : ¬ w.heap.size = w.heap.size + 1 := by omega
  go_wp2_with fail
  have o2 := (orz.set_ (i := 0) (by simp) (.slice (some ⟨g1, 0, none⟩) ws.length c1)).set_ (i := 1) (by simp) (.slice (some ⟨g2, 0, none⟩) bs.length c2)
  have hb9 := (hbz.setCell (p := ⟨w.heap.size + 1, 0, none⟩) (by simp; omega) (.slice (some ⟨g1, 0, none⟩) ws.length c1)).setCell (p := ⟨w.heap.size + 1, 1, none⟩) (by simp; omega) (.slice (some ⟨g2, 0, none⟩) bs.length c2)
  refine bodyPost_ret (results_cell_tmp_own Tryd.results64 _ _ _ _ _ _ (by rfl) (by rfl) o2.cells Tryd.underlying25 rfl (by kernel_rfl)) rfl ?_
  refine ⟨hb9, g1, c1, g2, c2, _, ws, bs, rfl, ?_, ?_, ?_, ?_, hg1, hg2, ?_, ?_⟩
  · first | omega | (rw [List.length_set]; omega)
  · first | omega | (rw [List.length_set]; omega)
  · first | omega | (rw [List.length_set]; omega) | simp
  · exact fun s hs => Nat.le_trans (HSZ.out s hs) (by omega)
  · exact (hrd1.far (p := ⟨w.heap.size + 1, 0, none⟩) (by simp; omega) _).far (p := ⟨w.heap.size + 1, 1, none⟩) (by simp; omega) _
  · exact (hrd2.far (p := ⟨w.heap.size + 1, 0, none⟩) (by simp; omega) _).far (p := ⟨w.heap.size + 1, 1, none⟩) (by simp; omega) _
end Go.Proofs.YtlpfhabfbnjnbaaDoor
