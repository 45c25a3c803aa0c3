/- Several of my texts in one: StepT, Draw, DrawP, Back, DrawM, DrawQ, DrawR. -/
import Derived.Test.YtnnblmibonnpcaaGreatM4
import Derived.Test.YtnnblmibonnpcaaGreatM1
import Derived.Deep.RegionWith
import Derived.OpenShut
import Derived.Deep.RegionLaw
import Derived.Deep.RegionHeld3
import Derived.Deep.DeepCutAuto
import Derived.Laws.Strings2
import Derived.Test.YtnnblmibonnpcaaGreatM2
import Derived.Test.YtnnblmibonnpcaaGreatM3
/- Contracts of StepMany and StepWindows, and of the laws' own comparisons. -/
namespace Go.Proofs.YtnnblmibonnpcaaGreat
open Go.RowKit

/-- What StepMany answers. -/
def stepT (x : Whl) (u : ByteArray) (n : Int) : ByteArray × Bool := if fitB x u = true ∧ 0 ≤ n ∧ n ≤ 2000 then (stepN x n.toNat u, true) else (S [], false)
theorem stepT_no {x : Whl} {u : ByteArray} {n : Int} (h : ¬ (fitB x u = true ∧ 0 ≤ n ∧ n ≤ 2000)) : stepT x u n = (S [], false) := by simp only [stepT, if_neg h]
theorem stepT_yes {x : Whl} {u : ByteArray} {n : Nat} (h : fitB x u = true) (hn : n ≤ 2000) : stepT x u (n : Int) = (stepN x n u, true) := by
  unfold stepT
  rw [if_pos ⟨h, by omega, by omega⟩]; rfl
theorem FitB.step_ {x : Whl} {v : ByteArray} (h : FitB x v) : FitB x (stepW x v) := ⟨h.one, h.three, h.rot, h.refl, by rw [size_stepW]; exact h.size, word_stepW h.word⟩
theorem FitB.stepN_ {x : Whl} : ∀ (n : Nat) {v : ByteArray}, FitB x v → FitB x (Go.Proofs.YtnnblmibonnpcaaGreat.stepN x n v)
  | 0, _, h => h
  | n + 1, _, h => FitB.stepN_ n h.step_
def rcTo (ss tt : List ByteArray) (k : Nat) : Prop := ∀ j (h1 : j < ss.length) (h2 : j < tt.length), j < k → ss[j] = tt[j]
theorem rcTexts_any (a b : Option Addr) (c d : Nat) (ss tt : List ByteArray) (w : World) (h1 : Reads w w.heap.size a (sv ss)) (h2 : Reads w w.heap.size b (sv tt)) (l1 : ss.length ≤ 1048576) :
    Calls Tryz.prog 7 #[.slice a ss.length c, .slice b tt.length d] w fun e w' => e = .returned (.bool (decide (ss = tt))) ∧ ∃ n, w' = w.drewN n := by
  by_cases hl : ss.length = tt.length
  · have t0 : ((ss.length : Int) != (tt.length : Int)) = false := by simp [hl]
    have g1 : ss.length ≤ tt.length := by omega
    have g2 : tt.length ≤ ss.length := by omega
    have HR1 := Lib.hid h1
    have HR2 := Lib.hid h2
    clear hl h1 h2
    go_enter Tryz.func7, Tryz.ntmps7
    go_wp2
    go_loopw [5] (fun i wr => ∃ k n : Nat, k ≤ ss.length ∧ i = .int .i64 k ∧ rcTo ss tt k ∧ wr = w.drewN n) (fun i _ => ss.length - (intOf i).toNat)
    case atStart => exact ⟨0, 0, Nat.zero_le _, rfl, fun _ _ _ h => absurd h (by omega), rfl⟩
    case round =>
      obtain ⟨k, n, hk, rfl, ha, rfl⟩ := hrel
      by_cases hlt : k < ss.length
      · obtain ⟨b1, off1, rfl, hb1, hc1⟩ := HR1.out.open_ (by rw [length_sv]; omega)
        obtain ⟨b2, off2, rfl, hb2, hc2⟩ := HR2.out.open_ (by rw [length_sv]; omega)
        have d1 := hc1 k (by rw [length_sv]; exact hlt)
        have d2 := hc2 k (by rw [length_sv]; omega)
        rw [sv_at hlt] at d1
        rw [sv_at (by omega)] at d2
        clear hc1 hc2
        have q1 : (k : Int) < (ss.length : Int) := by omega
        have q2 : (k : Int) < (tt.length : Int) := by omega
        by_cases he : ss[k] = tt[k]'(by omega)
        · have te : (ss[k].toList == (tt[k]'(by omega)).toList) = true := by rw [he]; simp
          have He := Lib.hid he
          clear he
          go_wp2_with fail
          go_quiet (fail)
          go_wp2
          go_roundw
          case rel =>
            refine ⟨k + 1, _, by omega, by go_num, fun j hj1 hj2 hlt' => ?_, rfl⟩
            by_cases e : j = k
            · subst e; exact He.out
            · exact ha j hj1 hj2 (by omega)
          case measure => simp [intOf]; omega
        · have te : (ss[k].toList == (tt[k]'(by omega)).toList) = false := by
            rw [toList_L, toList_L, beq_eq_false_iff_ne]
            exact fun h => he (L_inj h)
          go_wp2_with fail
          go_quiet (fail)
          go_wp2
          go_ret
          exact ⟨ret_bool (by simp; intro h; exact he (by simp [h])), n + nq, by rw [World.drewN_drewN]⟩
      · go_wp2
        go_ret
        refine ⟨ret_bool ?_, n, rfl⟩
        have : ss = tt := List.ext_getElem (by omega) fun j hj1 hj2 => ha j hj1 hj2 (by omega)
        simp [this]
  · have t0 : ((ss.length : Int) != (tt.length : Int)) = true := by rw [bne_iff_ne]; omega
    have T : Hid (decide (ss = tt) = false) := by show _ = _; simp; intro h; exact hl (by rw [h])
    clear hl
    go_enter Tryz.func7, Tryz.ntmps7
    go_wp2
    go_ret
    exact ⟨ret_bool T.out.symm, 0, rfl⟩
end Go.Proofs.YtnnblmibonnpcaaGreat

/- The reader of an input: its contracts. -/
namespace Go.Proofs.YtnnblmibonnpcaaGreat
open Go.RowKit

/-- n bytes lie at address a, below block B. -/
def Bytes (w : World) (B : Nat) (a : Option Addr) (n : Nat) : Prop :=
  n = 0 ∨ ∃ b off, a = some ⟨b, off, none⟩ ∧ b < B ∧ ∀ i, i < n → ∃ v : Int, 0 ≤ v ∧ v ≤ 255 ∧ w.cell? ⟨b, off + i, none⟩ = some (.int .u8 v)
theorem Bytes.keep {w w' : World} {B : Nat} {a : Option Addr} {n : Nat} (h : Bytes w B a n) (hk : ∀ p : Addr, p.block < B → w'.cell? p = w.cell? p) : Bytes w' B a n := by
  rcases h with h | ⟨b, off, ha, hb, hc⟩
  · exact .inl h
  · exact .inr ⟨b, off, ha, hb, fun i hi => by
      obtain ⟨v, h0, h1, h2⟩ := hc i hi
      exact ⟨v, h0, h1, by rw [hk _ hb]; exact h2⟩⟩

/-- Block R is a reader that has been asked at most c times. -/
def Rd (w : World) (R c : Nat) : Prop :=
  ∃ (a : Option Addr) (n cp : Nat) (p : Int), w.heap[R]? = some (.cells #[.slice a n cp, .int .i64 p] 86 (0, 0)) ∧ n ≤ 2000 ∧ 0 ≤ p ∧ p ≤ c ∧ Bytes w R a n
theorem Rd.lt {w : World} {R c : Nat} (h : Rd w R c) : R < w.heap.size := by
  obtain ⟨a, n, cp, p, h, _⟩ := h
  rcases Nat.lt_or_ge R w.heap.size with hlt | hge
  · exact hlt
  · rw [Array.getElem?_eq_none hge] at h; cases h
theorem Rd.keep {w w' : World} {R c : Nat} (h : Rd w R c) (hb : ∀ k, k ≤ R → w'.heap[k]? = w.heap[k]?) : Rd w' R c := by
  obtain ⟨a, n, cp, p, h, h1, h2, h3, h4⟩ := h
  exact ⟨a, n, cp, p, by rw [hb R (Nat.le_refl _)]; exact h, h1, h2, h3, h4.keep fun p hp => World.cell?_of_block (hb p.block (by omega))⟩
theorem Rd.alloc {w : World} {R c : Nat} (h : Rd w R c) (o : Obj) : Rd (w.alloc o) R c := h.keep fun k hk => Below.heap_alloc w o k (by have := h.lt; omega)
theorem Rd.drew {w : World} {R c : Nat} (h : Rd w R c) : Rd w.drew R c := h.keep fun _ _ => rfl
theorem Rd.below {w w' : World} {R c B : Nat} (h : Rd w R c) (hb : Below B w w') (hB : R < B) : Rd w' R c := h.keep fun k hk => hb.block k (by omega)
theorem Rd.far {w : World} {R c : Nat} (h : Rd w R c) {p : Addr} (hp : R < p.block) (u : Value) : Rd (w.setCell p u) R c := h.keep fun k hk => Below.heap_setCell w p u k (by omega)
theorem Rd.more {w : World} {R c c' : Nat} (h : Rd w R c) (hc : c ≤ c') : Rd w R c' := by
  obtain ⟨a, n, cp, p, h, h1, h2, h3, h4⟩ := h
  exact ⟨a, n, cp, p, h, h1, h2, by omega, h4⟩
theorem Rd.grown {w w' : World} {R c : Nat} {row : Option Nat} (h : Rd w R c) (hg : w.grownBy w' row) (hr : ∀ g, row = some g → R < g) : Rd w' R c :=
  h.keep fun k hk => hg.block k (by have := h.lt; omega) (fun e => by have := hr k e.symm; omega)

/-- From w to w' only the reader R has moved on, and there is new memory. -/
abbrev Moved (R : Nat) (w w' : World) : Prop := w.grownBy w' (some R)
theorem Moved.refl (R : Nat) (w : World) : Moved R w w := World.grownBy.refl w _
theorem Moved.trans {R : Nat} {a b c : World} (h : Moved R a b) (k : Moved R b c) : Moved R a c :=
  ⟨k.os.trans h.os, k.tape.trans h.tape, k.output.trans h.output, Nat.le_trans h.size k.size, fun i hi hne => (k.block i (Nat.lt_of_lt_of_le hi h.size) hne).trans (h.block i hi hne)⟩
theorem Moved.below {R : Nat} {a b c : World} (h : Moved R a b) (k : Below b.heap.size b c) : Moved R a c :=
  ⟨k.os.trans h.os, k.tape.trans h.tape, k.output.trans h.output, Nat.le_trans h.size k.size, fun i hi hne => (k.block i (Nat.lt_of_lt_of_le hi h.size)).trans (h.block i hi hne)⟩
theorem Moved.alloc {R : Nat} {a b : World} (h : Moved R a b) (o : Obj) : Moved R a (b.alloc o) :=
  ⟨h.os, h.tape, h.output, Nat.le_trans h.size (by simp), fun i hi hne => (Below.heap_alloc b o i (Nat.lt_of_lt_of_le hi h.size)).trans (h.block i hi hne)⟩
theorem Moved.drew {R : Nat} {a b : World} (h : Moved R a b) : Moved R a b.drew := ⟨h.os, h.tape, h.output, h.size, h.block⟩
theorem Moved.drewN {R : Nat} {a b : World} (h : Moved R a b) (n : Nat) : Moved R a (b.drewN n) := ⟨h.os, h.tape, h.output, h.size, h.block⟩
theorem Moved.set_ {R : Nat} {a b : World} (h : Moved R a b) {p : Addr} (hp : p.block = R ∨ a.heap.size ≤ p.block) (u : Value) : Moved R a (b.setCell p u) :=
  ⟨h.os, h.tape, h.output, by simpa [World.setCell] using h.size, fun i hi hne => (Below.heap_setCell b p u i (by
    rintro rfl
    rcases hp with hp | hp
    · exact hne (by rw [hp])
    · omega)).trans (h.block i hi hne)⟩

/-- What one question leaves. -/
def PickPost (R : Nat) (n : Int) (c : Nat) (w : World) (e : Ending) (w' : World) : Prop :=
  ∃ v : Int, e = .returned (.int .i64 v) ∧ 0 ≤ v ∧ (1 ≤ n → v < n) ∧ (n < 1 → v = 0) ∧ Rd w' R (c + 1) ∧ Moved R w w'

theorem rd_step {w : World} {R c n cp : Nat} {a : Option Addr} {p : Int} (h : w.heap[R]? = some (.cells #[.slice a n cp, .int .i64 p] 86 (0, 0))) (h1 : n ≤ 2000) (h2 : 0 ≤ p) (h3 : p ≤ c) (h4 : Bytes w R a n) (k : Nat) :
    Rd ((w.setCell ⟨R, 1, none⟩ (.int .i64 (p + 1))).drewN k) R (c + 1) ∧ Moved R w ((w.setCell ⟨R, 1, none⟩ (.int .i64 (p + 1))).drewN k) := by
  refine ⟨⟨a, n, cp, p + 1, ?_, h1, by omega, by omega, h4.keep fun q hq => World.cell?_setCell_other w ⟨R, 1, none⟩ q _ (fun e => by subst e; simp at hq)⟩, ((Moved.refl R w).set_ (.inl rfl) _).drewN k⟩
  show (w.setCell ⟨R, 1, none⟩ (.int .i64 (p + 1))).heap[R]? = _
  simp [World.setCell, Array.getElem?_modify, h]

theorem cell_blk {w : World} {g : Nat} {t : TypeId} {cs : Array Value} {fr : Nat × Nat} (h : w.heap[g]? = some (.cells cs t fr)) (i : Nat) : w.cell? ⟨g, i, none⟩ = cs[i]? := cell_of_row w g i cs t fr h
theorem free_blk {w : World} {g : Nat} {t : TypeId} {cs : Array Value} (h : w.heap[g]? = some (.cells cs t (0, 0))) (i : Nat) : w.frozen? ⟨g, i, none⟩ = false := by simp [World.frozen?, h]

theorem xor_nonneg (a : Int) (h0 : 0 ≤ a) (h1 : a ≤ 4611686018427387904) : ∃ r : Nat, bits .xor .i64 a (a / 64) = (r : Int) ∧ r < 9223372036854775808 := by
  obtain ⟨n, rfl⟩ := Int.eq_ofNat_of_zero_le h0
  have e : ((n : Int) / 64) = ((n / 64 : Nat) : Int) := by omega
  have hx : n ^^^ (n / 64) < 2 ^ 63 := Nat.xor_lt_two_pow (by omega) (by omega)
  exact ⟨n ^^^ (n / 64), by rw [e, i64_xor_nat _ _ (by omega) (by omega)], hx⟩

set_option maxRecDepth 100000 in
theorem pick_any (R : Nat) (n : Int) (c : Nat) (w : World) (h : Rd w R c) (hc : c ≤ 100000000) (hn0 : -4294967296 ≤ n) (hn : n ≤ 4294967296) :
    Calls Tryz.prog 58 #[.pointer (some ⟨R, 0, none⟩), .int .i64 n] w (PickPost R n c w) := by
  obtain ⟨a, l, cp, p, hh, h1, h2, h3, h4⟩ := h
  have c0 : w.cell? ⟨R, 0, none⟩ = some (.slice a l cp) := cell_blk hh 0
  have c1 : w.cell? ⟨R, 1, none⟩ = some (.int .i64 p) := cell_blk hh 1
  have f1 : w.frozen? ⟨R, 1, none⟩ = false := free_blk hh 1
  have hst := Lib.hid (rd_step hh h1 h2 h3 h4)
  clear hh
  by_cases hn1 : n < 1
  · go_enter Tryz.func58, Tryz.ntmps58
    go_wp2
    go_ret
    exact ⟨0, rfl, by omega, by omega, fun _ => rfl, hst.out 0⟩
  · by_cases hl : l = 0
    · have t0 : ((l : Int) == 0) = true := by simp [hl]
      clear hl h4
      go_enter Tryz.func58, Tryz.ntmps58
      go_wp2
      go_ret
      exact ⟨0, rfl, by omega, by omega, fun _ => rfl, hst.out 0⟩
    · have t0 : ((l : Int) == 0) = false := by rw [beq_eq_false_iff_ne]; omega
      rcases h4 with h4 | ⟨b, off, rfl, hb, hby⟩
      · exact absurd h4 hl
      · have hbR : ¬ R = b := by omega
        by_cases hk : p < l
        · obtain ⟨v, hv0, hv1, hv⟩ := hby p.toNat (by omega)
          have Hby := Lib.hid hby
          clear hby
          go_enter Tryz.func58, Tryz.ntmps58
          go_wp2
          go_ret
          exact ⟨v % n, rfl, Int.emod_nonneg _ (by omega), fun _ => Int.emod_lt_of_pos _ (by omega), fun h => absurd h (by omega), hst.out 0⟩
        · obtain ⟨q, rfl⟩ := Int.eq_ofNat_of_zero_le h2
          have hlp : 0 < l := by omega
          have hq : q ≤ 100000000 := by omega
          have hl1 : (1 : Int) ≤ l := by omega
          have m1 := Nat.mod_lt q hlp
          have m2 := Nat.mod_lt (q * 7 + 3) hlp
          have m3 : q / l ≤ q := Nat.div_le_self _ _
          obtain ⟨v, hv0, hv1, hv⟩ := hby (q % l) m1
          obtain ⟨u, hu0, hu1, hu⟩ := hby ((q * 7 + 3) % l) m2
          have Hby := Lib.hid hby
          clear hby
          have i1 : (0 : Int) ≤ (q : Int) % (l : Int) := by omega
          have i2 : (q : Int) % (l : Int) < (l : Int) := Int.emod_lt_of_pos _ (by omega)
          have i3 : ((q : Int) % (l : Int)).toNat = q % l := by omega
          have j1 : (0 : Int) ≤ ((q : Int) * 7 + 3) % (l : Int) := Int.emod_nonneg _ (by omega)
          have j2 : ((q : Int) * 7 + 3) % (l : Int) < (l : Int) := Int.emod_lt_of_pos _ (by omega)
          have j3 : (((q : Int) * 7 + 3) % (l : Int)).toNat = (q * 7 + 3) % l := by
            have : ((q : Int) * 7 + 3) % (l : Int) = (((q * 7 + 3) % l : Nat) : Int) := by rw [Int.natCast_emod]; rfl
            rw [this]; rfl
          have d1 : (0 : Int) ≤ (q : Int) / (l : Int) := Int.ediv_nonneg (by omega) (by omega)
          have d2 : (q : Int) / (l : Int) ≤ (q : Int) := by omega
          obtain ⟨r, hr, hr2⟩ := xor_nonneg (v * 131 + u * 1117 + (q : Int) * 29 + (q : Int) / (l : Int) * 53) (by omega) (by omega)
          go_enter Tryz.func58, Tryz.ntmps58
          go_wp2
          go_quiet (fail)
          go_wp2
          go_ret
          exact ⟨(r : Int) % n, rfl, Int.emod_nonneg _ (by omega), fun _ => Int.emod_lt_of_pos _ (by omega), fun h => absurd h (by omega), hst.out nq⟩

theorem Moved.toBelow {R B : Nat} {a b : World} (h : Moved R a b) (hB : B ≤ R) (hs : B ≤ a.heap.size) : Below B a b :=
  ⟨h.os, h.tape, h.output, h.size, fun k hk => h.block k (by omega) (by simp; omega)⟩
theorem IsRow.bytes {w : World} {a : Option Addr} {len cap : Nat} {zs : List Int} (h : IsRow .u8 w a len cap zs) : ∀ n, n ≤ len → Bytes w w.heap.size a n := by
  intro n hn
  rcases h with ⟨rfl, rfl, rfl, rfl⟩ | ⟨x, rfl, hl, hm, hz, hc, hwf⟩
  · exact .inl (by omega)
  · by_cases h0 : n = 0
    · exact .inl h0
    · obtain ⟨b, off, sp⟩ := x
      have h1 := hc 0 (by omega)
      have hsp : sp = none := by simpa [Addr.add] using World.cell?_spot h1
      subst hsp
      have hb : b < w.heap.size := by
        rcases Nat.lt_or_ge b w.heap.size with hlt | hge
        · exact hlt
        · simp [Addr.add, World.cell?, Array.getElem?_eq_none hge] at h1
      refine .inr ⟨b, off, rfl, hb, fun i hi => ?_⟩
      have h2 := hc i (by omega)
      have hw := hwf (zs.getD i 0) (by
        have : i < zs.length := by omega
        simp only [List.getD, List.getElem?_eq_getElem this, Option.getD_some]
        exact List.getElem_mem _)
      have hbd := bounds_u8 hw
      refine ⟨zs.getD i 0, hbd.1, hbd.2, ?_⟩
      rw [← h2]
      congr 1
      unfold Addr.add
      split
      · rename_i hi0; subst hi0; rfl
      · rfl

theorem l21Open_any (a : Option Addr) (len cap : Nat) (zs : List Int) (w : World) (h : IsRow .u8 w a len cap zs) (hl : len ≤ 1048576) :
    Calls Tryz.prog 30 #[.slice a len cap] w fun e w' => e = .returned (.pointer (some ⟨w.heap.size, 0, none⟩)) ∧ Rd w' w.heap.size 0 ∧ Below w.heap.size w w' := by
  have hcap : len ≤ cap := by
    rcases h with ⟨rfl, rfl, rfl, rfl⟩ | ⟨x, rfl, hl, _⟩
    · exact Nat.le_refl _
    · exact hl
  have hby := Lib.hid h.bytes
  clear h
  by_cases h2 : 2000 < len
  · go_enter Tryz.func30, Tryz.ntmps30
    go_wp2
    go_ret
    refine ⟨rfl, ⟨a, 2000, cap, 0, heap_alloc_new w _, by omega, by omega, by omega, (hby.out 2000 (by omega)).keep fun p hp => World.cell?_alloc_lt w _ p hp⟩, (Below.refl _ _).alloc (Nat.le_refl _) _⟩
  · go_enter Tryz.func30, Tryz.ntmps30
    go_wp2
    go_ret
    refine ⟨rfl, ⟨a, len, cap, 0, heap_alloc_new w _, by omega, by omega, by omega, (hby.out len (by omega)).keep fun p hp => World.cell?_alloc_lt w _ p hp⟩, (Below.refl _ _).alloc (Nat.le_refl _) _⟩

/-- What a question for an element leaves. -/
def OfPost (R : Nat) (ss : List ByteArray) (c : Nat) (w : World) (e : Ending) (w' : World) : Prop :=
  ∃ s, s ∈ ss ∧ e = .returned (.string s) ∧ Rd w' R (c + 1) ∧ Moved R w w'
theorem of_any (R g n cp : Nat) (ss : List ByteArray) (c : Nat) (w : World) (hn : ss.length = n) (ho : Own w g (sv ss)) (h0 : 0 < ss.length) (hg : g ≠ R) (h : Rd w R c) (hc : c ≤ 100000000) (hl : ss.length ≤ 1000) :
    Calls Tryz.prog 106 #[.pointer (some ⟨R, 0, none⟩), .slice (some ⟨g, 0, none⟩) n cp] w (OfPost R ss c w) := by
  subst hn
  go_enter Tryz.func106, Tryz.ntmps106
  go_wp2_with fail
  refine (pick_any R _ c w h hc (by omega) (by omega)).mono ?_
  rintro e w1 ⟨v, rfl, hv0, hv1, _, hr, hm⟩
  obtain ⟨k, rfl⟩ := Int.eq_ofNat_of_zero_le hv0
  have hk : k < ss.length := by have := hv1 (by omega); omega
  have hc1 : w1.cell? ⟨g, k, none⟩ = some (.string ss[k]) := (ho.grown hm (by simpa using hg)).at_ (sv_at hk)
  clear hv1
  go_wp2
  go_ret
  exact ⟨ss[k], List.getElem_mem _, rfl, hr, hm⟩

/-- The cells of some numbers. -/
def iv (ns : List Int) : List Value := ns.map (.int .i64)
theorem length_iv (ns : List Int) : (iv ns).length = ns.length := by simp [iv]
theorem iv_at {ns : List Int} {i : Nat} (h : i < ns.length) : (iv ns)[i]? = some (.int .i64 ns[i]) := by simp [iv, List.getElem?_eq_getElem h]
def NumPost (R : Nat) (ns : List Int) (c : Nat) (w : World) (e : Ending) (w' : World) : Prop :=
  ∃ n, n ∈ ns ∧ e = .returned (.int .i64 n) ∧ Rd w' R (c + 1) ∧ Moved R w w'
end Go.Proofs.YtnnblmibonnpcaaGreat

/- Contracts of the functions that draw words and permutations. -/
namespace Go.Proofs.YtnnblmibonnpcaaGreat
open Go.RowKit

theorem sl_one (s : ByteArray) (i : Nat) (h : i < s.size) (W : World) : (Instr.slice 9 (.string s) (some (.int .i64 (i : Int))) (some (.int .i64 ((i : Int) + 1))) none).run Tryz.prog W = .ok (.string (s.extract i (i + 1))) W :=
  run_slice_string W 9 s .i64 .i64 i (i + 1) Tryz.underlying9 (by omega) (by omega) (by omega)
theorem sl_to (s : ByteArray) (j : Nat) (h : j ≤ s.size) (W : World) : (Instr.slice 9 (.string s) none (some (.int .i64 (j : Int))) none).run Tryz.prog W = .ok (.string (s.extract 0 j)) W :=
  run_slice_string_h W 9 s Tryz.underlying9 .i64 j (by omega) (by omega)
theorem sl_from (s : ByteArray) (i : Nat) (h : i ≤ s.size) (W : World) : (Instr.slice 9 (.string s) (some (.int .i64 (i : Int))) none none).run Tryz.prog W = .ok (.string (s.extract i s.size)) W :=
  run_slice_string_l W 9 s Tryz.underlying9 .i64 i (by omega) (by omega)
theorem sl_next (s : ByteArray) (i : Nat) (h : i < s.size) (W : World) : (Instr.slice 9 (.string s) (some (.int .i64 ((i : Int) + 1))) none none).run Tryz.prog W = .ok (.string (s.extract (i + 1) s.size)) W :=
  run_slice_string_l W 9 s Tryz.underlying9 .i64 ((i : Int) + 1) (by omega) (by omega)

/-- What the drawing of a string leaves: a string with P. -/
def StrP (R : Nat) (P : ByteArray → Prop) (c : Nat) (w : World) (e : Ending) (w' : World) : Prop :=
  ∃ s : ByteArray, P s ∧ e = .returned (.string s) ∧ Rd w' R c ∧ Moved R w w'
/-- A word of n letters. -/
def Wd (n : Nat) (s : ByteArray) : Prop := wordB s = true ∧ s.size = n
theorem wd_of {l : List UInt8} (h : l.all isL = true) (hl : l.length ≤ 200) : Wd l.length (S l) := by
  refine ⟨?_, size_S l⟩
  simp only [wordB, Bool.and_eq_true, decide_eq_true_eq]
  exact ⟨by rw [size_S]; exact hl, by rw [L_S]; exact h⟩
theorem Wd.app {a b : ByteArray} {m n : Nat} (h : Wd m a) (k : Wd n b) (hl : m + n ≤ 200) : Wd (m + n) (a ++ b) := by
  obtain ⟨h1, h2⟩ := h
  obtain ⟨k1, k2⟩ := k
  have e : a ++ b = S (L a ++ L b) := L_inj (by rw [L_append, L_S])
  simp only [wordB, Bool.and_eq_true] at h1 k1
  have := wd_of (l := L a ++ L b) (by rw [List.all_append, h1.2, k1.2]; rfl) (by rw [List.length_append, size_L, size_L]; omega)
  rw [List.length_append, size_L, size_L, h2, k2, ← e] at this
  exact this
theorem Wd.letr (n : Int) : Wd 1 (S [letr n]) := wd_of (l := [Go.Proofs.YtnnblmibonnpcaaGreat.letr n]) (by simp [isL_letr]) (by simp)
theorem Wd.nil : Wd 0 ⟨#[]⟩ := wd_of (l := []) rfl (by simp)
theorem Wd.ext {s : ByteArray} {n : Nat} (h : Wd n s) (a b : Nat) (hb : b ≤ n) : Wd (b - a) (s.extract a b) := by
  obtain ⟨h1, h2⟩ := h
  simp only [wordB, Bool.and_eq_true, decide_eq_true_eq] at h1
  have hl : L (s.extract a b) = ((L s).take b).drop a := L_extract s a b
  have hal : (((L s).take b).drop a).all isL = true := by
    rw [List.all_eq_true] at *
    intro x hx
    exact h1.2 x (List.mem_of_mem_take (List.mem_of_mem_drop hx))
  have hlen : (((L s).take b).drop a).length = b - a := by simp [size_L]; omega
  have := wd_of hal (by omega)
  rw [hlen, ← hl, S_L] at this
  exact this

theorem l1Some_any (R : Nat) (n : Nat) (c : Nat) (w : World) (h : Rd w R c) (hc : c ≤ 10000000) (hn : n ≤ 200) :
    Calls Tryz.prog 56 #[.pointer (some ⟨R, 0, none⟩), .int .i64 (n : Int)] w (StrP R (Wd n) (c + n) w) := by
  go_enter Tryz.func56, Tryz.ntmps56
  go_wp2
  go_loopw [5, 6] (fun o i wr => ∃ (k : Nat) (s : ByteArray), k ≤ n ∧ i = .int .i64 k ∧ o = .string s ∧ Wd k s ∧ Rd wr R (c + k) ∧ Moved R w wr) (fun _ i _ => n - (intOf i).toNat)
  case atStart => exact ⟨0, ⟨#[]⟩, by omega, rfl, rfl, Wd.nil, h, Moved.refl _ _⟩
  case round =>
    obtain ⟨k, s, hk, rfl, rfl, hs, hr, hm⟩ := hrel
    have HS := Lib.hid hs
    have hsz : s.size ≤ 200 := by rw [hs.2]; omega
    clear hs
    by_cases hlt : k < n
    · go_wp2_with fail
      refine (pick_any R _ (c + k) _ hr (by omega) (by omega) (by omega)).mono ?_
      rintro e w2 ⟨v, rfl, hv0, hv1, _, hr2, hm2⟩
      clear hv1
      have hs1 : (S [letr v]).size ≤ 1 := by rw [size_S]; simp
      go_wp2_with (go_at_call 69; ((with_reducible refine (l1Letter_any _ _).mono ?_); rintro e w3 ⟨rfl, hb3⟩))
      go_roundw
      case rel => exact ⟨k + 1, s ++ S [letr v], by omega, by go_num, rfl, HS.out.app (Wd.letr v) (by omega), hr2.below hb3 hr2.lt, (hm.trans hm2).below hb3⟩
      case measure => simp [intOf]; omega
    · have hk' : k = n := by omega
      subst hk'
      go_wp2
      go_ret
      exact ⟨s, HS.out, rfl, hr, hm⟩

theorem specIdentityPerm_any (w : World) :
    Calls Tryz.prog 82 #[] w fun e w' => e = .returned (.string (wd idP)) ∧ Below w.heap.size w w' := by
  go_enter Tryz.func82, Tryz.ntmps82
  go_wp2
  go_loopw [1, 2] (fun o i wr => ∃ k : Nat, k ≤ 10 ∧ i = .int .i64 k ∧ o = .string (wd (List.range k)) ∧ Below w.heap.size w wr) (fun _ i _ => 10 - (intOf i).toNat)
  case atStart => exact ⟨0, by omega, rfl, rfl, Below.refl _ _⟩
  case round =>
    obtain ⟨k, hk, rfl, rfl, hb⟩ := hrel
    have hsz : (wd (List.range k)).size ≤ 10 := by rw [size_wd]; simp; omega
    have hs1 : (S [letr (k : Int)]).size ≤ 1 := by rw [size_S]; simp
    by_cases hlt : k < 10
    · go_wp2_with (go_at_call 69; ((with_reducible refine (l1Letter_any _ _).mono ?_); rintro e w1 ⟨rfl, hb1⟩))
      go_roundw
      case rel => exact ⟨k + 1, by omega, by go_num, by rw [List.range_succ, wd_snoc], bt hb hb1⟩
      case measure => simp [intOf]; omega
    · have hk' : k = 10 := by omega
      subst hk'
      go_wp2
      go_ret
      exact ⟨rfl, hb⟩

/-- A word, n added to its letters. -/
def shW (s : ByteArray) (n : Int) : ByteArray := S ((L s).map fun c => letr (dig c + n))
theorem size_shW (s : ByteArray) (n : Int) : (shW s n).size = s.size := by simp [shW, size_S, size_L]
theorem specShiftWord_any (s : ByteArray) (n : Int) (w : World) (hs : wordB s = true) (h0 : 0 ≤ n) (h9 : n ≤ 9) :
    Calls Tryz.prog 123 #[.string s, .int .i64 n] w fun e w' => e = .returned (.string (shW s n)) ∧ Below w.heap.size w w' := by
  have hb200 := wordB_size hs
  have hwv := fun W => specWordValid_any s W (by omega)
  rw [hs] at hwv
  have hin := fun W => l1In_any n 0 9 W
  have e1 : (decide ((0 : Int) ≤ n) && decide (n ≤ 9)) = true := by simp; omega
  rw [e1] at hin
  clear e1
  go_enter Tryz.func123, Tryz.ntmps123
  go_wp2_with (first | (go_at_call 38; ((with_reducible refine (hwv _).mono ?_); rintro e w' ⟨rfl, rfl⟩)) | (go_at_call 65; ((with_reducible refine (hin _).mono ?_); rintro e w' ⟨rfl, rfl⟩)))
  go_loopw [5, 6] (fun o i wr => ∃ k : Nat, k ≤ s.size ∧ i = .int .i64 k ∧ o = .string (S (((L s).map fun c => letr (dig c + n)).take k)) ∧ Below w.heap.size w wr) (fun _ i _ => s.size - (intOf i).toNat)
  case atStart => exact ⟨0, by omega, rfl, rfl, Below.refl _ _⟩
  case round =>
    clear hwv hin
    obtain ⟨k, hk, rfl, rfl, hb⟩ := hrel
    have hsz : (S (((L s).map fun c => letr (dig c + n)).take k)).size ≤ 200 := by rw [size_S]; have := List.length_take_le k ((L s).map fun c => letr (dig c + n)); omega
    by_cases hlt : k < s.size
    · have hd := dig_bd s[k]
      have hs1 : (S [letr (dig s[k] + n)]).size ≤ 1 := by rw [size_S]; simp
      have hsk : s[(k : Int).toNat]'(by omega) = s[k] := by simp
      have hdg := fun W => l1Digit_any s k W (by omega) (by omega) (by omega)
      rw [hsk] at hdg
      have HT := Lib.hid (show ((L s).map fun c => letr (dig c + n)).take (k + 1) = ((L s).map fun c => letr (dig c + n)).take k ++ [letr (dig s[k] + n)] by
        rw [List.take_succ_eq_append_getElem (by simpa [size_L] using hlt)]; simp [getElem_L])
      clear hsk
      go_wp2_with (first | (go_at_call 66; ((with_reducible refine (hdg _).mono ?_); rintro e w' ⟨rfl, rfl⟩)) | (go_at_call 69; ((with_reducible refine (l1Letter_any _ _).mono ?_); rintro e w1 ⟨rfl, hb1⟩)))
      go_roundw
      case rel => exact ⟨k + 1, by omega, by go_num, by rw [HT.out, S_append], bt hb hb1⟩
      case measure => simp [intOf]; omega
    · go_wp2
      go_ret
      refine ⟨ret_str ?_, hb⟩
      rw [List.take_of_length_le (by simp [size_L]; omega)]; rfl
theorem rev_step {s : ByteArray} {j : Nat} (h : j < s.size) : S ((L s).drop (j + 1)).reverse ++ s.extract j (j + 1) = S ((L s).drop j).reverse := by
  apply L_inj
  have hj : j < (L s).length := by rw [size_L]; exact h
  have e : ((L s).take (j + 1)).drop j = [(L s)[j]] := by
    rw [List.take_succ_eq_append_getElem hj, List.drop_append_of_le_length (by simp; omega), List.drop_eq_nil_of_le (by simp; omega)]; rfl
  rw [L_append, L_S, L_S, L_extract, e]
  conv => rhs; rw [List.drop_eq_getElem_cons hj, List.reverse_cons]
set_option maxRecDepth 100000 in
theorem specReverseWord_any (s : ByteArray) (w : World) (hs : wordB s = true) :
    Calls Tryz.prog 131 #[.string s] w fun e w' => e = .returned (.string (S (L s).reverse)) ∧ w = w' := by
  have hb200 := wordB_size hs
  have hwv := fun W => specWordValid_any s W (by omega)
  rw [hs] at hwv
  go_enter Tryz.func131, Tryz.ntmps131
  go_wp2_with (go_at_call 38; ((with_reducible refine (hwv _).mono ?_); rintro e w' ⟨rfl, rfl⟩))
  go_loop [3, 4] (fun o i => ∃ k : Nat, k ≤ s.size ∧ i = .int .i64 ((k : Int) - 1) ∧ o = .string (S ((L s).drop k).reverse)) (fun _ i => (intOf i + 1).toNat)
  case atStart => exact ⟨s.size, Nat.le_refl _, rfl, by rw [List.drop_of_length_le (by rw [size_L]; omega)]; rfl⟩
  case round =>
    clear hwv
    obtain ⟨k, hk, rfl, rfl⟩ := hrel
    have hsz : (S ((L s).drop k).reverse).size ≤ 200 := by rw [size_S]; simp [size_L]; omega
    by_cases hlt : 0 < k
    · obtain ⟨j, rfl⟩ : ∃ j, k = j + 1 := ⟨k - 1, by omega⟩
      have q1 : (((j + 1 : Nat)) : Int) - 1 = (j : Int) := by omega
      have HX := Lib.hid (rev_step (show j < s.size by omega))
      have hx1 : (s.extract j (j + 1)).size ≤ 1 := by simp; omega
      rw [q1]
      clear q1
      have hsl := sl_one s j (by omega)
      go_wp2
      go_round
      case rel => exact ⟨j, by omega, rfl, by rw [HX.out]⟩
      case measure => simp [intOf]
    · have hk0 : k = 0 := by omega
      subst hk0
      go_wp2
      go_ret
      exact ⟨rfl, rfl⟩
end Go.Proofs.YtnnblmibonnpcaaGreat

/- Plain laws on the windows from which a step leads to given ones. -/
namespace Go.Proofs.YtnnblmibonnpcaaGreat

/-- The k last digits of a number. -/
def vwL : Nat → Nat → List Nat
  | 0, _ => []
  | k + 1, n => vwL k (n / 10) ++ [n % 10]
theorem len_vwL : ∀ k n, (vwL k n).length = k
  | 0, _ => rfl
  | k + 1, n => by simp [vwL, len_vwL k]
theorem vwL_lt : ∀ k n, ∀ x ∈ vwL k n, x < 10
  | 0, _, x, h => by simp [vwL] at h
  | k + 1, n, x, h => by
    simp only [vwL, List.mem_append, List.mem_singleton] at h
    rcases h with h | h
    · exact vwL_lt k _ x h
    · omega
theorem lex_left {a b : List UInt8} (c d : List UInt8) : a.length = b.length → a < b → a ++ c < b ++ d := by
  induction a generalizing b with
  | nil => intro hl h; cases b with
    | nil => exact absurd h (List.lt_irrefl [])
    | cons _ _ => simp at hl
  | cons x a ih => intro hl h; cases b with
    | nil => simp at hl
    | cons y b =>
      rw [List.cons_lt_cons_iff] at h
      simp only [List.cons_append, List.cons_lt_cons_iff]
      rcases h with h | ⟨rfl, h⟩
      · exact .inl h
      · exact .inr ⟨rfl, ih (by simpa using hl) h⟩
theorem lex_right (a : List UInt8) {c d : List UInt8} (h : c < d) : a ++ c < a ++ d := by
  induction a with
  | nil => exact h
  | cons x a ih => simp only [List.cons_append, List.cons_lt_cons_iff]; exact .inr ⟨trivial, ih⟩
theorem L_wd (l : List Nat) : L (wd l) = l.map fun n : Nat => letr (n : Int) := by unfold wd; rw [L_S]
theorem vwL_mono : ∀ k m n, m < n → n < 10 ^ k → L (wd (vwL k m)) < L (wd (vwL k n))
  | 0, m, n, h, hn => by simp at hn; omega
  | k + 1, m, n, h, hn => by
    rw [L_wd, L_wd]
    simp only [vwL, List.map_append]
    by_cases hq : m / 10 < n / 10
    · have := vwL_mono k (m / 10) (n / 10) hq (by rw [Nat.pow_succ] at hn; omega)
      rw [L_wd, L_wd] at this
      exact lex_left _ _ (by simp [len_vwL]) this
    · have he : m / 10 = n / 10 := by omega
      rw [he]
      refine lex_right _ ?_
      simp only [List.map_cons, List.map_nil, List.cons_lt_cons_iff]
      refine .inl (UInt8.lt_iff_toNat_lt.2 ?_)
      rw [letr_toNat, letr_toNat]; omega
theorem vwL_all : ∀ (k : Nat) (l : List Nat), l.length = k → (∀ x ∈ l, x < 10) → ∃ n, n < 10 ^ k ∧ vwL k n = l
  | 0, l, hl, _ => ⟨0, by simp, by simp [vwL, List.eq_nil_of_length_eq_zero hl]⟩
  | k + 1, l, hl, h => by
    obtain ⟨l', x, rfl⟩ : ∃ l' x, l = l' ++ [x] := ⟨l.dropLast, l.getLast (by intro e; simp [e] at hl), (List.dropLast_concat_getLast _).symm⟩
    obtain ⟨n, hn, e⟩ := vwL_all k l' (by simpa using hl) (fun y hy => h y (by simp [hy]))
    have hx := h x (by simp)
    refine ⟨n * 10 + x, by rw [Nat.pow_succ]; omega, ?_⟩
    simp only [vwL]
    rw [show (n * 10 + x) / 10 = n by omega, show (n * 10 + x) % 10 = x by omega, e]

/-- The first N words of a length, those that a step leads to v. -/
def backTo (x : Whl) (v : ByteArray) (N : Nat) : List ByteArray := ((List.range N).map fun k => wd (vwL v.size k)).filter fun u => decide (stepW x u = v)
theorem backTo_yes {x : Whl} {v : ByteArray} {k : Nat} (h : stepW x (wd (vwL v.size k)) = v) : backTo x v (k + 1) = backTo x v k ++ [wd (vwL v.size k)] := by
  simp [backTo, List.range_succ, List.filter_append, h]
theorem backTo_no {x : Whl} {v : ByteArray} {k : Nat} (h : stepW x (wd (vwL v.size k)) ≠ v) : backTo x v (k + 1) = backTo x v k := by
  simp [backTo, List.range_succ, List.filter_append, h]
theorem backTo_len (x : Whl) (v : ByteArray) (N : Nat) : (backTo x v N).length ≤ N := by
  have := List.length_filter_le (fun u => decide (stepW x u = v)) ((List.range N).map fun k => wd (vwL v.size k))
  simpa [backTo] using this
/-- What StepsBack answers. -/
def backS (x : Whl) (v : ByteArray) : List ByteArray := if fitB x v = true then backTo x v (10 ^ v.size) else []
theorem mem_backTo {x : Whl} {v u : ByteArray} (hs : v.size ≤ 200) : u ∈ backTo x v (10 ^ v.size) ↔ wordB u = true ∧ u.size = v.size ∧ stepW x u = v := by
  simp only [backTo, List.mem_filter, List.mem_map, List.mem_range, decide_eq_true_eq]
  constructor
  · rintro ⟨⟨k, hk, rfl⟩, h⟩
    exact ⟨word_wd (by rw [len_vwL]; exact hs), by rw [size_wd, len_vwL], h⟩
  · rintro ⟨h1, h2, h3⟩
    obtain ⟨n, hn, e⟩ := vwL_all v.size (dg u) (by rw [len_dg, h2]) (word_dg_lt h1)
    exact ⟨⟨n, hn, by rw [e, wd_dg h1]⟩, h3⟩
theorem backTo_asc (x : Whl) (v : ByteArray) : (backTo x v (10 ^ v.size)).Pairwise fun a b => L a < L b := by
  refine List.Pairwise.filter _ (List.pairwise_map.2 ?_)
  refine (List.pairwise_lt_range).imp_of_mem fun {a b} ha hb hab => ?_
  exact vwL_mono _ _ _ hab (by simpa using hb)

/-- The windows before a step that has moved the last rotor and those that m tells. -/
def befW (v : ByteArray) (m : Nat) : ByteArray := S ((List.range v.size).map fun i => if i + 1 = v.size ∨ m.testBit i = true then letr (dig (byteAt v i) + 9) else byteAt v i)
theorem size_befW (v : ByteArray) (m : Nat) : (befW v m).size = v.size := by simp [befW, size_S]
theorem byteAt_befW {v : ByteArray} {m i : Nat} (h : i < v.size) : byteAt (befW v m) i = if i + 1 = v.size ∨ m.testBit i = true then letr (dig (byteAt v i) + 9) else byteAt v i := by
  simp [byteAt, befW, L_S, List.getD, h]
theorem word_befW {v : ByteArray} (h : wordB v = true) (m : Nat) : wordB (befW v m) = true := by
  simp only [wordB, Bool.and_eq_true, decide_eq_true_eq] at h ⊢
  refine ⟨by rw [size_befW]; exact h.1, ?_⟩
  unfold befW
  rw [L_S, List.all_eq_true]
  intro c hc
  obtain ⟨i, hi, rfl⟩ := List.mem_map.1 hc
  have hi : i < v.size := by simpa using hi
  split
  · exact isL_letr _
  · rw [byteAt_get hi]; exact all_at h.2 i hi
theorem byteAt_word {v : ByteArray} (h : wordB v = true) {i : Nat} (hi : i < v.size) : 0 ≤ dig (byteAt v i) ∧ dig (byteAt v i) ≤ 9 := by rw [byteAt_get hi]; exact wordB_at h i hi
theorem bytes_ext {a b : ByteArray} (hs : a.size = b.size) (h : ∀ i, i < a.size → byteAt a i = byteAt b i) : a = b := by
  apply L_inj
  refine List.ext_getElem (by rw [size_L, size_L, hs]) fun i h1 h2 => ?_
  have h1' : i < a.size := by rw [size_L] at h1; exact h1
  have := h i h1'
  rwa [byteAt_get h1', byteAt_get (by omega)] at this
theorem letr_dig {c : UInt8} (h : 0 ≤ dig c ∧ dig c ≤ 9) : letr (dig c) = c := by
  have := letr_of_dig ((isL_iff c).2 h)
  rwa [Int.toNat_of_nonneg h.1] at this
theorem letr_eq {m n : Int} : letr m = letr n ↔ m % 10 = n % 10 := by
  constructor
  · intro h; have := congrArg dig h; rwa [dig_letr, dig_letr] at this
  · intro h; apply UInt8.toNat.inj; rw [letr_toNat, letr_toNat, h]
theorem befW_inj {v : ByteArray} (h : wordB v = true) {m n : Nat} (hm : m < 2 ^ (v.size - 1)) (hn : n < 2 ^ (v.size - 1)) (e : befW v m = befW v n) : m = n := by
  refine Nat.eq_of_testBit_eq fun i => ?_
  by_cases hi : i < v.size - 1
  · have h1 := congrArg (fun s => byteAt s i) e
    simp only [byteAt_befW (show i < v.size by omega)] at h1
    have hw := byteAt_word h (show i < v.size by omega)
    have hd := letr_dig hw
    have hne : letr (dig (byteAt v i) + 9) ≠ byteAt v i := fun he => by
      rw [← hd, letr_eq, dig_letr] at he; omega
    have hl : ¬ i + 1 = v.size := by omega
    simp only [hl, false_or] at h1
    cases h2 : m.testBit i <;> cases h3 : n.testBit i
    · rfl
    · rw [h2, h3] at h1; simp at h1; exact absurd h1.symm hne
    · rw [h2, h3] at h1; simp at h1; exact absurd h1 hne
    · rfl
  · have hp : 2 ^ (v.size - 1) ≤ 2 ^ i := Nat.pow_le_pow_right (by omega) (by omega)
    rw [Nat.testBit_lt_two_pow (by omega), Nat.testBit_lt_two_pow (by omega)]
/-- Where a step leads to v it has come from one of these. -/
theorem befW_all {x : Whl} {v u : ByteArray} (h1 : 1 ≤ v.size) (h3 : v.size ≤ 3) (hu : wordB u = true) (hs : u.size = v.size) (e : stepW x u = v) : ∃ m, m < 2 ^ (v.size - 1) ∧ befW v m = u := by
  obtain ⟨m, hm, hb⟩ : ∃ m, m < 2 ^ (v.size - 1) ∧ ∀ i, i < v.size - 1 → m.testBit i = mvB x u i := by
    have : v.size = 1 ∨ v.size = 2 ∨ v.size = 3 := by omega
    rcases this with h | h | h
    · exact ⟨0, by rw [h]; decide, fun i hi => absurd hi (by omega)⟩
    · refine ⟨if mvB x u 0 then 1 else 0, by rw [h]; split <;> decide, fun i hi => ?_⟩
      obtain rfl : i = 0 := by omega
      cases mvB x u 0 <;> rfl
    · refine ⟨(if mvB x u 0 then 1 else 0) + (if mvB x u 1 then 2 else 0), by rw [h]; split <;> split <;> decide, fun i hi => ?_⟩
      have : i = 0 ∨ i = 1 := by omega
      rcases this with rfl | rfl <;> cases mvB x u 0 <;> cases mvB x u 1 <;> rfl
  refine ⟨m, hm, bytes_ext (by rw [size_befW, hs]) fun i hi => ?_⟩
  rw [size_befW] at hi
  have hw := byteAt_word hu (show i < u.size by omega)
  have hd := letr_dig hw
  have hst := byteAt_stepW (w := x) (v := u) (show i < u.size by omega)
  rw [e] at hst
  rw [byteAt_befW hi]
  by_cases hl : i + 1 = v.size
  · have hmv : mvB x u i = true := by simp [mvB, hs, hl]
    rw [hmv] at hst
    rw [if_pos (.inl hl), hst]
    simp only [if_true]
    conv => rhs; rw [← hd]
    rw [letr_eq, dig_letr]; omega
  · rw [hst, hb i (by omega)]
    cases hmv : mvB x u i
    · simp [hl]
    · simp only [hl, false_or, if_true]
      conv => rhs; rw [← hd]
      rw [letr_eq, dig_letr]; omega

/-- What the program collects, before it sorts. -/
def befTo (x : Whl) (v : ByteArray) (M : Nat) : List ByteArray := ((List.range M).map (befW v)).filter fun u => decide (stepW x u = v)
theorem befTo_yes {x : Whl} {v : ByteArray} {k : Nat} (h : stepW x (befW v k) = v) : befTo x v (k + 1) = befTo x v k ++ [befW v k] := by
  simp [befTo, List.range_succ, List.filter_append, h]
theorem befTo_no {x : Whl} {v : ByteArray} {k : Nat} (h : stepW x (befW v k) ≠ v) : befTo x v (k + 1) = befTo x v k := by
  simp [befTo, List.range_succ, List.filter_append, h]
theorem befTo_len (x : Whl) (v : ByteArray) (M : Nat) : (befTo x v M).length ≤ M := by
  have := List.length_filter_le (fun u => decide (stepW x u = v)) ((List.range M).map (befW v))
  simpa [befTo] using this
theorem perm_nodup {α : Type} [DecidableEq α] {a b : List α} (n1 : a.Nodup) (n2 : b.Nodup) (hm : ∀ u, u ∈ a ↔ u ∈ b) : a.Perm b := by
  rw [List.perm_iff_count]
  intro u
  have c1 := List.nodup_iff_count.1 n1 u
  have c2 := List.nodup_iff_count.1 n2 u
  by_cases hu : u ∈ a
  · have h1 := List.count_pos_iff.2 hu
    have h2 := List.count_pos_iff.2 ((hm u).1 hu)
    omega
  · rw [List.count_eq_zero_of_not_mem hu, List.count_eq_zero_of_not_mem fun h => hu ((hm u).2 h)]
theorem perm_back {x : Whl} {v : ByteArray} (h : FitB x v) : (befTo x v (2 ^ (v.size - 1))).Perm (backTo x v (10 ^ v.size)) := by
  have h1 : 1 ≤ v.size := by rw [h.size]; exact h.one
  have h3 : v.size ≤ 3 := by rw [h.size]; exact h.three
  have n1 : (befTo x v (2 ^ (v.size - 1))).Nodup := by
    refine List.Pairwise.filter _ (List.pairwise_map.2 ?_)
    refine (List.pairwise_lt_range).imp_of_mem fun {a b} ha hb hab e => ?_
    have := befW_inj h.word (by simpa using ha) (by simpa using hb) e
    omega
  have n2 : (backTo x v (10 ^ v.size)).Nodup := (backTo_asc x v).imp fun {a b} hab e => by
    subst e; exact absurd hab (List.lt_irrefl _)
  have hm : ∀ u, u ∈ befTo x v (2 ^ (v.size - 1)) ↔ u ∈ backTo x v (10 ^ v.size) := fun u => by
    rw [mem_backTo (by omega)]
    simp only [befTo, List.mem_filter, List.mem_map, List.mem_range, decide_eq_true_eq]
    constructor
    · rintro ⟨⟨m, hm, rfl⟩, e⟩
      exact ⟨word_befW h.word m, size_befW v m, e⟩
    · rintro ⟨hu, hs, e⟩
      obtain ⟨m, hm, rfl⟩ := befW_all h1 h3 hu hs e
      exact ⟨⟨m, hm, rfl⟩, e⟩
  exact perm_nodup n1 n2 hm
/-- Sorted, both are the same. -/
theorem sort_back {x : Whl} {v : ByteArray} (h : FitB x v) : ((befTo x v (2 ^ (v.size - 1))).map L).mergeSort (fun a b => decide (a ≤ b)) = (backTo x v (10 ^ v.size)).map L := by
  refine List.Perm.eq_of_pairwise (le := fun a b => decide (a ≤ b) = true) (fun a b _ _ h1 h2 => ?_) ?_ ?_ ?_
  · exact List.le_antisymm (by simpa using h1) (by simpa using h2)
  · refine List.pairwise_mergeSort (fun a b c h1 h2 => ?_) (fun a b => ?_) _
    · simp only [decide_eq_true_eq] at *; exact List.le_trans h1 h2
    · simp only [Bool.or_eq_true, decide_eq_true_eq]; exact List.le_total a b
  · refine List.pairwise_map.2 ((backTo_asc x v).imp fun {a b} hab => ?_)
    simpa using List.le_of_lt hab
  · exact (List.mergeSort_perm _ _).trans ((perm_back h).map L)
theorem backS_few (x : Whl) (v : ByteArray) : (backS x v).length ≤ 4 ∧ ∀ s ∈ backS x v, s.size ≤ 200 := by
  unfold backS
  split
  · rename_i h
    have hf := fitB_iff.1 h
    have h3 : v.size ≤ 3 := by rw [hf.size]; exact hf.three
    refine ⟨?_, fun s hs => ?_⟩
    · rw [← (perm_back hf).length_eq]
      refine Nat.le_trans (befTo_len _ _ _) ?_
      exact Nat.pow_le_pow_right (n := 2) (by omega) (show v.size - 1 ≤ 2 by omega)
    · have := (mem_backTo (by omega)).1 hs
      omega
  · simp
end Go.Proofs.YtnnblmibonnpcaaGreat

/- Plain laws for what is drawn: permutations and plugboards. -/
namespace Go.Proofs.YtnnblmibonnpcaaGreat

theorem dg_append (a b : ByteArray) : dg (a ++ b) = dg a ++ dg b := by simp [dg, L_append]
theorem dg_extract (s : ByteArray) (a b : Nat) : dg (s.extract a b) = ((dg s).take b).drop a := by simp [dg, L_extract, List.map_take, List.map_drop]
theorem dg_one {s : ByteArray} {k : Nat} (h : k < s.size) : dg (s.extract k (k + 1)) = [pAt (dg s) k] := by
  have hk : k < (dg s).length := by rw [len_dg]; exact h
  rw [dg_extract, List.take_succ_eq_append_getElem hk, List.drop_append_of_le_length (by simp; omega), List.drop_eq_nil_of_le (by simp; omega), pAt_get hk]; rfl
theorem dg_but {s : ByteArray} {k : Nat} : dg (s.extract 0 k ++ s.extract (k + 1) s.size) = (dg s).eraseIdx k := by
  have h : (dg s).take s.size = dg s := List.take_of_length_le (by rw [len_dg]; exact Nat.le_refl _)
  rw [dg_append, dg_extract, dg_extract, List.drop_zero, h, List.eraseIdx_eq_take_drop_succ]
theorem perm_out : ∀ (l : List Nat) (k : Nat) (h : k < l.length), (l[k] :: l.eraseIdx k).Perm l
  | _ :: _, 0, _ => by simp
  | a :: l, k + 1, h => by
    simp only [List.getElem_cons_succ, List.eraseIdx_cons_succ]
    exact (List.Perm.swap a _ _).trans ((perm_out l k (by simpa using h)).cons a)
theorem perm_take {l : List Nat} {k : Nat} (h : k < l.length) : (pAt l k :: l.eraseIdx k).Perm l := by
  rw [pAt_get h]; exact perm_out l k h
theorem permB_of {s : ByteArray} (h : wordB s = true) (hp : (dg s).Perm idP) : permB s = true := by
  have hl := hp.length_eq
  rw [len_dg, len_id] at hl
  simp only [permB, Bool.and_eq_true, decide_eq_true_eq]
  exact ⟨⟨hl, h⟩, hp.nodup_iff.2 isP_id.nd⟩

/-- A permutation with the images of two letters exchanged. -/
def swapP (p : List Nat) (x y : Nat) : List Nat := (p.set x (pAt p y)).set y (pAt p x)
theorem len_swapP (p : List Nat) (x y : Nat) : (swapP p x y).length = p.length := by simp [swapP]
theorem at_swapP {p : List Nat} (h : p.length = 10) {x y i : Nat} (_hx : x < 10) (_hy : y < 10) (hi : i < 10) : pAt (swapP p x y) i = if i = y then pAt p x else if i = x then pAt p y else pAt p i := by
  have e1 : (i = y) = (y = i) := propext ⟨Eq.symm, Eq.symm⟩
  have e2 : (i = x) = (x = i) := propext ⟨Eq.symm, Eq.symm⟩
  have h1 : i < (swapP p x y).length := by rw [len_swapP, h]; exact hi
  have h2 : i < p.length := by rw [h]; exact hi
  rw [pAt_get h1, pAt_get h2]
  simp only [swapP, List.getElem_set, e1, e2]
/-- How far a board has been made: l has the letters that are still free. -/
structure Board (p l : List Nat) : Prop where
  isP : IsP p
  inv : Inv p
  nd : l.Nodup
  lt : ∀ a ∈ l, a < 10
  fix : ∀ a ∈ l, pAt p a = a
  mov : ∀ a, a < 10 → ¬ a ∈ l → pAt p a ≠ a
theorem board0 : Board idP (List.range 10) := by
  refine ⟨isP_id, then_id isP_id, List.nodup_range, fun a h => by simpa using h, fun a h => at_id (by simpa using h), fun a h hn => absurd (by simpa using h) hn⟩
theorem Board.perm {p l l' : List Nat} (h : Board p l) (hp : l'.Perm l) : Board p l' :=
  ⟨h.isP, h.inv, hp.nodup_iff.2 h.nd, fun a ha => h.lt a (hp.mem_iff.1 ha), fun a ha => h.fix a (hp.mem_iff.1 ha), fun a ha hn => h.mov a ha (fun hm => hn (hp.mem_iff.2 hm))⟩
theorem Board.swap {p l : List Nat} {x y : Nat} (h : Board p (x :: y :: l)) : Board (swapP p x y) l := by
  have hx := h.lt x (by simp)
  have hy := h.lt y (by simp)
  have fx := h.fix x (by simp)
  have fy := h.fix y (by simp)
  have hnd := h.nd
  rw [List.nodup_cons, List.nodup_cons] at hnd
  obtain ⟨h1, h2, h3⟩ := hnd
  have hxy : x ≠ y := fun e => h1 (by simp [e])
  have hat : ∀ i, i < 10 → pAt (swapP p x y) i = if i = y then x else if i = x then y else pAt p i := fun i hi => by
    rw [at_swapP h.isP.len hx hy hi, fx, fy]
  have hne : ∀ i, i < 10 → i ≠ x → i ≠ y → pAt p i ≠ x ∧ pAt p i ≠ y := fun i hi e1 e2 =>
    ⟨fun e => e1 (h.isP.inj hi hx (by rw [e, fx])), fun e => e2 (h.isP.inj hi hy (by rw [e, fy]))⟩
  have hP : IsP (swapP p x y) := by
    refine isP_mk (by rw [len_swapP]; exact h.isP.len) (fun i hi => ?_) (fun i j hi hj e => ?_)
    · rw [hat i hi]
      split
      · exact hx
      · split
        · exact hy
        · exact h.isP.at_lt hi
    · have hcase : ∀ i, i < 10 → (i = y ∧ pAt (swapP p x y) i = x) ∨ (i = x ∧ i ≠ y ∧ pAt (swapP p x y) i = y) ∨ (i ≠ x ∧ i ≠ y ∧ pAt (swapP p x y) i = pAt p i ∧ pAt p i ≠ x ∧ pAt p i ≠ y) := fun i hi => by
        have := hne i hi
        rw [hat i hi]
        by_cases i1 : i = y
        · exact .inl ⟨i1, if_pos i1⟩
        · by_cases i2 : i = x
          · exact .inr (.inl ⟨i2, i1, by rw [if_neg i1, if_pos i2]⟩)
          · exact .inr (.inr ⟨i2, i1, by rw [if_neg i1, if_neg i2], this i2 i1⟩)
      rcases hcase i hi with ⟨a1, a2⟩ | ⟨a1, a3, a2⟩ | ⟨a1, a3, a2, a4, a5⟩ <;> rcases hcase j hj with ⟨b1, b2⟩ | ⟨b1, b3, b2⟩ | ⟨b1, b3, b2, b4, b5⟩
      all_goals first | omega | exact h.isP.inj hi hj (by omega)
  refine ⟨hP, Inv.of_at hP fun i hi => ?_, h3, fun a ha => h.lt a (by simp [ha]), fun a ha => ?_, fun a ha hn => ?_⟩
  · by_cases i1 : i = y
    · subst i1
      rw [hat _ hi, if_pos rfl, hat _ hx, if_neg hxy, if_pos rfl]
    · by_cases i2 : i = x
      · subst i2
        rw [hat _ hi, if_neg i1, if_pos rfl, hat _ hy, if_pos rfl]
      · have := hne i hi i2 i1
        rw [hat i hi, if_neg i1, if_neg i2, hat _ (h.isP.at_lt hi), if_neg this.2, if_neg this.1, h.inv.at h.isP hi]
  · have e1 : a ≠ y := fun e => h2 (e ▸ ha)
    have e2 : a ≠ x := fun e => h1 (by simp [e ▸ ha])
    rw [hat a (h.lt a (by simp [ha])), if_neg e1, if_neg e2, h.fix a (by simp [ha])]
  · rw [hat a ha]
    by_cases i1 : a = y
    · rw [if_pos i1, i1]; exact hxy
    · by_cases i2 : a = x
      · rw [if_neg i1, if_pos i2, i2]; exact fun e => hxy e.symm
      · rw [if_neg i1, if_neg i2]
        exact h.mov a ha (fun hm => by simp at hm; rcases hm with e | e | e <;> contradiction)
theorem Board.plug {p l : List Nat} (h : Board p l) : plugB (wd p) = true := by
  simp only [plugB, Bool.and_eq_true, decide_eq_true_eq]
  exact ⟨permB_wd h.isP, by rw [dg_wd h.isP.lt]; exact h.inv⟩
theorem Board.refl {p : List Nat} (h : Board p []) : reflB (wd p) = true := by
  simp only [reflB, Bool.and_eq_true, decide_eq_true_eq]
  refine ⟨h.plug, ?_⟩
  rw [dg_wd h.isP.lt]
  have hm : movedN p = 10 := by
    have h1 := len_fixL p
    have : fixL p = [] := (fixL_nil_iff p).2 fun i hi => h.mov i hi (by simp)
    rw [this] at h1; simpa using h1
  rw [hm]
theorem wd_set (l : List Nat) (i n : Nat) : (L (wd l)).set i (letr (n : Int)) = L (wd (l.set i n)) := by rw [L_wd, L_wd, List.map_set]
/-- A word turned by n. -/
theorem permB_rot {n : Nat} (_h : n < 10) : permB (wd (rotP n)) = true := permB_wd (isP_rot n)
theorem permB_rev : permB (S (L (wd idP)).reverse) = true := by decide +kernel
end Go.Proofs.YtnnblmibonnpcaaGreat

/- Contracts of the functions that draw permutations and plugboards. -/
namespace Go.Proofs.YtnnblmibonnpcaaGreat
open Go.RowKit

theorem shW_id (n : Nat) : shW (wd idP) (n : Int) = wd (rotP n) := by
  apply L_inj
  unfold shW
  rw [L_S, L_wd, L_wd, List.map_map, rotP, List.map_map, idP]
  apply List.map_congr_left
  intro i _
  simp only [Function.comp]
  rw [letr_eq, dig_letr]
  have : (((i + n) % 10 : Nat) : Int) = ((i : Int) + n) % 10 := by omega
  rw [this]; omega
theorem l2Turn_any (n : Nat) (w : World) (hn : n < 10) :
    Calls Tryz.prog 130 #[.int .i64 (n : Int)] w fun e w' => e = .returned (.string (wd (rotP n))) ∧ Below w.heap.size w w' := by
  have hsh := fun W => specShiftWord_any (wd idP) n W (word_wd (by rw [len_id]; omega)) (by omega) (by omega)
  rw [shW_id] at hsh
  go_enter Tryz.func130, Tryz.ntmps130
  go_wp2_with (first | (go_at_call 82; ((with_reducible refine (specIdentityPerm_any _).mono ?_); rintro e w1 ⟨rfl, hb1⟩)) | (go_at_call 123; ((with_reducible refine (hsh _).mono ?_); rintro e w2 ⟨rfl, hb2⟩)))
  go_ret
  exact ⟨rfl, bt hb1 hb2⟩

/-- How far a permutation has been drawn. -/
structure Drawn (out left : ByteArray) : Prop where
  wout : wordB out = true
  wleft : wordB left = true
  perm : (dg out ++ dg left).Perm idP
theorem Drawn.size {out left : ByteArray} (h : Drawn out left) : out.size + left.size = 10 := by
  have := h.perm.length_eq
  rw [List.length_append, len_dg, len_dg, len_id] at this
  exact this
theorem Drawn.start : Drawn ⟨#[]⟩ (wd idP) := ⟨Wd.nil.1, word_wd (by rw [len_id]; omega), by rw [dg_wd isP_id.lt]; exact List.Perm.refl _⟩
theorem word_app {a b : ByteArray} (ha : wordB a = true) (hb : wordB b = true) (hl : a.size + b.size ≤ 200) : wordB (a ++ b) = true := (Wd.app ⟨ha, rfl⟩ ⟨hb, rfl⟩ hl).1
theorem word_ext {s : ByteArray} (h : wordB s = true) (a b : Nat) (hb : b ≤ s.size) : wordB (s.extract a b) = true := (Wd.ext ⟨h, rfl⟩ a b hb).1
theorem Drawn.next {out left : ByteArray} (h : Drawn out left) {k : Nat} (hk : k < left.size) : Drawn (out ++ left.extract k (k + 1)) (left.extract 0 k ++ left.extract (k + 1) left.size) := by
  have hs := h.size
  refine ⟨word_app h.wout (word_ext h.wleft _ _ (by omega)) (by simp; omega), word_app (word_ext h.wleft _ _ (by omega)) (word_ext h.wleft _ _ (Nat.le_refl _)) (by simp; omega), ?_⟩
  rw [dg_append, dg_one hk, dg_but, List.append_assoc, List.singleton_append]
  exact (List.Perm.append_left _ (perm_take (by rw [len_dg]; exact hk))).trans h.perm
theorem Drawn.last {out left : ByteArray} (h : Drawn out left) (h0 : left.size = 0) : permB out = true := by
  refine permB_of h.wout ?_
  have := h.perm
  have e : dg left = [] := List.eq_nil_of_length_eq_zero (by rw [len_dg]; exact h0)
  rwa [e, List.append_nil] at this
/-- A permutation. -/
def Pm (s : ByteArray) : Prop := permB s = true
theorem l2Some_any (R : Nat) (c : Nat) (w : World) (h : Rd w R c) (hc : c ≤ 10000000) :
    Calls Tryz.prog 60 #[.pointer (some ⟨R, 0, none⟩)] w (StrP R Pm (c + 10) w) := by
  go_enter Tryz.func60, Tryz.ntmps60
  go_wp2_with (go_at_call 82; ((with_reducible refine (specIdentityPerm_any _).mono ?_); rintro e w1 ⟨rfl, hb1⟩))
  go_loopw [3, 4, 5] (fun l o _ wr => ∃ (left out : ByteArray), l = .string left ∧ o = .string out ∧ Drawn out left ∧ Rd wr R (c + out.size) ∧ Moved R w wr) (fun l _ _ _ => match l with | .string t => t.size | _ => 0)
  case atStart => exact ⟨wd idP, ⟨#[]⟩, rfl, rfl, Drawn.start, h.below hb1 h.lt, (Moved.refl R w).below hb1⟩
  case round =>
    clear hb1 h
    obtain ⟨left, out, rfl, rfl, hd, hr, hm⟩ := hrel
    have hs := hd.size
    have HS := Lib.hid hs
    have hs1 : left.size ≤ 10 := by omega
    have hs2 : out.size ≤ 10 := by omega
    clear hs
    by_cases hlt : 0 < left.size
    · go_wp2_with fail
      refine (pick_any R _ _ _ hr (by omega) (by omega) (by omega)).mono ?_
      rintro e w2 ⟨v, rfl, hv0, hv1, _, hr2, hm2⟩
      obtain ⟨k, rfl⟩ := Int.eq_ofNat_of_zero_le hv0
      have hk : k < left.size := by have := hv1 (by omega); omega
      clear hv1 hv0
      have HN := Lib.hid (hd.next hk)
      have s1 := sl_one left k hk
      have s2 := sl_to left k (by omega)
      have s3 := sl_next left k hk
      have z1 : (left.extract k (k + 1)).size ≤ 1 := by simp; omega
      have z2 : (left.extract 0 k).size ≤ 10 := by simp; omega
      have z3 : (left.extract (k + 1) left.size).size ≤ 10 := by simp; omega
      have HZ := Lib.hid (show (out ++ left.extract k (k + 1)).size = out.size + 1 by rw [ByteArray.size_append]; simp; omega)
      have HY := Lib.hid (show (left.extract 0 k ++ left.extract (k + 1) left.size).size + 1 = left.size by rw [ByteArray.size_append]; simp; omega)
      go_wp2_with fail
      go_quiet (fail)
      go_wp2
      go_roundw
      case rel => exact ⟨_, _, rfl, rfl, HN.out, (hr2.more (by rw [HZ.out]; omega)).keep fun _ _ => rfl, (hm.trans hm2).drewN _⟩
      case measure => have := HY.out; simp only; omega
    · have HP := Lib.hid (hd.last (by omega))
      go_wp2
      go_ret
      exact ⟨out, HP.out, rfl, hr.more (by omega), hm⟩
end Go.Proofs.YtnnblmibonnpcaaGreat

/- Contracts of the functions that draw simple and wrong permutations, and plugboards. -/
namespace Go.Proofs.YtnnblmibonnpcaaGreat
open Go.RowKit

theorem l2Any_any (R : Nat) (c : Nat) (w : World) (h : Rd w R c) (hc : c ≤ 9000000) :
    Calls Tryz.prog 121 #[.pointer (some ⟨R, 0, none⟩)] w (StrP R Pm (c + 11) w) := by
  have hrev := fun W => specReverseWord_any (wd idP) W (word_wd (by rw [len_id]; omega))
  go_enter Tryz.func121, Tryz.ntmps121
  go_wp2_with fail
  refine (pick_any R _ c w h (by omega) (by omega) (by omega)).mono ?_
  rintro e w1 ⟨v, rfl, hv0, hv1, _, hr, hm⟩
  clear hv1
  by_cases e0 : v = 0
  · have t0 : (v == 0) = true := by simp [e0]
    clear e0
    go_wp2_with (go_at_call 82; ((with_reducible refine (specIdentityPerm_any _).mono ?_); rintro e w2 ⟨rfl, hb2⟩))
    go_ret
    exact ⟨wd idP, permB_wd isP_id, rfl, (hr.below hb2 hr.lt).more (by omega), hm.below hb2⟩
  · have t0 : (v == 0) = false := by simp [e0]
    by_cases e1 : v = 1
    · have t1 : (v == 1) = true := by simp [e1]
      clear e0 e1
      go_wp2_with fail
      refine (pick_any R _ _ _ hr (by omega) (by omega) (by omega)).mono ?_
      rintro e w2 ⟨u, rfl, hu0, hu1, _, hr2, hm2⟩
      obtain ⟨k, rfl⟩ := Int.eq_ofNat_of_zero_le hu0
      have hk : k < 10 := by have := hu1 (by omega); omega
      clear hu1 hu0
      go_wp2_with (go_at_call 130; ((with_reducible refine (l2Turn_any k _ hk).mono ?_); rintro e w3 ⟨rfl, hb3⟩))
      go_ret
      exact ⟨wd (rotP k), permB_wd (isP_rot k), rfl, (hr2.below hb3 hr2.lt).more (by omega), (hm.trans hm2).below hb3⟩
    · have t1 : (v == 1) = false := by simp [e1]
      by_cases e2 : v = 2
      · have t2 : (v == 2) = true := by simp [e2]
        clear e0 e1 e2
        go_wp2_with (first | (go_at_call 82; ((with_reducible refine (specIdentityPerm_any _).mono ?_); rintro e w2 ⟨rfl, hb2⟩)) | (go_at_call 131; ((with_reducible refine (hrev _).mono ?_); rintro e w' ⟨rfl, rfl⟩)))
        go_ret
        exact ⟨_, permB_rev, rfl, (hr.below hb2 hr.lt).more (by omega), hm.below hb2⟩
      · have t2 : (v == 2) = false := by simp [e2]
        clear e0 e1 e2
        go_wp2_with fail
        refine (l2Some_any R _ _ hr (by omega)).mono ?_
        rintro e w2 ⟨s, hs, rfl, hr2, hm2⟩
        have HS := Lib.hid hs
        clear hs
        go_wp2
        go_ret
        exact ⟨s, HS.out, rfl, hr2.more (by omega), hm.trans hm2⟩

/-- A string of at most n bytes. -/
def Sz (n : Nat) (s : ByteArray) : Prop := s.size ≤ n
set_option maxHeartbeats 400000 in
theorem l2Bad_any (R : Nat) (p : ByteArray) (c : Nat) (w : World) (h : Rd w R c) (hc : c ≤ 9000000) (h1 : 1 ≤ p.size) (hp : p.size ≤ 1000) :
    Calls Tryz.prog 107 #[.pointer (some ⟨R, 0, none⟩), .string p] w (StrP R (Sz 1001) (c + 3) w) := by
  go_enter Tryz.func107, Tryz.ntmps107
  go_wp2_with fail
  refine (pick_any R _ c w h (by omega) (by omega) (by omega)).mono ?_
  rintro e w1 ⟨v, rfl, hv0, hv1, _, hr, hm⟩
  obtain ⟨k, rfl⟩ := Int.eq_ofNat_of_zero_le hv0
  have hk : k < p.size := by have := hv1 (by omega); omega
  clear hv1 hv0
  have s2 := sl_to p k (by omega)
  have s3 := sl_next p k hk
  have z2 : (p.extract 0 k).size ≤ 1000 := by simp; omega
  have z3 : (p.extract (k + 1) p.size).size ≤ 1000 := by simp; omega
  have HZ := Lib.hid (show (p.extract 0 k).size + (p.extract (k + 1) p.size).size + 1 = p.size by simp; omega)
  generalize p.extract 0 k = pa at *
  generalize p.extract (k + 1) p.size = pb at *
  have hk1 : IntKind.i64.wrap ((k : Int) + 1) = (k : Int) + 1 := IntWalk.i64_in _ (by omega)
  have HK := Lib.hid hk1
  clear hk1
  go_wp2_with fail
  refine (pick_any R _ _ _ hr (by omega) (by omega) (by omega)).mono ?_
  rintro e w2 ⟨v, rfl, hv0, hv1, _, hr2, hm2⟩
  have hm12 := hm.trans hm2
  clear hv1 hr hm hm2
  by_cases e0 : v = 0
  · have t0 : (v == 0) = true := by simp [e0]
    clear e0
    go_upto_region 4 with fail
    go_cut [4] (fun x wx => ∃ s : ByteArray, s.size ≤ 1001 ∧ x = .string s ∧ Rd wx R (c + 3) ∧ Moved R w wx)
    case first =>
      have hk1 := HK.out
      go_region_held3 (fun _ => True) (trivial)
        (first | (go_at_call 58; refine (pick_any R _ _ _ hr2.drew (by omega) (by omega) (by omega)).mono ?_; rintro e w3 ⟨u, rfl, hu0, hu1, _, hr3, hm3⟩; clear hu1) | (go_at_call 69; refine (l1Letter_any _ _).mono ?_; rintro e w4 ⟨rfl, hb4⟩; have y1 : (S [letr u]).size ≤ 1 := (by rw [size_S]; simp); have y2 : ¬ 9223372036854775807 < pa.size + (S [letr u]).size := (by omega); have y3 : ¬ 9223372036854775807 < pa.size + (S [letr u]).size + pb.size := (by omega); have y4 : decide (9223372036854775807 < pa.size + (S [letr u]).size) = false := (by simpa using y2); have y5 : decide (9223372036854775807 < pa.size + (S [letr u]).size + pb.size) = false := (by simpa using y3)))
      all_goals go_wp2_with fail
      all_goals go_meet
      · refine ⟨_, ?_, rfl, (hr3.below hb4 hr3.lt), ((hm12.drew.trans hm3).below hb4)⟩
        have := HZ.out
        rw [ByteArray.size_append, ByteArray.size_append]; omega
    case rest =>
      obtain ⟨s, hs, rfl, hr4, hm4⟩ := hcut
      go_wp2
      go_ret
      exact ⟨s, hs, rfl, hr4, hm4⟩
  · have t0 : (v == 0) = false := by simp [e0]
    by_cases e1 : v = 1
    · have t1 : (v == 1) = true := by simp [e1]
      clear e0 e1
      go_wp2_with fail
      have hk1 := HK.out
      go_quiet (fail)
      clear hk1
      go_wp2
      go_ret
      refine ⟨_, ?_, rfl, (hr2.more (by omega)).keep fun _ _ => rfl, hm12.drewN _⟩
      have := HZ.out
      show ByteArray.size _ ≤ 1001
      rw [ByteArray.size_append]; omega
    · have t1 : (v == 1) = false := by simp [e1]
      by_cases e2 : v = 2
      · have t2 : (v == 2) = true := by simp [e2]
        clear e0 e1 e2
        go_wp2_with fail
        refine (of_any R _ _ _ [⟨#[97]⟩, ⟨#[107]⟩, ⟨#[32]⟩] (c + 1 + 1) _ rfl (Own.new _ _ _) (by simp) (by have := hr2.lt; simp; omega) (hr2.alloc _) (by omega) (by simp)).mono ?_
        rintro e w3 ⟨t, ht, rfl, hr3, hm3⟩
        have hts : t.size ≤ 1 := by
          simp at ht
          rcases ht with rfl | rfl | rfl <;> decide
        clear ht
        go_wp2
        go_ret
        refine ⟨p ++ t, ?_, rfl, hr3, hm12.trans ((Moved.refl _ _).alloc _ |>.trans hm3)⟩
        show ByteArray.size _ ≤ 1001
        rw [ByteArray.size_append]; omega
      · have t2 : (v == 2) = false := by simp [e2]
        clear e0 e1 e2
        go_wp2
        go_ret
        exact ⟨p, by show p.size ≤ 1001; omega, rfl, hr2.more (by omega), hm12⟩
end Go.Proofs.YtnnblmibonnpcaaGreat
