/- The reader of an input: its contracts. -/
import Derived.Test.YtaplndmgbinhcaaGreatLetters
import Derived.Deep.RegionWith
import Derived.OpenShut
namespace Go.Proofs.YtaplndmgbinhcaaGreat
open Go.RowKit

/-- n bytes lie at address a, below block B. -/
def Bytes (w : World) (B : Nat) (a : Option Addr) (n : Nat) : Prop :=
  n = 0 ∨ ∃ b off, a = some ⟨b, off, none⟩ ∧ b < B ∧ ∀ i, i < n → ∃ v : Int, 0 ≤ v ∧ v ≤ 255 ∧ w.cell? ⟨b, off + i, none⟩ = some (.int .u8 v)
theorem Bytes.keep {w w' : World} {B : Nat} {a : Option Addr} {n : Nat} (h : Bytes w B a n) (hk : ∀ p : Addr, p.block < B → w'.cell? p = w.cell? p) : Bytes w' B a n := by
  rcases h with h | ⟨b, off, ha, hb, hc⟩
  · exact .inl h
  · exact .inr ⟨b, off, ha, hb, fun i hi => by
      obtain ⟨v, h0, h1, h2⟩ := hc i hi
      exact ⟨v, h0, h1, by rw [hk _ hb]; exact h2⟩⟩

/-- Block R is a reader that has been asked at most c times. -/
def Rd (w : World) (R c : Nat) : Prop :=
  ∃ (a : Option Addr) (n cp : Nat) (p : Int), w.heap[R]? = some (.cells #[.slice a n cp, .int .i64 p] 65 (0, 0)) ∧ n ≤ 2000 ∧ 0 ≤ p ∧ p ≤ c ∧ Bytes w R a n
theorem Rd.lt {w : World} {R c : Nat} (h : Rd w R c) : R < w.heap.size := by
  obtain ⟨a, n, cp, p, h, _⟩ := h
  rcases Nat.lt_or_ge R w.heap.size with hlt | hge
  · exact hlt
  · rw [Array.getElem?_eq_none hge] at h; cases h
theorem Rd.keep {w w' : World} {R c : Nat} (h : Rd w R c) (hb : ∀ k, k ≤ R → w'.heap[k]? = w.heap[k]?) : Rd w' R c := by
  obtain ⟨a, n, cp, p, h, h1, h2, h3, h4⟩ := h
  exact ⟨a, n, cp, p, by rw [hb R (Nat.le_refl _)]; exact h, h1, h2, h3, h4.keep fun p hp => World.cell?_of_block (hb p.block (by omega))⟩
theorem Rd.alloc {w : World} {R c : Nat} (h : Rd w R c) (o : Obj) : Rd (w.alloc o) R c := h.keep fun k hk => Below.heap_alloc w o k (by have := h.lt; omega)
theorem Rd.drew {w : World} {R c : Nat} (h : Rd w R c) : Rd w.drew R c := h.keep fun _ _ => rfl
theorem Rd.below {w w' : World} {R c B : Nat} (h : Rd w R c) (hb : Below B w w') (hB : R < B) : Rd w' R c := h.keep fun k hk => hb.block k (by omega)
theorem Rd.far {w : World} {R c : Nat} (h : Rd w R c) {p : Addr} (hp : R < p.block) (u : Value) : Rd (w.setCell p u) R c := h.keep fun k hk => Below.heap_setCell w p u k (by omega)
theorem Rd.more {w : World} {R c c' : Nat} (h : Rd w R c) (hc : c ≤ c') : Rd w R c' := by
  obtain ⟨a, n, cp, p, h, h1, h2, h3, h4⟩ := h
  exact ⟨a, n, cp, p, h, h1, h2, by omega, h4⟩
theorem Rd.grown {w w' : World} {R c : Nat} {row : Option Nat} (h : Rd w R c) (hg : w.grownBy w' row) (hr : ∀ g, row = some g → R < g) : Rd w' R c :=
  h.keep fun k hk => hg.block k (by have := h.lt; omega) (fun e => by have := hr k e.symm; omega)

/-- From w to w' only the reader R has moved on, and there is new memory. -/
abbrev Moved (R : Nat) (w w' : World) : Prop := w.grownBy w' (some R)
theorem Moved.refl (R : Nat) (w : World) : Moved R w w := World.grownBy.refl w _
theorem Moved.trans {R : Nat} {a b c : World} (h : Moved R a b) (k : Moved R b c) : Moved R a c :=
  ⟨k.os.trans h.os, k.tape.trans h.tape, k.output.trans h.output, Nat.le_trans h.size k.size, fun i hi hne => (k.block i (Nat.lt_of_lt_of_le hi h.size) hne).trans (h.block i hi hne)⟩
theorem Moved.below {R : Nat} {a b c : World} (h : Moved R a b) (k : Below b.heap.size b c) : Moved R a c :=
  ⟨k.os.trans h.os, k.tape.trans h.tape, k.output.trans h.output, Nat.le_trans h.size k.size, fun i hi hne => (k.block i (Nat.lt_of_lt_of_le hi h.size)).trans (h.block i hi hne)⟩
theorem Moved.alloc {R : Nat} {a b : World} (h : Moved R a b) (o : Obj) : Moved R a (b.alloc o) :=
  ⟨h.os, h.tape, h.output, Nat.le_trans h.size (by simp), fun i hi hne => (Below.heap_alloc b o i (Nat.lt_of_lt_of_le hi h.size)).trans (h.block i hi hne)⟩
theorem Moved.drew {R : Nat} {a b : World} (h : Moved R a b) : Moved R a b.drew := ⟨h.os, h.tape, h.output, h.size, h.block⟩
theorem Moved.drewN {R : Nat} {a b : World} (h : Moved R a b) (n : Nat) : Moved R a (b.drewN n) := ⟨h.os, h.tape, h.output, h.size, h.block⟩
theorem Moved.set_ {R : Nat} {a b : World} (h : Moved R a b) {p : Addr} (hp : p.block = R ∨ a.heap.size ≤ p.block) (u : Value) : Moved R a (b.setCell p u) :=
  ⟨h.os, h.tape, h.output, by simpa [World.setCell] using h.size, fun i hi hne => (Below.heap_setCell b p u i (by
    rintro rfl
    rcases hp with hp | hp
    · exact hne (by rw [hp])
    · omega)).trans (h.block i hi hne)⟩

/-- What one question leaves. -/
def PickPost (R : Nat) (n : Int) (c : Nat) (w : World) (e : Ending) (w' : World) : Prop :=
  ∃ v : Int, e = .returned (.int .i64 v) ∧ 0 ≤ v ∧ (1 ≤ n → v < n) ∧ (n < 1 → v = 0) ∧ Rd w' R (c + 1) ∧ Moved R w w'

theorem rd_step {w : World} {R c n cp : Nat} {a : Option Addr} {p : Int} (h : w.heap[R]? = some (.cells #[.slice a n cp, .int .i64 p] 65 (0, 0))) (h1 : n ≤ 2000) (h2 : 0 ≤ p) (h3 : p ≤ c) (h4 : Bytes w R a n) (k : Nat) :
    Rd ((w.setCell ⟨R, 1, none⟩ (.int .i64 (p + 1))).drewN k) R (c + 1) ∧ Moved R w ((w.setCell ⟨R, 1, none⟩ (.int .i64 (p + 1))).drewN k) := by
  refine ⟨⟨a, n, cp, p + 1, ?_, h1, by omega, by omega, h4.keep fun q hq => World.cell?_setCell_other w ⟨R, 1, none⟩ q _ (fun e => by subst e; simp at hq)⟩, ((Moved.refl R w).set_ (.inl rfl) _).drewN k⟩
  show (w.setCell ⟨R, 1, none⟩ (.int .i64 (p + 1))).heap[R]? = _
  simp [World.setCell, Array.getElem?_modify, h]

theorem cell_blk {w : World} {g : Nat} {t : TypeId} {cs : Array Value} {fr : Nat × Nat} (h : w.heap[g]? = some (.cells cs t fr)) (i : Nat) : w.cell? ⟨g, i, none⟩ = cs[i]? := cell_of_row w g i cs t fr h
theorem free_blk {w : World} {g : Nat} {t : TypeId} {cs : Array Value} (h : w.heap[g]? = some (.cells cs t (0, 0))) (i : Nat) : w.frozen? ⟨g, i, none⟩ = false := by simp [World.frozen?, h]

theorem xor_nonneg (a : Int) (h0 : 0 ≤ a) (h1 : a ≤ 4611686018427387904) : ∃ r : Nat, bits .xor .i64 a (a / 64) = (r : Int) ∧ r < 9223372036854775808 := by
  obtain ⟨n, rfl⟩ := Int.eq_ofNat_of_zero_le h0
  have e : ((n : Int) / 64) = ((n / 64 : Nat) : Int) := by omega
  have hx : n ^^^ (n / 64) < 2 ^ 63 := Nat.xor_lt_two_pow (by omega) (by omega)
  exact ⟨n ^^^ (n / 64), by rw [e, i64_xor_nat _ _ (by omega) (by omega)], hx⟩

set_option maxRecDepth 100000 in
theorem pick_any (R : Nat) (n : Int) (c : Nat) (w : World) (h : Rd w R c) (hc : c ≤ 100000000) (hn0 : -4294967296 ≤ n) (hn : n ≤ 4294967296) :
    Calls Tryz.prog 44 #[.pointer (some ⟨R, 0, none⟩), .int .i64 n] w (PickPost R n c w) := by
  obtain ⟨a, l, cp, p, hh, h1, h2, h3, h4⟩ := h
  have c0 : w.cell? ⟨R, 0, none⟩ = some (.slice a l cp) := cell_blk hh 0
  have c1 : w.cell? ⟨R, 1, none⟩ = some (.int .i64 p) := cell_blk hh 1
  have f1 : w.frozen? ⟨R, 1, none⟩ = false := free_blk hh 1
  have hst := Lib.hid (rd_step hh h1 h2 h3 h4)
  clear hh
  by_cases hn1 : n < 1
  · go_enter Tryz.func44, Tryz.ntmps44
    go_wp2
    go_ret
    exact ⟨0, rfl, by omega, by omega, fun _ => rfl, hst.out 0⟩
  · by_cases hl : l = 0
    · have t0 : ((l : Int) == 0) = true := by simp [hl]
      clear hl h4
      go_enter Tryz.func44, Tryz.ntmps44
      go_wp2
      go_ret
      exact ⟨0, rfl, by omega, by omega, fun _ => rfl, hst.out 0⟩
    · have t0 : ((l : Int) == 0) = false := by rw [beq_eq_false_iff_ne]; omega
      rcases h4 with h4 | ⟨b, off, rfl, hb, hby⟩
      · exact absurd h4 hl
      · have hbR : ¬ R = b := by omega
        by_cases hk : p < l
        · obtain ⟨v, hv0, hv1, hv⟩ := hby p.toNat (by omega)
          have Hby := Lib.hid hby
          clear hby
          go_enter Tryz.func44, Tryz.ntmps44
          go_wp2
          go_ret
          exact ⟨v % n, rfl, Int.emod_nonneg _ (by omega), fun _ => Int.emod_lt_of_pos _ (by omega), fun h => absurd h (by omega), hst.out 0⟩
        · obtain ⟨q, rfl⟩ := Int.eq_ofNat_of_zero_le h2
          have hlp : 0 < l := by omega
          have hq : q ≤ 100000000 := by omega
          have hl1 : (1 : Int) ≤ l := by omega
          have m1 := Nat.mod_lt q hlp
          have m2 := Nat.mod_lt (q * 7 + 3) hlp
          have m3 : q / l ≤ q := Nat.div_le_self _ _
          obtain ⟨v, hv0, hv1, hv⟩ := hby (q % l) m1
          obtain ⟨u, hu0, hu1, hu⟩ := hby ((q * 7 + 3) % l) m2
          have Hby := Lib.hid hby
          clear hby
          have i1 : (0 : Int) ≤ (q : Int) % (l : Int) := by omega
          have i2 : (q : Int) % (l : Int) < (l : Int) := Int.emod_lt_of_pos _ (by omega)
          have i3 : ((q : Int) % (l : Int)).toNat = q % l := by omega
          have j1 : (0 : Int) ≤ ((q : Int) * 7 + 3) % (l : Int) := Int.emod_nonneg _ (by omega)
          have j2 : ((q : Int) * 7 + 3) % (l : Int) < (l : Int) := Int.emod_lt_of_pos _ (by omega)
          have j3 : (((q : Int) * 7 + 3) % (l : Int)).toNat = (q * 7 + 3) % l := by
            have : ((q : Int) * 7 + 3) % (l : Int) = (((q * 7 + 3) % l : Nat) : Int) := by rw [Int.natCast_emod]; rfl
            rw [this]; rfl
          have d1 : (0 : Int) ≤ (q : Int) / (l : Int) := Int.ediv_nonneg (by omega) (by omega)
          have d2 : (q : Int) / (l : Int) ≤ (q : Int) := by omega
          obtain ⟨r, hr, hr2⟩ := xor_nonneg (v * 131 + u * 1117 + (q : Int) * 29 + (q : Int) / (l : Int) * 53) (by omega) (by omega)
          go_enter Tryz.func44, Tryz.ntmps44
          go_wp2
          go_quiet (fail)
          go_wp2
          go_ret
          exact ⟨(r : Int) % n, rfl, Int.emod_nonneg _ (by omega), fun _ => Int.emod_lt_of_pos _ (by omega), fun h => absurd h (by omega), hst.out nq⟩

theorem Moved.toBelow {R B : Nat} {a b : World} (h : Moved R a b) (hB : B ≤ R) (hs : B ≤ a.heap.size) : Below B a b :=
  ⟨h.os, h.tape, h.output, h.size, fun k hk => h.block k (by omega) (by simp; omega)⟩
theorem IsRow.bytes {w : World} {a : Option Addr} {len cap : Nat} {zs : List Int} (h : IsRow .u8 w a len cap zs) : ∀ n, n ≤ len → Bytes w w.heap.size a n := by
  intro n hn
  rcases h with ⟨rfl, rfl, rfl, rfl⟩ | ⟨x, rfl, hl, hm, hz, hc, hwf⟩
  · exact .inl (by omega)
  · by_cases h0 : n = 0
    · exact .inl h0
    · obtain ⟨b, off, sp⟩ := x
      have h1 := hc 0 (by omega)
      have hsp : sp = none := by simpa [Addr.add] using World.cell?_spot h1
      subst hsp
      have hb : b < w.heap.size := by
        rcases Nat.lt_or_ge b w.heap.size with hlt | hge
        · exact hlt
        · simp [Addr.add, World.cell?, Array.getElem?_eq_none hge] at h1
      refine .inr ⟨b, off, rfl, hb, fun i hi => ?_⟩
      have h2 := hc i (by omega)
      have hw := hwf (zs.getD i 0) (by
        have : i < zs.length := by omega
        simp only [List.getD, List.getElem?_eq_getElem this, Option.getD_some]
        exact List.getElem_mem _)
      have hbd := bounds_u8 hw
      refine ⟨zs.getD i 0, hbd.1, hbd.2, ?_⟩
      rw [← h2]
      congr 1
      unfold Addr.add
      split
      · rename_i hi0; subst hi0; rfl
      · rfl

theorem l21Open_any (a : Option Addr) (len cap : Nat) (zs : List Int) (w : World) (h : IsRow .u8 w a len cap zs) (hl : len ≤ 1048576) :
    Calls Tryz.prog 28 #[.slice a len cap] w fun e w' => e = .returned (.pointer (some ⟨w.heap.size, 0, none⟩)) ∧ Rd w' w.heap.size 0 ∧ Below w.heap.size w w' := by
  have hcap : len ≤ cap := by
    rcases h with ⟨rfl, rfl, rfl, rfl⟩ | ⟨x, rfl, hl, _⟩
    · exact Nat.le_refl _
    · exact hl
  have hby := Lib.hid h.bytes
  clear h
  by_cases h2 : 2000 < len
  · go_enter Tryz.func28, Tryz.ntmps28
    go_wp2
    go_ret
    refine ⟨rfl, ⟨a, 2000, cap, 0, heap_alloc_new w _, by omega, by omega, by omega, (hby.out 2000 (by omega)).keep fun p hp => World.cell?_alloc_lt w _ p hp⟩, (Below.refl _ _).alloc (Nat.le_refl _) _⟩
  · go_enter Tryz.func28, Tryz.ntmps28
    go_wp2
    go_ret
    refine ⟨rfl, ⟨a, len, cap, 0, heap_alloc_new w _, by omega, by omega, by omega, (hby.out len (by omega)).keep fun p hp => World.cell?_alloc_lt w _ p hp⟩, (Below.refl _ _).alloc (Nat.le_refl _) _⟩

/-- What a question for an element leaves. -/
def OfPost (R : Nat) (ss : List ByteArray) (c : Nat) (w : World) (e : Ending) (w' : World) : Prop :=
  ∃ s, s ∈ ss ∧ e = .returned (.string s) ∧ Rd w' R (c + 1) ∧ Moved R w w'
theorem of_any (R g n cp : Nat) (ss : List ByteArray) (c : Nat) (w : World) (hn : ss.length = n) (ho : Own w g (sv ss)) (h0 : 0 < ss.length) (hg : g ≠ R) (h : Rd w R c) (hc : c ≤ 100000000) (hl : ss.length ≤ 1000) :
    Calls Tryz.prog 88 #[.pointer (some ⟨R, 0, none⟩), .slice (some ⟨g, 0, none⟩) n cp] w (OfPost R ss c w) := by
  subst hn
  go_enter Tryz.func88, Tryz.ntmps88
  go_wp2_with fail
  refine (pick_any R _ c w h hc (by omega) (by omega)).mono ?_
  rintro e w1 ⟨v, rfl, hv0, hv1, _, hr, hm⟩
  obtain ⟨k, rfl⟩ := Int.eq_ofNat_of_zero_le hv0
  have hk : k < ss.length := by have := hv1 (by omega); omega
  have hc1 : w1.cell? ⟨g, k, none⟩ = some (.string ss[k]) := (ho.grown hm (by simpa using hg)).at_ (sv_at hk)
  clear hv1
  go_wp2
  go_ret
  exact ⟨ss[k], List.getElem_mem _, rfl, hr, hm⟩

/-- The cells of some numbers. -/
def iv (ns : List Int) : List Value := ns.map (.int .i64)
theorem length_iv (ns : List Int) : (iv ns).length = ns.length := by simp [iv]
theorem iv_at {ns : List Int} {i : Nat} (h : i < ns.length) : (iv ns)[i]? = some (.int .i64 ns[i]) := by simp [iv, List.getElem?_eq_getElem h]
def NumPost (R : Nat) (ns : List Int) (c : Nat) (w : World) (e : Ending) (w' : World) : Prop :=
  ∃ n, n ∈ ns ∧ e = .returned (.int .i64 n) ∧ Rd w' R (c + 1) ∧ Moved R w w'
end Go.Proofs.YtaplndmgbinhcaaGreat
