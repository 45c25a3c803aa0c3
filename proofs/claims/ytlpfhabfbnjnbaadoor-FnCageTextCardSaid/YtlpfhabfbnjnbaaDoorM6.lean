/- Several of my texts in one: Draw, CgV, ShelfC. -/
import Derived.Test.YtlpfhabfbnjnbaaDoorM5
import Derived.Deep.RegionWith
import Derived.OpenShut
import Derived.Shelf.Strings.OnBuilder
import Derived.Shelf.LaysM
import Derived.Shelf.Strconv.Itoa3
import Derived.Shelf.LaysC
import Derived.Shelf.Strconv.AtoiAll
import Derived.Shelf.Strings.Cut
import Derived.Shelf.Strings.Count
import Derived.Shelf.Strings.Split
import Derived.Test.YtlpfhabfbnjnbaaDoorProg
/- The reader of an input: its contracts. -/
namespace Go.Proofs.YtlpfhabfbnjnbaaDoor
open Go.RowKit

/-- n bytes lie at address a, below block B. -/
def Bytes (w : World) (B : Nat) (a : Option Addr) (n : Nat) : Prop :=
  n = 0 ∨ ∃ b off, a = some ⟨b, off, none⟩ ∧ b < B ∧ ∀ i, i < n → ∃ v : Int, 0 ≤ v ∧ v ≤ 255 ∧ w.cell? ⟨b, off + i, none⟩ = some (.int .u8 v)
theorem Bytes.keep {w w' : World} {B : Nat} {a : Option Addr} {n : Nat} (h : Bytes w B a n) (hk : ∀ p : Addr, p.block < B → w'.cell? p = w.cell? p) : Bytes w' B a n := by
  rcases h with h | ⟨b, off, ha, hb, hc⟩
  · exact .inl h
  · exact .inr ⟨b, off, ha, hb, fun i hi => by
      obtain ⟨v, h0, h1, h2⟩ := hc i hi
      exact ⟨v, h0, h1, by rw [hk _ hb]; exact h2⟩⟩

/-- Block R is a reader that has been asked at most c times. -/
def Rd (w : World) (R c : Nat) : Prop :=
  ∃ (a : Option Addr) (n cp : Nat) (p : Int), w.heap[R]? = some (.cells #[.slice a n cp, .int .i64 p] 72 (0, 0)) ∧ n ≤ 2000 ∧ 0 ≤ p ∧ p ≤ c ∧ Bytes w R a n
theorem Rd.lt {w : World} {R c : Nat} (h : Rd w R c) : R < w.heap.size := by
  obtain ⟨a, n, cp, p, h, _⟩ := h
  rcases Nat.lt_or_ge R w.heap.size with hlt | hge
  · exact hlt
  · rw [Array.getElem?_eq_none hge] at h; cases h
theorem Rd.keep {w w' : World} {R c : Nat} (h : Rd w R c) (hb : ∀ k, k ≤ R → w'.heap[k]? = w.heap[k]?) : Rd w' R c := by
  obtain ⟨a, n, cp, p, h, h1, h2, h3, h4⟩ := h
  exact ⟨a, n, cp, p, by rw [hb R (Nat.le_refl _)]; exact h, h1, h2, h3, h4.keep fun p hp => World.cell?_of_block (hb p.block (by omega))⟩
theorem Rd.alloc {w : World} {R c : Nat} (h : Rd w R c) (o : Obj) : Rd (w.alloc o) R c := h.keep fun k hk => Below.heap_alloc w o k (by have := h.lt; omega)
theorem Rd.drew {w : World} {R c : Nat} (h : Rd w R c) : Rd w.drew R c := h.keep fun _ _ => rfl
theorem Rd.below {w w' : World} {R c B : Nat} (h : Rd w R c) (hb : Below B w w') (hB : R < B) : Rd w' R c := h.keep fun k hk => hb.block k (by omega)
theorem Rd.far {w : World} {R c : Nat} (h : Rd w R c) {p : Addr} (hp : R < p.block) (u : Value) : Rd (w.setCell p u) R c := h.keep fun k hk => Below.heap_setCell w p u k (by omega)
theorem Rd.more {w : World} {R c c' : Nat} (h : Rd w R c) (hc : c ≤ c') : Rd w R c' := by
  obtain ⟨a, n, cp, p, h, h1, h2, h3, h4⟩ := h
  exact ⟨a, n, cp, p, h, h1, h2, by omega, h4⟩
theorem Rd.grown {w w' : World} {R c : Nat} {row : Option Nat} (h : Rd w R c) (hg : w.grownBy w' row) (hr : ∀ g, row = some g → R < g) : Rd w' R c :=
  h.keep fun k hk => hg.block k (by have := h.lt; omega) (fun e => by have := hr k e.symm; omega)

/-- From w to w' only the reader R has moved on, and there is new memory. -/
abbrev Moved (R : Nat) (w w' : World) : Prop := w.grownBy w' (some R)
theorem Moved.refl (R : Nat) (w : World) : Moved R w w := World.grownBy.refl w _
theorem Moved.trans {R : Nat} {a b c : World} (h : Moved R a b) (k : Moved R b c) : Moved R a c :=
  ⟨k.os.trans h.os, k.tape.trans h.tape, k.output.trans h.output, Nat.le_trans h.size k.size, fun i hi hne => (k.block i (Nat.lt_of_lt_of_le hi h.size) hne).trans (h.block i hi hne)⟩
theorem Moved.below {R : Nat} {a b c : World} (h : Moved R a b) (k : Below b.heap.size b c) : Moved R a c :=
  ⟨k.os.trans h.os, k.tape.trans h.tape, k.output.trans h.output, Nat.le_trans h.size k.size, fun i hi hne => (k.block i (Nat.lt_of_lt_of_le hi h.size)).trans (h.block i hi hne)⟩
theorem Moved.alloc {R : Nat} {a b : World} (h : Moved R a b) (o : Obj) : Moved R a (b.alloc o) :=
  ⟨h.os, h.tape, h.output, Nat.le_trans h.size (by simp), fun i hi hne => (Below.heap_alloc b o i (Nat.lt_of_lt_of_le hi h.size)).trans (h.block i hi hne)⟩
theorem Moved.drew {R : Nat} {a b : World} (h : Moved R a b) : Moved R a b.drew := ⟨h.os, h.tape, h.output, h.size, h.block⟩
theorem Moved.drewN {R : Nat} {a b : World} (h : Moved R a b) (n : Nat) : Moved R a (b.drewN n) := ⟨h.os, h.tape, h.output, h.size, h.block⟩
theorem Moved.set_ {R : Nat} {a b : World} (h : Moved R a b) {p : Addr} (hp : p.block = R ∨ a.heap.size ≤ p.block) (u : Value) : Moved R a (b.setCell p u) :=
  ⟨h.os, h.tape, h.output, by simpa [World.setCell] using h.size, fun i hi hne => (Below.heap_setCell b p u i (by
    rintro rfl
    rcases hp with hp | hp
    · exact hne (by rw [hp])
    · omega)).trans (h.block i hi hne)⟩

/-- What one question leaves. -/
def PickPost (R : Nat) (n : Int) (c : Nat) (w : World) (e : Ending) (w' : World) : Prop :=
  ∃ v : Int, e = .returned (.int .i64 v) ∧ 0 ≤ v ∧ (1 ≤ n → v < n) ∧ (n < 1 → v = 0) ∧ Rd w' R (c + 1) ∧ Moved R w w'

theorem rd_step {w : World} {R c n cp : Nat} {a : Option Addr} {p : Int} (h : w.heap[R]? = some (.cells #[.slice a n cp, .int .i64 p] 72 (0, 0))) (h1 : n ≤ 2000) (h2 : 0 ≤ p) (h3 : p ≤ c) (h4 : Bytes w R a n) (k : Nat) :
    Rd ((w.setCell ⟨R, 1, none⟩ (.int .i64 (p + 1))).drewN k) R (c + 1) ∧ Moved R w ((w.setCell ⟨R, 1, none⟩ (.int .i64 (p + 1))).drewN k) := by
  refine ⟨⟨a, n, cp, p + 1, ?_, h1, by omega, by omega, h4.keep fun q hq => World.cell?_setCell_other w ⟨R, 1, none⟩ q _ (fun e => by subst e; simp at hq)⟩, ((Moved.refl R w).set_ (.inl rfl) _).drewN k⟩
  show (w.setCell ⟨R, 1, none⟩ (.int .i64 (p + 1))).heap[R]? = _
  simp [World.setCell, Array.getElem?_modify, h]

theorem cell_blk {w : World} {g : Nat} {t : TypeId} {cs : Array Value} {fr : Nat × Nat} (h : w.heap[g]? = some (.cells cs t fr)) (i : Nat) : w.cell? ⟨g, i, none⟩ = cs[i]? := cell_of_row w g i cs t fr h
theorem free_blk {w : World} {g : Nat} {t : TypeId} {cs : Array Value} (h : w.heap[g]? = some (.cells cs t (0, 0))) (i : Nat) : w.frozen? ⟨g, i, none⟩ = false := by simp [World.frozen?, h]

theorem xor_nonneg (a : Int) (h0 : 0 ≤ a) (h1 : a ≤ 4611686018427387904) : ∃ r : Nat, bits .xor .i64 a (a / 64) = (r : Int) ∧ r < 9223372036854775808 := by
  obtain ⟨n, rfl⟩ := Int.eq_ofNat_of_zero_le h0
  have e : ((n : Int) / 64) = ((n / 64 : Nat) : Int) := by omega
  have hx : n ^^^ (n / 64) < 2 ^ 63 := Nat.xor_lt_two_pow (by omega) (by omega)
  exact ⟨n ^^^ (n / 64), by rw [e, i64_xor_nat _ _ (by omega) (by omega)], hx⟩

set_option maxRecDepth 100000 in
theorem pick_any (R : Nat) (n : Int) (c : Nat) (w : World) (h : Rd w R c) (hc : c ≤ 100000000) (hn0 : -4294967296 ≤ n) (hn : n ≤ 4294967296) :
    Calls Tryd.prog 39 #[.pointer (some ⟨R, 0, none⟩), .int .i64 n] w (PickPost R n c w) := by
  obtain ⟨a, l, cp, p, hh, h1, h2, h3, h4⟩ := h
  have c0 : w.cell? ⟨R, 0, none⟩ = some (.slice a l cp) := cell_blk hh 0
  have c1 : w.cell? ⟨R, 1, none⟩ = some (.int .i64 p) := cell_blk hh 1
  have f1 : w.frozen? ⟨R, 1, none⟩ = false := free_blk hh 1
  have hst := Lib.hid (rd_step hh h1 h2 h3 h4)
  clear hh
  by_cases hn1 : n < 1
  · go_enter Tryd.func39, Tryd.ntmps39
    go_wp2
    go_ret
    exact ⟨0, rfl, by omega, by omega, fun _ => rfl, hst.out 0⟩
  · by_cases hl : l = 0
    · have t0 : ((l : Int) == 0) = true := by simp [hl]
      clear hl h4
      go_enter Tryd.func39, Tryd.ntmps39
      go_wp2
      go_ret
      exact ⟨0, rfl, by omega, by omega, fun _ => rfl, hst.out 0⟩
    · have t0 : ((l : Int) == 0) = false := by rw [beq_eq_false_iff_ne]; omega
      rcases h4 with h4 | ⟨b, off, rfl, hb, hby⟩
      · exact absurd h4 hl
      · have hbR : ¬ R = b := by omega
        by_cases hk : p < l
        · obtain ⟨v, hv0, hv1, hv⟩ := hby p.toNat (by omega)
          have Hby := Lib.hid hby
          clear hby
          go_enter Tryd.func39, Tryd.ntmps39
          go_wp2
          go_ret
          exact ⟨v % n, rfl, Int.emod_nonneg _ (by omega), fun _ => Int.emod_lt_of_pos _ (by omega), fun h => absurd h (by omega), hst.out 0⟩
        · obtain ⟨q, rfl⟩ := Int.eq_ofNat_of_zero_le h2
          have hlp : 0 < l := by omega
          have hq : q ≤ 100000000 := by omega
          have hl1 : (1 : Int) ≤ l := by omega
          have m1 := Nat.mod_lt q hlp
          have m2 := Nat.mod_lt (q * 7 + 3) hlp
          have m3 : q / l ≤ q := Nat.div_le_self _ _
          obtain ⟨v, hv0, hv1, hv⟩ := hby (q % l) m1
          obtain ⟨u, hu0, hu1, hu⟩ := hby ((q * 7 + 3) % l) m2
          have Hby := Lib.hid hby
          clear hby
          have i1 : (0 : Int) ≤ (q : Int) % (l : Int) := by omega
          have i2 : (q : Int) % (l : Int) < (l : Int) := Int.emod_lt_of_pos _ (by omega)
          have i3 : ((q : Int) % (l : Int)).toNat = q % l := by omega
          have j1 : (0 : Int) ≤ ((q : Int) * 7 + 3) % (l : Int) := Int.emod_nonneg _ (by omega)
          have j2 : ((q : Int) * 7 + 3) % (l : Int) < (l : Int) := Int.emod_lt_of_pos _ (by omega)
          have j3 : (((q : Int) * 7 + 3) % (l : Int)).toNat = (q * 7 + 3) % l := by
            have : ((q : Int) * 7 + 3) % (l : Int) = (((q * 7 + 3) % l : Nat) : Int) := by rw [Int.natCast_emod]; rfl
            rw [this]; rfl
          have d1 : (0 : Int) ≤ (q : Int) / (l : Int) := Int.ediv_nonneg (by omega) (by omega)
          have d2 : (q : Int) / (l : Int) ≤ (q : Int) := by omega
          obtain ⟨r, hr, hr2⟩ := xor_nonneg (v * 131 + u * 1117 + (q : Int) * 29 + (q : Int) / (l : Int) * 53) (by omega) (by omega)
          go_enter Tryd.func39, Tryd.ntmps39
          go_wp2
          go_quiet (fail)
          go_wp2
          go_ret
          exact ⟨(r : Int) % n, rfl, Int.emod_nonneg _ (by omega), fun _ => Int.emod_lt_of_pos _ (by omega), fun h => absurd h (by omega), hst.out nq⟩

theorem Moved.toBelow {R B : Nat} {a b : World} (h : Moved R a b) (hB : B ≤ R) (hs : B ≤ a.heap.size) : Below B a b :=
  ⟨h.os, h.tape, h.output, h.size, fun k hk => h.block k (by omega) (by simp; omega)⟩
theorem IsRow.bytes {w : World} {a : Option Addr} {len cap : Nat} {zs : List Int} (h : IsRow .u8 w a len cap zs) : ∀ n, n ≤ len → Bytes w w.heap.size a n := by
  intro n hn
  rcases h with ⟨rfl, rfl, rfl, rfl⟩ | ⟨x, rfl, hl, hm, hz, hc, hwf⟩
  · exact .inl (by omega)
  · by_cases h0 : n = 0
    · exact .inl h0
    · obtain ⟨b, off, sp⟩ := x
      have h1 := hc 0 (by omega)
      have hsp : sp = none := by simpa [Addr.add] using World.cell?_spot h1
      subst hsp
      have hb : b < w.heap.size := by
        rcases Nat.lt_or_ge b w.heap.size with hlt | hge
        · exact hlt
        · simp [Addr.add, World.cell?, Array.getElem?_eq_none hge] at h1
      refine .inr ⟨b, off, rfl, hb, fun i hi => ?_⟩
      have h2 := hc i (by omega)
      have hw := hwf (zs.getD i 0) (by
        have : i < zs.length := by omega
        simp only [List.getD, List.getElem?_eq_getElem this, Option.getD_some]
        exact List.getElem_mem _)
      have hbd := bounds_u8 hw
      refine ⟨zs.getD i 0, hbd.1, hbd.2, ?_⟩
      rw [← h2]
      congr 1
      unfold Addr.add
      split
      · rename_i hi0; subst hi0; rfl
      · rfl

theorem l21Open_any (a : Option Addr) (len cap : Nat) (zs : List Int) (w : World) (h : IsRow .u8 w a len cap zs) (hl : len ≤ 1048576) :
    Calls Tryd.prog 37 #[.slice a len cap] w fun e w' => e = .returned (.pointer (some ⟨w.heap.size, 0, none⟩)) ∧ Rd w' w.heap.size 0 ∧ Below w.heap.size w w' := by
  have hcap : len ≤ cap := by
    rcases h with ⟨rfl, rfl, rfl, rfl⟩ | ⟨x, rfl, hl, _⟩
    · exact Nat.le_refl _
    · exact hl
  have hby := Lib.hid h.bytes
  clear h
  by_cases h2 : 2000 < len
  · go_enter Tryd.func37, Tryd.ntmps37
    go_wp2
    go_ret
    refine ⟨rfl, ⟨a, 2000, cap, 0, heap_alloc_new w _, by omega, by omega, by omega, (hby.out 2000 (by omega)).keep fun p hp => World.cell?_alloc_lt w _ p hp⟩, (Below.refl _ _).alloc (Nat.le_refl _) _⟩
  · go_enter Tryd.func37, Tryd.ntmps37
    go_wp2
    go_ret
    refine ⟨rfl, ⟨a, len, cap, 0, heap_alloc_new w _, by omega, by omega, by omega, (hby.out len (by omega)).keep fun p hp => World.cell?_alloc_lt w _ p hp⟩, (Below.refl _ _).alloc (Nat.le_refl _) _⟩

/-- What a question for an element leaves. -/
def OfPost (R : Nat) (ss : List ByteArray) (c : Nat) (w : World) (e : Ending) (w' : World) : Prop :=
  ∃ s, s ∈ ss ∧ e = .returned (.string s) ∧ Rd w' R (c + 1) ∧ Moved R w w'
theorem of_any (R g n cp : Nat) (ss : List ByteArray) (c : Nat) (w : World) (hn : ss.length = n) (ho : Own w g (sv ss)) (h0 : 0 < ss.length) (hg : g ≠ R) (h : Rd w R c) (hc : c ≤ 100000000) (hl : ss.length ≤ 1000) :
    Calls Tryd.prog 40 #[.pointer (some ⟨R, 0, none⟩), .slice (some ⟨g, 0, none⟩) n cp] w (OfPost R ss c w) := by
  subst hn
  go_enter Tryd.func40, Tryd.ntmps40
  go_wp2_with fail
  refine (pick_any R _ c w h hc (by omega) (by omega)).mono ?_
  rintro e w1 ⟨v, rfl, hv0, hv1, _, hr, hm⟩
  obtain ⟨k, rfl⟩ := Int.eq_ofNat_of_zero_le hv0
  have hk : k < ss.length := by have := hv1 (by omega); omega
  have hc1 : w1.cell? ⟨g, k, none⟩ = some (.string ss[k]) := (ho.grown hm (by simpa using hg)).at_ (sv_at hk)
  clear hv1
  go_wp2
  go_ret
  exact ⟨ss[k], List.getElem_mem _, rfl, hr, hm⟩

/-- The cells of some numbers. -/
def iv (ns : List Int) : List Value := ns.map (.int .i64)
theorem length_iv (ns : List Int) : (iv ns).length = ns.length := by simp [iv]
theorem iv_at {ns : List Int} {i : Nat} (h : i < ns.length) : (iv ns)[i]? = some (.int .i64 ns[i]) := by simp [iv, List.getElem?_eq_getElem h]
def NumPost (R : Nat) (ns : List Int) (c : Nat) (w : World) (e : Ending) (w' : World) : Prop :=
  ∃ n, n ∈ ns ∧ e = .returned (.int .i64 n) ∧ Rd w' R (c + 1) ∧ Moved R w w'
theorem num_any (R g n cp : Nat) (ns : List Int) (c : Nat) (w : World) (hn : ns.length = n) (ho : Own w g (iv ns)) (h0 : 0 < ns.length) (hg : g ≠ R) (h : Rd w R c) (hc : c ≤ 100000000) (hl : ns.length ≤ 1000) :
    Calls Tryd.prog 76 #[.pointer (some ⟨R, 0, none⟩), .slice (some ⟨g, 0, none⟩) n cp] w (NumPost R ns c w) := by
  subst hn
  go_enter Tryd.func76, Tryd.ntmps76
  go_wp2_with fail
  refine (pick_any R _ c w h hc (by omega) (by omega)).mono ?_
  rintro e w1 ⟨v, rfl, hv0, hv1, _, hr, hm⟩
  obtain ⟨k, rfl⟩ := Int.eq_ofNat_of_zero_le hv0
  have hk : k < ns.length := by have := hv1 (by omega); omega
  have hc1 : w1.cell? ⟨g, k, none⟩ = some (.int .i64 ns[k]) := (ho.grown hm (by simpa using hg)).at_ (iv_at hk)
  clear hv1
  go_wp2
  go_ret
  exact ⟨ns[k], List.getElem_mem _, rfl, hr, hm⟩
end Go.Proofs.YtlpfhabfbnjnbaaDoor

/- Contracts of CageValid of both sides. -/
namespace Go.Proofs.YtlpfhabfbnjnbaaDoor
open Go.RowKit

theorem cage_no1 {ws : List ByteArray} {bs : List Int} (h : ¬ (1 ≤ ws.length ∧ ws.length ≤ 4 ∧ 1 ≤ bs.length ∧ bs.length ≤ 9)) : cageB ws bs = false := by
  cases e : cageB ws bs
  · rfl
  · exact absurd (cage_iff.1 e).1 h
theorem cage_no2 {ws : List ByteArray} {bs : List Int} {k : Nat} (hk : k < ws.length) (h : bitsB ws[k] = false) : cageB ws bs = false := by
  cases e : cageB ws bs
  · rfl
  · rw [(cage_iff.1 e).2.1 _ (List.getElem_mem hk)] at h; cases h
theorem cage_no3 {ws : List ByteArray} {bs : List Int} {k : Nat} (hk : k < bs.length) (h : ¬ (0 ≤ bs[k] ∧ bs[k] < 2 ^ ws.length)) : cageB ws bs = false := by
  cases e : cageB ws bs
  · rfl
  · exact absurd ((cage_iff.1 e).2.2 _ (List.getElem_mem hk)) h
def wsTo (ws : List ByteArray) (k : Nat) : Prop := ∀ j (h : j < ws.length), j < k → bitsB ws[j] = true
def bsTo (n : Nat) (bs : List Int) (k : Nat) : Prop := ∀ j (h : j < bs.length), j < k → 0 ≤ bs[j] ∧ bs[j] < 2 ^ n
theorem wsTo_zero (ws : List ByteArray) : wsTo ws 0 := fun _ _ h => absurd h (by omega)
theorem bsTo_zero (n : Nat) (bs : List Int) : bsTo n bs 0 := fun _ _ h => absurd h (by omega)
theorem wsTo_succ {ws : List ByteArray} {k : Nat} (h : wsTo ws k) (hk : k < ws.length) (hp : bitsB ws[k] = true) : wsTo ws (k + 1) := fun j hj hlt => by
  by_cases e : j = k
  · subst e; exact hp
  · exact h j hj (by omega)
theorem bsTo_succ {n : Nat} {bs : List Int} {k : Nat} (h : bsTo n bs k) (hk : k < bs.length) (hp : 0 ≤ bs[k] ∧ bs[k] < 2 ^ n) : bsTo n bs (k + 1) := fun j hj hlt => by
  by_cases e : j = k
  · subst e; exact hp
  · exact h j hj (by omega)
theorem cage_yes {ws : List ByteArray} {bs : List Int} (h : 1 ≤ ws.length ∧ ws.length ≤ 4 ∧ 1 ≤ bs.length ∧ bs.length ≤ 9) (h1 : wsTo ws ws.length) (h2 : bsTo ws.length bs bs.length) : cageB ws bs = true := by
  refine cage_iff.2 ⟨h, fun s hs => ?_, fun b hb => ?_⟩
  · obtain ⟨j, hj, rfl⟩ := List.mem_iff_getElem.1 hs
    exact h1 j hj hj
  · obtain ⟨j, hj, rfl⟩ := List.mem_iff_getElem.1 hb
    exact h2 j hj hj
theorem wrap_pow {n : Nat} (h : n ≤ 4) : wrap64 (2 ^ n) = 2 ^ n := by
  have h1 : (2 : Nat) ^ n ≤ 2 ^ 4 := Nat.pow_le_pow_right (by omega) h
  have h2 : (2 : Int) ^ n = ((2 ^ n : Nat) : Int) := by simp
  rw [h2]
  generalize (2 : Nat) ^ n = m at *
  unfold wrap64; omega
theorem wrap_pow1 {n : Nat} (h : n ≤ 4) : wrap64 (2 ^ n - 1) = 2 ^ n - 1 := by
  have h1 : (2 : Nat) ^ n ≤ 2 ^ 4 := Nat.pow_le_pow_right (by omega) h
  have h2 : (2 : Int) ^ n = ((2 ^ n : Nat) : Int) := by simp
  rw [h2]
  generalize (2 : Nat) ^ n = m at *
  unfold wrap64; omega
set_option maxRecDepth 100000 in
set_option maxHeartbeats 2000000 in
theorem implCageValid_any (a1 a2 : Option Addr) (c1 c2 : Nat) (ws : List ByteArray) (bs : List Int) (w : World) (h1 : Reads w w.heap.size a1 (sv ws)) (h2 : Reads w w.heap.size a2 (iv bs)) (hz : ∀ s ∈ ws, s.size ≤ 4294967296) (hl1 : ws.length ≤ 4294967296) (hl2 : bs.length ≤ 4294967296) :
    Calls Tryd.prog 13 #[.agg #[.slice a1 ws.length c1, .slice a2 bs.length c2]] w fun e w' => e = .returned (.bool (cageB ws bs)) ∧ Below w.heap.size w w' := by
  have o0 := Own.new w [.slice a1 ws.length c1, .slice a2 bs.length c2] 25
  have hb0 := (Below.refl w.heap.size w).alloc (Nat.le_refl _) (.cells [.slice a1 ws.length c1, .slice a2 bs.length c2].toArray 25)
  have f0 := o0.at_ (i := 0) rfl
  have f1 := o0.at_ (i := 1) rfl
  have r1 := h1.alloc_ (.cells [.slice a1 ws.length c1, .slice a2 bs.length c2].toArray 25)
  have r2 := (h2.below hb0 (Nat.le_refl _)).more hb0.size
  have HZ := Lib.hid hz
  clear h1 h2 hz o0
  by_cases g1 : ws.length < 1
  · have hno := cage_no1 (ws := ws) (bs := bs) (by omega)
    go_enter Tryd.func13, Tryd.ntmps13
    go_wp2
    go_ret
    first | exact ⟨rfl, hb0⟩ | exact ⟨ret_bool hno.symm, hb0⟩
  by_cases g2 : 4 < ws.length
  · have hno := cage_no1 (ws := ws) (bs := bs) (by omega)
    go_enter Tryd.func13, Tryd.ntmps13
    go_wp2
    go_ret
    first | exact ⟨rfl, hb0⟩ | exact ⟨ret_bool hno.symm, hb0⟩
  by_cases g3 : bs.length < 1
  · have hno := cage_no1 (ws := ws) (bs := bs) (by omega)
    go_enter Tryd.func13, Tryd.ntmps13
    go_wp2
    go_ret
    first | exact ⟨rfl, hb0⟩ | exact ⟨ret_bool hno.symm, hb0⟩
  by_cases g4 : 9 < bs.length
  · have hno := cage_no1 (ws := ws) (bs := bs) (by omega)
    go_enter Tryd.func13, Tryd.ntmps13
    go_wp2
    go_ret
    first | exact ⟨rfl, hb0⟩ | exact ⟨ret_bool hno.symm, hb0⟩
  have HL : Hid (1 ≤ ws.length ∧ ws.length ≤ 4 ∧ 1 ≤ bs.length ∧ bs.length ≤ 9) := Lib.hid (by omega)
  go_enter Tryd.func13, Tryd.ntmps13
  go_wp2_with fail
  go_loop [4, 32] (fun _ i => ∃ k : Nat, k ≤ ws.length ∧ i = .int .i64 (k : Int) ∧ wsTo ws k) (fun _ i => ws.length - (intOf i).toNat)
  case atStart => exact ⟨0, Nat.zero_le _, rfl, wsTo_zero _⟩
  case round =>
    obtain ⟨k, hk, rfl, hw⟩ := hrel
    by_cases hlt : k < ws.length
    · have HR1 := Lib.hid r1
      obtain ⟨b, off, rfl, hbl, hc⟩ := r1.open_ (by rw [length_sv]; omega)
      have d1 := hc k (by rw [length_sv]; exact hlt)
      rw [sv_at hlt] at d1
      have q1 : (0 : Int) ≤ (k : Int) := by omega
      have q2 : (k : Int) < (ws.length : Int) := by omega
      have hsz := HZ.out _ (List.getElem_mem hlt)
      have nw := fun W => wheelValid_any ws[k] W hsz
      have HY := Lib.hid (fun h => wsTo_succ hw hlt h)
      have HN := Lib.hid (fun h => cage_no2 (bs := bs) hlt h)
      clear hc hw
      generalize ws[k] = s at *
      generalize bitsB s = bb at *
      cases bb with
      | true =>
        go_wp2_with (go_at_call 34; ((with_reducible refine (nw _).mono ?_); rintro e w' ⟨rfl, rfl⟩))
        go_round
        case rel => exact ⟨k + 1, by omega, by go_num, HY.out (by trivial)⟩
        case measure => simp [intOf]; omega
      | false =>
        go_wp2_with (go_at_call 34; ((with_reducible refine (nw _).mono ?_); rintro e w' ⟨rfl, rfl⟩))
        go_ret
        exact ⟨ret_bool (HN.out (by trivial)).symm, hb0⟩
    · have hk' : k = ws.length := by omega
      subst hk'
      have HW := Lib.hid hw
      clear hw hk hlt
      go_wp2_with fail
      go_loop [6, 43] (fun _ i => ∃ k : Nat, k ≤ bs.length ∧ i = .int .i64 (k : Int) ∧ bsTo ws.length bs k) (fun _ i => bs.length - (intOf i).toNat)
      case atStart => exact ⟨0, Nat.zero_le _, rfl, bsTo_zero _ _⟩
      case round =>
        obtain ⟨k, hk, rfl, hw⟩ := hrel
        by_cases hlt : k < bs.length
        · obtain ⟨b, off, rfl, hbl, hc⟩ := r2.open_ (by rw [length_iv]; omega)
          have d1 := hc k (by rw [length_iv]; exact hlt)
          rw [iv_at hlt] at d1
          have q1 : (0 : Int) ≤ (k : Int) := by omega
          have q2 : (k : Int) < (bs.length : Int) := by omega
          have HY := Lib.hid (fun h => bsTo_succ hw hlt h)
          have HN := Lib.hid (fun h => cage_no3 (ws := ws) hlt h)
          clear hc hw
          have hwr := wrap_pow (n := ws.length) (by omega)
          generalize bs[k] = x at *
          by_cases hx0 : x < 0
          · have HB := Lib.hid (HN.out (by omega))
            go_wp2
            go_ret
            exact ⟨ret_bool HB.out.symm, hb0⟩
          by_cases hx1 : 2 ^ ws.length ≤ x
          · have HB := Lib.hid (HN.out (by omega))
            go_wp2
            go_ret
            exact ⟨ret_bool HB.out.symm, hb0⟩
          have HB := Lib.hid (HY.out (by omega))
          go_wp2_with fail
          go_round
          case rel => exact ⟨k + 1, by omega, by go_num, HB.out⟩
          case measure => simp [intOf]; omega
        · have hk' : k = bs.length := by omega
          subst hk'
          have HC := Lib.hid (cage_yes HL.out HW.out hw)
          go_wp2_with fail
          go_ret
          exact ⟨ret_bool HC.out.symm, hb0⟩
set_option maxRecDepth 100000 in
set_option maxHeartbeats 2000000 in
theorem specCageValid_any (a1 a2 : Option Addr) (c1 c2 : Nat) (ws : List ByteArray) (bs : List Int) (w : World) (h1 : Reads w w.heap.size a1 (sv ws)) (h2 : Reads w w.heap.size a2 (iv bs)) (hz : ∀ s ∈ ws, s.size ≤ 4294967296) (hl1 : ws.length ≤ 4294967296) (hl2 : bs.length ≤ 4294967296) :
    Calls Tryd.prog 32 #[.agg #[.slice a1 ws.length c1, .slice a2 bs.length c2]] w fun e w' => e = .returned (.bool (cageB ws bs)) ∧ Below w.heap.size w w' := by
  have o0 := Own.new w [.slice a1 ws.length c1, .slice a2 bs.length c2] 25
  have hb0 := (Below.refl w.heap.size w).alloc (Nat.le_refl _) (.cells [.slice a1 ws.length c1, .slice a2 bs.length c2].toArray 25)
  have f0 := o0.at_ (i := 0) rfl
  have f1 := o0.at_ (i := 1) rfl
  have r1 := h1.alloc_ (.cells [.slice a1 ws.length c1, .slice a2 bs.length c2].toArray 25)
  have r2 := (h2.below hb0 (Nat.le_refl _)).more hb0.size
  have HZ := Lib.hid hz
  clear h1 h2 hz
  by_cases g1 : 1 ≤ ws.length ∧ ws.length ≤ 4
  case neg =>
    have hno := cage_no1 (ws := ws) (bs := bs) (by omega)
    have n1 : ∀ W, Calls Tryd.prog 54 #[.int .i64 (ws.length : Int), .int .i64 1, .int .i64 4] W fun e w' => e = .returned (.bool false) ∧ W = w' := fun W => by
      have := l1In_any (ws.length : Int) 1 4 W
      rwa [show (decide ((1 : Int) ≤ (ws.length : Int)) && decide ((ws.length : Int) ≤ 4)) = false by rw [Bool.eq_false_iff]; simp; omega] at this
    go_enter Tryd.func32, Tryd.ntmps32
    go_wp2_with (go_at_call 54; ((with_reducible refine (n1 _).mono ?_); rintro e w' ⟨rfl, rfl⟩))
    go_ret
    first | exact ⟨rfl, hb0⟩ | exact ⟨ret_bool hno.symm, hb0⟩
  have n1 : ∀ W, Calls Tryd.prog 54 #[.int .i64 (ws.length : Int), .int .i64 1, .int .i64 4] W fun e w' => e = .returned (.bool true) ∧ W = w' := fun W => by
    have := l1In_any (ws.length : Int) 1 4 W
    rwa [show (decide ((1 : Int) ≤ (ws.length : Int)) && decide ((ws.length : Int) ≤ 4)) = true by simp; omega] at this
  by_cases g2 : 1 ≤ bs.length ∧ bs.length ≤ 9
  case neg =>
    have hno := cage_no1 (ws := ws) (bs := bs) (by omega)
    have n2 : ∀ W, Calls Tryd.prog 54 #[.int .i64 (bs.length : Int), .int .i64 1, .int .i64 9] W fun e w' => e = .returned (.bool false) ∧ W = w' := fun W => by
      have := l1In_any (bs.length : Int) 1 9 W
      rwa [show (decide ((1 : Int) ≤ (bs.length : Int)) && decide ((bs.length : Int) ≤ 9)) = false by rw [Bool.eq_false_iff]; simp; omega] at this
    go_enter Tryd.func32, Tryd.ntmps32
    go_wp2_with (first | (go_at_call 54; ((with_reducible refine (n1 _).mono ?_); rintro e w' ⟨rfl, rfl⟩)) | (go_at_call 54; ((with_reducible refine (n2 _).mono ?_); rintro e w' ⟨rfl, rfl⟩)))
    go_ret
    first | exact ⟨rfl, hb0⟩ | exact ⟨ret_bool hno.symm, hb0⟩
  have n2 : ∀ W, Calls Tryd.prog 54 #[.int .i64 (bs.length : Int), .int .i64 1, .int .i64 9] W fun e w' => e = .returned (.bool true) ∧ W = w' := fun W => by
    have := l1In_any (bs.length : Int) 1 9 W
    rwa [show (decide ((1 : Int) ≤ (bs.length : Int)) && decide ((bs.length : Int) ≤ 9)) = true by simp; omega] at this
  have HL : Hid (1 ≤ ws.length ∧ ws.length ≤ 4 ∧ 1 ≤ bs.length ∧ bs.length ≤ 9) := Lib.hid (by omega)
  have hwr := wrap_pow (n := ws.length) (by omega)
  have hwr2 := wrap_pow1 (n := ws.length) (by omega)
  go_enter Tryd.func32, Tryd.ntmps32
  go_wp2_with (first | (go_at_call 54; ((with_reducible refine (n1 _).mono ?_); rintro e w' ⟨rfl, rfl⟩)) | (go_at_call 54; ((with_reducible refine (n2 _).mono ?_); rintro e w' ⟨rfl, rfl⟩)))
  go_loop [3] (fun i => ∃ k : Nat, k ≤ ws.length ∧ i = .int .i64 (k : Int) ∧ wsTo ws k) (fun i => ws.length - (intOf i).toNat)
  case atStart => exact ⟨0, Nat.zero_le _, rfl, wsTo_zero _⟩
  case round =>
    obtain ⟨k, hk, rfl, hw⟩ := hrel
    by_cases hlt : k < ws.length
    · have HR1 := Lib.hid r1
      obtain ⟨b, off, rfl, hbl, hc⟩ := r1.open_ (by rw [length_sv]; omega)
      have d1 := hc k (by rw [length_sv]; exact hlt)
      rw [sv_at hlt] at d1
      have q1 : (0 : Int) ≤ (k : Int) := by omega
      have q2 : (k : Int) < (ws.length : Int) := by omega
      have hsz := HZ.out _ (List.getElem_mem hlt)
      have nw := fun W => l15Bits_any ws[k] W hsz
      have HY := Lib.hid (fun h => wsTo_succ hw hlt h)
      have HN := Lib.hid (fun h => cage_no2 (bs := bs) hlt h)
      clear hc hw
      generalize ws[k] = s at *
      generalize bitsB s = bb at *
      cases bb with
      | true =>
        go_wp2_with (go_at_call 55; ((with_reducible refine (nw _).mono ?_); rintro e w' ⟨rfl, rfl⟩))
        go_round
        case rel => exact ⟨k + 1, by omega, by go_num, HY.out (by trivial)⟩
        case measure => simp [intOf]; omega
      | false =>
        go_wp2_with (go_at_call 55; ((with_reducible refine (nw _).mono ?_); rintro e w' ⟨rfl, rfl⟩))
        go_ret
        exact ⟨ret_bool (HN.out (by trivial)).symm, hb0⟩
    · have hk' : k = ws.length := by omega
      subst hk'
      have HW := Lib.hid hw
      clear hw hk hlt
      go_wp2_with fail
      go_loopw [4] (fun i wr => ∃ k : Nat, k ≤ bs.length ∧ i = .int .i64 (k : Int) ∧ bsTo ws.length bs k ∧ Below (w.heap.size + 1) (w.alloc (.cells [.slice a1 ws.length c1, .slice a2 bs.length c2].toArray 25)) wr) (fun i _ => bs.length - (intOf i).toNat)
      case atStart => exact ⟨0, Nat.zero_le _, rfl, bsTo_zero _ _, Below.refl _ _⟩
      case round =>
        obtain ⟨k, hk, rfl, hw, hbr⟩ := hrel
        have p1 := o0.below hbr (Nat.lt_succ_self _)
        have e0 := p1.at_ (i := 0) rfl
        have e1 := p1.at_ (i := 1) rfl
        have hbwr : Below w.heap.size w wr := hb0.trans (hbr.mono (by omega))
        have hzr := p1.lt
        by_cases hlt : k < bs.length
        · obtain ⟨b, off, rfl, hbl, hc⟩ := (r2.below hbr (by simp)).open_ (by rw [length_iv]; omega)
          have d1 := hc k (by rw [length_iv]; exact hlt)
          rw [iv_at hlt] at d1
          have q1 : (0 : Int) ≤ (k : Int) := by omega
          have q2 : (k : Int) < (bs.length : Int) := by omega
          have HY := Lib.hid (fun h => bsTo_succ hw hlt h)
          have HN := Lib.hid (fun h => cage_no3 (ws := ws) hlt h)
          clear hc hw
          generalize bs[k] = x at *
          have q4 : b < wr.heap.size := by have := hbr.size; omega
          have d3 := fun (cc : Cls wr.heap.size wr) => (cc.cell b (off + k) q4).trans d1
          have d4 := fun (cc : Cls wr.heap.size wr) => (cc.cell w.heap.size 0 hzr).trans e0
          have d5 := fun (cc : Cls wr.heap.size wr) => (cc.cell w.heap.size 1 hzr).trans e1
          go_wp2_with fail
          refine wp_region_cls (by kernel_rfl) (by kernel_rfl) ?_
          repeat (go_big_quiet_step (first | (go_at_call 54; with_reducible exact cls_same (l1In_any _ _ _ _))))
          refine wpQuiet_nil ?_
          intro wc hbc
          simp only [hwr, hwr2]
          have hbw2 := bt hbwr hbc
          have hbr2 := hbr.trans (hbc.mono (show w.heap.size + 1 ≤ wr.heap.size by omega))
          by_cases x0 : 0 ≤ x
          case neg =>
            have HB := Lib.hid (HN.out (by omega))
            have t0 : decide (0 ≤ x) = false := decide_eq_false x0
            simp only [t0, Bool.not_false, Bool.true_or, Bool.false_and]
            go_wp2_with fail
            go_ret
            exact ⟨ret_bool HB.out.symm, hbw2⟩
          have t0 : decide (0 ≤ x) = true := decide_eq_true x0
          by_cases x1 : x ≤ 2 ^ ws.length - 1
          case neg =>
            have HB := Lib.hid (HN.out (by omega))
            have t1 : decide (x ≤ 2 ^ ws.length - 1) = false := decide_eq_false x1
            simp only [t0, t1, Bool.not_false, Bool.not_true, Bool.or_true, Bool.and_false]
            go_wp2_with fail
            go_ret
            exact ⟨ret_bool HB.out.symm, hbw2⟩
          have HB := Lib.hid (HY.out (by omega))
          have t1 : decide (x ≤ 2 ^ ws.length - 1) = true := decide_eq_true x1
          simp only [t0, t1, Bool.not_true, Bool.or_false, Bool.and_true]
          go_wp2_with fail
          go_roundw
          case rel => exact ⟨k + 1, by omega, by go_num, HB.out, hbr2⟩
          case measure => simp [intOf]; omega
        · have hk' : k = bs.length := by omega
          subst hk'
          have HC := Lib.hid (cage_yes HL.out HW.out hw)
          go_wp2_with fail
          go_ret
          exact ⟨ret_bool HC.out.symm, hbwr⟩
end Go.Proofs.YtlpfhabfbnjnbaaDoor

/- A contract of the library, laid by the shelf's tools at this program (plain form). -/
namespace Go.Proofs
open Go.Shelf
def Tryd.lays156_ren : Go.Shelf.Ren := ⟨fun | 156 => 31 | 165 => 51 | 166 => 52 | 169 => 53 | 240 => 66 | 241 => 67 | 276 => 81 | 277 => 82 | n => n, fun | 31 => 22 | 9 => 9 | 3 => 3 | 4 => 4 | 0 => 0 | 20 => 20 | 72 => 66 | 76 => 47 | 70 => 64 | 37 => 31 | 75 => 46 | 127 => 83 | 164 => 99 | 5 => 5 | 80 => 68 | n => n, fun | n => n⟩
theorem Tryd.lays156 : Go.Proofs.Lays.n156 Tryd.prog Tryd.lays156_ren := {
  mixed := by kernel_rfl
  f156 := Tryd.func31.trans (congrArg some (by kernel_rfl))
  f165 := Tryd.func51.trans (congrArg some (by kernel_rfl))
  f166 := Tryd.func52.trans (congrArg some (by kernel_rfl))
  f169 := Tryd.func53.trans (congrArg some (by kernel_rfl))
  f240 := Tryd.func66.trans (congrArg some (by kernel_rfl))
  f241 := Tryd.func67.trans (congrArg some (by kernel_rfl))
  f276 := Tryd.func81.trans (congrArg some (by kernel_rfl))
  f277 := Tryd.func82.trans (congrArg some (by kernel_rfl))
  t0 := Tryd.underlying0
  a0 := Tryd.isAgg0
  z0 := Tryd.sizeOf0
  v0 := Tryd.zeroValue0
  t3 := Tryd.underlying3
  a3 := Tryd.isAgg3
  z3 := Tryd.sizeOf3
  v3 := Tryd.zeroValue3
  t4 := Tryd.underlying4
  a4 := Tryd.isAgg4
  z4 := Tryd.sizeOf4
  v4 := Tryd.zeroValue4
  t9 := Tryd.underlying9
  a9 := Tryd.isAgg9
  z9 := Tryd.sizeOf9
  v9 := Tryd.zeroValue9
  t20 := Tryd.underlying20
  a20 := Tryd.isAgg20
  z20 := Tryd.sizeOf20
  v20 := Tryd.zeroValue20
  t31 := Tryd.underlying22
  a31 := Tryd.isAgg22
  z31 := Tryd.sizeOf22
  v31 := Tryd.zeroValue22
  t37 := Tryd.underlying31
  a37 := Tryd.isAgg31
  z37 := Tryd.sizeOf31
  v37 := Tryd.zeroValue31
  t70 := Tryd.underlying64
  a70 := Tryd.isAgg64
  z70 := Tryd.sizeOf64
  v70 := Tryd.zeroValue64
  t72 := Tryd.underlying66
  a72 := Tryd.isAgg66
  z72 := Tryd.sizeOf66
  v72 := Tryd.zeroValue66
  t75 := Tryd.underlying46
  a75 := Tryd.isAgg46
  z75 := Tryd.sizeOf46
  v75 := Tryd.zeroValue46
  t76 := Tryd.underlying47
  a76 := Tryd.isAgg47
  z76 := Tryd.sizeOf47
  v76 := Tryd.zeroValue47
  t127 := Tryd.underlying83
  a127 := Tryd.isAgg83
  z127 := Tryd.sizeOf83
  v127 := Tryd.zeroValue83
  t164 := Tryd.underlying99
  a164 := Tryd.isAgg99
  z164 := Tryd.sizeOf99
  v164 := Tryd.zeroValue99 }
theorem Tryd.Builder_Extra_156 : Builder.Extra Tryd.prog Tryd.lays156_ren := {
  sizeBuilder := by kernel_rfl
  liesBuilder := by kernel_rfl
  t5 := Tryd.underlying5
  a5 := Tryd.isAgg5
  z5 := Tryd.sizeOf5
  v5 := Tryd.zeroValue5
  infoByte := by kernel_rfl
  cellsByte := by kernel_rfl
  sizeByte := by kernel_rfl
  neB5 := by decide }
open Go.RowKit in
/-- No element: the empty string; the world is as it was. (Whatever the slice's address and capacity: a nil slice too.) (LAID: no walk: one application.) -/
theorem Tryd.strings_Join_none (a : Option Addr) (c : Nat) (sep : ByteArray) (w : World) :
    Calls Tryd.prog 31 #[.slice a 0 c, .string sep] w fun e w' => e = .returned (.string ⟨#[]⟩) ∧ w' = w := Any.strings_Join_none Tryd.lays156 Tryd.Builder_Extra_156 a c sep w
open Go.RowKit in
/-- strings.Join: "Join concatenates the elements of its first argument to create a single string. The separator string sep is placed between elements in the resulting string.": HOWEVER MANY ELEMENTS. Below the heap's end the world is as it was. (LAID: no walk: one application.) -/
theorem Tryd.strings_Join (bk o c : Nat) (xs : List ByteArray) (sep : ByteArray) (w : World) (hcells : ∀ (j : Nat) x, xs[j]? = some x → w.cell? ⟨bk, o + j, none⟩ = some (.string x)) (hbk : bk < w.heap.size) (hN : xs.length ≤ 140737488355328) (hcap : xs.length ≤ c) (hlen : (Lib.join (xs.map (·.data.toList)) sep.data.toList).length ≤ 140737488355328) :
    Calls Tryd.prog 31 #[.slice (some ⟨bk, o, none⟩) xs.length c, .string sep] w fun e w' => e = .returned (.string ⟨(Lib.join (xs.map (·.data.toList)) sep.data.toList).toArray⟩) ∧ Below w.heap.size w w' := Any.strings_Join Tryd.lays156 Tryd.Builder_Extra_156 bk o c xs sep w hcells hbk hN hcap hlen
def Tryd.lays171_ren : Go.Shelf.Ren := ⟨fun | 171 => 30 | 243 => 50 | 246 => 65 | 283 => 77 | 284 => 78 | 285 => 79 | 286 => 80 | 129 => 89 | 317 => 88 | 318 => 90 | 319 => 91 | 320 => 92 | 337 => 93 | 338 => 94 | n => n, fun | 3 => 3 | 9 => 9 | 2 => 2 | 4 => 4 | 171 => 94 | 0 => 0 | 53 => 86 | 37 => 31 | 5 => 5 | 173 => 97 | 212 => 110 | 51 => 102 | 20 => 20 | 213 => 111 | 46 => 70 | 232 => 119 | 233 => 120 | n => n, fun | 17 => 3 | 18 => 6 | 19 => 7 | n => n⟩
theorem Tryd.lays171 : Go.Proofs.Lays.n171 Tryd.prog Tryd.lays171_ren := {
  mixed := by kernel_rfl
  f129 := Tryd.func89.trans (congrArg some (by kernel_rfl))
  f171 := Tryd.func30.trans (congrArg some (by kernel_rfl))
  f243 := Tryd.func50.trans (congrArg some (by kernel_rfl))
  f246 := Tryd.func65.trans (congrArg some (by kernel_rfl))
  f283 := Tryd.func77.trans (congrArg some (by kernel_rfl))
  f284 := Tryd.func78.trans (congrArg some (by kernel_rfl))
  f285 := Tryd.func79.trans (congrArg some (by kernel_rfl))
  f286 := Tryd.func80.trans (congrArg some (by kernel_rfl))
  f317 := Tryd.func88.trans (congrArg some (by kernel_rfl))
  f318 := Tryd.func90.trans (congrArg some (by kernel_rfl))
  f319 := Tryd.func91.trans (congrArg some (by kernel_rfl))
  f320 := Tryd.func92.trans (congrArg some (by kernel_rfl))
  f337 := Tryd.func93.trans (congrArg some (by kernel_rfl))
  f338 := Tryd.func94.trans (congrArg some (by kernel_rfl))
  t0 := Tryd.underlying0
  a0 := Tryd.isAgg0
  z0 := Tryd.sizeOf0
  v0 := Tryd.zeroValue0
  t2 := Tryd.underlying2
  a2 := Tryd.isAgg2
  z2 := Tryd.sizeOf2
  v2 := Tryd.zeroValue2
  t3 := Tryd.underlying3
  a3 := Tryd.isAgg3
  z3 := Tryd.sizeOf3
  v3 := Tryd.zeroValue3
  t4 := Tryd.underlying4
  a4 := Tryd.isAgg4
  z4 := Tryd.sizeOf4
  v4 := Tryd.zeroValue4
  t5 := Tryd.underlying5
  a5 := Tryd.isAgg5
  z5 := Tryd.sizeOf5
  v5 := Tryd.zeroValue5
  t9 := Tryd.underlying9
  a9 := Tryd.isAgg9
  z9 := Tryd.sizeOf9
  v9 := Tryd.zeroValue9
  t20 := Tryd.underlying20
  a20 := Tryd.isAgg20
  z20 := Tryd.sizeOf20
  v20 := Tryd.zeroValue20
  t37 := Tryd.underlying31
  a37 := Tryd.isAgg31
  z37 := Tryd.sizeOf31
  v37 := Tryd.zeroValue31
  t46 := Tryd.underlying70
  a46 := Tryd.isAgg70
  z46 := Tryd.sizeOf70
  v46 := Tryd.zeroValue70
  t51 := Tryd.underlying102
  a51 := Tryd.isAgg102
  z51 := Tryd.sizeOf102
  v51 := Tryd.zeroValue102
  t53 := Tryd.underlying86
  a53 := Tryd.isAgg86
  z53 := Tryd.sizeOf86
  v53 := Tryd.zeroValue86
  t171 := Tryd.underlying94
  a171 := Tryd.isAgg94
  z171 := Tryd.sizeOf94
  v171 := Tryd.zeroValue94
  t173 := Tryd.underlying97
  a173 := Tryd.isAgg97
  z173 := Tryd.sizeOf97
  v173 := Tryd.zeroValue97
  t212 := Tryd.underlying110
  a212 := Tryd.isAgg110
  z212 := Tryd.sizeOf110
  v212 := Tryd.zeroValue110
  t213 := Tryd.underlying111
  a213 := Tryd.isAgg111
  z213 := Tryd.sizeOf111
  t232 := Tryd.underlying119
  a232 := Tryd.isAgg119
  z232 := Tryd.sizeOf119
  v232 := Tryd.zeroValue119
  t233 := Tryd.underlying120
  a233 := Tryd.isAgg120
  z233 := Tryd.sizeOf120
  v233 := Tryd.zeroValue120
  g17 := by kernel_rfl
  g18 := by kernel_rfl
  g19 := by kernel_rfl }
open Go.RowKit Go.Sort Go.Lib in
/-- THE ROAD WITHOUT THE TABLE: 0 <= i < 100: NO PREMISE ON THE WORLD, AND THE WORLD IS AS IT WAS: a row that keeps its argument in that range need list no table ('laid = []'). (LAID: no walk: one application.) -/
theorem Tryd.strconv_Itoa_small (i : Nat) (hi : i < 100) (w : World) :
    Calls Tryd.prog 30 #[.int .i64 i] w fun e w' => e = .returned (.string ⟨(Lib.decDigits i).toArray⟩) ∧ w' = w := Any.strconv_Itoa_small Tryd.lays171 i hi w
def Tryd.laysC172_ren : Go.Shelf.Ren := ⟨fun | 172 => 22 | 244 => 46 | 245 => 47 | 247 => 59 | 279 => 60 | 280 => 61 | 281 => 62 | 282 => 63 | 287 => 73 | 316 => 74 | 171 => 30 | 205 => 75 | 321 => 86 | 322 => 87 | 243 => 50 | 246 => 65 | 283 => 77 | 284 => 78 | 285 => 79 | 286 => 80 | 129 => 89 | 317 => 88 | 318 => 90 | 319 => 91 | 320 => 92 | 337 => 93 | 338 => 94 | n => n, fun | 9 => 9 | 3 => 3 | 75 => 46 | 76 => 47 | 4 => 4 | 5 => 5 | 167 => 75 | 37 => 31 | 0 => 0 | 85 => 76 | 2 => 2 | 168 => 78 | 53 => 86 | 175 => 87 | 46 => 70 | 210 => 91 | 127 => 83 | 145 => 108 | 143 => 106 | 21 => 21 | 171 => 94 | 173 => 97 | 212 => 110 | 51 => 102 | 20 => 20 | 213 => 111 | 232 => 119 | 233 => 120 | 80 => 68 | n => n, fun | 15 => 1 | 16 => 2 | 17 => 3 | 18 => 6 | 19 => 7 | n => n⟩
theorem Tryd.laysC172 : Go.Proofs.LaysC.n172 Tryd.prog Tryd.laysC172_ren := {
  mixed := by kernel_rfl
  f129 := Tryd.func89.trans (congrArg some (by kernel_rfl))
  f171 := Tryd.func30.trans (congrArg some (by kernel_rfl))
  f172 := Tryd.func22.trans (congrArg some (by kernel_rfl))
  f205 := Tryd.func75.trans (congrArg some (by kernel_rfl))
  f243 := Tryd.func50.trans (congrArg some (by kernel_rfl))
  f244 := Tryd.func46.trans (congrArg some (by kernel_rfl))
  f245 := Tryd.func47.trans (congrArg some (by kernel_rfl))
  f246 := Tryd.func65.trans (congrArg some (by kernel_rfl))
  f247 := Tryd.func59.trans (congrArg some (by kernel_rfl))
  f279 := Tryd.func60.trans (congrArg some (by kernel_rfl))
  f280 := Tryd.func61.trans (congrArg some (by kernel_rfl))
  f281 := Tryd.func62.trans (congrArg some (by kernel_rfl))
  f282 := Tryd.func63.trans (congrArg some (by kernel_rfl))
  f283 := Tryd.func77.trans (congrArg some (by kernel_rfl))
  f284 := Tryd.func78.trans (congrArg some (by kernel_rfl))
  f285 := Tryd.func79.trans (congrArg some (by kernel_rfl))
  f286 := Tryd.func80.trans (congrArg some (by kernel_rfl))
  f287 := Tryd.func73.trans (congrArg some (by kernel_rfl))
  f316 := Tryd.func74.trans (congrArg some (by kernel_rfl))
  f317 := Tryd.func88.trans (congrArg some (by kernel_rfl))
  f318 := Tryd.func90.trans (congrArg some (by kernel_rfl))
  f319 := Tryd.func91.trans (congrArg some (by kernel_rfl))
  f320 := Tryd.func92.trans (congrArg some (by kernel_rfl))
  f321 := Tryd.func86.trans (congrArg some (by kernel_rfl))
  f322 := Tryd.func87.trans (congrArg some (by kernel_rfl))
  f337 := Tryd.func93.trans (congrArg some (by kernel_rfl))
  f338 := Tryd.func94.trans (congrArg some (by kernel_rfl))
  t0 := Tryd.underlying0
  a0 := Tryd.isAgg0
  z0 := Tryd.sizeOf0
  v0 := Tryd.zeroValue0
  t2 := Tryd.underlying2
  a2 := Tryd.isAgg2
  z2 := Tryd.sizeOf2
  v2 := Tryd.zeroValue2
  t3 := Tryd.underlying3
  a3 := Tryd.isAgg3
  z3 := Tryd.sizeOf3
  v3 := Tryd.zeroValue3
  t4 := Tryd.underlying4
  a4 := Tryd.isAgg4
  z4 := Tryd.sizeOf4
  v4 := Tryd.zeroValue4
  t5 := Tryd.underlying5
  a5 := Tryd.isAgg5
  z5 := Tryd.sizeOf5
  v5 := Tryd.zeroValue5
  t9 := Tryd.underlying9
  a9 := Tryd.isAgg9
  z9 := Tryd.sizeOf9
  v9 := Tryd.zeroValue9
  t20 := Tryd.underlying20
  a20 := Tryd.isAgg20
  z20 := Tryd.sizeOf20
  v20 := Tryd.zeroValue20
  t21 := Tryd.underlying21
  a21 := Tryd.isAgg21
  z21 := Tryd.sizeOf21
  v21 := Tryd.zeroValue21
  t37 := Tryd.underlying31
  a37 := Tryd.isAgg31
  z37 := Tryd.sizeOf31
  v37 := Tryd.zeroValue31
  t46 := Tryd.underlying70
  a46 := Tryd.isAgg70
  z46 := Tryd.sizeOf70
  v46 := Tryd.zeroValue70
  t51 := Tryd.underlying102
  a51 := Tryd.isAgg102
  z51 := Tryd.sizeOf102
  v51 := Tryd.zeroValue102
  t53 := Tryd.underlying86
  a53 := Tryd.isAgg86
  z53 := Tryd.sizeOf86
  v53 := Tryd.zeroValue86
  t75 := Tryd.underlying46
  a75 := Tryd.isAgg46
  z75 := Tryd.sizeOf46
  v75 := Tryd.zeroValue46
  t76 := Tryd.underlying47
  a76 := Tryd.isAgg47
  z76 := Tryd.sizeOf47
  v76 := Tryd.zeroValue47
  t85 := Tryd.underlying76
  a85 := Tryd.isAgg76
  z85 := Tryd.sizeOf76
  v85 := Tryd.zeroValue76
  t127 := Tryd.underlying83
  a127 := Tryd.isAgg83
  z127 := Tryd.sizeOf83
  v127 := Tryd.zeroValue83
  t143 := Tryd.underlying106
  a143 := Tryd.isAgg106
  z143 := Tryd.sizeOf106
  v143 := Tryd.zeroValue106
  t145 := Tryd.underlying108
  a145 := Tryd.isAgg108
  z145 := Tryd.sizeOf108
  v145 := Tryd.zeroValue108
  t167 := Tryd.underlying75
  a167 := Tryd.isAgg75
  z167 := Tryd.sizeOf75
  v167 := Tryd.zeroValue75
  t168 := Tryd.underlying78
  a168 := Tryd.isAgg78
  z168 := Tryd.sizeOf78
  v168 := Tryd.zeroValue78
  t171 := Tryd.underlying94
  a171 := Tryd.isAgg94
  z171 := Tryd.sizeOf94
  v171 := Tryd.zeroValue94
  t173 := Tryd.underlying97
  a173 := Tryd.isAgg97
  z173 := Tryd.sizeOf97
  v173 := Tryd.zeroValue97
  t175 := Tryd.underlying87
  a175 := Tryd.isAgg87
  z175 := Tryd.sizeOf87
  v175 := Tryd.zeroValue87
  t210 := Tryd.underlying91
  a210 := Tryd.isAgg91
  z210 := Tryd.sizeOf91
  v210 := Tryd.zeroValue91
  t212 := Tryd.underlying110
  a212 := Tryd.isAgg110
  z212 := Tryd.sizeOf110
  v212 := Tryd.zeroValue110
  t213 := Tryd.underlying111
  a213 := Tryd.isAgg111
  z213 := Tryd.sizeOf111
  t232 := Tryd.underlying119
  a232 := Tryd.isAgg119
  z232 := Tryd.sizeOf119
  v232 := Tryd.zeroValue119
  t233 := Tryd.underlying120
  a233 := Tryd.isAgg120
  z233 := Tryd.sizeOf120
  v233 := Tryd.zeroValue120
  g15 := by kernel_rfl
  g16 := by kernel_rfl
  g17 := by kernel_rfl
  g18 := by kernel_rfl
  g19 := by kernel_rfl
  t80 := Tryd.underlying68
  a80 := Tryd.isAgg68
  z80 := Tryd.sizeOf68
  v80 := Tryd.zeroValue68
  i0 := by kernel_rfl
  i2 := by kernel_rfl
  i3 := by kernel_rfl
  i4 := by kernel_rfl
  i5 := by kernel_rfl
  i9 := by kernel_rfl
  i20 := by kernel_rfl
  i21 := by kernel_rfl
  i37 := by kernel_rfl
  i46 := by kernel_rfl
  i51 := by kernel_rfl
  i53 := by kernel_rfl
  i75 := by kernel_rfl
  i76 := by kernel_rfl
  i80 := by kernel_rfl
  i85 := by kernel_rfl
  i127 := by kernel_rfl
  i143 := by kernel_rfl
  i145 := by kernel_rfl
  i167 := by kernel_rfl
  i168 := by kernel_rfl
  i171 := by kernel_rfl
  i173 := by kernel_rfl
  i175 := by kernel_rfl
  i210 := by kernel_rfl
  i212 := by kernel_rfl
  i232 := by kernel_rfl
  i233 := by kernel_rfl
  m15 := by kernel_rfl
  m16 := by kernel_rfl
  m17 := by kernel_rfl
  m18 := by kernel_rfl
  m19 := by kernel_rfl
  c0 := by kernel_rfl
  c2 := by kernel_rfl
  c3 := by kernel_rfl
  c4 := by kernel_rfl
  c5 := by kernel_rfl
  c9 := by kernel_rfl
  c20 := by kernel_rfl
  c21 := by kernel_rfl
  c37 := by kernel_rfl
  c46 := by kernel_rfl
  c51 := by kernel_rfl
  c53 := by kernel_rfl
  c75 := by kernel_rfl
  c76 := by kernel_rfl
  c80 := by kernel_rfl
  c85 := by kernel_rfl
  c127 := by kernel_rfl
  c143 := by kernel_rfl
  c145 := by kernel_rfl
  c167 := by kernel_rfl
  c168 := by kernel_rfl
  c171 := by kernel_rfl
  c173 := by kernel_rfl
  c175 := by kernel_rfl
  c210 := by kernel_rfl
  c212 := by kernel_rfl
  c213 := by kernel_rfl
  c232 := by kernel_rfl
  c233 := by kernel_rfl }
open Go.RowKit in
/-- strconv.Atoi, AT EVERY STRING THAT SPELLS AN int ('Lib.atoiAll .. = .ok v'; of whatever length: leading zeros count): v, AND NO ERROR. The world: as it was, or with the one new row that '[]byte(..)' lays. (LAID: no walk: one application.) -/
theorem Tryd.strconv_Atoi_ok (s : ByteArray) (hmax : s.size ≤ 9223372036854775806) (v : Int) (h : Lib.atoiAll s.data.toList = .ok v) (w : World) :
    Calls Tryd.prog 22 #[.string s] w fun e w' => e = .returned (.tuple #[.int .i64 v, .nilIface]) ∧ (w' = w ∨ ∃ t, w' = Lib.bytesWorld w 5 t) := Any.strconv_Atoi_ok Tryd.laysC172 s hmax v h w
open Go.RowKit in
/-- strconv.Atoi, AT EVERY STRING THAT IS NO DECIMAL NUMERAL (neither a value nor out of range): 0, AND AN ERROR THAT IS NOT nil: a *NumError in a new block N: {Func: "Atoi", Num: s's bytes, Err: what the variable ErrSyntax holds}. Of what was there nothing has turned. (LAID: no walk: one application.) -/
theorem Tryd.strconv_Atoi_syntax (s : ByteArray) (hlim : s.size ≤ 281474976710656) (hn : ∀ v, Lib.atoiAll s.data.toList ≠ .ok v) (hr : Lib.atoiAll s.data.toList ≠ .range) (ev : Value) (w : World) (hv : w.cell? ⟨1, 0, none⟩ = some ev) (hev : ev = .nilIface ∨ ∃ te pe, ev = .iface te pe) :
    Calls Tryd.prog 22 #[.string s] w fun e w' => ∃ N, e = .returned (.tuple #[.int .i64 (0), .iface 78 (.pointer (some ⟨N, 0, none⟩))]) ∧ w.heap.size ≤ N ∧ w'.heap[N]? = some (.cells #[.string ⟨#[65, 116, 111, 105]⟩, .string s, ev] 91 (0, 0)) ∧ Below w.heap.size w w' := Any.strconv_Atoi_syntax Tryd.laysC172 s hlim (by
    cases e : Lib.atoiAll s.data.toList with
    | ok v => exact absurd e (hn v)
    | range => exact absurd e hr
    | _ => rfl) ev w hv hev
open Go.RowKit in
/-- strconv.Atoi, AT EVERY NUMERAL THAT NO int HOLDS ('.range'): THE GREATEST OR THE LEAST int, BY THE SIGN ('Lib.atoiSat'), AND AN ERROR THAT IS NOT nil: a *NumError in a new block N: {Func: "Atoi", Num: s's bytes, Err: what the variable ErrRange holds}. Of what was there nothing has turned. (LAID: no walk: one application.) -/
theorem Tryd.strconv_Atoi_range (s : ByteArray) (hlim : s.size ≤ 281474976710656) (h : Lib.atoiAll s.data.toList = .range) (ev : Value) (w : World) (hv : w.cell? ⟨2, 0, none⟩ = some ev) (hev : ev = .nilIface ∨ ∃ te pe, ev = .iface te pe) :
    Calls Tryd.prog 22 #[.string s] w fun e w' => ∃ N, e = .returned (.tuple #[.int .i64 (Lib.atoiSat s.data.toList), .iface 78 (.pointer (some ⟨N, 0, none⟩))]) ∧ w.heap.size ≤ N ∧ w'.heap[N]? = some (.cells #[.string ⟨#[65, 116, 111, 105]⟩, .string s, ev] 91 (0, 0)) ∧ Below w.heap.size w w' := Any.strconv_Atoi_range Tryd.laysC172 s hlim h ev w hv hev
def Tryd.lays145_ren : Go.Shelf.Ren := ⟨fun | 145 => 19 | 220 => 41 | 219 => 57 | 217 => 68 | 225 => 69 | 224 => 70 | 267 => 71 | 266 => 83 | 314 => 84 | n => n, fun | 9 => 9 | 4 => 4 | 59 => 41 | 3 => 3 | 5 => 5 | 46 => 70 | 146 => 103 | 51 => 102 | n => n, fun | 1 => 0 | n => n⟩
theorem Tryd.lays145 : Go.Proofs.Lays.n145 Tryd.prog Tryd.lays145_ren := {
  mixed := by kernel_rfl
  f145 := Tryd.func19.trans (congrArg some (by kernel_rfl))
  f217 := Tryd.func68.trans (congrArg some (by kernel_rfl))
  f219 := Tryd.func57.trans (congrArg some (by kernel_rfl))
  f220 := Tryd.func41.trans (congrArg some (by kernel_rfl))
  f224 := Tryd.func70.trans (congrArg some (by kernel_rfl))
  f225 := Tryd.func69.trans (congrArg some (by kernel_rfl))
  f266 := Tryd.func83.trans (congrArg some (by kernel_rfl))
  f267 := Tryd.func71.trans (congrArg some (by kernel_rfl))
  f314 := Tryd.func84.trans (congrArg some (by kernel_rfl))
  t3 := Tryd.underlying3
  a3 := Tryd.isAgg3
  z3 := Tryd.sizeOf3
  v3 := Tryd.zeroValue3
  t4 := Tryd.underlying4
  a4 := Tryd.isAgg4
  z4 := Tryd.sizeOf4
  v4 := Tryd.zeroValue4
  t5 := Tryd.underlying5
  a5 := Tryd.isAgg5
  z5 := Tryd.sizeOf5
  v5 := Tryd.zeroValue5
  t9 := Tryd.underlying9
  a9 := Tryd.isAgg9
  z9 := Tryd.sizeOf9
  v9 := Tryd.zeroValue9
  t46 := Tryd.underlying70
  a46 := Tryd.isAgg70
  z46 := Tryd.sizeOf70
  v46 := Tryd.zeroValue70
  t51 := Tryd.underlying102
  a51 := Tryd.isAgg102
  z51 := Tryd.sizeOf102
  v51 := Tryd.zeroValue102
  t59 := Tryd.underlying41
  a59 := Tryd.isAgg41
  z59 := Tryd.sizeOf41
  v59 := Tryd.zeroValue41
  t146 := Tryd.underlying103
  a146 := Tryd.isAgg103
  z146 := Tryd.sizeOf103
  v146 := Tryd.zeroValue103
  g1 := by kernel_rfl }
open Go.RowKit Go.Lib in
/-- strings.Cut: "Cut slices s around the first instance of sep, returning the text before and after sep. The found result reports whether sep appears in s. If sep does not appear in s, cut returns s, "", false.": IT RETURNS 'Lib.cut s sep'; the world is as it was but for the count of draws. (LAID: no walk: one application.) -/
theorem Tryd.strings_Cut (s sep : ByteArray) (m : Int) (w : World) (hs : s.size < 4294967281) (hm : w.cell? ⟨0, 0, none⟩ = some (.int .i64 m)) :
    Calls Tryd.prog 19 #[.string s, .string sep] w fun e w' => e = .returned (.tuple #[.string ⟨(Lib.cut s.data.toList sep.data.toList).1.toArray⟩, .string ⟨(Lib.cut s.data.toList sep.data.toList).2.1.toArray⟩, .bool (Lib.cut s.data.toList sep.data.toList).2.2]) ∧ ∃ n, w' = w.drewN n := Any.strings_Cut Tryd.lays145 s sep m w hs hm
def Tryd.lays138_ren : Go.Shelf.Ren := ⟨fun | 138 => 20 | 195 => 42 | 218 => 43 | 143 => 44 | 219 => 57 | 217 => 68 | 225 => 69 | 224 => 70 | 267 => 71 | 266 => 83 | 314 => 84 | n => n, fun | 9 => 9 | 3 => 3 | 4 => 4 | 5 => 5 | 0 => 0 | 46 => 70 | 146 => 103 | 51 => 102 | n => n, fun | 1 => 0 | n => n⟩
theorem Tryd.lays138 : Go.Proofs.Lays.n138 Tryd.prog Tryd.lays138_ren := {
  mixed := by kernel_rfl
  f138 := Tryd.func20.trans (congrArg some (by kernel_rfl))
  f143 := Tryd.func44.trans (congrArg some (by kernel_rfl))
  f195 := Tryd.func42.trans (congrArg some (by kernel_rfl))
  f217 := Tryd.func68.trans (congrArg some (by kernel_rfl))
  f218 := Tryd.func43.trans (congrArg some (by kernel_rfl))
  f219 := Tryd.func57.trans (congrArg some (by kernel_rfl))
  f224 := Tryd.func70.trans (congrArg some (by kernel_rfl))
  f225 := Tryd.func69.trans (congrArg some (by kernel_rfl))
  f266 := Tryd.func83.trans (congrArg some (by kernel_rfl))
  f267 := Tryd.func71.trans (congrArg some (by kernel_rfl))
  f314 := Tryd.func84.trans (congrArg some (by kernel_rfl))
  t0 := Tryd.underlying0
  a0 := Tryd.isAgg0
  z0 := Tryd.sizeOf0
  v0 := Tryd.zeroValue0
  t3 := Tryd.underlying3
  a3 := Tryd.isAgg3
  z3 := Tryd.sizeOf3
  v3 := Tryd.zeroValue3
  t4 := Tryd.underlying4
  a4 := Tryd.isAgg4
  z4 := Tryd.sizeOf4
  v4 := Tryd.zeroValue4
  t5 := Tryd.underlying5
  a5 := Tryd.isAgg5
  z5 := Tryd.sizeOf5
  v5 := Tryd.zeroValue5
  t9 := Tryd.underlying9
  a9 := Tryd.isAgg9
  z9 := Tryd.sizeOf9
  v9 := Tryd.zeroValue9
  t46 := Tryd.underlying70
  a46 := Tryd.isAgg70
  z46 := Tryd.sizeOf70
  v46 := Tryd.zeroValue70
  t51 := Tryd.underlying102
  a51 := Tryd.isAgg102
  z51 := Tryd.sizeOf102
  v51 := Tryd.zeroValue102
  t146 := Tryd.underlying103
  a146 := Tryd.isAgg103
  z146 := Tryd.sizeOf103
  v146 := Tryd.zeroValue103
  g1 := by kernel_rfl }
open Go.RowKit Go.Lib in
/-- strings.Count AT A substr OF ONE BYTE ('hp'): "Count counts the number of non-overlapping instances of substr in s.": IT RETURNS 'Lib.countByte s (that byte)'; the world is as it was. ✋ NO CONTRACT HERE YET at an empty substr (utf8.RuneCountInString) or at a longer one (a loop over strings.Index). (LAID: no walk: one application.) -/
theorem Tryd.strings_Count_one (s : ByteArray) (c : UInt8) (w : World) :
    Calls Tryd.prog 20 #[.string s, .string ⟨#[c]⟩] w fun e w' => e = .returned (.int .i64 (Lib.countByte s.data.toList c)) ∧ w' = w := Any.strings_Count_one Tryd.lays138 s c w
def Tryd.lays146_ren : Go.Shelf.Ren := ⟨fun | 146 => 21 | 221 => 45 | 268 => 58 | 138 => 20 | 143 => 44 | 195 => 42 | 197 => 72 | 218 => 43 | 219 => 57 | 260 => 85 | 217 => 68 | 225 => 69 | 224 => 70 | 267 => 71 | 266 => 83 | 314 => 84 | n => n, fun | 9 => 9 | 31 => 22 | 3 => 3 | 4 => 4 | 0 => 0 | 105 => 84 | 21 => 21 | 5 => 5 | 46 => 70 | 119 => 114 | 139 => 117 | 138 => 116 | 146 => 103 | 51 => 102 | n => n, fun | 1 => 0 | 3 => 4 | 4 => 5 | n => n⟩
theorem Tryd.lays146 : Go.Proofs.Lays.n146 Tryd.prog Tryd.lays146_ren := {
  mixed := by kernel_rfl
  f138 := Tryd.func20.trans (congrArg some (by kernel_rfl))
  f143 := Tryd.func44.trans (congrArg some (by kernel_rfl))
  f146 := Tryd.func21.trans (congrArg some (by kernel_rfl))
  f195 := Tryd.func42.trans (congrArg some (by kernel_rfl))
  f197 := Tryd.func72.trans (congrArg some (by kernel_rfl))
  f217 := Tryd.func68.trans (congrArg some (by kernel_rfl))
  f218 := Tryd.func43.trans (congrArg some (by kernel_rfl))
  f219 := Tryd.func57.trans (congrArg some (by kernel_rfl))
  f221 := Tryd.func45.trans (congrArg some (by kernel_rfl))
  f224 := Tryd.func70.trans (congrArg some (by kernel_rfl))
  f225 := Tryd.func69.trans (congrArg some (by kernel_rfl))
  f260 := Tryd.func85.trans (congrArg some (by kernel_rfl))
  f266 := Tryd.func83.trans (congrArg some (by kernel_rfl))
  f267 := Tryd.func71.trans (congrArg some (by kernel_rfl))
  f268 := Tryd.func58.trans (congrArg some (by kernel_rfl))
  f314 := Tryd.func84.trans (congrArg some (by kernel_rfl))
  t0 := Tryd.underlying0
  a0 := Tryd.isAgg0
  z0 := Tryd.sizeOf0
  v0 := Tryd.zeroValue0
  t3 := Tryd.underlying3
  a3 := Tryd.isAgg3
  z3 := Tryd.sizeOf3
  v3 := Tryd.zeroValue3
  t4 := Tryd.underlying4
  a4 := Tryd.isAgg4
  z4 := Tryd.sizeOf4
  v4 := Tryd.zeroValue4
  t5 := Tryd.underlying5
  a5 := Tryd.isAgg5
  z5 := Tryd.sizeOf5
  v5 := Tryd.zeroValue5
  t9 := Tryd.underlying9
  a9 := Tryd.isAgg9
  z9 := Tryd.sizeOf9
  v9 := Tryd.zeroValue9
  t21 := Tryd.underlying21
  a21 := Tryd.isAgg21
  z21 := Tryd.sizeOf21
  v21 := Tryd.zeroValue21
  t31 := Tryd.underlying22
  a31 := Tryd.isAgg22
  z31 := Tryd.sizeOf22
  v31 := Tryd.zeroValue22
  t46 := Tryd.underlying70
  a46 := Tryd.isAgg70
  z46 := Tryd.sizeOf70
  v46 := Tryd.zeroValue70
  t51 := Tryd.underlying102
  a51 := Tryd.isAgg102
  z51 := Tryd.sizeOf102
  v51 := Tryd.zeroValue102
  t105 := Tryd.underlying84
  a105 := Tryd.isAgg84
  z105 := Tryd.sizeOf84
  v105 := Tryd.zeroValue84
  t119 := Tryd.underlying114
  a119 := Tryd.isAgg114
  z119 := Tryd.sizeOf114
  t138 := Tryd.underlying116
  a138 := Tryd.isAgg116
  z138 := Tryd.sizeOf116
  v138 := Tryd.zeroValue116
  t139 := Tryd.underlying117
  a139 := Tryd.isAgg117
  z139 := Tryd.sizeOf117
  v139 := Tryd.zeroValue117
  t146 := Tryd.underlying103
  a146 := Tryd.isAgg103
  z146 := Tryd.sizeOf103
  v146 := Tryd.zeroValue103
  g1 := by kernel_rfl
  g3 := by kernel_rfl
  g4 := by kernel_rfl }
open Go.RowKit Go.Lib in
/-- strings.Split. (LAID: no walk: one application.) -/
theorem Tryd.strings_Split (s sep : ByteArray) (m : Int) (w : World) (hs : s.size < 4294967281) (hm : w.cell? ⟨0, 0, none⟩ = some (.int .i64 m)) (h1 : 1 ≤ sep.size) :
    Calls Tryd.prog 21 #[.string s, .string sep] w fun e w' =>
      e = .returned (.slice (some ⟨w.heap.size, 0, none⟩) (Lib.countB s sep + 1) (Lib.countB s sep + 1)) ∧ w' = w.alloc (.cells ((Lib.splitB sep 0 (Lib.countB s sep) s).map Value.string).toArray 9) := Any.strings_Split Tryd.lays146 (by kernel_rfl) s sep m w hs hm h1
end Go.Proofs
