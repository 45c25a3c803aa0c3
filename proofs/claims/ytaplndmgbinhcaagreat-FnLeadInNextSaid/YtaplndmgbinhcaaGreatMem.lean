/- Words for memory: a row of the call's own, known cell by cell; making it, storing into it, reading it as a string. -/
import Derived.Test.YtaplndmgbinhcaaGreatBase
import Derived.Laws.MakeOwn
import Derived.Laws.Entries
import Derived.Deep.QuietTactic
import Derived.BigQuiet
import Derived.StillTailTactics
import Derived.Deep.Draws
namespace Go.Proofs.YtaplndmgbinhcaaGreat
open Go.RowKit

/-- Block g begins with the cells cs, none of them frozen. -/
structure Own (w : World) (g : Nat) (cs : List Value) : Prop where
  lt : g < w.heap.size
  cell : ∀ i, i < cs.length → w.cell? ⟨g, i, none⟩ = cs[i]?
  free : ∀ i, i < cs.length → w.frozen? ⟨g, i, none⟩ = false

section
variable {w w' : World} {g : Nat} {cs : List Value}
theorem Own.keep (h : Own w g cs) (hs : g < w'.heap.size) (hb : w'.heap[g]? = w.heap[g]?) : Own w' g cs :=
  ⟨hs, fun i hi => by rw [← h.cell i hi]; exact World.cell?_of_block (w := w) hb, fun i hi => by rw [← h.free i hi]; exact World.frozen?_of_block (w := w) hb⟩
theorem Own.drew (h : Own w g cs) : Own w.drew g cs := h.keep h.lt rfl
theorem Own.drewN (h : Own w g cs) (n : Nat) : Own (w.drewN n) g cs := h.keep h.lt rfl
theorem Own.below {B : Nat} (h : Own w g cs) (hb : Below B w w') (hg : g < B) : Own w' g cs := h.keep (Nat.lt_of_lt_of_le h.lt hb.size) (hb.block g hg)
theorem Own.grown {row : Option Nat} (h : Own w g cs) (hb : w.grownBy w' row) (hg : some g ≠ row) : Own w' g cs := h.keep (Nat.lt_of_lt_of_le h.lt hb.size) (hb.block g h.lt hg)
theorem Own.alloc (h : Own w g cs) (o : Obj) : Own (w.alloc o) g cs := h.keep (Nat.lt_of_lt_of_le h.lt (by simp)) (Below.heap_alloc w o g h.lt)
theorem Own.far (h : Own w g cs) {p : Addr} (hp : g ≠ p.block) (u : Value) : Own (w.setCell p u) g cs := h.keep (by simpa [World.setCell] using h.lt) (Below.heap_setCell w p u g hp)
theorem Own.at_ (h : Own w g cs) {i : Nat} {u : Value} (hu : cs[i]? = some u) : w.cell? ⟨g, i, none⟩ = some u := by
  have hi : i < cs.length := by
    rcases Nat.lt_or_ge i cs.length with h1 | h1
    · exact h1
    · rw [List.getElem?_eq_none h1] at hu; cases hu
  rw [h.cell i hi, hu]
theorem Own.some_ (h : Own w g cs) {i : Nat} (hi : i < cs.length) : ∃ x, w.cell? ⟨g, i, none⟩ = some x := ⟨_, by rw [h.cell i hi, List.getElem?_eq_getElem hi]⟩
theorem Own.set_ (h : Own w g cs) {i : Nat} (hi : i < cs.length) (u : Value) : Own (w.setCell ⟨g, i, none⟩ u) g (cs.set i u) := by
  have hc := h.cell
  have hf := h.free
  have hlt := h.lt
  obtain ⟨o, ho⟩ : ∃ o, w.heap[g]? = some o := ⟨_, Array.getElem?_eq_getElem hlt⟩
  have h0 := hc i hi
  rw [List.getElem?_eq_getElem hi] at h0
  cases o with
  | cells C t fr =>
    refine ⟨by simpa [World.setCell] using hlt, fun j hj => ?_, fun j hj => ?_⟩
    · rw [List.length_set] at hj
      by_cases e : j = i
      · subst e
        rw [World.cell?_setCell_same w ⟨g, j, none⟩ u h0]
        simp [hi]
      · rw [World.cell?_setCell_other w ⟨g, i, none⟩ ⟨g, j, none⟩ u (by simp), hc j hj, List.getElem?_set_ne (by omega)]
    · rw [List.length_set] at hj
      rw [World.frozen?_setCell]
      exact hf j hj
  | _ => simp [World.cell?, ho] at h0
end

/-- The slice at address a begins with the cells xs; it lies below block B. -/
def Reads (w : World) (B : Nat) (a : Option Addr) (xs : List Value) : Prop :=
  xs = [] ∨ ∃ b off, a = some ⟨b, off, none⟩ ∧ b < B ∧ ∀ i, i < xs.length → w.cell? ⟨b, off + i, none⟩ = xs[i]?
section
variable {w w' : World} {B B' : Nat} {a : Option Addr} {xs : List Value}
theorem Reads.nil_ : Reads w B a [] := .inl rfl
theorem Reads.keep (h : Reads w B a xs) (hk : ∀ p : Addr, p.block < B → w'.cell? p = w.cell? p) : Reads w' B a xs := by
  rcases h with h | ⟨b, off, ha, hb, hc⟩
  · exact .inl h
  · exact .inr ⟨b, off, ha, hb, fun i hi => by rw [hk _ hb]; exact hc i hi⟩
theorem Reads.more (h : Reads w B a xs) (hB : B ≤ B') : Reads w B' a xs := by
  rcases h with h | ⟨b, off, ha, hb, hc⟩
  · exact .inl h
  · exact .inr ⟨b, off, ha, by omega, hc⟩
theorem Reads.below (h : Reads w B a xs) {C : Nat} (hb : Below C w w') (hC : B ≤ C) : Reads w' B a xs := h.keep fun _ hp => hb.cell (by omega)
theorem Reads.grown (h : Reads w B a xs) {g : Nat} (hg : w.grownBy w' (some g)) (hB : B ≤ w.heap.size) (hr : B ≤ g) : Reads w' B a xs :=
  h.keep fun p hp => World.cell?_of_block (hg.block p.block (by omega) (by simp; omega))
theorem Reads.open_ (h : Reads w B a xs) (hn : 0 < xs.length) : ∃ b off, a = some ⟨b, off, none⟩ ∧ b < B ∧ ∀ i, i < xs.length → w.cell? ⟨b, off + i, none⟩ = xs[i]? := by
  rcases h with h | h
  · subst h; simp at hn
  · exact h
theorem Reads.of_own {g : Nat} {cs : List Value} (h : Own w g cs) (hg : g < B) : Reads w B (some ⟨g, 0, none⟩) cs :=
  .inr ⟨g, 0, rfl, hg, fun i hi => by rw [Nat.zero_add]; exact h.cell i hi⟩
end
/-- The cells of some strings. -/
def sv (ss : List ByteArray) : List Value := ss.map .string
theorem length_sv (ss : List ByteArray) : (sv ss).length = ss.length := by simp [sv]
theorem sv_at {ss : List ByteArray} {i : Nat} (h : i < ss.length) : (sv ss)[i]? = some (.string ss[i]) := by simp [sv, List.getElem?_eq_getElem h]

/-- The cells of some bytes. -/
def bv (l : List UInt8) : List Value := l.map fun b => .int .u8 (b.toNat : Int)
theorem length_bv (l : List UInt8) : (bv l).length = l.length := by simp [bv]
theorem bv_at {l : List UInt8} {i : Nat} (h : i < l.length) : (bv l)[i]? = some (.int .u8 (l[i].toNat : Int)) := by simp [bv, List.getElem?_eq_getElem h]
theorem bv_set (l : List UInt8) (i : Nat) (c : UInt8) : (bv l).set i (.int .u8 (c.toNat : Int)) = bv (l.set i c) := by simp [bv, List.map_set]

/-- A row that is filled from the left: one more. -/
theorem fill_set {α : Type} {A R : List α} {k : Nat} (hA : k < A.length) (hR : R.length = A.length) :
    (A.take k ++ R.drop k).set k A[k] = A.take (k + 1) ++ R.drop (k + 1) := by
  have hl : (A.take k).length = k := by simp; omega
  rw [List.set_append_right _ _ (by omega), hl, Nat.sub_self, List.take_succ_eq_append_getElem hA, List.append_assoc]
  congr 1
  rw [List.drop_eq_getElem_cons (by omega)]
  rfl
theorem fill_len {α : Type} {A R : List α} {k : Nat} (hR : R.length = A.length) (hk : k ≤ A.length) : (A.take k ++ R.drop k).length = A.length := by simp; omega

/-- 'string(b)' of a row of the call's own. -/
theorem Own.conv {P : Program} {w : World} {g : Nat} {l : List UInt8} (h : Own w g (bv l)) (src dst e : TypeId) (hs : P.underlying src = some (.slice e)) (he : P.underlying e = some (.int .u8)) (hd : P.underlying dst = some .string) {n : Nat} (hn : n = l.length) (cap : Nat) :
    (convert src dst (.slice (some ⟨g, 0, none⟩) n cap)).run P w = .ok (.string (S l)) w := by
  subst hn
  exact run_convert_bytes_back w src dst e ⟨g, 0, none⟩ cap l hs he hd (fun j hj => by
    have : w.cell? ⟨g, j, none⟩ = some (.int .u8 (l[j].toNat : Int)) := h.at_ (bv_at hj)
    unfold Addr.add
    split
    · rename_i h0; subst h0; exact this
    · simpa using this)

/-- 'make([]T, n)' of one-cell elements. -/
theorem run_make1 {P : Program} {t e : TypeId} {z : Value} {bytes : Nat} (ht : P.underlying t = some (.slice e)) (hz : (P.info? e).map (fun i => (i.zero, i.size, i.bytes)) = some (some z, 1, bytes)) (hc : z.cells = #[z])
    (n c : Nat) (hnc : n ≤ c) (hb : bytes * c ≤ 281474976710656) (h63 : c ≤ 9223372036854775807) (w : World) :
    (Instr.makeSlice t (.int .i64 (n : Int)) (.int .i64 (c : Int))).run P w = .ok (.slice (some ⟨w.heap.size, 0, none⟩) n c) (w.alloc (.cells (List.replicate c z).toArray e)) := by
  obtain ⟨i, hi, h1, h2, h3⟩ := info_parts hz
  have hbb : (i.bytes : Int) * (c : Int) ≤ 281474976710656 := by
    rw [h3]
    have h : ((bytes * c : Nat) : Int) ≤ 281474976710656 := by omega
    rwa [Int.natCast_mul] at h
  have hr := run_make (P := P) w t e i z ht hi h1 .i64 .i64 n c (by omega) (by omega) hbb (by omega)
  simp only [Int.toNat_natCast, h2, Nat.mul_one, hc] at hr
  rw [hr]
  congr 3
  rw [← toList_madeCells_one z c]

theorem Own.new (w : World) (cs : List Value) (t : TypeId) : Own (w.alloc (.cells cs.toArray t)) w.heap.size cs :=
  ⟨by simp, fun i hi => by rw [World.cell?_alloc_mark]; simp, fun i hi => by rw [World.frozen?_alloc_mark]; simp⟩

/-- The quiet walk at the class of one world is the still walk. -/
theorem wpStill_of_quiet {P : Program} {ops : Array Oper} {w1 : World} {Q : Act → Prop} : ∀ (l : List Oper) (a : Act), wpQuiet P ops (fun w' => w' = w1) Q l a → wpStill P ops w1 Q l a
  | [], _, h => h
  | o :: rest, a, h => by
    unfold wpQuiet at h
    unfold wpStill
    split
    · rename_i hw
      rw [if_pos hw] at h
      obtain ⟨v, hv, hn⟩ := h
      have hv := hv w1 rfl
      have hn' := wpStill_of_quiet rest _ hn
      unfold Oper.still
      unfold Oper.quietAt at hv
      generalize (execOp a.eval o).run P w1 = r at hv ⊢
      cases r with
      | ok n w' =>
        cases n <;> simp only [Oper.quietUpon] at hv <;> simp only [Oper.stillUpon]
        case value u => obtain ⟨h1, h2⟩ := hv; subst h2; exact ⟨h1, hn'⟩
        case skip => obtain ⟨h1, h2⟩ := hv; subst h2; exact ⟨h1, hn'⟩
        case enter f args => exact ⟨hv.1, v, hv.2, hn'⟩
      | halt x w' => simp only [Oper.quietUpon] at hv
    · rename_i hw
      rw [if_neg hw] at h
      exact wpStill_of_quiet rest _ h

/-- A region that draws, whose operations but the last ones read and call quietly. -/
theorem wp_region_tail {P : Program} {id : Nat} {Q : Exit → Act → World → Prop} {a : Act} {w : World} {l : List Oper} (n : Nat) (hm : P.follows .mixedOrders = true) (hB : Region.lexTailB .any l.toArray n = true)
    (h : wpQuiet P l.toArray (fun w' => w' = w.drew) (fun a' => wpList P l.toArray Q (l.drop n) a' w.drew) (l.take n) a) : (Code.region id l.toArray true).wp P Q a w :=
  wp_region_still_tail n hm hB (wpStill_of_quiet _ _ h)

/-- The worlds that are below B as w is. -/
def Cls (B : Nat) (w : World) : Type := { x : World // Below B w x }
def Cls.w {B : Nat} {w : World} (c : Cls B w) : World := c.1
theorem Cls.bel {B : Nat} {w : World} (c : Cls B w) : Below B w c.w := c.2
instance {B : Nat} {w : World} : Nonempty (Cls B w) := ⟨⟨w, Below.refl _ _⟩⟩
theorem Cls.cell {B : Nat} {w : World} (c : Cls B w) (b o : Nat) (h : b < B) : c.w.cell? ⟨b, o, none⟩ = w.cell? ⟨b, o, none⟩ := c.2.cell (p := ⟨b, o, none⟩) h

/-- A region that draws, whose operations read and whose calls may make memory: one walk in the text's order. -/
theorem wp_region_cls {P : Program} {id : Nat} {Q : Exit → Act → World → Prop} {a : Act} {w : World} {l : List Oper} (hm : P.follows .mixedOrders = true) (hB : Region.lexB .any l.toArray = true)
    (h : wpQuiet P l.toArray (fun w' => ∃ c : Cls w.heap.size w, w' = c.w) (fun a' => ∀ w', Below w.heap.size w w' → Q .normal a' w') l a) : (Code.region id l.toArray true).wp P Q a w := by
  refine wp_region_quiet (C := fun w' => ∃ c : Cls w.heap.size w, w' = c.w) hm hB ⟨⟨{ w with drawn := w.drawn + 1 }, (Below.refl _ _).drew⟩, rfl⟩ ?_
  have hq : ∀ (l' : List Oper) (a : Act), wpQuiet P l.toArray (fun w' => ∃ c : Cls w.heap.size w, w' = c.w) (fun a' => ∀ w', Below w.heap.size w w' → Q .normal a' w') l' a →
      wpQuiet P l.toArray (fun w' => ∃ c : Cls w.heap.size w, w' = c.w) (fun a' => ∀ w', (∃ c : Cls w.heap.size w, w' = c.w) → Q .normal a' w') l' a := by
    intro l'
    induction l' with
    | nil => intro a h w' ⟨c, hc⟩; exact h w' (hc ▸ c.2)
    | cons o rest ih =>
      intro a h
      unfold wpQuiet at h ⊢
      split
      · rename_i hw
        rw [if_pos hw] at h
        obtain ⟨v, hv, hn⟩ := h
        exact ⟨v, hv, ih _ hn⟩
      · rename_i hw
        rw [if_neg hw] at h
        exact ih _ h
  exact hq _ _ h
/-- A contract that makes memory, met in such a world. -/
theorem cls_of {P : Program} {f : FuncId} {args : Array Value} {B : Nat} {w : World} {c : Cls B w} {v : Value} (hB : B ≤ w.heap.size) (h : Calls P f args c.w fun e w' => e = .returned v ∧ Below c.w.heap.size c.w w') :
    Calls P f args c.w fun e w' => e = .returned v ∧ ∃ c' : Cls B w, w' = c'.w :=
  h.mono fun _ w' ⟨a, b⟩ => ⟨a, ⟨w', c.2.trans (b.mono (Nat.le_trans hB c.2.size))⟩, rfl⟩
theorem cls_same {P : Program} {f : FuncId} {args : Array Value} {B : Nat} {w : World} {c : Cls B w} {v : Value} (h : Calls P f args c.w fun e w' => e = .returned v ∧ c.w = w') :
    Calls P f args c.w fun e w' => e = .returned v ∧ ∃ c' : Cls B w, w' = c'.w :=
  h.mono fun _ _ ⟨a, b⟩ => ⟨a, c, b.symm⟩

/-- Two steps, each of which makes memory. -/
theorem bt {a b c : World} (h : Below a.heap.size a b) (k : Below b.heap.size b c) : Below a.heap.size a c := h.trans (k.mono h.size)

/-- A contract that leaves the world alone, as the still walk wants it. -/
theorem still_of {P : Program} {f : FuncId} {args : Array Value} {w : World} {v : Value} (h : Calls P f args w fun e w' => e = .returned v ∧ w = w') :
    Calls P f args w fun e w' => e = .returned v ∧ w' = w := h.mono fun _ _ ⟨a, b⟩ => ⟨a, b.symm⟩
end Go.Proofs.YtaplndmgbinhcaaGreat
