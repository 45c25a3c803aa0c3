/- Several of my texts in one: Mach, Arr, PermV, PermV2, PermOf, Plugs. -/
import Derived.Test.YtnnblmibonnpcaaGreatM1
import Derived.Deep.WholeRow
import Derived.DeepKeys
/- Plain laws on rotors, wheels, machines, steps and keys. -/
namespace Go.Proofs.YtnnblmibonnpcaaGreat

structure Rot where
  wiring : ByteArray
  notches : ByteArray
structure Whl where
  rotors : List Rot
  refl : ByteArray
structure Mach where
  wheels : Whl
  rings : ByteArray
  plugs : ByteArray

/-- The bytes of a string ascend. -/
def ascB (s : ByteArray) : Bool := (List.range (s.size - 1)).all fun i => decide ((L s).getD i 0 < (L s).getD (i + 1) 0)
def rotorB (r : Rot) : Bool := permB r.wiring && decide (r.notches.size ≤ 3) && wordB r.notches && ascB r.notches
def wheelsB (w : Whl) : Bool := decide (1 ≤ w.rotors.length) && decide (w.rotors.length ≤ 3) && w.rotors.all rotorB && reflB w.refl
def fitB (w : Whl) (v : ByteArray) : Bool := wheelsB w && decide (v.size = w.rotors.length) && wordB v
def machB (m : Mach) : Bool := fitB m.wheels m.rings && plugB m.plugs
def setB (m : Mach) (v : ByteArray) : Bool := machB m && decide (v.size = m.rings.size) && wordB v

structure FitB (w : Whl) (v : ByteArray) : Prop where
  one : 1 ≤ w.rotors.length
  three : w.rotors.length ≤ 3
  rot : ∀ r ∈ w.rotors, rotorB r = true
  refl : reflB w.refl = true
  size : v.size = w.rotors.length
  word : wordB v = true
theorem fitB_iff {w : Whl} {v : ByteArray} : fitB w v = true ↔ FitB w v := by
  simp only [fitB, wheelsB, Bool.and_eq_true, decide_eq_true_eq, List.all_eq_true]
  exact ⟨fun ⟨⟨⟨⟨⟨a, b⟩, c⟩, d⟩, e⟩, f⟩ => ⟨a, b, c, d, e, f⟩, fun h => ⟨⟨⟨⟨⟨h.one, h.three⟩, h.rot⟩, h.refl⟩, h.size⟩, h.word⟩⟩
theorem machB_fit {m : Mach} (h : machB m = true) : FitB m.wheels m.rings := by
  simp only [machB, Bool.and_eq_true] at h; exact fitB_iff.1 h.1
theorem machB_plug {m : Mach} (h : machB m = true) : plugB m.plugs = true := by
  simp only [machB, Bool.and_eq_true] at h; exact h.2
theorem setB_mach {m : Mach} {v : ByteArray} (h : setB m v = true) : machB m = true := by
  simp only [setB, Bool.and_eq_true] at h; exact h.1.1
theorem setB_word {m : Mach} {v : ByteArray} (h : setB m v = true) : wordB v = true := by
  simp only [setB, Bool.and_eq_true] at h; exact h.2
theorem setB_size {m : Mach} {v : ByteArray} (h : setB m v = true) : v.size = m.rings.size := by
  simp only [setB, Bool.and_eq_true, decide_eq_true_eq] at h; exact h.1.2
theorem setB_len {m : Mach} {v : ByteArray} (h : setB m v = true) : v.size = m.wheels.rotors.length := by
  rw [setB_size h, (machB_fit (setB_mach h)).size]
theorem setB_fit {m : Mach} {v : ByteArray} (h : setB m v = true) : FitB m.wheels v :=
  have k := machB_fit (setB_mach h)
  ⟨k.one, k.three, k.rot, k.refl, setB_len h, setB_word h⟩
theorem setB_mk {m : Mach} {v : ByteArray} (h : machB m = true) (h1 : v.size = m.rings.size) (h2 : wordB v = true) : setB m v = true := by
  simp only [setB, Bool.and_eq_true, decide_eq_true_eq]; exact ⟨⟨h, h1⟩, h2⟩
theorem rotorB_perm {r : Rot} (h : rotorB r = true) : permB r.wiring = true := by
  simp only [rotorB, Bool.and_eq_true] at h; exact h.1.1.1
theorem rotorB_notches {r : Rot} (h : rotorB r = true) : r.notches.size ≤ 3 := by
  simp only [rotorB, Bool.and_eq_true, decide_eq_true_eq] at h; exact h.1.1.2

/-- The rotor with a number (an empty one past the end). -/
def rotAt (w : Whl) (i : Nat) : Rot := w.rotors.getD i ⟨S [], S []⟩
theorem rotAt_get {w : Whl} {i : Nat} (h : i < w.rotors.length) : rotAt w i = w.rotors[i] := by simp [rotAt, List.getD, List.getElem?_eq_getElem h]
/-- The byte with a number. -/
def byteAt (s : ByteArray) (i : Nat) : UInt8 := (L s).getD i 0
theorem byteAt_get {s : ByteArray} {i : Nat} (h : i < s.size) : byteAt s i = s[i] := by
  simp [byteAt, List.getD, List.getElem?_eq_getElem (show i < (L s).length by rw [size_L]; exact h), getElem_L]
/-- A rotor is at a notch. -/
def atB (w : Whl) (v : ByteArray) (i : Nat) : Bool := (L (rotAt w i).notches).contains (byteAt v i)
/-- A rotor moves at the next step. -/
def mvB (w : Whl) (v : ByteArray) (i : Nat) : Bool := decide (i + 1 = v.size) || atB w v (i + 1) || (decide (0 < i) && atB w v i)
/-- The windows after a step. -/
def stepW (w : Whl) (v : ByteArray) : ByteArray := S ((List.range v.size).map fun i => if mvB w v i then letr (dig (byteAt v i) + 1) else byteAt v i)
theorem size_stepW (w : Whl) (v : ByteArray) : (stepW w v).size = v.size := by simp [stepW, size_S]
theorem byteAt_stepW {w : Whl} {v : ByteArray} {i : Nat} (h : i < v.size) : byteAt (stepW w v) i = if mvB w v i then letr (dig (byteAt v i) + 1) else byteAt v i := by
  simp [byteAt, stepW, L_S, List.getD, h]
theorem isL_letr (n : Int) : isL (letr n) = true := by rw [isL_iff, dig_letr]; omega
theorem word_stepW {w : Whl} {v : ByteArray} (h : wordB v = true) : wordB (stepW w v) = true := by
  simp only [wordB, Bool.and_eq_true, decide_eq_true_eq] at h ⊢
  refine ⟨by rw [size_stepW]; exact h.1, ?_⟩
  unfold stepW
  rw [L_S, List.all_eq_true]
  intro c hc
  obtain ⟨i, hi, rfl⟩ := List.mem_map.1 hc
  have hi : i < v.size := by simpa using hi
  split
  · exact isL_letr _
  · rw [byteAt_get hi]; exact all_at h.2 i hi
/-- The windows after n steps. -/
def stepN (w : Whl) : Nat → ByteArray → ByteArray
  | 0, v => v
  | n + 1, v => stepN w n (stepW w v)
theorem stepN_succ (w : Whl) : ∀ (n : Nat) (v : ByteArray), stepN w (n + 1) v = stepW w (stepN w n v)
  | 0, _ => rfl
  | n + 1, v => by rw [stepN, stepN_succ w n (stepW w v)]; rfl
theorem stepN_add (w : Whl) : ∀ (a b : Nat) (v : ByteArray), stepN w (a + b) v = stepN w b (stepN w a v)
  | 0, b, v => by simp [stepN]
  | a + 1, b, v => by
    have : a + 1 + b = (a + b) + 1 := by omega
    rw [this, stepN, stepN, stepN_add w a b]
theorem size_stepN (w : Whl) : ∀ (n : Nat) (v : ByteArray), (stepN w n v).size = v.size
  | 0, _ => rfl
  | n + 1, v => by rw [stepN, size_stepN w n, size_stepW]
theorem word_stepN {w : Whl} : ∀ (n : Nat) {v : ByteArray}, wordB v = true → wordB (stepN w n v) = true
  | 0, _, h => h
  | n + 1, _, h => by rw [stepN]; exact word_stepN n (word_stepW h)
theorem setB_step {m : Mach} {v : ByteArray} (h : setB m v = true) : setB m (stepW m.wheels v) = true :=
  setB_mk (setB_mach h) (by rw [size_stepW]; exact setB_size h) (word_stepW (setB_word h))
theorem setB_stepN {m : Mach} {v : ByteArray} (n : Nat) (h : setB m v = true) : setB m (stepN m.wheels n v) = true :=
  setB_mk (setB_mach h) (by rw [size_stepN]; exact setB_size h) (word_stepN n (setB_word h))

/-- The offsets of the rotors at some windows. -/
def offs (rings v : ByteArray) : List Nat := (List.range v.size).map fun i => ((dig (byteAt v i) - dig (byteAt rings i) + 10) % 10).toNat
theorem len_offs (rings v : ByteArray) : (offs rings v).length = v.size := by simp [offs]
theorem offs_lt (rings v : ByteArray) : ∀ o ∈ offs rings v, o < 10 := by
  intro o ho
  obtain ⟨i, _, rfl⟩ := List.mem_map.1 ho
  omega
/-- The way from a start through the rotors, the last one first. -/
def wayP (p : List Nat) : List Rot → List Nat → List Nat
  | r :: rs, o :: os => thenP (wayP p rs os) (turnP (dg r.wiring) o)
  | _, _ => p
theorem isP_way {p : List Nat} (hp : IsP p) : ∀ (rs : List Rot) (os : List Nat), (∀ r ∈ rs, permB r.wiring = true) → IsP (wayP p rs os)
  | [], _, _ => by simp only [wayP]; exact hp
  | _ :: _, [], _ => by simp only [wayP]; exact hp
  | r :: rs, o :: os, h => by
    simp only [wayP]
    exact (isP_way hp rs os fun r hr => h r (by simp [hr])).then ((permB_isP (h r (by simp))).turn o)
theorem way_then {p : List Nat} (hp : IsP p) : ∀ (rs : List Rot) (os : List Nat), (∀ r ∈ rs, permB r.wiring = true) → wayP p rs os = thenP p (wayP idP rs os)
  | [], _, _ => by simp only [wayP]; exact (then_id hp).symm
  | _ :: _, [], _ => by simp only [wayP]; exact (then_id hp).symm
  | r :: rs, o :: os, h => by
    have h' : ∀ r ∈ rs, permB r.wiring = true := fun r hr => h r (by simp [hr])
    simp only [wayP]
    rw [way_then hp rs os h', then_assoc hp (isP_way isP_id rs os h')]
/-- The permutation of the wheels alone. -/
def scrP (w : Whl) (os : List Nat) : List Nat := conjP (dg w.refl) (backP (wayP idP w.rotors os))
/-- The permutation of a machine at some windows. -/
def keyP (m : Mach) (v : ByteArray) : List Nat :=
  thenP (thenP (wayP (dg m.plugs) m.wheels.rotors (offs m.rings v)) (dg m.wheels.refl)) (backP (wayP (dg m.plugs) m.wheels.rotors (offs m.rings v)))
theorem FitB.perms {w : Whl} {v : ByteArray} (h : FitB w v) : ∀ r ∈ w.rotors, permB r.wiring = true := fun r hr => rotorB_perm (h.rot r hr)
theorem machB_plugP {m : Mach} (h : machB m = true) : IsP (dg m.plugs) := permB_isP (plugB_perm (machB_plug h))
theorem machB_reflP {m : Mach} (h : machB m = true) : IsP (dg m.wheels.refl) := permB_isP (plugB_perm (reflB_plug (machB_fit h).refl))
theorem isP_key {m : Mach} (h : machB m = true) (v : ByteArray) : IsP (keyP m v) :=
  have hw := isP_way (machB_plugP h) m.wheels.rotors (offs m.rings v) (machB_fit h).perms
  (hw.then (machB_reflP h)).then hw.back
theorem key_conj_way {m : Mach} (h : machB m = true) (v : ByteArray) : keyP m v = conjP (dg m.wheels.refl) (backP (wayP (dg m.plugs) m.wheels.rotors (offs m.rings v))) := by
  have hw := isP_way (machB_plugP h) m.wheels.rotors (offs m.rings v) (machB_fit h).perms
  unfold keyP conjP
  rw [back_back hw]
/-- The key is that of the wheels, its letters renamed by the plugboard. -/
theorem key_conj {m : Mach} (h : machB m = true) (v : ByteArray) : keyP m v = conjP (scrP m.wheels (offs m.rings v)) (dg m.plugs) := by
  have hp := machB_plugP h
  have hr := machB_reflP h
  have hi := plugB_inv (machB_plug h)
  have hw := isP_way isP_id m.wheels.rotors (offs m.rings v) (machB_fit h).perms
  have hb : backP (dg m.plugs) = dg m.plugs := hi.back hp
  unfold keyP scrP conjP
  rw [way_then hp _ _ (machB_fit h).perms, back_back hw, back_of_then hp hw, hb]
  rw [then_assoc (hp.then hw) hr, then_assoc hp hw, then_assoc hp ((hw.then hr).then hw.back), then_assoc (hw.then hr) hw.back, then_assoc hw hr]
theorem inv_key {m : Mach} (h : machB m = true) (v : ByteArray) : Inv (keyP m v) := by
  rw [key_conj_way h v]
  have hw := isP_way (machB_plugP h) m.wheels.rotors (offs m.rings v) (machB_fit h).perms
  exact (plugB_inv (reflB_plug (machB_fit h).refl)).conj (machB_reflP h) hw.back
theorem free_key {m : Mach} (h : machB m = true) (v : ByteArray) : Free (keyP m v) := by
  rw [key_conj_way h v]
  have hw := isP_way (machB_plugP h) m.wheels.rotors (offs m.rings v) (machB_fit h).perms
  exact (reflB_free (machB_fit h).refl).conj (machB_reflP h) hw.back

/-- The permutation of the key with a number (from 0 on). -/
def keyN (m : Mach) (v : ByteArray) (k : Nat) : List Nat := keyP m (stepN m.wheels (k + 1) v)
theorem isP_keyN {m : Mach} (h : machB m = true) (v : ByteArray) (k : Nat) : IsP (keyN m v k) := isP_key h _
/-- What a machine makes of some numbers. -/
def encD (m : Mach) (v : ByteArray) (d : List Nat) : List Nat := (List.range d.length).map fun i => pAt (keyN m v i) (pAt d i)
theorem len_encD (m : Mach) (v : ByteArray) (d : List Nat) : (encD m v d).length = d.length := by simp [encD]
theorem at_encD (m : Mach) (v : ByteArray) {d : List Nat} {i : Nat} (h : i < d.length) : pAt (encD m v d) i = pAt (keyN m v i) (pAt d i) := by
  rw [pAt_get (by rw [len_encD]; exact h)]; simp [encD]
theorem encD_lt {m : Mach} (h : machB m = true) (v : ByteArray) {d : List Nat} (hd : ∀ x ∈ d, x < 10) : ∀ x ∈ encD m v d, x < 10 := by
  intro x hx
  obtain ⟨i, hi, rfl⟩ := List.mem_map.1 hx
  have hi : i < d.length := by simpa using hi
  exact (isP_keyN h v i).at_lt (by rw [pAt_get hi]; exact hd _ (List.getElem_mem _))
/-- Enciphering twice. -/
theorem encD_twice {m : Mach} (h : machB m = true) (v : ByteArray) {d : List Nat} (hd : ∀ x ∈ d, x < 10) : encD m v (encD m v d) = d := by
  refine List.ext_getElem (by simp [len_encD]) fun i h1 h2 => ?_
  rw [← pAt_get h1, ← pAt_get h2]
  have hx : pAt d i < 10 := by rw [pAt_get h2]; exact hd _ (List.getElem_mem _)
  rw [at_encD m v (by rw [len_encD]; exact h2), at_encD m v h2]
  exact (inv_key h _).at (isP_keyN h v i) hx
/-- What Encipher answers. -/
def encT (m : Mach) (v w : ByteArray) : ByteArray × ByteArray × Bool :=
  if setB m v = true ∧ wordB w = true then (wd (encD m v (dg w)), stepN m.wheels w.size v, true) else (S [], S [], false)

/-- A machine without pairs. -/
def bareM (m : Mach) : Mach := { m with plugs := wd idP }
theorem plugB_id : plugB (wd idP) = true := by
  simp only [plugB, Bool.and_eq_true, decide_eq_true_eq]
  refine ⟨permB_wd isP_id, ?_⟩
  rw [dg_wd isP_id.lt]; exact then_id isP_id
theorem machB_bare {m : Mach} (h : machB m = true) : machB (bareM m) = true := by
  simp only [machB, Bool.and_eq_true] at h ⊢
  exact ⟨h.1, plugB_id⟩
theorem setB_bare {m : Mach} {v : ByteArray} (h : setB m v = true) : setB (bareM m) v = true := setB_mk (machB_bare (setB_mach h)) (show v.size = m.rings.size from setB_size h) (setB_word h)
theorem key_bare {m : Mach} (h : machB m = true) (v : ByteArray) : keyP (bareM m) v = scrP m.wheels (offs m.rings v) := by
  rw [key_conj (machB_bare h) v]
  have hw := isP_way isP_id m.wheels.rotors (offs m.rings v) (machB_fit h).perms
  have hs : IsP (scrP m.wheels (offs m.rings v)) := (machB_reflP h).conj hw.back
  show conjP (scrP m.wheels (offs m.rings v)) (dg (wd idP)) = _
  rw [dg_wd isP_id.lt]
  unfold conjP
  have hb : backP idP = idP := Inv.back isP_id (then_id isP_id)
  rw [hb, id_then hs, then_id hs]
/-- The key is the bare machine's, its letters renamed. -/
theorem key_of_bare {m : Mach} (h : machB m = true) (v : ByteArray) : keyP m v = conjP (keyP (bareM m) v) (dg m.plugs) := by
  rw [key_bare h, key_conj h]
end Go.Proofs.YtnnblmibonnpcaaGreat

/- Laws of the walk for whole arrays and structs in memory: loading, storing, indexing; their cells told by a list. -/
namespace Go.Proofs.YtnnblmibonnpcaaGreat
open Go.RowKit
variable {P : Program}

/-- Block g has the cells cs from offset off on. -/
def Cells (w : World) (g off : Nat) (cs : List Value) : Prop := ∀ i, i < cs.length → w.cell? ⟨g, off + i, none⟩ = cs[i]?
theorem Own.cells {w : World} {g : Nat} {cs : List Value} (h : Own w g cs) : Cells w g 0 cs := fun i hi => by rw [Nat.zero_add]; exact h.cell i hi
theorem Cells.at_ {w : World} {g off : Nat} {cs : List Value} (h : Cells w g off cs) {i : Nat} {u : Value} (hu : cs[i]? = some u) : w.cell? ⟨g, off + i, none⟩ = some u := by
  have hi : i < cs.length := by
    rcases Nat.lt_or_ge i cs.length with h1 | h1
    · exact h1
    · rw [List.getElem?_eq_none h1] at hu; cases hu
  rw [h i hi, hu]
theorem Cells.sub {w : World} {g off : Nat} {cs : List Value} (h : Cells w g off cs) (k n : Nat) (hk : k + n ≤ cs.length) : Cells w g (off + k) ((cs.drop k).take n) := fun i hi => by
  have hi' : i < n := by simp at hi; omega
  rw [Nat.add_assoc, h (k + i) (by omega), List.getElem?_take_of_lt hi', List.getElem?_drop]
theorem Cells.lt {w : World} {g off : Nat} {cs : List Value} (h : Cells w g off cs) (h0 : 0 < cs.length) : g < w.heap.size := by
  have := h 0 h0
  rw [List.getElem?_eq_getElem h0] at this
  exact block_lt_of_cell this
theorem Cells.keep {w w' : World} {g off : Nat} {cs : List Value} (h : Cells w g off cs) (hb : w'.heap[g]? = w.heap[g]?) : Cells w' g off cs := fun i hi => by rw [← h i hi]; exact World.cell?_of_block (w := w) hb
theorem Cells.below {w w' : World} {g off B : Nat} {cs : List Value} (h : Cells w g off cs) (hb : Below B w w') (hg : g < B) : Cells w' g off cs := h.keep (hb.block g hg)
theorem Cells.grown {w w' : World} {g off : Nat} {cs : List Value} {row : Option Nat} (h : Cells w g off cs) (h0 : g < w.heap.size) (hb : w.grownBy w' row) (hg : some g ≠ row) : Cells w' g off cs := h.keep (hb.block g h0 hg)
theorem Cells.drew {w : World} {g off : Nat} {cs : List Value} (h : Cells w g off cs) : Cells w.drew g off cs := h
theorem Reads.cells {w : World} {B : Nat} {a : Option Addr} {xs : List Value} (h : Reads w B a xs) (h0 : 0 < xs.length) : ∃ g off, a = some ⟨g, off, none⟩ ∧ g < B ∧ Cells w g off xs := by
  obtain ⟨b, off, ha, hb, hc⟩ := h.open_ h0
  exact ⟨b, off, ha, hb, hc⟩

theorem add_none (g off j : Nat) : (⟨g, off, none⟩ : Addr).add j = ⟨g, off + j, none⟩ := by unfold Addr.add; split <;> simp_all

/-- A type of several cells. -/
def aggD (d : TypeDesc) : Bool := match d with | .struct _ | .array _ _ => true | _ => false
theorem run_loadVar_cells (w : World) (g off : Nat) (ty : TypeId) (cs : List Value) (d : TypeDesc) (hc : Cells w g off cs)
    (hu : P.underlying ty = some d) (hd : aggD d = true) (hi : (P.info? ty).map (·.size) = some cs.length) :
    (loadVar ty ⟨g, off, none⟩).run P w = .ok (.agg cs.toArray) w := by
  have hl : (loadCells ⟨g, off, none⟩ cs.length).run P w = .ok cs.toArray w :=
    run_loadCells_list (P := P) w ⟨g, off, none⟩ cs (fun j v hv => by rw [add_none]; exact hc.at_ hv)
  cases hq : P.info? ty with
  | none => simp [hq] at hi
  | some i =>
    have hs : i.size = cs.length := by simpa [hq] using hi
    have hagg : (isAgg ty).run P w = .ok true w := by
      unfold isAgg
      rw [Sem.run_bind, run_underlying hu w]
      cases d <;> simp_all [aggD]
    simp [loadVar, Sem.run_bind, hagg, sizeOf, typeInfo, hq, hs, hl]

section
variable {ops : Array Oper} {rest : List Oper} {dst : Option Tmp} {t : TypeId} {pos : String} {after : Array Edge} {guard : Option (Nat × Bool)} {a : Act} {w : World} {Q : Exit → Act → World → Prop}
theorem wl_load (ty : TypeId) {x : Operand} {g off : Nat} {cs : List Value} {d : TypeDesc} (hc : Cells w g off cs) (hi : (P.info? ty).map (·.size) = some cs.length) (hu : P.underlying ty = some d) (hd : aggD d = true)
    (hw : Region.wanted ⟨dst, .load ty x, t, pos, after, guard⟩ (yielded ops a.tmps) = true) (hx : a.eval x = .pointer (some ⟨g, off, none⟩))
    (h : wpList P ops Q rest (a.put dst (.agg cs.toArray)) w) : wpList P ops Q (⟨dst, .load ty x, t, pos, after, guard⟩ :: rest) a w :=
  BigFrame.wpList_want hw fun _ hK => by
    unfold Oper.wp execOp
    simp only [hx, Instr.loadAt, Instr.sureAddr, Sem.run_bind, Sem.run_pure, Result.andThen_ok, run_loadVar_cells w g off ty cs d hc hu hd hi]
    exact hK _ _ h
end

/-- Some cells replaced. -/
def put (cs : List Value) (off : Nat) (vs : List Value) : List Value := cs.take off ++ vs ++ cs.drop (off + vs.length)
theorem len_put {cs vs : List Value} {off : Nat} (h : off + vs.length ≤ cs.length) : (put cs off vs).length = cs.length := by simp [put]; omega
theorem put_all {cs vs : List Value} (h : vs.length = cs.length) : put cs 0 vs = vs := by simp [put, h]

theorem grown_setCell (w : World) (g i : Nat) (u : Value) : w.grownBy (w.setCell ⟨g, i, none⟩ u) (some g) :=
  ⟨rfl, rfl, rfl, by simp [World.setCell], fun k _ hk => Below.heap_setCell w ⟨g, i, none⟩ u k (by simpa using hk)⟩
theorem grown_trans {g : Nat} {a b c : World} (h : a.grownBy b (some g)) (k : b.grownBy c (some g)) : a.grownBy c (some g) :=
  ⟨k.os.trans h.os, k.tape.trans h.tape, k.output.trans h.output, Nat.le_trans h.size k.size, fun i hi hn => (k.block i (Nat.lt_of_lt_of_le hi h.size) hn).trans (h.block i hi hn)⟩
theorem run_storeCells_own (g off : Nat) : ∀ (vs : List Value) (i : Nat) (w : World) (cs : List Value), Own w g cs → off + i + vs.length ≤ cs.length → (∀ v ∈ vs, v.oneCell' = true) →
    ∃ w', (storeCells ⟨g, off, none⟩ vs i).run P w = .ok () w' ∧ Own w' g (put cs (off + i) vs) ∧ w.grownBy w' (some g) ∧ w'.heap.size = w.heap.size
  | [], i, w, cs, h, hl, _ => ⟨w, rfl, by simpa [put] using h, World.grownBy.refl w _, rfl⟩
  | v :: vs, i, w, cs, h, hl, h1 => by
    have hi : off + i < cs.length := by simp at hl; omega
    have hst : (store ((⟨g, off, none⟩ : Addr).add i) v).run P w = .ok () (w.setCell ⟨g, off + i, none⟩ v) := by
      rw [add_none, run_store P w _ v _ (h1 v (by simp)), h.cell _ hi, List.getElem?_eq_getElem hi]
      simp [h.free _ hi]
    obtain ⟨w', hr, ho, hg, hs⟩ := run_storeCells_own g off vs (i + 1) (w.setCell ⟨g, off + i, none⟩ v) (cs.set (off + i) v) (h.set_ hi v) (by simp at hl ⊢; omega) (fun u hu => h1 u (by simp [hu]))
    refine ⟨w', by simp only [storeCells, Sem.run_bind, hst, Result.andThen_ok, hr], ?_, grown_trans (grown_setCell w g _ v) hg, by rw [hs]; simp [World.setCell]⟩
    have he : put (cs.set (off + i) v) (off + (i + 1)) vs = put cs (off + i) (v :: vs) := by
      simp only [put, List.length_cons]
      rw [show off + (i + 1) = off + i + 1 by omega, List.drop_set_of_lt (by omega), show off + i + 1 + vs.length = off + i + (vs.length + 1) by omega]
      rw [List.take_succ_eq_append_getElem (by simpa using hi), List.getElem_set_self, List.take_set_of_le (Nat.le_refl _)]
      simp
    rw [← he]; exact ho
section
variable {ops : Array Oper} {rest : List Oper} {dst : Option Tmp} {t : TypeId} {pos : String} {after : Array Edge} {guard : Option (Nat × Bool)} {a : Act} {w : World} {Q : Exit → Act → World → Prop}
theorem wl_store (ty : TypeId) {x y : Operand} {g : Nat} (off : Nat) {cs vs : List Value} (hown : Own w g cs) (hi : (P.info? ty).map (·.size) = some vs.length) (h1 : ∀ v ∈ vs, v.oneCell' = true) (hl : off + vs.length ≤ cs.length)
    (hw : Region.wanted ⟨dst, .store ty x y, t, pos, after, guard⟩ (yielded ops a.tmps) = true) (hx : a.eval x = .pointer (some ⟨g, off, none⟩)) (hy : a.eval y = .agg vs.toArray)
    (h : ∀ w', Own w' g (put cs off vs) → w.grownBy w' (some g) → w'.heap.size = w.heap.size → wpList P ops Q rest (a.put dst undef) w') : wpList P ops Q (⟨dst, .store ty x y, t, pos, after, guard⟩ :: rest) a w := by
  obtain ⟨w', hr, hown', hg, hs⟩ := run_storeCells_own (P := P) g off vs 0 w cs hown (by omega) h1
  refine BigFrame.wpList_want hw fun _ hK => ?_
  have hsv : (storeVar ty ⟨g, off, none⟩ (.agg vs.toArray)).run P w = .ok () w' := by
    cases hq : P.info? ty with
    | none => simp [hq] at hi
    | some i =>
      have hs : vs.length = i.size := by simp [hq] at hi; omega
      simp [storeVar, sizeOf, typeInfo, hq, Value.cells, hs, hr]
  unfold Oper.wp execOp
  simp only [hx, hy, Instr.storeAt, Instr.sureAddr, Sem.run_bind, Sem.run_pure, Result.andThen_ok, hsv]
  exact hK _ _ (h w' hown' hg hs)
/-- 'x := v' of a variable in memory. -/
theorem wl_box (ty : TypeId) {x : Operand} {cs : List Value} (hw : Region.wanted ⟨dst, .box ty x, t, pos, after, guard⟩ (yielded ops a.tmps) = true) (hx : a.eval x = .agg cs.toArray)
    (h : ∀ w', Own w' w.heap.size cs → Below w.heap.size w w' → w'.heap.size = w.heap.size + 1 → wpList P ops Q rest (a.put dst (.pointer (some ⟨w.heap.size, 0, none⟩))) w') : wpList P ops Q (⟨dst, .box ty x, t, pos, after, guard⟩ :: rest) a w := by
  refine BigFrame.wpList_want hw fun _ hK => ?_
  have hr := h (w.alloc (.cells cs.toArray ty)) (Own.new w cs ty) ((Below.refl _ _).alloc (Nat.le_refl _) _) (by simp)
  unfold Oper.wp execOp
  simp only [hx]
  simp [go_sem, Value.cells]
  exact hK _ _ hr
theorem wl_alloc (ty : TypeId) {cs : List Value} (hz : ∀ w, (zeroValue ty).run P w = .ok (.agg cs.toArray) w) (hw : Region.wanted ⟨dst, .alloc ty, t, pos, after, guard⟩ (yielded ops a.tmps) = true)
    (h : ∀ w', Own w' w.heap.size cs → Below w.heap.size w w' → w'.heap.size = w.heap.size + 1 → wpList P ops Q rest (a.put dst (.pointer (some ⟨w.heap.size, 0, none⟩))) w') : wpList P ops Q (⟨dst, .alloc ty, t, pos, after, guard⟩ :: rest) a w := by
  refine BigFrame.wpList_want hw fun _ hK => ?_
  have hr := h (w.alloc (.cells cs.toArray ty)) (Own.new w cs ty) ((Below.refl _ _).alloc (Nat.le_refl _) _) (by simp)
  unfold Oper.wp execOp
  simp [go_sem, Value.cells, hz]
  exact hK _ _ hr
/-- 'x[i]' of an array of one-cell elements. -/
theorem wl_index (ty : TypeId) {x y : Operand} {cs : List Value} {k n : Nat} {e : TypeId} {v : Value} (hv : cs[k]? = some v) (hn : k < n) (hu : P.underlying ty = some (.array n e)) (he : ∀ w, (isAgg e).run P w = .ok false w) (hz : (P.info? e).map (·.size) = some 1)
    (hw : Region.wanted ⟨dst, .index ty x y, t, pos, after, guard⟩ (yielded ops a.tmps) = true) (hx : a.eval x = .agg cs.toArray) (hy : a.eval y = .int .i64 (k : Int))
    (h : wpList P ops Q rest (a.put dst v) w) : wpList P ops Q (⟨dst, .index ty x y, t, pos, after, guard⟩ :: rest) a w := by
  refine BigFrame.wpList_want hw fun _ hK => ?_
  cases hq : P.info? e with
  | none => simp [hq] at hz
  | some i =>
    have hs : i.size = 1 := by simpa [hq] using hz
    unfold Oper.wp execOp
    simp only [hx, hy, Instr.index]
    simp [go_sem, run_underlying hu, hn, sizeOf, typeInfo, hq, hs, he, hv, Oper.upon]
    exact hK _ _ h
theorem wl_neq (ty : TypeId) {x y : Operand} {t2 : TypeId} {xs ys : Array Value} {r : Bool} (hq : (Op.equal ty (.agg xs) (.agg ys)).run P w = .ok r w) (hg : P.eqGuardType P.depth ty = false)
    (hw : Region.wanted ⟨dst, .binOp .neq ty x y t2, t, pos, after, guard⟩ (yielded ops a.tmps) = true) (hx : a.eval x = .agg xs) (hy : a.eval y = .agg ys)
    (h : wpList P ops Q rest (a.put dst (.bool (!r))) w) : wpList P ops Q (⟨dst, .binOp .neq ty x y t2, t, pos, after, guard⟩ :: rest) a w := by
  refine BigFrame.wpList_want hw fun _ hK => ?_
  have hgd : (eqGuard .neq ty x y (.agg xs) (.agg ys)).run P w = .ok () w := by
    have hpr : ∀ w : World, (Sem.program Sem.pure).run P w = .ok P w := fun _ => rfl
    simp [eqGuard, program, hpr, hg]
  have hb : (binOp .neq ty (.agg xs) (.agg ys)).run P w = .ok (.bool (!r)) w := by
    have he : binOp .neq ty (.agg xs) (.agg ys) = (do pure (.bool (!(← Op.equal ty (.agg xs) (.agg ys))))) := rfl
    rw [he, Sem.run_bind, hq]
    rfl
  unfold Oper.wp execOp
  simp only [hx, hy, Sem.run_bind, hgd, Result.andThen_ok, hb]
  exact hK _ _ h
theorem wl_eql (ty : TypeId) {x y : Operand} {t2 : TypeId} {xs ys : Array Value} {r : Bool} (hq : (Op.equal ty (.agg xs) (.agg ys)).run P w = .ok r w) (hg : P.eqGuardType P.depth ty = false)
    (hw : Region.wanted ⟨dst, .binOp .eql ty x y t2, t, pos, after, guard⟩ (yielded ops a.tmps) = true) (hx : a.eval x = .agg xs) (hy : a.eval y = .agg ys)
    (h : wpList P ops Q rest (a.put dst (.bool r)) w) : wpList P ops Q (⟨dst, .binOp .eql ty x y t2, t, pos, after, guard⟩ :: rest) a w := by
  refine BigFrame.wpList_want hw fun _ hK => ?_
  have hgd : (eqGuard .eql ty x y (.agg xs) (.agg ys)).run P w = .ok () w := by
    have hpr : ∀ w : World, (Sem.program Sem.pure).run P w = .ok P w := fun _ => rfl
    simp [eqGuard, program, hpr, hg]
  have hb : (binOp .eql ty (.agg xs) (.agg ys)).run P w = .ok (.bool r) w := by
    have he : binOp .eql ty (.agg xs) (.agg ys) = (do pure (.bool (← Op.equal ty (.agg xs) (.agg ys)))) := rfl
    rw [he, Sem.run_bind, hq]
    rfl
  unfold Oper.wp execOp
  simp only [hx, hy, Sem.run_bind, hgd, Result.andThen_ok, hb]
  exact hK _ _ h
end
/-- A result in a cell. -/
theorem results_cell_own {fn : Func} {p : Tmp} {ty : TypeId} (h : fn.results = #[.cell p ty]) (tmps : Array Value) (w : World) (g : Nat) (cs : List Value) (d : TypeDesc)
    (hp : tmps.getD p undef = .pointer (some ⟨g, 0, none⟩)) (hc : Cells w g 0 cs)
    (hu : P.underlying ty = some d) (hd : aggD d = true) (hi : (P.info? ty).map (·.size) = some cs.length) :
    (results fn tmps).run P w = .ok (.agg cs.toArray) w := by
  have hp' : tmps[p]?.getD undef = .pointer (some ⟨g, 0, none⟩) := by simpa using hp
  simp [results, h, hp', asAddr, run_loadVar_cells w g 0 ty cs d hc hu hd hi]
/-- Two results, the first one in a cell. -/
theorem results_cell_tmp_own {fn : Func} {p u : Tmp} {ty : TypeId} (h : fn.results = #[.cell p ty, .tmp u]) (tmps : Array Value) (w : World) (g : Nat) (cs : List Value) (d : TypeDesc) (v : Value)
    (hp : tmps.getD p undef = .pointer (some ⟨g, 0, none⟩)) (hv : tmps.getD u undef = v) (hc : Cells w g 0 cs)
    (hu : P.underlying ty = some d) (hd : aggD d = true) (hi : (P.info? ty).map (·.size) = some cs.length) :
    (results fn tmps).run P w = .ok (.tuple #[.agg cs.toArray, v]) w := by
  have hp' : tmps[p]?.getD undef = .pointer (some ⟨g, 0, none⟩) := by simpa using hp
  have hv' : tmps[u]?.getD undef = v := by simpa using hv
  simp [results, h, hp', hv', asAddr, run_loadVar_cells w g 0 ty cs d hc hu hd hi]
end Go.Proofs.YtnnblmibonnpcaaGreat

/- Contracts of the program's functions on permutations. -/
namespace Go.Proofs.YtnnblmibonnpcaaGreat
open Go.RowKit

/-- The cells of a permutation. -/
def pv (p : List Nat) : List Value := p.map fun n : Nat => .int .u8 (n : Int)
theorem length_pv (p : List Nat) : (pv p).length = p.length := by simp [pv]
theorem pv_at {p : List Nat} {i : Nat} (h : i < p.length) : (pv p)[i]? = some (.int .u8 (pAt p i : Int)) := by
  simp [pv, List.getElem?_eq_getElem h, pAt_get h]
theorem pv_get {p : List Nat} {i : Nat} (h : i < (pv p).length) : (pv p)[i] = .int .u8 (pAt p i : Int) := by
  have h' : i < p.length := by rw [length_pv] at h; exact h
  have := pv_at h'
  rw [List.getElem?_eq_getElem h] at this
  exact Option.some.inj this
theorem pv_one (p : List Nat) : ∀ v ∈ pv p, v.oneCell' = true := by
  intro v hv
  obtain ⟨n, _, rfl⟩ := List.mem_map.1 hv
  rfl
/-- Ten zeros. -/
def z10 : List Value := List.replicate 10 (.int .u8 0)
theorem len_z10 : z10.length = 10 := by simp [z10]
theorem size_perm : (Tryz.prog.info? 42).map (·.size) = some 10 := by kernel_rfl
theorem size_pv {p : List Nat} (h : p.length = 10) : (Tryz.prog.info? 42).map (·.size) = some (pv p).length := by rw [length_pv, h]; exact size_perm

theorem agg_u8 : ∀ w, (isAgg 5).run Tryz.prog w = .ok false w := fun w => by simp [go_sem]
theorem size_u8 : (Tryz.prog.info? 5).map (·.size) = some 1 := by kernel_rfl
theorem bel_store {B : Nat} {a w w' : World} {g : Nat} (h : Below B a w) (hg : w.grownBy w' (some g)) (hs : B ≤ w.heap.size) (hB : B ≤ g) : Below B a w' := h.grown hg hs (fun k e => by cases e; exact hB)

theorem zfill0 (A : List Value) : A.take 0 ++ z10.drop 0 = z10 := by simp
theorem zfill10 {A : List Value} (h : A.length = 10) : A.take 10 ++ z10.drop 10 = A := by
  rw [List.take_of_length_le (by omega), List.drop_eq_nil_of_le (by rw [len_z10]; omega), List.append_nil]
theorem zfill_len {A : List Value} {k : Nat} (h : A.length = 10) (hk : k ≤ 10) : (A.take k ++ z10.drop k).length = 10 := by
  rw [fill_len (by rw [len_z10, h]) (by omega), h]
theorem zfill_set {p : List Nat} {k : Nat} (h : p.length = 10) (hk : k < 10) : ((pv p).take k ++ z10.drop k).set k (.int .u8 (pAt p k : Int)) = (pv p).take (k + 1) ++ z10.drop (k + 1) := by
  have hl : k < (pv p).length := by rw [length_pv, h]; exact hk
  have := fill_set (A := pv p) (R := z10) hl (by rw [len_z10, length_pv, h])
  rw [pv_get hl] at this
  exact this

theorem then_any (p q : List Nat) (w : World) (hp : IsP p) (hq : IsP q) :
    Calls Tryz.prog 28 #[.agg (pv p).toArray, .agg (pv q).toArray] w fun e w' => e = .returned (.agg (pv (thenP p q)).toArray) ∧ Below w.heap.size w w' := by
  have hlen : (thenP p q).length = 10 := by rw [len_then]; exact hp.len
  have hlen' : (pv (thenP p q)).length = 10 := by rw [length_pv]; exact hlen
  have o0 := fun A B C => (((Own.new w (pv p) 42).alloc A).alloc B).alloc C
  go_enter Tryz.func28, Tryz.ntmps28
  go_wp2_with ((with_reducible refine wl_load 42 (o0 _ _ _).cells (size_pv hp.len) Tryz.underlying42 ?_ ?_ ?_ ?_); (· rfl); (· rfl); (· rfl))
  have o1 := ((Own.new (w.alloc (.cells (pv p).toArray 42)) (pv q) 42).alloc (.cells z10.toArray 42)).alloc (.cells z10.toArray 42)
  have o2 := (Own.new ((w.alloc (.cells (pv p).toArray 42)).alloc (.cells (pv q).toArray 42)) z10 42).alloc (.cells z10.toArray 42)
  have o3 := Own.new (((w.alloc (.cells (pv p).toArray 42)).alloc (.cells (pv q).toArray 42)).alloc (.cells z10.toArray 42)) z10 42
  simp only [World.size_alloc] at o1 o2 o3
  have hb := ((((Below.refl w.heap.size w).alloc (Nat.le_refl _) (.cells (pv p).toArray 42)).alloc (by simp) (.cells (pv q).toArray 42)).alloc (by simp; omega) (.cells z10.toArray 42)).alloc (by simp; omega) (.cells z10.toArray 42)
  go_loopw [6, 7, 9] (fun _ _ i wr => ∃ k : Nat, k ≤ 10 ∧ i = .int .i64 k ∧ Own wr (w.heap.size + 1) (pv q) ∧ Own wr (w.heap.size + 1 + 1) z10 ∧ Own wr (w.heap.size + 1 + 1 + 1) ((pv (thenP p q)).take k ++ z10.drop k) ∧ Below w.heap.size w wr) (fun _ _ i _ => 10 - (intOf i).toNat)
  case atStart => exact ⟨0, by omega, rfl, o1, o2, by rw [zfill0]; exact o3, hb⟩
  case round =>
    clear o0 o1 o2 o3 hb
    obtain ⟨k, hk, rfl, o1, o2, o3, hb⟩ := hrel
    by_cases hlt : k < 10
    · have hx := hp.at_lt hlt
      have e1 := pv_at (p := p) (i := k) (by rw [hp.len]; exact hlt)
      have f1 := o1.at_ (pv_at (p := q) (i := pAt p k) (by rw [hq.len]; exact hx))
      have hl3 := zfill_len hlen' hk
      obtain ⟨x3, f3⟩ := o3.some_ (i := k) (by omega)
      have g3 := o3.free k (by omega)
      go_wp2_with ((with_reducible refine wl_index 42 e1 hlt Tryz.underlying42 agg_u8 size_u8 ?_ ?_ ?_ ?_); (· rfl); (· rfl); (· rfl))
      go_roundw
      case rel =>
        refine ⟨k + 1, by omega, by go_num, o1.far (by simp) _, o2.far (by simp) _, ?_, hb.setCell (by simp; omega) _⟩
        rw [← zfill_set hlen hlt, at_then q (by rw [hp.len]; exact hlt)]
        exact o3.set_ (by omega) _
      case measure => simp [intOf]; omega
    · have hk' : k = 10 := by omega
      subst hk'
      rw [zfill10 hlen'] at o3
      have hsz := o3.lt
      go_wp2_with (first | ((with_reducible refine wl_load 42 o3.cells (size_pv hlen) Tryz.underlying42 ?_ ?_ ?_ ?_); (· rfl); (· rfl); (· rfl)) | ((with_reducible refine wl_store 42 0 o2 (size_pv hlen) (pv_one _) (by rw [hlen', len_z10]; omega) ?_ ?_ ?_ ?_); (· rfl); (· rfl); (· rfl); intro w5 o5 b5 s5))
      rw [put_all (by rw [hlen', len_z10])] at o5
      refine bodyPost_ret (results_cell_own Tryz.results28 _ _ _ _ _ (by rfl) o5.cells Tryz.underlying42 rfl (size_pv hlen)) rfl ?_
      exact ⟨rfl, bel_store hb b5 (by omega) (by omega)⟩

theorem inverse_any (p : List Nat) (w : World) (hp : IsP p) :
    Calls Tryz.prog 75 #[.agg (pv p).toArray] w fun e w' => e = .returned (.agg (pv (backP p)).toArray) ∧ Below w.heap.size w w' := by
  have hlen : (backP p).length = 10 := len_back p
  have hlen' : (pv (backP p)).length = 10 := by rw [length_pv]; exact hlen
  have o0 := fun A B => ((Own.new w (pv p) 42).alloc A).alloc B
  go_enter Tryz.func75, Tryz.ntmps75
  go_wp2_with ((with_reducible refine wl_load 42 (o0 _ _).cells (size_pv hp.len) Tryz.underlying42 ?_ ?_ ?_ ?_); (· rfl); (· rfl); (· rfl))
  have o2 := (Own.new (w.alloc (.cells (pv p).toArray 42)) z10 42).alloc (.cells z10.toArray 42)
  have o3 := Own.new ((w.alloc (.cells (pv p).toArray 42)).alloc (.cells z10.toArray 42)) z10 42
  simp only [World.size_alloc] at o2 o3
  have hb := (((Below.refl w.heap.size w).alloc (Nat.le_refl _) (.cells (pv p).toArray 42)).alloc (by simp) (.cells z10.toArray 42)).alloc (by simp; omega) (.cells z10.toArray 42)
  go_loopw [4, 5, 7] (fun _ _ i wr => ∃ (k : Nat) (cs : List Value), k ≤ 10 ∧ i = .int .i64 k ∧ cs.length = 10 ∧ (∀ j, j < k → cs[pAt p j]? = some (.int .u8 (j : Int))) ∧ Own wr (w.heap.size + 1) z10 ∧ Own wr (w.heap.size + 1 + 1) cs ∧ Below w.heap.size w wr) (fun _ _ i _ => 10 - (intOf i).toNat)
  case atStart => exact ⟨0, z10, by omega, rfl, len_z10, fun j hj => absurd hj (by omega), o2, o3, hb⟩
  case round =>
    clear o0 o2 o3 hb
    obtain ⟨k, cs, hk, rfl, hcl, hcs, o2, o3, hb⟩ := hrel
    by_cases hlt : k < 10
    · have hx := hp.at_lt hlt
      have e1 := pv_at (p := p) (i := k) (by rw [hp.len]; exact hlt)
      obtain ⟨x3, f3⟩ := o3.some_ (i := pAt p k) (by omega)
      have g3 := o3.free (pAt p k) (by omega)
      go_wp2_with ((with_reducible refine wl_index 42 e1 hlt Tryz.underlying42 agg_u8 size_u8 ?_ ?_ ?_ ?_); (· rfl); (· rfl); (· rfl))
      go_roundw
      case rel =>
        refine ⟨k + 1, cs.set (pAt p k) (.int .u8 (k : Int)), by omega, by go_num, by simp [hcl], fun j hj => ?_, o2.far (by simp) _, o3.set_ (by omega) _, hb.setCell (by simp; omega) _⟩
        by_cases e : j = k
        · subst e; rw [List.getElem?_set_self (by omega)]
        · rw [List.getElem?_set_ne (fun he => e (hp.inj hlt (by omega) he).symm)]
          exact hcs j (by omega)
      case measure => simp [intOf]; omega
    · have hk' : k = 10 := by omega
      subst hk'
      have hce : cs = pv (backP p) := by
        refine List.ext_getElem (by omega) fun x h1 h2 => ?_
        have hx : x < 10 := by omega
        rw [pv_get h2, at_back p hx]
        have h3 := hcs (p.idxOf x) (hp.idx_lt hx)
        have h4 := hp.at_idx hx
        rw [at_back p hx] at h4
        rw [h4, List.getElem?_eq_getElem h1] at h3
        exact Option.some.inj h3
      subst hce
      have hsz := o3.lt
      go_wp2_with (first | ((with_reducible refine wl_load 42 o3.cells (size_pv hlen) Tryz.underlying42 ?_ ?_ ?_ ?_); (· rfl); (· rfl); (· rfl)) | ((with_reducible refine wl_store 42 0 o2 (size_pv hlen) (pv_one _) (by rw [hlen', len_z10]; omega) ?_ ?_ ?_ ?_); (· rfl); (· rfl); (· rfl); intro w5 o5 b5 s5))
      rw [put_all (by rw [hlen', len_z10])] at o5
      refine bodyPost_ret (results_cell_own Tryz.results75 _ _ _ _ _ (by rfl) o5.cells Tryz.underlying42 rfl (size_pv hlen)) rfl ?_
      exact ⟨rfl, bel_store hb b5 (by omega) (by omega)⟩

theorem rotation_any (n : Nat) (w : World) (hn : n ≤ 1000) :
    Calls Tryz.prog 71 #[.int .i64 (n : Int)] w fun e w' => e = .returned (.agg (pv (rotP n)).toArray) ∧ Below w.heap.size w w' := by
  have hlen : (rotP n).length = 10 := len_rot n
  have hlen' : (pv (rotP n)).length = 10 := by rw [length_pv]; exact hlen
  go_enter Tryz.func71, Tryz.ntmps71
  go_wp2_with fail
  have o2 := (Own.new w z10 42).alloc (.cells z10.toArray 42)
  have o3 := Own.new (w.alloc (.cells z10.toArray 42)) z10 42
  simp only [World.size_alloc] at o2 o3
  have hb := ((Below.refl w.heap.size w).alloc (Nat.le_refl _) (.cells z10.toArray 42)).alloc (by simp) (.cells z10.toArray 42)
  go_loopw [4, 5] (fun _ i wr => ∃ k : Nat, k ≤ 10 ∧ i = .int .i64 k ∧ Own wr w.heap.size z10 ∧ Own wr (w.heap.size + 1) ((pv (rotP n)).take k ++ z10.drop k) ∧ Below w.heap.size w wr) (fun _ i _ => 10 - (intOf i).toNat)
  case atStart => exact ⟨0, by omega, rfl, o2, by rw [zfill0]; exact o3, hb⟩
  case round =>
    clear o2 o3 hb
    obtain ⟨k, hk, rfl, o2, o3, hb⟩ := hrel
    by_cases hlt : k < 10
    · have hl3 := zfill_len hlen' hk
      obtain ⟨x3, f3⟩ := o3.some_ (i := k) (by omega)
      have g3 := o3.free k (by omega)
      go_wp2
      go_roundw
      case rel =>
        refine ⟨k + 1, by omega, by go_num, o2.far (by simp) _, ?_, hb.setCell (by simp) _⟩
        rw [← zfill_set hlen hlt, at_rot n hlt]
        have he : (((k + n) % 10 : Nat) : Int) = ((k : Int) + n) % 10 := by omega
        rw [he]
        exact o3.set_ (by omega) _
      case measure => simp [intOf]; omega
    · have hk' : k = 10 := by omega
      subst hk'
      rw [zfill10 hlen'] at o3
      have hsz := o3.lt
      go_wp2_with (first | ((with_reducible refine wl_load 42 o3.cells (size_pv hlen) Tryz.underlying42 ?_ ?_ ?_ ?_); (· rfl); (· rfl); (· rfl)) | ((with_reducible refine wl_store 42 0 o2 (size_pv hlen) (pv_one _) (by rw [hlen', len_z10]; omega) ?_ ?_ ?_ ?_); (· rfl); (· rfl); (· rfl); intro w5 o5 b5 s5))
      rw [put_all (by rw [hlen', len_z10])] at o5
      refine bodyPost_ret (results_cell_own Tryz.results71 _ _ _ _ _ (by rfl) o5.cells Tryz.underlying42 rfl (size_pv hlen)) rfl ?_
      exact ⟨rfl, bel_store hb b5 (by omega) (by omega)⟩
end Go.Proofs.YtnnblmibonnpcaaGreat

/- Contracts of the program's functions that read and write permutations as words. -/
namespace Go.Proofs.YtnnblmibonnpcaaGreat
open Go.RowKit

theorem identity_any (w : World) :
    Calls Tryz.prog 49 #[] w fun e w' => e = .returned (.agg (pv idP).toArray) ∧ Below w.heap.size w w' := by
  have hlen' : (pv idP).length = 10 := by rw [length_pv]; exact len_id
  have hr : rotP 0 = idP := ext10 (len_rot 0) len_id fun i hi => by rw [at_rot 0 hi, at_id hi]; omega
  have hrot : ∀ W : World, Calls Tryz.prog 71 #[.int .i64 0] W fun e w' => e = .returned (.agg (pv idP).toArray) ∧ Below W.heap.size W w' := fun W => hr ▸ rotation_any 0 W (by omega)
  have o2 := Own.new w z10 42
  go_enter Tryz.func49, Tryz.ntmps49
  go_wp2_with (first | (go_at_call 71; ((with_reducible refine (hrot _).mono ?_); rintro e w1 ⟨rfl, hb1⟩)) | ((with_reducible refine wl_store 42 0 (o2.below hb1 o2.lt) (size_pv len_id) (pv_one _) (by rw [hlen', len_z10]; omega) ?_ ?_ ?_ ?_); (· rfl); (· rfl); (· rfl); intro w5 o5 b5 s5))
  rw [put_all (by rw [hlen', len_z10])] at o5
  refine bodyPost_ret (results_cell_own Tryz.results49 _ _ _ _ _ (by rfl) o5.cells Tryz.underlying42 rfl (size_pv len_id)) rfl ?_
  exact ⟨rfl, bel_store (bt ((Below.refl _ _).alloc (Nat.le_refl _) _) hb1) b5 (by have := hb1.size; simp at this; omega) (Nat.le_refl _)⟩

/-- Ten zero bytes. -/
def zb : List UInt8 := List.replicate 10 0
theorem string_any (p : List Nat) (w : World) (hp : IsP p) :
    Calls Tryz.prog 17 #[.agg (pv p).toArray] w fun e w' => e = .returned (.string (wd p)) ∧ Below w.heap.size w w' := by
  have hA : (L (wd p)).length = 10 := by rw [size_L, size_wd, hp.len]
  have o0 := fun A => (Own.new w (pv p) 42).alloc A
  go_enter Tryz.func17, Tryz.ntmps17
  go_wp2_with ((with_reducible refine wl_load 42 (o0 _).cells (size_pv hp.len) Tryz.underlying42 ?_ ?_ ?_ ?_); (· rfl); (· rfl); (· rfl))
  have o3 := Own.new (w.alloc (.cells (pv p).toArray 42)) (bv zb) 41
  simp only [World.size_alloc] at o3
  have hb := ((Below.refl w.heap.size w).alloc (Nat.le_refl _) (.cells (pv p).toArray 42)).alloc (by simp) (.cells (bv zb).toArray 41)
  go_loopw [4, 5, 7] (fun _ _ i wr => ∃ k : Nat, k ≤ 10 ∧ i = .int .i64 k ∧ Own wr (w.heap.size + 1) (bv ((L (wd p)).take k ++ zb.drop k)) ∧ Below w.heap.size w wr) (fun _ _ i _ => 10 - (intOf i).toNat)
  case atStart => exact ⟨0, by omega, rfl, o3, hb⟩
  case round =>
    clear o0 o3 hb
    obtain ⟨k, hk, rfl, o3, hb⟩ := hrel
    have hl3 : (bv ((L (wd p)).take k ++ zb.drop k)).length = 10 := by rw [length_bv, fill_len (by rw [hA]; simp [zb]) (by omega), hA]
    by_cases hlt : k < 10
    · have hx := hp.at_lt hlt
      have e1 := pv_at (p := p) (i := k) (by rw [hp.len]; exact hlt)
      obtain ⟨x3, f3⟩ := o3.some_ (i := k) (by omega)
      have g3 := o3.free k (by omega)
      have hfill := Lib.hid (fill_set (A := L (wd p)) (R := zb) (k := k) (by omega) (by rw [hA]; simp [zb]))
      go_wp2_with (first | ((with_reducible refine wl_index 42 e1 hlt Tryz.underlying42 agg_u8 size_u8 ?_ ?_ ?_ ?_); (· rfl); (· rfl); (· rfl)) | (go_at_call 36; ((with_reducible refine (implLetter_any _ _ (by omega) (by omega)).mono ?_); rintro e w' ⟨rfl, rfl⟩)))
      go_roundw
      case rel =>
        refine ⟨k + 1, by omega, by go_num, ?_, hb.setCell (by simp) _⟩
        rw [← hfill.out, ← bv_set]
        have he : (L (wd p))[k]'(by omega) = letr (pAt p k : Nat) := by simp [wd, L_S, pAt_get (show k < p.length by rw [hp.len]; exact hlt)]
        rw [he]
        exact o3.set_ (by omega) _
      case measure => simp [intOf]; omega
    · have hk' : k = 10 := by omega
      subst hk'
      have hfin : (L (wd p)).take 10 ++ zb.drop 10 = L (wd p) := by
        rw [List.take_of_length_le (by omega), List.drop_eq_nil_of_le (by simp [zb]), List.append_nil]
      rw [hfin] at o3
      have hc := o3.conv (P := Tryz.prog) 22 9 5 Tryz.underlying22 Tryz.underlying5 Tryz.underlying9 (n := 10) hA.symm 10
      rw [S_L] at hc
      go_wp2
      go_ret
      exact ⟨rfl, hb⟩

/-- How many of the first k letters are not fixed. -/
def movedTo (p : List Nat) (k : Nat) : Nat := (List.range k).countP fun i => pAt p i != i
theorem movedTo_succ (p : List Nat) (k : Nat) : movedTo p (k + 1) = movedTo p k + if pAt p k != k then 1 else 0 := by
  simp only [movedTo, List.range_succ, List.countP_append, List.countP_singleton]
theorem movedTo_le (p : List Nat) (k : Nat) : movedTo p k ≤ k := by
  have := List.countP_le_length (p := fun i => pAt p i != i) (l := List.range k)
  simpa [movedTo] using this
theorem pairs_any (p : List Nat) (w : World) (hp : IsP p) :
    Calls Tryz.prog 51 #[.agg (pv p).toArray] w fun e w' => e = .returned (.int .i64 ((movedN p / 2 : Nat) : Int)) ∧ Below w.heap.size w w' := by
  have o0 := Own.new w (pv p) 42
  have hb := (Below.refl w.heap.size w).alloc (Nat.le_refl _) (.cells (pv p).toArray 42)
  go_enter Tryz.func51, Tryz.ntmps51
  go_wp2_with ((with_reducible refine wl_load 42 o0.cells (size_pv hp.len) Tryz.underlying42 ?_ ?_ ?_ ?_); (· rfl); (· rfl); (· rfl))
  generalize (w.alloc (.cells (pv p).toArray 42)) = W at *
  go_loop [3, 4, 5, 7] (fun m _ _ i => ∃ k : Nat, k ≤ 10 ∧ i = .int .i64 k ∧ m = .int .i64 (movedTo p k : Nat)) (fun _ _ _ i => 10 - (intOf i).toNat)
  case atStart => exact ⟨0, by omega, rfl, rfl⟩
  case round =>
    obtain ⟨k, hk, rfl, rfl⟩ := hrel
    have hle := movedTo_le p k
    have hsu := movedTo_succ p k
    by_cases hlt : k < 10
    · have hx := hp.at_lt hlt
      have e1 := pv_at (p := p) (i := k) (by rw [hp.len]; exact hlt)
      by_cases he : pAt p k = k
      · have hne : ((pAt p k : Int) != (k : Int)) = false := by simp [he]
        have hs' : movedTo p (k + 1) = movedTo p k := by rw [hsu]; simp [he]
        have HS := Lib.hid hs'
        clear hs' hsu he
        go_wp2_with ((with_reducible refine wl_index 42 e1 hlt Tryz.underlying42 agg_u8 size_u8 ?_ ?_ ?_ ?_); (· rfl); (· rfl); (· rfl))
        go_round
        case rel => exact ⟨k + 1, by omega, by go_num, by rw [HS.out]⟩
        case measure => simp [intOf]; omega
      · have hne : ((pAt p k : Int) != (k : Int)) = true := by simp; omega
        have hs' : movedTo p (k + 1) = movedTo p k + 1 := by rw [hsu]; simp [he]
        have HS := Lib.hid hs'
        clear hs' hsu he
        go_wp2_with ((with_reducible refine wl_index 42 e1 hlt Tryz.underlying42 agg_u8 size_u8 ?_ ?_ ?_ ?_); (· rfl); (· rfl); (· rfl))
        go_round
        case rel => exact ⟨k + 1, by omega, by go_num, by rw [HS.out]; rfl⟩
        case measure => simp [intOf]; omega
    · have hk' : k = 10 := by omega
      subst hk'
      clear hsu
      go_wp2
      go_ret
      refine ⟨ret_int ?_, hb⟩
      show _ = ((movedTo p 10 / 2 : Nat) : Int)
      omega
end Go.Proofs.YtnnblmibonnpcaaGreat

/- Contracts of the functions that read permutations, plugboards and reflectors. -/
namespace Go.Proofs.YtnnblmibonnpcaaGreat
open Go.RowKit

/-- The set of some numbers, as bits. -/
def mask (l : List Nat) : Nat := l.foldl (fun n x => n ||| 2 ^ x) 0
theorem mask_snoc (l : List Nat) (x : Nat) : mask (l ++ [x]) = mask l ||| 2 ^ x := by simp [mask]
theorem mask_foldl : ∀ (l : List Nat) (n y : Nat), (l.foldl (fun n x => n ||| 2 ^ x) n).testBit y = (n.testBit y || decide (y ∈ l))
  | [], n, y => by simp
  | x :: l, n, y => by
    rw [List.foldl_cons, mask_foldl l, Nat.testBit_or, Nat.testBit_two_pow]
    by_cases h : x = y
    · subst h; simp
    · have h' : ¬ y = x := fun e => h e.symm
      simp [h, h']
theorem mask_test (l : List Nat) (y : Nat) : (mask l).testBit y = decide (y ∈ l) := by rw [mask, mask_foldl]; simp
theorem mask_lt {l : List Nat} (h : ∀ x ∈ l, x < 10) : mask l < 1024 := by
  have : mask l < 2 ^ 10 := Nat.lt_pow_two_of_testBit _ fun i hi => by
    rw [mask_test]; simp; intro hm; have := h i hm; omega
  simpa using this
theorem i64_and_nat (a b : Nat) (ha : a < 9223372036854775808) (hb : b < 9223372036854775808) : bits .and .i64 (a : Int) (b : Int) = ((a &&& b : Nat) : Int) := by
  have hx : a &&& b ≤ a := Nat.and_le_left
  show IntKind.i64.wrap ((BitVec.ofInt 64 (a : Int) &&& BitVec.ofInt 64 (b : Int)).toNat : Int) = _
  rw [BitVec.toNat_and, ofInt_i64 a ha, ofInt_i64 b hb, IntKind.wrap_i64]
  omega
theorem i64_or_nat (a b : Nat) (ha : a < 9223372036854775808) (hb : b < 9223372036854775808) : bits .or .i64 (a : Int) (b : Int) = ((a ||| b : Nat) : Int) := by
  have hx : a ||| b < 2 ^ 63 := Nat.or_lt_two_pow (by omega) (by omega)
  show IntKind.i64.wrap ((BitVec.ofInt 64 (a : Int) ||| BitVec.ofInt 64 (b : Int)).toNat : Int) = _
  rw [BitVec.toNat_or, ofInt_i64 a ha, ofInt_i64 b hb, IntKind.wrap_i64]
  omega
/-- 'n>>d&1' -/
theorem bit_test (n d : Nat) (hn : n < 9223372036854775808) : bits .and .i64 ((n : Int) / 2 ^ d) 1 = if n.testBit d then 1 else 0 := by
  have h1 : ((n : Int) / 2 ^ d) = ((n / 2 ^ d : Nat) : Int) := by simp
  have h2 : n / 2 ^ d ≤ n := Nat.div_le_self _ _
  have h3 : n.testBit d = decide (n / 2 ^ d % 2 = 1) := by
    rw [Nat.testBit_eq_decide_div_mod_eq]
  rw [h1, show (1 : Int) = ((1 : Nat) : Int) from rfl, i64_and_nat _ _ (by omega) (by omega), Nat.and_one_is_mod, h3]
  rcases Nat.mod_two_eq_zero_or_one (n / 2 ^ d) with h | h <;> simp [h]

theorem size_z10 : (Tryz.prog.info? 42).map (·.size) = some z10.length := by rw [len_z10]; exact size_perm
theorem one_z10 : ∀ v ∈ z10, v.oneCell' = true := by
  intro v hv
  rw [List.eq_of_mem_replicate hv]
  rfl
theorem put_z10 {cs : List Value} (h : cs.length = 10) : put z10 0 cs = cs := put_all (by rw [h, len_z10])
theorem permB_size_no {s : ByteArray} (h : s.size ≠ 10) : permB s = false := by simp [permB, h]
theorem permB_word_no {s : ByteArray} {k : Nat} (hk : k < s.size) (hp : isL s[k] = false) : permB s = false := by simp [permB, wordB_no hk hp]
theorem dg_take_succ {s : ByteArray} {k : Nat} (hk : k < s.size) : (dg s).take (k + 1) = (dg s).take k ++ [(dig s[k]).toNat] := by
  have h : k < (dg s).length := by rw [len_dg]; exact hk
  rw [List.take_succ_eq_append_getElem h, ← pAt_get h, dg_at hk]
theorem permB_dup_no {s : ByteArray} {k : Nat} (hk : k < s.size) (hm : (dig s[k]).toNat ∈ (dg s).take k) : permB s = false := by
  simp only [permB, Bool.and_eq_false_iff, decide_eq_false_iff_not]
  refine .inr fun hn => ?_
  have h2 : ((dg s).take (k + 1)).Nodup := hn.sublist (List.take_sublist _ _)
  rw [dg_take_succ hk, List.nodup_append] at h2
  exact h2.2.2 _ hm _ (by simp) rfl
theorem permB_yes {s : ByteArray} (h10 : s.size = 10) (ha : allTo isL s 10) (hn : ((dg s).take 10).Nodup) : permB s = true := by
  simp only [permB, Bool.and_eq_true, decide_eq_true_eq]
  refine ⟨⟨h10, wordB_yes (by omega) ha (by omega)⟩, ?_⟩
  rw [List.take_of_length_le (by rw [len_dg]; omega)] at hn
  exact hn
theorem dg_take_lt {s : ByteArray} {k : Nat} (ha : allTo isL s k) : ∀ x ∈ (dg s).take k, x < 10 := by
  intro x hx
  obtain ⟨i, hi, rfl⟩ := List.getElem_of_mem hx
  have hi' : i < k ∧ i < s.size := by simp [len_dg] at hi; omega
  rw [List.getElem_take, ← pAt_get (by rw [len_dg]; exact hi'.2), dg_at hi'.2]
  have := (isL_iff _).1 (ha i hi'.2 hi'.1)
  omega

theorem wrap_pow : ∀ d, d < 10 → wrap64 (2 ^ d) = ((2 ^ d : Nat) : Int)  := fun d hd => by
  have h1 := Nat.pow_le_pow_right (n := 2) (by omega) (show d ≤ 9 by omega)
  have h2 : (2 : Int) ^ d = ((2 ^ d : Nat) : Int) := by simp
  rw [h2]
  clear h2
  generalize (2 ^ d : Nat) = n at *
  unfold wrap64; omega
/-- What permOf answers: the cells. -/
def permC (b : Bool) (s : ByteArray) : List Value := if b = true then pv (dg s) else z10
theorem permC_yes (s : ByteArray) : permC true s = pv (dg s) := rfl
theorem permC_no (s : ByteArray) : permC false s = z10 := rfl
theorem ret_ab {a b : List Value} {c d : Bool} (h : a = b) (h' : c = d) : Ending.returned (.tuple #[.agg a.toArray, .bool c]) = .returned (.tuple #[.agg b.toArray, .bool d]) := by rw [h, h']
theorem len_permC {b : Bool} {s : ByteArray} (h : b = true → permB s = true) : (permC b s).length = 10 := by
  cases b
  · exact len_z10
  · rw [permC_yes, length_pv, len_dg]; exact permB_size (h rfl)
theorem one_permC (b : Bool) (s : ByteArray) : ∀ v ∈ permC b s, v.oneCell' = true := by
  cases b
  · exact one_z10
  · exact pv_one _
theorem size_permC {b : Bool} {s : ByteArray} (h : b = true → permB s = true) : (Tryz.prog.info? 42).map (·.size) = some (permC b s).length := by rw [len_permC h]; exact size_perm

theorem permOf_any (s : ByteArray) (w : World) (_hs : s.size ≤ 4294967296) :
    Calls Tryz.prog 20 #[.string s] w fun e w' => e = .returned (.tuple #[.agg (permC (permB s) s).toArray, .bool (permB s)]) ∧ Below w.heap.size w w' := by
  by_cases h10 : s.size = 10
  · have H10 := Lib.hid h10
    have hne : ((s.size : Int) != 10) = false := by simp [h10]
    have hdl : (dg s).length = 10 := by rw [len_dg]; exact h10
    have hdl' : (pv (dg s)).length = 10 := by rw [length_pv]; exact hdl
    go_enter Tryz.func20, Tryz.ntmps20
    go_wp2_with fail
    have o2 := (Own.new w z10 42).alloc (.cells z10.toArray 42)
    have o3 := Own.new (w.alloc (.cells z10.toArray 42)) z10 42
    simp only [World.size_alloc] at o2 o3
    have hb := ((Below.refl w.heap.size w).alloc (Nat.le_refl _) (.cells z10.toArray 42)).alloc (by simp) (.cells z10.toArray 42)
    go_loopw [5, 6, 11] (fun m _ i wr => ∃ k : Nat, k ≤ 10 ∧ i = .int .i64 k ∧ allTo isL s k ∧ ((dg s).take k).Nodup ∧ m = .int .i64 (mask ((dg s).take k) : Nat) ∧ Own wr w.heap.size z10 ∧ Own wr (w.heap.size + 1) ((pv (dg s)).take k ++ z10.drop k) ∧ Below w.heap.size w wr) (fun _ _ i _ => 10 - (intOf i).toNat)
    case atStart => exact ⟨0, by omega, rfl, allTo_zero _ _, by simp, rfl, o2, by rw [zfill0]; exact o3, hb⟩
    case round =>
      clear o2 o3 hb
      obtain ⟨k, hk, rfl, ha, hnd, rfl, o2, o3, hb⟩ := hrel
      have hsz := o3.lt
      by_cases hlt : k < 10
      · have hks : k < s.size := by omega
        cases hd : isL s[k]
        · have hf := Lib.hid (permB_word_no hks hd)
          go_wp2_with (first | (go_at_call 41; ((with_reducible refine (implIsLetter_any _ _).mono ?_); rintro e w' ⟨rfl, rfl⟩)) | ((with_reducible refine wl_store 42 0 o2 size_z10 one_z10 (by rw [len_z10]; omega) ?_ ?_ ?_ ?_); (· rfl); (· rfl); (· rfl); intro w5 o5 b5 s5))
          rw [put_z10 len_z10] at o5
          refine bodyPost_ret (results_cell_tmp_own Tryz.results20 _ _ _ _ _ _ (by rfl) (by rfl) o5.cells Tryz.underlying42 rfl size_z10) rfl ?_
          exact ⟨ret_ab (by rw [hf.out]; rfl) (by rw [hf.out]), bel_store hb b5 (by omega) (by omega)⟩
        · obtain ⟨hd0, hd1⟩ := (isL_iff _).1 hd
          have hd97 : 97 ≤ s[k].toNat := by unfold dig at hd0; omega
          have hmk := mask_lt (dg_take_lt ha)
          have hmt := mask_test ((dg s).take k) (dig s[k]).toNat
          have hms := mask_snoc ((dg s).take k) (dig s[k]).toNat
          rw [← dg_take_succ hks] at hms
          obtain ⟨d, hdd⟩ := Int.eq_ofNat_of_zero_le hd0
          have hn := fun W => implNumber_any s[k] W hd97
          have hdup := fun hm => permB_dup_no hks hm
          have hnd' := dg_take_succ hks
          have hat := dg_at hks
          rw [hdd] at hn hd1
          rw [hdd, Int.toNat_natCast] at hmt hms hdup hnd' hat
          have hbt := bit_test (mask ((dg s).take k)) d (by omega)
          have HMS := Lib.hid hms
          have HNS := Lib.hid hnd'
          have HAT := Lib.hid hat
          clear hdd hd0 hms hnd' hat
          have hd9 : d ≤ 9 := by omega
          by_cases hm : d ∈ (dg s).take k
          · have hf := Lib.hid (hdup hm)
            rw [hmt, decide_eq_true hm, if_pos rfl] at hbt
            clear hdup
            go_wp2_with (first | (go_at_call 41; ((with_reducible refine (implIsLetter_any _ _).mono ?_); rintro e w' ⟨rfl, rfl⟩)) | (go_at_call 42; ((with_reducible refine (hn _).mono ?_); rintro e w' ⟨rfl, rfl⟩)) | ((with_reducible refine wl_store 42 0 o2 size_z10 one_z10 (by rw [len_z10]; omega) ?_ ?_ ?_ ?_); (· rfl); (· rfl); (· rfl); intro w5 o5 b5 s5))
            rw [put_z10 len_z10] at o5
            refine bodyPost_ret (results_cell_tmp_own Tryz.results20 _ _ _ _ _ _ (by rfl) (by rfl) o5.cells Tryz.underlying42 rfl size_z10) rfl ?_
            exact ⟨ret_ab (by rw [hf.out]; rfl) (by rw [hf.out]), bel_store hb b5 (by omega) (by omega)⟩
          · rw [hmt, decide_eq_false hm, if_neg (by simp)] at hbt
            clear hdup
            have hor := i64_or_nat (mask ((dg s).take k)) (2 ^ d) (by omega) (by have := Nat.pow_le_pow_right (n := 2) (by omega) hd9; omega)
            have hl3 := zfill_len hdl' hk
            obtain ⟨x3, f3⟩ := o3.some_ (i := k) (by omega)
            have g3 := o3.free k (by omega)
            go_wp2_with (first | (go_at_call 41; ((with_reducible refine (implIsLetter_any _ _).mono ?_); rintro e w' ⟨rfl, rfl⟩)) | (go_at_call 42; ((with_reducible refine (hn _).mono ?_); rintro e w' ⟨rfl, rfl⟩)))
            go_roundw
            case rel =>
              refine ⟨k + 1, by omega, by go_num, allTo_succ ha hks hd, ?_, ?_, o2.far (by simp) _, ?_, hb.setCell (by simp) _⟩
              · rw [HNS.out, List.nodup_append]
                exact ⟨hnd, by simp, fun a ha' b hb' e => by simp at hb'; subst hb'; exact hm (e ▸ ha')⟩
              · rw [HMS.out, wrap_pow d (by omega), hor]
              · rw [← zfill_set hdl hlt, HAT.out]
                exact o3.set_ (by omega) _
            case measure => simp [intOf]; omega
      · have hk' : k = 10 := by omega
        subst hk'
        rw [zfill10 hdl'] at o3
        have hy := Lib.hid (permB_yes h10 ha hnd)
        go_wp2_with (first | ((with_reducible refine wl_load 42 o3.cells (size_pv hdl) Tryz.underlying42 ?_ ?_ ?_ ?_); (· rfl); (· rfl); (· rfl)) | ((with_reducible refine wl_store 42 0 o2 (size_pv hdl) (pv_one _) (by rw [hdl', len_z10]; omega) ?_ ?_ ?_ ?_); (· rfl); (· rfl); (· rfl); intro w5 o5 b5 s5))
        rw [put_z10 hdl'] at o5
        refine bodyPost_ret (results_cell_tmp_own Tryz.results20 _ _ _ _ _ _ (by rfl) (by rfl) o5.cells Tryz.underlying42 rfl (size_pv hdl)) rfl ?_
        exact ⟨ret_ab (by rw [hy.out]; rfl) (by rw [hy.out]), bel_store hb b5 (by omega) (by omega)⟩
  · have hne : ((s.size : Int) != 10) = true := by simp; omega
    have hf := Lib.hid (permB_size_no h10)
    have o2 : Own ((w.alloc (.cells #[.int .u8 0, .int .u8 0, .int .u8 0, .int .u8 0, .int .u8 0, .int .u8 0, .int .u8 0, .int .u8 0, .int .u8 0, .int .u8 0] 42)).alloc (.cells #[.int .u8 0, .int .u8 0, .int .u8 0, .int .u8 0, .int .u8 0, .int .u8 0, .int .u8 0, .int .u8 0, .int .u8 0, .int .u8 0] 42)) w.heap.size z10 := (Own.new w z10 42).alloc (.cells z10.toArray 42)
    have o3 := Own.new (w.alloc (.cells z10.toArray 42)) z10 42
    simp only [World.size_alloc] at o3
    replace o3 : Own ((w.alloc (.cells #[.int .u8 0, .int .u8 0, .int .u8 0, .int .u8 0, .int .u8 0, .int .u8 0, .int .u8 0, .int .u8 0, .int .u8 0, .int .u8 0] 42)).alloc (.cells #[.int .u8 0, .int .u8 0, .int .u8 0, .int .u8 0, .int .u8 0, .int .u8 0, .int .u8 0, .int .u8 0, .int .u8 0, .int .u8 0] 42)) (w.heap.size + 1) z10 := o3
    have hb := ((Below.refl w.heap.size w).alloc (Nat.le_refl _) (.cells z10.toArray 42)).alloc (by simp) (.cells z10.toArray 42)
    go_enter Tryz.func20, Tryz.ntmps20
    go_wp2_with (first | ((with_reducible refine wl_load 42 o3.cells size_z10 Tryz.underlying42 ?_ ?_ ?_ ?_); (· rfl); (· rfl); (· rfl)) | ((with_reducible refine wl_store 42 0 o2 size_z10 one_z10 (by rw [len_z10]; omega) ?_ ?_ ?_ ?_); (· rfl); (· rfl); (· rfl); intro w5 o5 b5 s5))
    rw [put_z10 len_z10] at o5
    refine bodyPost_ret (results_cell_tmp_own Tryz.results20 _ _ _ _ _ _ (by rfl) (by rfl) o5.cells Tryz.underlying42 rfl size_z10) rfl ?_
    exact ⟨ret_ab (by rw [hf.out]; rfl) (by rw [hf.out]), bel_store hb b5 (by simp; omega) (by omega)⟩

theorem implPermValid_any (s : ByteArray) (w : World) (hs : s.size ≤ 4294967296) :
    Calls Tryz.prog 124 #[.string s] w fun e w' => e = .returned (.bool (permB s)) ∧ Below w.heap.size w w' := by
  go_enter Tryz.func124, Tryz.ntmps124
  go_wp2_with fail
  refine (permOf_any s w hs).mono ?_
  rintro e w1 ⟨rfl, hb1⟩
  generalize hc : permC (permB s) s = cs
  have hl : cs.length = 10 := by rw [← hc]; exact len_permC id
  have o1 : Own (w1.alloc (.cells #[.int .u8 0, .int .u8 0, .int .u8 0, .int .u8 0, .int .u8 0, .int .u8 0, .int .u8 0, .int .u8 0, .int .u8 0, .int .u8 0] 42)) w1.heap.size z10 := Own.new w1 z10 42
  go_wp2_with (first | ((with_reducible refine wl_store 42 0 o1 (by rw [hl]; exact size_perm) (by rw [← hc]; exact one_permC _ _) (by rw [hl, len_z10]; omega) ?_ ?_ ?_ ?_); (· rfl); (· rfl); (· rfl); intro w5 o5 b5 s5))
  go_ret
  exact ⟨rfl, bel_store (hb1.alloc hb1.size _) b5 (by have := hb1.size; simp; omega) hb1.size⟩
end Go.Proofs.YtnnblmibonnpcaaGreat

/- Contracts of the functions that read plugboards and reflectors. -/
namespace Go.Proofs.YtnnblmibonnpcaaGreat
open Go.RowKit

theorem run_items (a b : List Nat) (ha : a.length = 10) (hb : b.length = 10) (d : Nat) (w : World) : ∀ is : List Nat, (∀ i ∈ is, i < 10) →
    (Op.eqItems (d + 1) 5 1 (pv a).toArray (pv b).toArray is).run Tryz.prog w = .ok (is.all fun i => pAt a i == pAt b i) w
  | [], _ => by simp [Op.eqItems]
  | i :: is, h => by
    have hi : i < 10 := h i (by simp)
    have ih := run_items a b ha hb d w is (fun j hj => h j (by simp [hj]))
    have p1 : (part 5 (pv a).toArray (i * 1)).run Tryz.prog w = .ok (.int .u8 (pAt a i : Int)) w := by
      simp [part, pv_at (show i < a.length by omega)]
    have p2 : (part 5 (pv b).toArray (i * 1)).run Tryz.prog w = .ok (.int .u8 (pAt b i : Int)) w := by
      simp [part, pv_at (show i < b.length by omega)]
    have p3 := run_equalIn_int (P := Tryz.prog) w d 5 .u8 .u8 (pAt a i : Int) (pAt b i : Int) Tryz.underlying5
    simp only [Op.eqItems, Sem.run_bind, p1, p2, p3, Result.andThen_ok, List.all_cons]
    by_cases e : pAt a i = pAt b i
    · have e' : ((pAt a i : Int) == (pAt b i : Int)) = true := by simp [e]
      rw [e']
      simp [ih, e]
    · have e' : ((pAt a i : Int) == (pAt b i : Int)) = false := by simp; omega
      rw [e']
      simp [e]
theorem run_equal_pv (a b : List Nat) (ha : a.length = 10) (hb : b.length = 10) (w : World) :
    (Op.equal 42 (.agg (pv a).toArray) (.agg (pv b).toArray)).run Tryz.prog w = .ok (decide (a = b)) w := by
  have hsz := size_u8
  cases hq : Tryz.prog.info? 5 with
  | none => simp [hq] at hsz
  | some i =>
    have hs : i.size = 1 := by simpa [hq] using hsz
    have h1 := run_equalIn_array (P := Tryz.prog) w (9998 + 1) (pv a).toArray (pv b).toArray Tryz.underlying42 hq
    have h2 := run_items a b ha hb 9998 w (List.range 10) (fun i hi => by simpa using hi)
    have h3 : (List.range 10).all (fun i => pAt a i == pAt b i) = decide (a = b) := by
      rw [Bool.eq_iff_iff, List.all_eq_true, decide_eq_true_iff]
      refine ⟨fun h => ext10 ha hb fun i hi => by simpa using h i (by simpa using hi), fun e => by subst e; simp⟩
    rw [h3] at h2
    show (Op.equalIn (9998 + 1 + 1) _ _ _).run Tryz.prog w = _
    rw [h1, show Tryz.prog.cellsOf 5 = 1 by kernel_rfl]
    exact h2

theorem grd_perm : Tryz.prog.eqGuardType Tryz.prog.depth 42 = false := by kernel_rfl
theorem plugC_yes {s : ByteArray} (h : permB s = true) (he : thenP (dg s) (dg s) = idP) : plugB s = true := by simp [plugB, h, he]
theorem plugC_no {s : ByteArray} (he : ¬ thenP (dg s) (dg s) = idP) : plugB s = false := by simp [plugB, he]
theorem plugC_no' {s : ByteArray} (h : permB s = false) : plugB s = false := by simp [plugB, h]
theorem plugsOf_any (s : ByteArray) (w : World) (hs : s.size ≤ 4294967296) :
    Calls Tryz.prog 43 #[.string s] w fun e w' => e = .returned (.tuple #[.agg (permC (plugB s) s).toArray, .bool (plugB s)]) ∧ Below w.heap.size w w' := by
  have o0 : Own (w.alloc (.cells #[.int .u8 0, .int .u8 0, .int .u8 0, .int .u8 0, .int .u8 0, .int .u8 0, .int .u8 0, .int .u8 0, .int .u8 0, .int .u8 0] 42)) w.heap.size z10 := Own.new w z10 42
  cases hp : permB s
  · have hf := Lib.hid (plugC_no' hp)
    go_enter Tryz.func43, Tryz.ntmps43
    go_wp2_with fail
    refine (permOf_any s _ hs).mono ?_
    rintro e w1 ⟨rfl, hb1⟩
    rw [hp, permC_no]
    have o1 : Own (w1.alloc (.cells #[.int .u8 0, .int .u8 0, .int .u8 0, .int .u8 0, .int .u8 0, .int .u8 0, .int .u8 0, .int .u8 0, .int .u8 0, .int .u8 0] 42)) w1.heap.size z10 := Own.new w1 z10 42
    have hz1 := hb1.size
    simp only [World.size_alloc] at hz1
    have o01 := (o0.below hb1 o0.lt).alloc (.cells #[.int .u8 0, .int .u8 0, .int .u8 0, .int .u8 0, .int .u8 0, .int .u8 0, .int .u8 0, .int .u8 0, .int .u8 0, .int .u8 0] 42)
    go_wp2_with (first | ((with_reducible refine wl_store 42 0 o1 size_z10 one_z10 (by rw [len_z10]; omega) ?_ ?_ ?_ ?_); (· rfl); (· rfl); (· rfl); intro w2 o2 b2 s2) | ((with_reducible refine wl_store 42 0 (o01.grown b2 (by simp; omega)) size_z10 one_z10 (by rw [len_z10]; omega) ?_ ?_ ?_ ?_); (· rfl); (· rfl); (· rfl); intro w3 o3 b3 s3))
    rw [put_z10 len_z10] at o3
    simp only [World.size_alloc] at s2
    refine bodyPost_ret (results_cell_tmp_own Tryz.results43 _ _ _ _ _ _ (by rfl) (by rfl) o3.cells Tryz.underlying42 rfl size_z10) rfl ?_
    refine ⟨ret_ab (by rw [hf.out]; rfl) (by rw [hf.out]), ?_⟩
    exact bel_store (bel_store ((bt ((Below.refl _ _).alloc (Nat.le_refl _) _) hb1).alloc (by omega) _) b2 (by simp; omega) (by omega)) b3 (by omega) (by omega)
  · have hP := permB_isP hp
    have hlen := hP.len
    have hlen' : (pv (dg s)).length = 10 := by rw [length_pv]; exact hlen
    go_enter Tryz.func43, Tryz.ntmps43
    go_wp2_with fail
    refine (permOf_any s _ hs).mono ?_
    rintro e w1 ⟨rfl, hb1⟩
    rw [hp, permC_yes]
    have o1 : Own (w1.alloc (.cells #[.int .u8 0, .int .u8 0, .int .u8 0, .int .u8 0, .int .u8 0, .int .u8 0, .int .u8 0, .int .u8 0, .int .u8 0, .int .u8 0] 42)) w1.heap.size z10 := Own.new w1 z10 42
    have hz1 := hb1.size
    simp only [World.size_alloc] at hz1
    have o01 := (o0.below hb1 o0.lt).alloc (.cells #[.int .u8 0, .int .u8 0, .int .u8 0, .int .u8 0, .int .u8 0, .int .u8 0, .int .u8 0, .int .u8 0, .int .u8 0, .int .u8 0] 42)
    have hbw := (bt ((Below.refl _ _).alloc (Nat.le_refl _) _) hb1).alloc (by omega) (.cells #[.int .u8 0, .int .u8 0, .int .u8 0, .int .u8 0, .int .u8 0, .int .u8 0, .int .u8 0, .int .u8 0, .int .u8 0, .int .u8 0] 42)
    have hth := fun W => then_any (dg s) (dg s) W hP hP
    have heq := fun W => run_equal_pv (thenP (dg s) (dg s)) idP (by rw [len_then]; exact hlen) len_id W
    by_cases he : thenP (dg s) (dg s) = idP
    · have hy := Lib.hid (plugC_yes hp he)
      rw [decide_eq_true he] at heq
      clear he
      generalize thenP (dg s) (dg s) = q2 at *
      go_wp2_with (first | ((with_reducible refine wl_store 42 0 o1 (size_pv hlen) (pv_one _) (by rw [hlen', len_z10]; omega) ?_ ?_ ?_ ?_); (· rfl); (· rfl); (· rfl); intro w2 o2 b2 s2) | ((with_reducible refine wl_load 42 (by rw [put_z10 hlen'] at o2; exact o2.cells) (size_pv hlen) Tryz.underlying42 ?_ ?_ ?_ ?_); (· rfl); (· rfl); (· rfl)))
      rw [put_z10 hlen'] at o2
      simp only [World.size_alloc] at s2
      refine (hth w2).mono ?_
      rintro e w3 ⟨rfl, hb3⟩
      have hz3 := hb3.size
      go_wp2_with fail
      refine (identity_any w3).mono ?_
      rintro e w4 ⟨rfl, hb4⟩
      have hz4 := hb4.size
      have o24 := (o2.below hb3 o2.lt).below hb4 (by omega)
      have o04 := ((o01.grown b2 (by simp; omega)).below hb3 (by omega)).below hb4 (by omega)
      have hbw4 := bt (bt (bel_store hbw b2 (by simp; omega) (by omega)) hb3) hb4
      go_wp2_with (first | ((with_reducible refine wl_neq 42 (heq _) grd_perm ?_ ?_ ?_ ?_); (· rfl); (· rfl); (· rfl)) | ((with_reducible refine wl_load 42 o24.cells (size_pv hlen) Tryz.underlying42 ?_ ?_ ?_ ?_); (· rfl); (· rfl); (· rfl)) | ((with_reducible refine wl_store 42 0 o04 (size_pv hlen) (pv_one _) (by rw [hlen', len_z10]; omega) ?_ ?_ ?_ ?_); (· rfl); (· rfl); (· rfl); intro w5 o5 b5 s5))
      rw [put_z10 hlen'] at o5
      refine bodyPost_ret (results_cell_tmp_own Tryz.results43 _ _ _ _ _ _ (by rfl) (by rfl) o5.cells Tryz.underlying42 rfl (size_pv hlen)) rfl ?_
      exact ⟨ret_ab (by rw [hy.out]; rfl) (by rw [hy.out]), bel_store hbw4 b5 (by omega) (by omega)⟩
    · have hy := Lib.hid (plugC_no he)
      rw [decide_eq_false he] at heq
      clear he
      generalize thenP (dg s) (dg s) = q2 at *
      go_wp2_with (first | ((with_reducible refine wl_store 42 0 o1 (size_pv hlen) (pv_one _) (by rw [hlen', len_z10]; omega) ?_ ?_ ?_ ?_); (· rfl); (· rfl); (· rfl); intro w2 o2 b2 s2) | ((with_reducible refine wl_load 42 (by rw [put_z10 hlen'] at o2; exact o2.cells) (size_pv hlen) Tryz.underlying42 ?_ ?_ ?_ ?_); (· rfl); (· rfl); (· rfl)))
      rw [put_z10 hlen'] at o2
      simp only [World.size_alloc] at s2
      refine (hth w2).mono ?_
      rintro e w3 ⟨rfl, hb3⟩
      have hz3 := hb3.size
      go_wp2_with fail
      refine (identity_any w3).mono ?_
      rintro e w4 ⟨rfl, hb4⟩
      have hz4 := hb4.size
      have o24 := (o2.below hb3 o2.lt).below hb4 (by omega)
      have o04 := ((o01.grown b2 (by simp; omega)).below hb3 (by omega)).below hb4 (by omega)
      have hbw4 := bt (bt (bel_store hbw b2 (by simp; omega) (by omega)) hb3) hb4
      go_wp2_with (first | ((with_reducible refine wl_neq 42 (heq _) grd_perm ?_ ?_ ?_ ?_); (· rfl); (· rfl); (· rfl)) | ((with_reducible refine wl_store 42 0 o04 size_z10 one_z10 (by rw [len_z10]; omega) ?_ ?_ ?_ ?_); (· rfl); (· rfl); (· rfl); intro w5 o5 b5 s5))
      rw [put_z10 len_z10] at o5
      refine bodyPost_ret (results_cell_tmp_own Tryz.results43 _ _ _ _ _ _ (by rfl) (by rfl) o5.cells Tryz.underlying42 rfl size_z10) rfl ?_
      exact ⟨ret_ab (by rw [hy.out]; rfl) (by rw [hy.out]), bel_store hbw4 b5 (by omega) (by omega)⟩
end Go.Proofs.YtnnblmibonnpcaaGreat
