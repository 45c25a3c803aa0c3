/- Plain laws on rotors, wheels, machines, steps and keys. -/
import Derived.Test.YtaplndmgbinhcaaGreatPerm
namespace Go.Proofs.YtaplndmgbinhcaaGreat

structure Rot where
  wiring : ByteArray
  notches : ByteArray
structure Whl where
  rotors : List Rot
  refl : ByteArray
structure Mach where
  wheels : Whl
  rings : ByteArray
  plugs : ByteArray

/-- The bytes of a string ascend. -/
def ascB (s : ByteArray) : Bool := (List.range (s.size - 1)).all fun i => decide ((L s).getD i 0 < (L s).getD (i + 1) 0)
def rotorB (r : Rot) : Bool := permB r.wiring && decide (r.notches.size ≤ 3) && wordB r.notches && ascB r.notches
def wheelsB (w : Whl) : Bool := decide (1 ≤ w.rotors.length) && decide (w.rotors.length ≤ 3) && w.rotors.all rotorB && reflB w.refl
def fitB (w : Whl) (v : ByteArray) : Bool := wheelsB w && decide (v.size = w.rotors.length) && wordB v
def machB (m : Mach) : Bool := fitB m.wheels m.rings && plugB m.plugs
def setB (m : Mach) (v : ByteArray) : Bool := machB m && decide (v.size = m.rings.size) && wordB v

structure FitB (w : Whl) (v : ByteArray) : Prop where
  one : 1 ≤ w.rotors.length
  three : w.rotors.length ≤ 3
  rot : ∀ r ∈ w.rotors, rotorB r = true
  refl : reflB w.refl = true
  size : v.size = w.rotors.length
  word : wordB v = true
theorem fitB_iff {w : Whl} {v : ByteArray} : fitB w v = true ↔ FitB w v := by
  simp only [fitB, wheelsB, Bool.and_eq_true, decide_eq_true_eq, List.all_eq_true]
  exact ⟨fun ⟨⟨⟨⟨⟨a, b⟩, c⟩, d⟩, e⟩, f⟩ => ⟨a, b, c, d, e, f⟩, fun h => ⟨⟨⟨⟨⟨h.one, h.three⟩, h.rot⟩, h.refl⟩, h.size⟩, h.word⟩⟩
theorem machB_fit {m : Mach} (h : machB m = true) : FitB m.wheels m.rings := by
  simp only [machB, Bool.and_eq_true] at h; exact fitB_iff.1 h.1
theorem machB_plug {m : Mach} (h : machB m = true) : plugB m.plugs = true := by
  simp only [machB, Bool.and_eq_true] at h; exact h.2
theorem setB_mach {m : Mach} {v : ByteArray} (h : setB m v = true) : machB m = true := by
  simp only [setB, Bool.and_eq_true] at h; exact h.1.1
theorem setB_word {m : Mach} {v : ByteArray} (h : setB m v = true) : wordB v = true := by
  simp only [setB, Bool.and_eq_true] at h; exact h.2
theorem setB_size {m : Mach} {v : ByteArray} (h : setB m v = true) : v.size = m.rings.size := by
  simp only [setB, Bool.and_eq_true, decide_eq_true_eq] at h; exact h.1.2
theorem setB_len {m : Mach} {v : ByteArray} (h : setB m v = true) : v.size = m.wheels.rotors.length := by
  rw [setB_size h, (machB_fit (setB_mach h)).size]
theorem setB_fit {m : Mach} {v : ByteArray} (h : setB m v = true) : FitB m.wheels v :=
  have k := machB_fit (setB_mach h)
  ⟨k.one, k.three, k.rot, k.refl, setB_len h, setB_word h⟩
theorem setB_mk {m : Mach} {v : ByteArray} (h : machB m = true) (h1 : v.size = m.rings.size) (h2 : wordB v = true) : setB m v = true := by
  simp only [setB, Bool.and_eq_true, decide_eq_true_eq]; exact ⟨⟨h, h1⟩, h2⟩
theorem rotorB_perm {r : Rot} (h : rotorB r = true) : permB r.wiring = true := by
  simp only [rotorB, Bool.and_eq_true] at h; exact h.1.1.1
theorem rotorB_notches {r : Rot} (h : rotorB r = true) : r.notches.size ≤ 3 := by
  simp only [rotorB, Bool.and_eq_true, decide_eq_true_eq] at h; exact h.1.1.2

/-- The rotor with a number (an empty one past the end). -/
def rotAt (w : Whl) (i : Nat) : Rot := w.rotors.getD i ⟨S [], S []⟩
theorem rotAt_get {w : Whl} {i : Nat} (h : i < w.rotors.length) : rotAt w i = w.rotors[i] := by simp [rotAt, List.getD, List.getElem?_eq_getElem h]
/-- The byte with a number. -/
def byteAt (s : ByteArray) (i : Nat) : UInt8 := (L s).getD i 0
theorem byteAt_get {s : ByteArray} {i : Nat} (h : i < s.size) : byteAt s i = s[i] := by
  simp [byteAt, List.getD, List.getElem?_eq_getElem (show i < (L s).length by rw [size_L]; exact h), getElem_L]
/-- A rotor is at a notch. -/
def atB (w : Whl) (v : ByteArray) (i : Nat) : Bool := (L (rotAt w i).notches).contains (byteAt v i)
/-- A rotor moves at the next step. -/
def mvB (w : Whl) (v : ByteArray) (i : Nat) : Bool := decide (i + 1 = v.size) || atB w v (i + 1) || (decide (0 < i) && atB w v i)
/-- The windows after a step. -/
def stepW (w : Whl) (v : ByteArray) : ByteArray := S ((List.range v.size).map fun i => if mvB w v i then letr (dig (byteAt v i) + 1) else byteAt v i)
theorem size_stepW (w : Whl) (v : ByteArray) : (stepW w v).size = v.size := by simp [stepW, size_S]
theorem byteAt_stepW {w : Whl} {v : ByteArray} {i : Nat} (h : i < v.size) : byteAt (stepW w v) i = if mvB w v i then letr (dig (byteAt v i) + 1) else byteAt v i := by
  simp [byteAt, stepW, L_S, List.getD, h]
theorem isL_letr (n : Int) : isL (letr n) = true := by rw [isL_iff, dig_letr]; omega
theorem word_stepW {w : Whl} {v : ByteArray} (h : wordB v = true) : wordB (stepW w v) = true := by
  simp only [wordB, Bool.and_eq_true, decide_eq_true_eq] at h ⊢
  refine ⟨by rw [size_stepW]; exact h.1, ?_⟩
  unfold stepW
  rw [L_S, List.all_eq_true]
  intro c hc
  obtain ⟨i, hi, rfl⟩ := List.mem_map.1 hc
  have hi : i < v.size := by simpa using hi
  split
  · exact isL_letr _
  · rw [byteAt_get hi]; exact all_at h.2 i hi
/-- The windows after n steps. -/
def stepN (w : Whl) : Nat → ByteArray → ByteArray
  | 0, v => v
  | n + 1, v => stepN w n (stepW w v)
theorem stepN_succ (w : Whl) : ∀ (n : Nat) (v : ByteArray), stepN w (n + 1) v = stepW w (stepN w n v)
  | 0, _ => rfl
  | n + 1, v => by rw [stepN, stepN_succ w n (stepW w v)]; rfl
theorem stepN_add (w : Whl) : ∀ (a b : Nat) (v : ByteArray), stepN w (a + b) v = stepN w b (stepN w a v)
  | 0, b, v => by simp [stepN]
  | a + 1, b, v => by
    have : a + 1 + b = (a + b) + 1 := by omega
    rw [this, stepN, stepN, stepN_add w a b]
theorem size_stepN (w : Whl) : ∀ (n : Nat) (v : ByteArray), (stepN w n v).size = v.size
  | 0, _ => rfl
  | n + 1, v => by rw [stepN, size_stepN w n, size_stepW]
theorem word_stepN {w : Whl} : ∀ (n : Nat) {v : ByteArray}, wordB v = true → wordB (stepN w n v) = true
  | 0, _, h => h
  | n + 1, _, h => by rw [stepN]; exact word_stepN n (word_stepW h)
theorem setB_step {m : Mach} {v : ByteArray} (h : setB m v = true) : setB m (stepW m.wheels v) = true :=
  setB_mk (setB_mach h) (by rw [size_stepW]; exact setB_size h) (word_stepW (setB_word h))
theorem setB_stepN {m : Mach} {v : ByteArray} (n : Nat) (h : setB m v = true) : setB m (stepN m.wheels n v) = true :=
  setB_mk (setB_mach h) (by rw [size_stepN]; exact setB_size h) (word_stepN n (setB_word h))

/-- The offsets of the rotors at some windows. -/
def offs (rings v : ByteArray) : List Nat := (List.range v.size).map fun i => ((dig (byteAt v i) - dig (byteAt rings i) + 10) % 10).toNat
theorem len_offs (rings v : ByteArray) : (offs rings v).length = v.size := by simp [offs]
theorem offs_lt (rings v : ByteArray) : ∀ o ∈ offs rings v, o < 10 := by
  intro o ho
  obtain ⟨i, _, rfl⟩ := List.mem_map.1 ho
  omega
/-- The way from a start through the rotors, the last one first. -/
def wayP (p : List Nat) : List Rot → List Nat → List Nat
  | r :: rs, o :: os => thenP (wayP p rs os) (turnP (dg r.wiring) o)
  | _, _ => p
theorem isP_way {p : List Nat} (hp : IsP p) : ∀ (rs : List Rot) (os : List Nat), (∀ r ∈ rs, permB r.wiring = true) → IsP (wayP p rs os)
  | [], _, _ => by simp only [wayP]; exact hp
  | _ :: _, [], _ => by simp only [wayP]; exact hp
  | r :: rs, o :: os, h => by
    simp only [wayP]
    exact (isP_way hp rs os fun r hr => h r (by simp [hr])).then ((permB_isP (h r (by simp))).turn o)
theorem way_then {p : List Nat} (hp : IsP p) : ∀ (rs : List Rot) (os : List Nat), (∀ r ∈ rs, permB r.wiring = true) → wayP p rs os = thenP p (wayP idP rs os)
  | [], _, _ => by simp only [wayP]; exact (then_id hp).symm
  | _ :: _, [], _ => by simp only [wayP]; exact (then_id hp).symm
  | r :: rs, o :: os, h => by
    have h' : ∀ r ∈ rs, permB r.wiring = true := fun r hr => h r (by simp [hr])
    simp only [wayP]
    rw [way_then hp rs os h', then_assoc hp (isP_way isP_id rs os h')]
/-- The permutation of the wheels alone. -/
def scrP (w : Whl) (os : List Nat) : List Nat := conjP (dg w.refl) (backP (wayP idP w.rotors os))
/-- The permutation of a machine at some windows. -/
def keyP (m : Mach) (v : ByteArray) : List Nat :=
  thenP (thenP (wayP (dg m.plugs) m.wheels.rotors (offs m.rings v)) (dg m.wheels.refl)) (backP (wayP (dg m.plugs) m.wheels.rotors (offs m.rings v)))
theorem FitB.perms {w : Whl} {v : ByteArray} (h : FitB w v) : ∀ r ∈ w.rotors, permB r.wiring = true := fun r hr => rotorB_perm (h.rot r hr)
theorem machB_plugP {m : Mach} (h : machB m = true) : IsP (dg m.plugs) := permB_isP (plugB_perm (machB_plug h))
theorem machB_reflP {m : Mach} (h : machB m = true) : IsP (dg m.wheels.refl) := permB_isP (plugB_perm (reflB_plug (machB_fit h).refl))
theorem isP_key {m : Mach} (h : machB m = true) (v : ByteArray) : IsP (keyP m v) :=
  have hw := isP_way (machB_plugP h) m.wheels.rotors (offs m.rings v) (machB_fit h).perms
  (hw.then (machB_reflP h)).then hw.back
theorem key_conj_way {m : Mach} (h : machB m = true) (v : ByteArray) : keyP m v = conjP (dg m.wheels.refl) (backP (wayP (dg m.plugs) m.wheels.rotors (offs m.rings v))) := by
  have hw := isP_way (machB_plugP h) m.wheels.rotors (offs m.rings v) (machB_fit h).perms
  unfold keyP conjP
  rw [back_back hw]
/-- The key is that of the wheels, its letters renamed by the plugboard. -/
theorem key_conj {m : Mach} (h : machB m = true) (v : ByteArray) : keyP m v = conjP (scrP m.wheels (offs m.rings v)) (dg m.plugs) := by
  have hp := machB_plugP h
  have hr := machB_reflP h
  have hi := plugB_inv (machB_plug h)
  have hw := isP_way isP_id m.wheels.rotors (offs m.rings v) (machB_fit h).perms
  have hb : backP (dg m.plugs) = dg m.plugs := hi.back hp
  unfold keyP scrP conjP
  rw [way_then hp _ _ (machB_fit h).perms, back_back hw, back_of_then hp hw, hb]
  rw [then_assoc (hp.then hw) hr, then_assoc hp hw, then_assoc hp ((hw.then hr).then hw.back), then_assoc (hw.then hr) hw.back, then_assoc hw hr]
theorem inv_key {m : Mach} (h : machB m = true) (v : ByteArray) : Inv (keyP m v) := by
  rw [key_conj_way h v]
  have hw := isP_way (machB_plugP h) m.wheels.rotors (offs m.rings v) (machB_fit h).perms
  exact (plugB_inv (reflB_plug (machB_fit h).refl)).conj (machB_reflP h) hw.back
theorem free_key {m : Mach} (h : machB m = true) (v : ByteArray) : Free (keyP m v) := by
  rw [key_conj_way h v]
  have hw := isP_way (machB_plugP h) m.wheels.rotors (offs m.rings v) (machB_fit h).perms
  exact (reflB_free (machB_fit h).refl).conj (machB_reflP h) hw.back

/-- The permutation of the key with a number (from 0 on). -/
def keyN (m : Mach) (v : ByteArray) (k : Nat) : List Nat := keyP m (stepN m.wheels (k + 1) v)
theorem isP_keyN {m : Mach} (h : machB m = true) (v : ByteArray) (k : Nat) : IsP (keyN m v k) := isP_key h _
/-- What a machine makes of some numbers. -/
def encD (m : Mach) (v : ByteArray) (d : List Nat) : List Nat := (List.range d.length).map fun i => pAt (keyN m v i) (pAt d i)
theorem len_encD (m : Mach) (v : ByteArray) (d : List Nat) : (encD m v d).length = d.length := by simp [encD]
theorem at_encD (m : Mach) (v : ByteArray) {d : List Nat} {i : Nat} (h : i < d.length) : pAt (encD m v d) i = pAt (keyN m v i) (pAt d i) := by
  rw [pAt_get (by rw [len_encD]; exact h)]; simp [encD]
theorem encD_lt {m : Mach} (h : machB m = true) (v : ByteArray) {d : List Nat} (hd : ∀ x ∈ d, x < 10) : ∀ x ∈ encD m v d, x < 10 := by
  intro x hx
  obtain ⟨i, hi, rfl⟩ := List.mem_map.1 hx
  have hi : i < d.length := by simpa using hi
  exact (isP_keyN h v i).at_lt (by rw [pAt_get hi]; exact hd _ (List.getElem_mem _))
/-- Enciphering twice. -/
theorem encD_twice {m : Mach} (h : machB m = true) (v : ByteArray) {d : List Nat} (hd : ∀ x ∈ d, x < 10) : encD m v (encD m v d) = d := by
  refine List.ext_getElem (by simp [len_encD]) fun i h1 h2 => ?_
  rw [← pAt_get h1, ← pAt_get h2]
  have hx : pAt d i < 10 := by rw [pAt_get h2]; exact hd _ (List.getElem_mem _)
  rw [at_encD m v (by rw [len_encD]; exact h2), at_encD m v h2]
  exact (inv_key h _).at (isP_keyN h v i) hx
/-- What Encipher answers. -/
def encT (m : Mach) (v w : ByteArray) : ByteArray × ByteArray × Bool :=
  if setB m v = true ∧ wordB w = true then (wd (encD m v (dg w)), stepN m.wheels w.size v, true) else (S [], S [], false)

/-- A machine without pairs. -/
def bareM (m : Mach) : Mach := { m with plugs := wd idP }
theorem plugB_id : plugB (wd idP) = true := by
  simp only [plugB, Bool.and_eq_true, decide_eq_true_eq]
  refine ⟨permB_wd isP_id, ?_⟩
  rw [dg_wd isP_id.lt]; exact then_id isP_id
theorem machB_bare {m : Mach} (h : machB m = true) : machB (bareM m) = true := by
  simp only [machB, Bool.and_eq_true] at h ⊢
  exact ⟨h.1, plugB_id⟩
theorem setB_bare {m : Mach} {v : ByteArray} (h : setB m v = true) : setB (bareM m) v = true := setB_mk (machB_bare (setB_mach h)) (show v.size = m.rings.size from setB_size h) (setB_word h)
theorem key_bare {m : Mach} (h : machB m = true) (v : ByteArray) : keyP (bareM m) v = scrP m.wheels (offs m.rings v) := by
  rw [key_conj (machB_bare h) v]
  have hw := isP_way isP_id m.wheels.rotors (offs m.rings v) (machB_fit h).perms
  have hs : IsP (scrP m.wheels (offs m.rings v)) := (machB_reflP h).conj hw.back
  show conjP (scrP m.wheels (offs m.rings v)) (dg (wd idP)) = _
  rw [dg_wd isP_id.lt]
  unfold conjP
  have hb : backP idP = idP := Inv.back isP_id (then_id isP_id)
  rw [hb, id_then hs, then_id hs]
/-- The key is the bare machine's, its letters renamed. -/
theorem key_of_bare {m : Mach} (h : machB m = true) (v : ByteArray) : keyP m v = conjP (keyP (bareM m) v) (dg m.plugs) := by
  rw [key_bare h, key_conj h]
end Go.Proofs.YtaplndmgbinhcaaGreat
