/- Several of my texts in one: MenuC, MenuS, MenuT, DrawL. -/
import Derived.Test.YtnnblmibonnpcaaGreatDoorM25
import Derived.Test.YtnnblmibonnpcaaGreatDoorM10
import Derived.Test.YtnnblmibonnpcaaGreatDoorM24
import Derived.Test.YtnnblmibonnpcaaGreatDoorM5
import Derived.Test.YtnnblmibonnpcaaGreatDoorM23
import Derived.Test.YtnnblmibonnpcaaGreatDoorM11
/- CheckMenu of the program. -/
namespace Go.Proofs.YtnnblmibonnpcaaGreatDoor
open Go.RowKit

/-- The number of the letter of a word of one letter. -/
def lkA (s : ByteArray) : Nat := pAt (dg s) 0
/-- Whether the key of a link makes its second letter of its first one. -/
def chk1 (m : Mach) (v : ByteArray) (x : Lnk) : Bool := pAt (keyN m v (x.k.toNat - 1)) (lkA x.p) == lkA x.c
/-- What CheckMenu answers. -/
def chkT (m : Mach) (v : ByteArray) (ms : List Lnk) : Bool := setB m v && (menuB ms && ms.all (chk1 m v))
theorem kvm_cells {m : Mach} {v : ByteArray} {w : World} {g k : Nat} {ms : List Lnk} (hm : machB m = true) (h : Cells w g 0 (kvm m v ms)) (hk : k < ms.length) : Cells w g (k * 10) (pv (keyN m v (kat ms k - 1))) := by
  have hL : ∀ x ∈ ms.map (fun x => pv (keyN m v (x.k.toNat - 1))), x.length = 10 := by
    intro x hx
    obtain ⟨i, -, rfl⟩ := List.mem_map.1 hx
    rw [length_pv, (isP_keyN hm v _).len]
  have hf := flat_at _ k hL (by simpa using hk)
  have h1 := h.sub (k * 10) 10 (by
    have : (kvm m v ms).length = ms.length * 10 := by
      unfold kvm
      rw [List.length_flatten, List.map_map]
      have : ms.map (List.length ∘ fun x => pv (keyN m v (x.k.toNat - 1))) = List.replicate ms.length 10 := by
        rw [List.eq_replicate_iff]
        refine ⟨by simp, fun x hx => ?_⟩
        obtain ⟨y, -, rfl⟩ := List.mem_map.1 hx
        simp [length_pv, (isP_keyN hm v _).len]
      rw [this, List.sum_replicate_nat]
    omega)
  rw [Nat.zero_add] at h1
  unfold kvm at h1
  rw [hf] at h1
  simp only [List.getElem_map] at h1
  unfold kat
  rw [List.getElem?_eq_getElem hk]
  exact h1
theorem word_two {a b : ByteArray} (h : wordB (a ++ b) = true) : (∀ c ∈ L a, isL c = true) ∧ (∀ c ∈ L b, isL c = true) := by
  simp only [wordB, Bool.and_eq_true, List.all_eq_true, L_append, List.mem_append] at h
  exact ⟨fun c hc => h.2 c (.inl hc), fun c hc => h.2 c (.inr hc)⟩
/-- The letter of a word of one letter. -/
theorem lk_letter {s : ByteArray} (h1 : s.size = 1) (hl : ∀ c ∈ L s, isL c = true) : dig (s[0]'(by omega)) = (lkA s : Int) ∧ lkA s < 10 ∧ 97 ≤ (s[0]'(by omega)).toNat := by
  have h0 : 0 < s.size := by omega
  have hm : isL s[0] = true := hl _ (by rw [getElem_L]; exact List.getElem_mem _)
  have hd := (isL_iff _).1 hm
  have ha := dg_at h0
  unfold lkA
  rw [ha]
  refine ⟨by omega, by omega, ?_⟩
  have := hd.1
  unfold dig at this
  omega
end Go.Proofs.YtnnblmibonnpcaaGreatDoor

/- Valid menus, of the reference. -/
namespace Go.Proofs.YtnnblmibonnpcaaGreatDoor
open Go.RowKit

/-- Whether a string is one letter. -/
def is1 (s : ByteArray) : Bool := decide (s.size = 1) && (L s).all isL
theorem is1_size {s : ByteArray} (h : is1 s = true) : s.size = 1 := by simp only [is1, Bool.and_eq_true, decide_eq_true_eq] at h; exact h.1
theorem is1_all {s : ByteArray} (h : is1 s = true) : ∀ c ∈ L s, isL c = true := by simp only [is1, Bool.and_eq_true, List.all_eq_true] at h; exact h.2
theorem is1_of {s : ByteArray} (h1 : s.size = 1) (h2 : ∀ c ∈ L s, isL c = true) : is1 s = true := by
  simp only [is1, Bool.and_eq_true, decide_eq_true_eq, List.all_eq_true]; exact ⟨h1, h2⟩
theorem is1_word {a b : ByteArray} (ha : is1 a = true) (hb : is1 b = true) : wordB (a ++ b) = true := by
  have h1 := is1_size ha
  have h2 := is1_size hb
  simp only [wordB, Bool.and_eq_true, decide_eq_true_eq, List.all_eq_true, L_append, List.mem_append]
  refine ⟨by rw [ByteArray.size_append]; omega, ?_⟩
  rintro c (hc | hc)
  · exact is1_all ha c hc
  · exact is1_all hb c hc
end Go.Proofs.YtnnblmibonnpcaaGreatDoor

/- CheckMenu of the reference. -/
namespace Go.Proofs.YtnnblmibonnpcaaGreatDoor
open Go.RowKit

/-- The keys of links without a plugboard. -/
def barS (m : Mach) (v : ByteArray) (ms : List Lnk) : List ByteArray := ms.map fun x => wd (keyN (bareM m) v (x.k.toNat - 1))
theorem barS_take {m : Mach} {v : ByteArray} {ms : List Lnk} {c : Nat} (h : c < ms.length) : barS m v (ms.take (c + 1)) = barS m v (ms.take c) ++ [wd (keyN (bareM m) v (kat ms c - 1))] := by
  unfold barS kat
  rw [List.take_succ_eq_append_getElem h, List.map_append, List.getElem?_eq_getElem h]
  simp
theorem len_barS (m : Mach) (v : ByteArray) (ms : List Lnk) : (barS m v ms).length = ms.length := by simp [barS]
theorem at_barS {m : Mach} {v : ByteArray} {ms : List Lnk} {c : Nat} (h : c < ms.length) : (sv (barS m v ms))[c]? = some (.string (wd (keyN (bareM m) v (kat ms c - 1)))) := by
  unfold barS kat
  rw [List.getElem?_eq_getElem h]
  simp [sv, h]
theorem chk_bare {m : Mach} {v : ByteArray} {k d1 d2 : Nat} (h : machB m = true) (h1 : d1 < 10) (h2 : d2 < 10) :
    (pAt (keyN (bareM m) v k) (pAt (dg m.plugs) d1) == pAt (dg m.plugs) d2) = (pAt (keyN m v k) d1 == d2) := by
  have hq := machB_plugP h
  have hqi := plugB_inv (machB_plug h)
  have hkb := isP_keyN (machB_bare h) v k
  have hl := hkb.at_lt (hq.at_lt h1)
  rw [keyN_of_bare h, at_conj hkb hq h1, hqi.back hq, Bool.eq_iff_iff, beq_iff_eq, beq_iff_eq]
  constructor
  · intro e; rw [e]; exact hqi.at hq h2
  · intro e; rw [← e]; exact (hqi.at hq hl).symm
end Go.Proofs.YtnnblmibonnpcaaGreatDoor

/- Menus drawn. -/
namespace Go.Proofs.YtnnblmibonnpcaaGreatDoor
open Go.RowKit

theorem size_letr1 (n : Int) : (S [letr n]).size ≤ 10 := by rw [size_S]; simp
theorem lks_snoc (ms : List Lnk) (a b : ByteArray) (k : Int) : lks (ms ++ [⟨a, b, k⟩]) = lks ms ++ [.string a, .string b, .int .i64 k] := by rw [lks_append]; rfl
theorem sml_snoc {ms : List Lnk} {a b : ByteArray} {k : Int} (h : ∀ x ∈ ms, x.p.size ≤ 10 ∧ x.c.size ≤ 10) (ha : a.size ≤ 10) (hb : b.size ≤ 10) : ∀ x ∈ ms ++ [⟨a, b, k⟩], x.p.size ≤ 10 ∧ x.c.size ≤ 10 := by
  intro x hx
  rcases List.mem_append.1 hx with h1 | h1
  · exact h x h1
  · rw [List.mem_singleton.1 h1]; exact ⟨ha, hb⟩
/-- Equal letters. -/
def repS (ch : UInt8) (a : Nat) : ByteArray := S (List.replicate a ch)
theorem size_repS (ch : UInt8) (a : Nat) : (repS ch a).size = a := by unfold repS; rw [size_S]; simp
theorem repS_add (ch : UInt8) (a b : Nat) : repS ch a ++ repS ch b = repS ch (a + b) := by unfold repS; rw [S_append, List.replicate_append_replicate]
theorem wd_repS {ch : UInt8} (h : isL ch = true) {n : Nat} (hn : n ≤ 200) : Wd n (repS ch n) := by
  refine ⟨?_, size_repS ch n⟩
  simp only [wordB, Bool.and_eq_true, decide_eq_true_eq, List.all_eq_true]
  refine ⟨by rw [size_repS]; exact hn, fun c hc => ?_⟩
  have : L (repS ch n) = List.replicate n ch := L_S _
  rw [this] at hc
  rw [(List.mem_replicate.1 hc).2]; exact h
end Go.Proofs.YtnnblmibonnpcaaGreatDoor
