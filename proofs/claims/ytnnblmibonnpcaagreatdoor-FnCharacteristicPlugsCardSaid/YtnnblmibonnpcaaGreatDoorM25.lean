/- Several of my texts in one: DrawWp, KeysW, Links, MenuI, MenuK, MenuV. -/
import Derived.Test.YtnnblmibonnpcaaGreatDoorM11
import Derived.Test.YtnnblmibonnpcaaGreatDoorM5
import Derived.Test.YtnnblmibonnpcaaGreatDoorM24
import Derived.Test.YtnnblmibonnpcaaGreatDoorM20
import Derived.Test.YtnnblmibonnpcaaGreatDoorM8
/- The contract of DrawWithPlugs: a machine and a string that is sometimes a plugboard. -/
namespace Go.Proofs.YtnnblmibonnpcaaGreatDoor
open Go.RowKit

def DrawnWp (w : World) (e : Ending) (w' : World) : Prop :=
  ∃ (m : Mach) (v : ByteArray) (a : Option Addr) (cap : Nat), DrawnM w m a w' ∧ v.size ≤ 1001 ∧
    e = .returned (.tuple #[.agg #[.slice a m.wheels.rotors.length cap, .string m.wheels.refl, .string m.rings, .string m.plugs], .string v])
theorem l4Bad_any (R : Nat) (p : ByteArray) (c : Nat) (w : World) (h : Rd w R c) (hc : c ≤ 8000000) (h1 : 1 ≤ p.size) (hp : p.size ≤ 1000) :
    Calls Tryz.prog 38 #[.pointer (some ⟨R, 0, none⟩), .string p] w (StrP R (Sz 1001) (c + 11) w) := by
  go_enter Tryz.func38, Tryz.ntmps38
  go_wp2_with fail
  refine (pick_any R _ c w h (by omega) (by omega) (by omega)).mono ?_
  rintro e w1 ⟨v, rfl, hv0, hv1, _, hr, hm⟩
  by_cases e0 : v = 0
  · have t0 : (v == 0) = true := by simp [e0]
    clear e0
    go_wp2_with fail
    refine (l2Some_any R _ _ hr (by omega)).mono ?_
    rintro e w2 ⟨s, hs, rfl, hr2, hm2⟩
    have hs2 : s.size ≤ 1001 := by have := permB_size hs; omega
    clear hs
    go_wp2
    go_ret
    exact ⟨s, hs2, rfl, hr2.more (by omega), hm.trans hm2⟩
  · have t0 : (v == 0) = false := by simp [e0]
    clear e0
    go_wp2_with fail
    refine (l2Bad_any R p _ _ hr (by omega) h1 hp).mono ?_
    rintro e w2 ⟨s, hs, rfl, hr2, hm2⟩
    go_wp2
    go_ret
    exact ⟨s, hs, rfl, hr2.more (by omega), hm.trans hm2⟩
set_option maxRecDepth 100000 in
set_option maxHeartbeats 2000000 in
theorem DrawWithPlugs_any (a0 : Option Addr) (len cap : Nat) (zs : List Int) (w : World) (h : IsRow .u8 w a0 len cap zs) (hl : len ≤ 1048576) :
    Calls Tryz.prog 12 #[.slice a0 len cap] w (DrawnWp w) := by
  have o0 := Own.new w [.slice none 0 0, .string ⟨#[]⟩, .string ⟨#[]⟩, .string ⟨#[]⟩] 27
  have hb0 := (Below.refl w.heap.size w).alloc (Nat.le_refl _) (.cells #[.slice none 0 0, .string ⟨#[]⟩, .string ⟨#[]⟩, .string ⟨#[]⟩] 27)
  go_enter Tryz.func12, Tryz.ntmps12
  go_wp2_with fail
  refine (l21Open_any a0 len cap zs _ (h.alloc_ _) hl).mono ?_
  rintro e w1 ⟨rfl, hr1, hb1⟩
  have o1 := o0.below hb1 o0.lt
  have hbw1 := bt hb0 hb1
  rw [World.size_alloc] at hr1
  clear o0 hb0 hb1 h
  go_wp2_with fail
  generalize hB0 : w.heap.size = B0 at *
  have HB0 := Lib.hid hB0
  clear hB0
  refine (l8Any_any (B0 + 1) 0 _ hr1 (by omega)).mono ?_
  rintro e w2 ⟨m, v, g, cp, hx, hset, rfl, hown2, hg, hr2, hm2⟩
  have l1 := hr1.lt
  have o2 := o1.grown hm2 (by simp)
  have hbw2 : Below B0 w w2 := hbw1.trans (hm2.toBelow (by omega) (by omega))
  have hv3 : v.size ≤ 3 := by rw [setB_len hset]; exact hx.2.1
  have hv1 : 1 ≤ v.size := by rw [setB_len hset]; exact hx.1
  clear o1 hr1 hbw1 hm2
  have p2 := Own.new w2 [.slice (some ⟨g, 0, none⟩) m.wheels.rotors.length cp, .string m.wheels.refl, .string m.rings, .string m.plugs] 27
  have o2' := o2.alloc (.cells [.slice (some ⟨g, 0, none⟩) m.wheels.rotors.length cp, .string m.wheels.refl, .string m.rings, .string m.plugs].toArray 27)
  have hr2' := hr2.alloc (.cells [.slice (some ⟨g, 0, none⟩) m.wheels.rotors.length cp, .string m.wheels.refl, .string m.rings, .string m.plugs].toArray 27)
  have hown2' := World.ownsRow.alloc hown2 (.cells [.slice (some ⟨g, 0, none⟩) m.wheels.rotors.length cp, .string m.wheels.refl, .string m.rings, .string m.plugs].toArray 27)
  have hbw2' := hbw2.alloc (by have := o2.lt; omega) (.cells [.slice (some ⟨g, 0, none⟩) m.wheels.rotors.length cp, .string m.wheels.refl, .string m.rings, .string m.plugs].toArray 27)
  have l2 := o2.lt
  have lr2 := hr2.lt
  have lg := (World.ownsRow.lt hown2 g rfl).2
  have hz2 : (w2.alloc (.cells [.slice (some ⟨g, 0, none⟩) m.wheels.rotors.length cp, .string m.wheels.refl, .string m.rings, .string m.plugs].toArray 27)).heap.size = w2.heap.size + 1 := by simp
  have HZ2 := Lib.hid hz2
  clear hz2
  go_wp2_with fail
  generalize (w2.alloc (.cells [.slice (some ⟨g, 0, none⟩) m.wheels.rotors.length cp, .string m.wheels.refl, .string m.rings, .string m.plugs].toArray 27)) = W2 at *
  generalize w2.heap.size = B2 at *
  clear o2 hr2 hown2 hbw2
  refine (l4Any_any (B0 + 1) _ _ hr2' (by omega)).mono ?_
  rintro e w3 ⟨p3, hp3, rfl, hr3, hm3⟩
  have z2 := HZ2.out
  have lw2 : B2 < W2.heap.size := by omega
  clear z2
  have o3 := o2'.grown hm3 (by simp)
  have q3 := p2.grown hm3 (by simp; omega)
  have hown3 := OwR.movedR hown2' hm3 (by simp [Value.ownBlock]; omega)
  have hbw3 := hbw2'.trans (hm3.toBelow (by omega) (by omega))
  have lw3 : B2 < w3.heap.size := Nat.lt_of_lt_of_le lw2 hm3.size
  have hps := permB_size (plugB_perm hp3)
  clear o2' p2 hr2' hown2' hbw2' hm3 hp3
  go_wp2_with fail
  refine (l4Bad_any (B0 + 1) p3 _ _ hr3 (by omega) (by omega) (by omega)).mono ?_
  rintro e w4 ⟨v9, hv9, rfl, hr4, hm4⟩
  have o4 := o3.grown hm4 (by simp)
  have q4 := q3.grown hm4 (by simp; omega)
  have hown4 := OwR.movedR hown3 hm4 (by simp [Value.ownBlock]; omega)
  have hbw4 := hbw3.trans (hm4.toBelow (by omega) (by omega))
  have lw4 : B2 < w4.heap.size := Nat.lt_of_lt_of_le lw3 hm4.size
  have HV9 := Lib.hid hv9
  clear o3 q3 hr3 hown3 hbw3 hm4 hv9 hps
  have f0 := q4.at_ (i := 0) rfl
  have f1 := q4.at_ (i := 1) rfl
  have f2 := q4.at_ (i := 2) rfl
  have f3 := q4.at_ (i := 3) rfl
  go_wp2_with fail
  refine (l8Bad_any (B0 + 1) g cp _ m v _ _ hr4 (by omega) hx hset hown4 (by omega)).mono ?_
  rintro e w9 ⟨m6, a6, cap6, hm6, rfl, hrd9, hbl6, hr6, ht6⟩
  have o9 := o4.tu ht6 (by omega) (by omega)
  have z2 := HZ2.out
  have hbw9 := hbw4.trans (ht6.toBelow (by omega) (by omega) (by omega))
  have hbl : ∀ ad, a6 = some ad → B0 + 1 < ad.block := fun ad h => by
    have h1 := hbl6 ad h
    omega
  have HBL := Lib.hid hbl
  have HM := Lib.hid hm6
  clear f0 f1 f2 f3 q4 o4 hr4 hown4 hbw4 ht6 hm6 hbl6 hbl HZ2 z2
  have HRD := Lib.hid hrd9
  clear hrd9
  have c0 := o9.at_ (i := 0) rfl
  have c1 := o9.at_ (i := 1) rfl
  have c2 := o9.at_ (i := 2) rfl
  have c3 := o9.at_ (i := 3) rfl
  have b0 := o9.free 0 (by simp)
  have b1 := o9.free 1 (by simp)
  have b2 := o9.free 2 (by simp)
  have b3 := o9.free 3 (by simp)
  go_wp2
  have oz := o9.set4 (.slice a6 m6.wheels.rotors.length cap6) (.string m6.wheels.refl) (.string m6.rings) (.string m6.plugs)
  have k0 := oz.at_ (i := 0) rfl
  have k1 := oz.at_ (i := 1) rfl
  have k2 := oz.at_ (i := 2) rfl
  have k3 := oz.at_ (i := 3) rfl
  refine bodyPost_ret (v := .tuple #[.agg #[.slice a6 m6.wheels.rotors.length cap6, .string m6.wheels.refl, .string m6.rings, .string m6.plugs], .string v9]) (by unfold set4 at *; simp [results, Tryz.results12, go_sem, k0, k1, k2, k3]) rfl ?_
  refine ⟨m6, v9, a6, cap6, ⟨HM.out, ?_, ?_, ?_⟩, HV9.out, rfl⟩
  · show Reads (set4 w9 B0 _ _ _ _) (set4 w9 B0 _ _ _ _).heap.size _ _
    rw [size_set4]
    exact HRD.out.set4 (fun ad h => by have := HBL.out ad h; omega) _ _ _ _
  · intro ad h
    rw [HB0.out]
    have := HBL.out ad h; omega
  · rw [HB0.out]
    exact bel_set4 hbw9 (Nat.le_refl _) _ _ _ _
end Go.Proofs.YtnnblmibonnpcaaGreatDoor

/- The walk of the law that each letter is enciphered by its own key. -/
namespace Go.Proofs.YtnnblmibonnpcaaGreatDoor
open Go.RowKit

theorem word_isL {s : ByteArray} (h : wordB s = true) {k : Nat} (hk : k < s.size) : isL s[k] = true := by
  simp only [wordB, Bool.and_eq_true, List.all_eq_true] at h
  exact h.2 _ (by rw [getElem_L]; exact List.getElem_mem _)
theorem one_extract {s : ByteArray} {k : Nat} (h : k < s.size) : s.extract k (k + 1) = S [s[k]] := by
  refine L_inj ?_
  rw [L_extract, L_S, List.take_succ_eq_append_getElem (by rw [size_L]; exact h), List.drop_append_of_le_length (by rw [List.length_take, size_L]; omega), List.drop_eq_nil_of_le (by rw [List.length_take]; omega)]
  rfl
theorem app_one {p : List Nat} (hp : IsP p) {c : UInt8} {d : Nat} (hl : isL c = true) (hc : dig c = d) : appV (wd p) (S [c]) = S [letr (pAt p d : Int)] := by
  have hw : wordB (S [c]) = true := by
    simp only [wordB, Bool.and_eq_true, decide_eq_true_eq]
    exact ⟨by rw [size_S]; simp, by rw [L_S]; simp [hl]⟩
  rw [appV_yes (permB_wd hp) hw, dg_wd hp.lt]
  have : dg (S [c]) = [d] := by simp [dg, L_S, hc]
  rw [this]
  rfl
theorem keys_law {m : Mach} {v u : ByteArray} (h : setB m v = true) (hw : wordB u = true) {k : Nat} (hk : k < u.size) :
    appV (wd (keyN m v k)) (u.extract k (k + 1)) = (wd (encD m v (dg u))).extract k (k + 1) := by
  have hd := wordB_at hw k hk
  obtain ⟨d, hdd⟩ := Int.eq_ofNat_of_zero_le hd.1
  have hx : pAt (dg u) k = d := by rw [dg_at hk]; omega
  rw [one_extract hk, one_extract (by rw [size_wd, len_encD, len_dg]; exact hk), enc_at v hk, app_one (isP_keyN (setB_mach h) v k) (word_isL hw hk) hdd, hx]
theorem at_keyS (m : Mach) (v : ByteArray) {n k : Nat} (h : k < n) : (sv (keyS m v n))[k]? = some (.string (wd (keyN m v k))) := by
  simp [sv, keyS, h]

end Go.Proofs.YtnnblmibonnpcaaGreatDoor

/- The links of a menu: their cells, and what a menu of a word is. -/
namespace Go.Proofs.YtnnblmibonnpcaaGreatDoor
open Go.RowKit

/-- A link: its first letter, its second letter, and the number of its key. -/
structure Lnk where
  p : ByteArray
  c : ByteArray
  k : Int
def lkv (x : Lnk) : List Value := [.string x.p, .string x.c, .int .i64 x.k]
def lks : List Lnk → List Value
  | [] => []
  | x :: xs => .string x.p :: .string x.c :: .int .i64 x.k :: lks xs
theorem len_lks : ∀ xs : List Lnk, (lks xs).length = 3 * xs.length
  | [] => rfl
  | x :: xs => by simp only [lks, List.length_cons, len_lks xs]; omega
theorem lks_sub : ∀ (xs : List Lnk) (i : Nat) (h : i < xs.length), ((lks xs).drop (i * 3)).take 3 = lkv xs[i]
  | x :: xs, 0, _ => by simp [lks, lkv]
  | x :: xs, i + 1, h => by
    have h' : i < xs.length := by simpa using h
    rw [show (i + 1) * 3 = i * 3 + 1 + 1 + 1 by omega]
    simp only [lks, List.drop_succ_cons, List.getElem_cons_succ]
    exact lks_sub xs i h'
theorem lks_at0 (xs : List Lnk) (i : Nat) (h : i < xs.length) : (lks xs)[i * 3]? = some (.string xs[i].p) := by
  have := congrArg (fun l => l[0]?) (lks_sub xs i h)
  simpa [lkv, List.getElem?_take, List.getElem?_drop] using this
theorem lks_at1 (xs : List Lnk) (i : Nat) (h : i < xs.length) : (lks xs)[i * 3 + 1]? = some (.string xs[i].c) := by
  have := congrArg (fun l => l[1]?) (lks_sub xs i h)
  simpa [lkv, List.getElem?_take, List.getElem?_drop] using this
theorem lks_at2 (xs : List Lnk) (i : Nat) (h : i < xs.length) : (lks xs)[i * 3 + 2]? = some (.int .i64 xs[i].k) := by
  have := congrArg (fun l => l[2]?) (lks_sub xs i h)
  simpa [lkv, List.getElem?_take, List.getElem?_drop] using this
theorem lks_append : ∀ a b : List Lnk, lks (a ++ b) = lks a ++ lks b
  | [], _ => rfl
  | x :: a, b => by simp [lks, lks_append a b]
theorem lks_one (x : Lnk) : lks [x] = lkv x := rfl
/-- The link of a place of a word that stands in a place of an enciphered one. -/
def lnkA (s u : ByteArray) (q i : Nat) : Lnk := ⟨u.extract i (i + 1), s.extract (q + i) (q + i + 1), ((q + i + 1 : Nat) : Int)⟩
/-- The first links of a word's menu. -/
def lnkL (s u : ByteArray) (q n : Nat) : List Lnk := (List.range n).map (lnkA s u q)
theorem len_lnkL (s u : ByteArray) (q n : Nat) : (lnkL s u q n).length = n := by simp [lnkL]
theorem lnkL_snoc (s u : ByteArray) (q n : Nat) : lnkL s u q (n + 1) = lnkL s u q n ++ [lnkA s u q n] := by simp [lnkL, List.range_succ]
theorem lnkL_zero (s u : ByteArray) (q : Nat) : lnkL s u q 0 = [] := rfl
theorem at_lnkL (s u : ByteArray) (q : Nat) {n i : Nat} (h : i < (lnkL s u q n).length) : (lnkL s u q n)[i] = lnkA s u q i := by simp [lnkL]
end Go.Proofs.YtnnblmibonnpcaaGreatDoor

/- CribFits and MenuOf of the program, where a word stands in its own place. -/
namespace Go.Proofs.YtnnblmibonnpcaaGreatDoor
open Go.RowKit

theorem one_lnk (a b : ByteArray) (k : Int) : ∀ v ∈ [Value.string a, .string b, .int .i64 k], v.oneCell' = true := by
  intro v hv
  simp only [List.mem_cons, List.not_mem_nil, or_false] at hv
  rcases hv with rfl | rfl | rfl <;> rfl
end Go.Proofs.YtnnblmibonnpcaaGreatDoor

/- The keys of a menu's links. -/
namespace Go.Proofs.YtnnblmibonnpcaaGreatDoor
open Go.RowKit
attribute [local go_sem] Oper.semAt_some

/-- The number of a link's key. -/
def kat (ms : List Lnk) (i : Nat) : Nat := ((ms[i]?.map Lnk.k).getD 0).toNat
/-- The cells of the keys of links, in a row. -/
def kvm (m : Mach) (v : ByteArray) (ms : List Lnk) : List Value := (ms.map fun x => pv (keyN m v (x.k.toNat - 1))).flatten
/-- The keys of a menu ascend, from 1 to 60. -/
structure Asc (ms : List Lnk) : Prop where
  one : 1 ≤ ms.length
  few : ms.length ≤ 12
  lo : ∀ i, i < ms.length → 1 ≤ kat ms i
  hi : ∀ i, i < ms.length → kat ms i ≤ 60
  asc : ∀ i, i + 1 < ms.length → kat ms i < kat ms (i + 1)
  pos : ∀ i (h : i < ms.length), ms[i].k = (kat ms i : Int)
theorem Asc.le_last {ms : List Lnk} (h : Asc ms) : ∀ (d i : Nat), i + d + 1 = ms.length → kat ms i ≤ kat ms (ms.length - 1)
  | 0, i, e => by rw [show ms.length - 1 = i by omega]; exact Nat.le_refl _
  | d + 1, i, e => Nat.le_trans (Nat.le_of_lt (h.asc i (by omega))) (h.le_last d (i + 1) (by omega))
theorem kvm_take {m : Mach} {v : ByteArray} {ms : List Lnk} {c : Nat} (h : c < ms.length) : kvm m v (ms.take (c + 1)) = kvm m v (ms.take c) ++ pv (keyN m v (kat ms c - 1)) := by
  unfold kvm kat
  rw [List.take_succ_eq_append_getElem h, List.map_append, List.flatten_append, List.getElem?_eq_getElem h]
  simp
theorem make_perm (c : Nat) (hc : c ≤ 1048576) : ∃ X : Array Value, X.size = c * 10 ∧ ∀ w : World, (Instr.makeSlice 81 (.int .i64 0) (.int .i64 (c : Int))).run Tryz.prog w = .ok (.slice (some ⟨w.heap.size, 0, none⟩) 0 c) (w.alloc (.cells X 65)) := by
  obtain ⟨i, hi, h1, h2, h3⟩ := info_parts inf_perm
  refine ⟨madeCells #[.int .u8 0, .int .u8 0, .int .u8 0, .int .u8 0, .int .u8 0, .int .u8 0, .int .u8 0, .int .u8 0, .int .u8 0, .int .u8 0] (c * 10), size_madeCells _ _, fun w => ?_⟩
  have hr := run_make (P := Tryz.prog) w 81 65 i _ Tryz.underlying81 hi h1 .i64 .i64 0 c (by omega) (by omega) (by rw [h3]; omega) (by omega)
  simp only [Int.toNat_natCast, h2] at hr
  exact hr
end Go.Proofs.YtnnblmibonnpcaaGreatDoor

/- Valid menus. -/
namespace Go.Proofs.YtnnblmibonnpcaaGreatDoor
open Go.RowKit

/-- Whether a link is valid behind a key. -/
def okLnk (x : Lnk) (b : Int) : Bool := decide (x.p.size = 1) && (decide (x.c.size = 1) && (wordB (x.p ++ x.c) && (!(decide (x.p = x.c)) && (decide (b < x.k) && decide (x.k ≤ 60)))))
def okFrom : Int → List Lnk → Bool
  | _, [] => true
  | b, x :: xs => okLnk x b && okFrom x.k xs
/-- Whether a menu is valid. -/
def menuB (ms : List Lnk) : Bool := decide (1 ≤ ms.length) && (decide (ms.length ≤ 12) && okFrom 0 ms)
theorem okFrom_drop {ms : List Lnk} {b : Int} {k : Nat} (h : k < ms.length) : okFrom b (ms.drop k) = (okLnk ms[k] b && okFrom ms[k].k (ms.drop (k + 1))) := by
  rw [List.drop_eq_getElem_cons h]; rfl
theorem okFrom_asc : ∀ (ms : List Lnk) (b : Int), okFrom b ms = true → ∀ i (h : i < ms.length), okLnk ms[i] (if i = 0 then b else (ms[i - 1]'(by omega)).k) = true
  | [], _, _, i, h => absurd h (by simp)
  | x :: xs, b, ho, i, h => by
    simp only [okFrom, Bool.and_eq_true] at ho
    match i, h with
    | 0, _ => simpa using ho.1
    | 1, h =>
      have := okFrom_asc xs x.k ho.2 0 (by simpa using h)
      simpa using this
    | i + 2, h =>
      have := okFrom_asc xs x.k ho.2 (i + 1) (by simp only [List.length_cons] at h; omega)
      simpa using this
theorem okLnk_iff {x : Lnk} {b : Int} : okLnk x b = true ↔ x.p.size = 1 ∧ x.c.size = 1 ∧ wordB (x.p ++ x.c) = true ∧ x.p ≠ x.c ∧ b < x.k ∧ x.k ≤ 60 := by
  simp only [okLnk, Bool.and_eq_true, decide_eq_true_eq, Bool.not_eq_true', decide_eq_false_iff_not]
theorem menuB_ok {ms : List Lnk} (h : menuB ms = true) : 1 ≤ ms.length ∧ ms.length ≤ 12 ∧ okFrom 0 ms = true := by
  simp only [menuB, Bool.and_eq_true, decide_eq_true_eq] at h
  exact h
theorem menuB_pos {ms : List Lnk} (h : okFrom 0 ms = true) : ∀ i (hi : i < ms.length), 0 < ms[i].k := by
  intro i
  induction i with
  | zero =>
    intro hi
    have := (okLnk_iff.1 (okFrom_asc ms 0 h 0 hi)).2.2.2.2.1
    simpa using this
  | succ i ih =>
    intro hi
    have h1 := (okLnk_iff.1 (okFrom_asc ms 0 h (i + 1) hi)).2.2.2.2.1
    have h2 := ih (by omega)
    simp only [Nat.add_eq_zero_iff, Nat.succ_ne_self, and_false, if_false, Nat.add_sub_cancel] at h1
    omega
theorem menuB_asc {ms : List Lnk} (h : menuB ms = true) : Asc ms := by
  obtain ⟨h1, h12, ho⟩ := menuB_ok h
  have hp := menuB_pos ho
  have hk : ∀ i (hi : i < ms.length), ms[i].k = (kat ms i : Int) := by
    intro i hi
    unfold kat
    rw [List.getElem?_eq_getElem hi]
    have := hp i hi
    simp only [Option.map_some, Option.getD_some]
    omega
  refine ⟨h1, h12, fun i hi => ?_, fun i hi => ?_, fun i hi => ?_, hk⟩
  · have h1 := hp i hi
    have h2 := hk i hi
    omega
  · have h1 := (okLnk_iff.1 (okFrom_asc ms 0 ho i hi)).2.2.2.2.2
    have h2 := hk i hi
    omega
  · have h1 := (okLnk_iff.1 (okFrom_asc ms 0 ho (i + 1) hi)).2.2.2.2.1
    simp only [Nat.add_eq_zero_iff, Nat.succ_ne_self, and_false, if_false, Nat.add_sub_cancel] at h1
    have h2 := hk i (by omega)
    have h3 := hk (i + 1) hi
    omega
/-- Links whose letters are no great strings. -/
def SmL (ms : List Lnk) : Prop := ∀ x ∈ ms, x.p.size ≤ 4194304 ∧ x.c.size ≤ 4194304
end Go.Proofs.YtnnblmibonnpcaaGreatDoor
