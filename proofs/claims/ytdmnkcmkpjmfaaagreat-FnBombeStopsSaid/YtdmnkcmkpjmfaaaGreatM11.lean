/- Several of my texts in one: DrawE, SelfW, Apply, KeysW, PushG, Links, DayP. -/
import Derived.Test.YtdmnkcmkpjmfaaaGreatM10
import Derived.Test.YtdmnkcmkpjmfaaaGreatM2
import Derived.Test.YtdmnkcmkpjmfaaaGreatM3
import Derived.Test.YtdmnkcmkpjmfaaaGreatM6
import Derived.Test.YtdmnkcmkpjmfaaaGreatM8
import Derived.Test.YtdmnkcmkpjmfaaaGreatM9
/- The contract of DrawEncipher. -/
namespace Go.Proofs.YtdmnkcmkpjmfaaaGreat
open Go.RowKit

end Go.Proofs.YtdmnkcmkpjmfaaaGreat

/- The walk of the law that no letter is enciphered to itself. -/
namespace Go.Proofs.YtdmnkcmkpjmfaaaGreat
open Go.RowKit

theorem enc_at {m : Mach} (v : ByteArray) {u : ByteArray} {i : Nat} (hi : i < u.size) : (wd (encD m v (dg u)))[i]'(by rw [size_wd, len_encD, len_dg]; exact hi) = letr (pAt (keyN m v i) (pAt (dg u) i) : Int) := by
  rw [getElem_L]
  have hk : i < (encD m v (dg u)).length := by rw [len_encD, len_dg]; exact hi
  have h0 := at_enc m v hi
  rw [pAt_get hk] at h0
  simp only [wd, L_S, List.getElem_map, h0]
theorem enc_ne {m : Mach} (h : machB m = true) (v : ByteArray) {u : ByteArray} (hw : wordB u = true) {i : Nat} (hi : i < u.size) : (wd (encD m v (dg u)))[i]'(by rw [size_wd, len_encD, len_dg]; exact hi) ≠ u[i] := by
  rw [enc_at v hi]
  intro he
  have hd := wordB_at hw i hi
  have hu := dg_at hi
  obtain ⟨d, hdd⟩ := Int.eq_ofNat_of_zero_le hd.1
  have hx : pAt (dg u) i = d := by rw [hu]; omega
  have h1 := congrArg dig he
  rw [dig_letr, hx, hdd] at h1
  have h2 := (isP_keyN h v i).at_lt (i := d) (by omega)
  exact free_keyN h v i (d := d) (by omega) (by omega)
theorem enc_no {m : Mach} (h : machB m = true) (v : ByteArray) {u : ByteArray} (hw : wordB u = true) {c : UInt8} (hc : ∀ x ∈ L u, x = c) : ∀ x ∈ L (wd (encD m v (dg u))), x ≠ c := by
  intro x hx
  obtain ⟨j, hj, rfl⟩ := List.getElem_of_mem hx
  have hju : j < u.size := by rw [size_L, size_wd, len_encD, len_dg] at hj; exact hj
  have := enc_ne h v hw hju
  rw [getElem_L] at this
  rw [← hc u[j] (by rw [getElem_L]; exact List.getElem_mem _)]
  exact this
theorem word_rep (c : UInt8) (hc : isL c = true) (n : Nat) (hn : n ≤ 200) : wordB (S (List.replicate n (L (S [c]))).flatten) = true ∧ ∀ x ∈ L (S (List.replicate n (L (S [c]))).flatten), x = c := by
  have he : (List.replicate n (L (S [c]))).flatten = List.replicate n c := by
    rw [L_S]
    induction n with
    | zero => rfl
    | succ n ih => rw [List.replicate_succ, List.flatten_cons, ih (by omega), List.replicate_succ]; rfl
  rw [he]
  constructor
  · simp only [wordB, Bool.and_eq_true, decide_eq_true_eq]
    refine ⟨by rw [size_S]; simpa using hn, ?_⟩
    rw [L_S, List.all_eq_true]
    intro x hx
    rw [List.eq_of_mem_replicate hx]; exact hc
  · rw [L_S]
    exact fun x hx => List.eq_of_mem_replicate hx
theorem str_eq_self (s : ByteArray) : (s.toList == s.toList) = true := by simp

end Go.Proofs.YtdmnkcmkpjmfaaaGreat

/- ApplyPerm: a word that is mapped by a permutation. -/
namespace Go.Proofs.YtdmnkcmkpjmfaaaGreat
open Go.RowKit

/-- What ApplyPerm answers. -/
def appV (p u : ByteArray) : ByteArray := if permB p = true ∧ wordB u = true then wd ((dg u).map (pAt (dg p))) else S []
theorem appV_yes {p u : ByteArray} (h : permB p = true) (h2 : wordB u = true) : appV p u = wd ((dg u).map (pAt (dg p))) := by simp only [appV, h, h2, and_self, if_true]
theorem appV_no {p u : ByteArray} (h : ¬ (permB p = true ∧ wordB u = true)) : appV p u = S [] := by simp only [appV, if_neg h]
theorem appL_at {p u : ByteArray} {k : Nat} (h : k < u.size) : (L (wd ((dg u).map (pAt (dg p)))))[k]'(by rw [size_L, size_wd, List.length_map, len_dg]; exact h) = letr (pAt (dg p) (pAt (dg u) k) : Int) := by
  have hk : k < (dg u).length := by rw [len_dg]; exact h
  simp only [wd, L_S, List.getElem_map, pAt_get hk]

set_option maxRecDepth 100000 in
theorem implApplyPerm_any (p u : ByteArray) (w : World) (hp : p.size ≤ 4294967296) (hu : u.size ≤ 4294967296) :
    Calls Tryz.prog 38 #[.string p, .string u] w fun e w' => e = .returned (.string (appV p u)) ∧ Below w.heap.size w w' := by
  by_cases hyes : permB p = true ∧ wordB u = true
  · obtain ⟨hpb, hwu⟩ := hyes
    rw [appV_yes hpb hwu]
    have hP := permB_isP hpb
    have hu2 := wordB_size hwu
    go_enter Tryz.func38, Tryz.ntmps38
    go_wp2_with fail
    refine (permOf_any p _ hp).mono ?_
    rintro e w1 ⟨rfl, hb1⟩
    rw [hpb, permC_yes]
    have o1 : Own (w1.alloc (.cells #[.int .u8 0, .int .u8 0, .int .u8 0, .int .u8 0, .int .u8 0, .int .u8 0, .int .u8 0, .int .u8 0, .int .u8 0, .int .u8 0] 102)) w1.heap.size z10 := Own.new w1 z10 102
    have hz1 := hb1.size
    have hbw := hb1.alloc (by omega) (.cells #[.int .u8 0, .int .u8 0, .int .u8 0, .int .u8 0, .int .u8 0, .int .u8 0, .int .u8 0, .int .u8 0, .int .u8 0, .int .u8 0] 102)
    have hpl := size_pv10 hP
    go_wp2_with ((with_reducible refine wl_store 102 0 o1 (size_pv hP.len) (pv_one _) (by rw [hpl, len_z10]; omega) ?_ ?_ ?_ ?_); (· rfl); (· rfl); (· rfl); intro w2 o2 b2 s2)
    rw [put_z10 hpl] at o2
    simp only [World.size_alloc] at s2
    have hbw2 := bel_store hbw b2 (by simp; omega) (by omega)
    refine (implWordValid_any _ _ (by omega)).mono ?_
    rintro e w' ⟨rfl, rfl⟩
    rw [hwu]
    obtain ⟨cap, w3, hcv, o3, hb3, s3, hcap⟩ := conv_bytes w2 u
    have o23 := o2.below hb3 o2.lt
    have hbw3 := bt hbw2 hb3
    have l2 := o2.lt
    rw [s2] at o3 hcv
    clear o1 hbw b2 o2 hbw2 hb1 s2
    go_wp2_with fail
    go_loopw [8, 25] (fun _ i wr => ∃ k : Nat, k ≤ u.size ∧ i = .int .i64 k ∧ Below w.heap.size w wr ∧ Own wr w1.heap.size (pv (dg p)) ∧ Own wr (w1.heap.size + 1) (bv ((L (wd ((dg u).map (pAt (dg p))))).take k ++ (L u).drop k))) (fun _ i _ => u.size - (intOf i).toNat)
    case atStart => exact ⟨0, Nat.zero_le _, rfl, hbw3, o23, by simpa using o3⟩
    case round =>
      clear hbw3 o23 o3 hcv s3 hb3
      obtain ⟨k, hk, rfl, hbel, o2, o3⟩ := hrel
      have Hls := Lib.hid (show (L (wd ((dg u).map (pAt (dg p))))).length = u.size by rw [size_L, size_wd, List.length_map, len_dg])
      have Hlv := Lib.hid (show (L u).length = u.size from size_L u)
      by_cases hlt : k < u.size
      · have q1 : (k : Int) < (u.size : Int) := by omega
        have hlen := Lib.hid (show (bv ((L (wd ((dg u).map (pAt (dg p))))).take k ++ (L u).drop k)).length = u.size by rw [length_bv, fill_len (by rw [Hls.out, Hlv.out]) (by rw [Hls.out]; omega), Hls.out])
        have hfr := o3.free k (by rw [hlen.out]; omega)
        have hd := wordB_at hwu k hlt
        have hb97 : 97 ≤ u[k].toNat := by have := hd.1; unfold dig at this; omega
        obtain ⟨d, hdd⟩ := Int.eq_ofNat_of_zero_le hd.1
        have hd10 : d < 10 := by omega
        have hde : pAt (dg u) k = d := by rw [dg_at hlt]; omega
        have he10 := hP.at_lt hd10
        have g0 : wr.cell? ⟨w1.heap.size + 1, k, none⟩ = some (.int .u8 (u[k].toNat : Int)) := by
          refine o3.at_ ?_
          have hl : ((L (wd ((dg u).map (pAt (dg p))))).take k).length = k := by rw [List.length_take, Hls.out]; omega
          rw [bv_at (by have := hlen.out; rw [length_bv] at this; omega), List.getElem_append_right (by omega)]
          simp [hl, getElem_L]
        have g1 := o2.at_ (pv_at (p := dg p) (i := d) (by rw [hP.len]; exact hd10))
        have hst := Lib.hid (appL_at (p := p) hlt)
        have hfs := Lib.hid (fill_set (A := L (wd ((dg u).map (pAt (dg p))))) (R := L u) (k := k) (by rw [Hls.out]; exact hlt) (by rw [Hls.out, Hlv.out]))
        have hn := fun W => implNumber_any u[k] W hb97
        rw [hdd] at hn
        have HDE := Lib.hid hde
        have q3 : (d : Int) < 10 := by omega
        clear hd hdd hde
        have l3 := o2.lt
        have hz := hbel.size
        generalize hx : pAt (dg p) d = x at *
        go_wp2_with (first | (go_at_call 78; ((with_reducible refine (hn _).mono ?_); rintro e w' ⟨rfl, rfl⟩)) | (go_at_call 92; ((with_reducible refine (implLetter_any _ _ (by omega) (by omega)).mono ?_); rintro e w' ⟨rfl, rfl⟩)))
        go_roundw
        case rel =>
          refine ⟨k + 1, by omega, by go_num, hbel.setCell (by simp; omega) _, o2.far (by simp) _, ?_⟩
          rw [← hfs.out, hst.out, HDE.out, hx, ← bv_set]
          exact o3.set_ (by rw [hlen.out]; exact hlt) _
        case measure => simp [intOf]; omega
      · have hk' : k = u.size := by omega
        subst hk'
        rw [List.take_of_length_le (by rw [Hls.out]; omega), List.drop_eq_nil_of_le (by rw [Hlv.out]; omega), List.append_nil] at o3
        have hcv := o3.conv (P := Tryz.prog) 47 9 5 Tryz.underlying47 Tryz.underlying5 Tryz.underlying9 (n := u.size) Hls.out.symm cap
        rw [S_L] at hcv
        go_wp2
        go_ret
        exact ⟨rfl, hbel⟩
  · rw [appV_no hyes]
    go_enter Tryz.func38, Tryz.ntmps38
    go_wp2_with fail
    refine (permOf_any p _ hp).mono ?_
    rintro e w1 ⟨rfl, hb1⟩
    have o1 : Own (w1.alloc (.cells #[.int .u8 0, .int .u8 0, .int .u8 0, .int .u8 0, .int .u8 0, .int .u8 0, .int .u8 0, .int .u8 0, .int .u8 0, .int .u8 0] 102)) w1.heap.size z10 := Own.new w1 z10 102
    have hz1 := hb1.size
    have hbw := hb1.alloc (by omega) (.cells #[.int .u8 0, .int .u8 0, .int .u8 0, .int .u8 0, .int .u8 0, .int .u8 0, .int .u8 0, .int .u8 0, .int .u8 0, .int .u8 0] 102)
    have hpl : (permC (permB p) p).length = 10 := len_permC id
    have hsz : (Tryz.prog.info? 102).map (·.size) = some (permC (permB p) p).length := size_permC id
    have h1 := one_permC (permB p) p
    generalize permC (permB p) p = cs at *
    cases hpb : permB p
    · go_wp2_with ((with_reducible refine wl_store 102 0 o1 hsz h1 (by rw [hpl, len_z10]; omega) ?_ ?_ ?_ ?_); (· rfl); (· rfl); (· rfl); intro w2 o2 b2 s2)
      go_ret
      exact ⟨rfl, bel_store hbw b2 (by simp; omega) (by omega)⟩
    · have hwu : wordB u = false := by
        simp only [hpb, true_and] at hyes
        simpa using hyes
      clear hyes
      go_wp2_with ((with_reducible refine wl_store 102 0 o1 hsz h1 (by rw [hpl, len_z10]; omega) ?_ ?_ ?_ ?_); (· rfl); (· rfl); (· rfl); intro w2 o2 b2 s2)
      refine (implWordValid_any _ _ (by omega)).mono ?_
      rintro e w' ⟨rfl, rfl⟩
      rw [hwu]
      go_wp2
      go_ret
      exact ⟨rfl, bel_store hbw b2 (by simp; omega) (by omega)⟩
end Go.Proofs.YtdmnkcmkpjmfaaaGreat

/- The walk of the law that each letter is enciphered by its own key. -/
namespace Go.Proofs.YtdmnkcmkpjmfaaaGreat
open Go.RowKit

theorem word_isL {s : ByteArray} (h : wordB s = true) {k : Nat} (hk : k < s.size) : isL s[k] = true := by
  simp only [wordB, Bool.and_eq_true, List.all_eq_true] at h
  exact h.2 _ (by rw [getElem_L]; exact List.getElem_mem _)
theorem one_extract {s : ByteArray} {k : Nat} (h : k < s.size) : s.extract k (k + 1) = S [s[k]] := by
  refine L_inj ?_
  rw [L_extract, L_S, List.take_succ_eq_append_getElem (by rw [size_L]; exact h), List.drop_append_of_le_length (by rw [List.length_take, size_L]; omega), List.drop_eq_nil_of_le (by rw [List.length_take]; omega)]
  rfl
theorem app_one {p : List Nat} (hp : IsP p) {c : UInt8} {d : Nat} (hl : isL c = true) (hc : dig c = d) : appV (wd p) (S [c]) = S [letr (pAt p d : Int)] := by
  have hw : wordB (S [c]) = true := by
    simp only [wordB, Bool.and_eq_true, decide_eq_true_eq]
    exact ⟨by rw [size_S]; simp, by rw [L_S]; simp [hl]⟩
  rw [appV_yes (permB_wd hp) hw, dg_wd hp.lt]
  have : dg (S [c]) = [d] := by simp [dg, L_S, hc]
  rw [this]
  rfl
theorem keys_law {m : Mach} {v u : ByteArray} (h : setB m v = true) (hw : wordB u = true) {k : Nat} (hk : k < u.size) :
    appV (wd (keyN m v k)) (u.extract k (k + 1)) = (wd (encD m v (dg u))).extract k (k + 1) := by
  have hd := wordB_at hw k hk
  obtain ⟨d, hdd⟩ := Int.eq_ofNat_of_zero_le hd.1
  have hx : pAt (dg u) k = d := by rw [dg_at hk]; omega
  rw [one_extract hk, one_extract (by rw [size_wd, len_encD, len_dg]; exact hk), enc_at v hk, app_one (isP_keyN (setB_mach h) v k) (word_isL hw hk) hdd, hx]
theorem at_keyS (m : Mach) (v : ByteArray) {n k : Nat} (h : k < n) : (sv (keyS m v n))[k]? = some (.string (wd (keyN m v k))) := by
  simp [sv, keyS, h]

end Go.Proofs.YtdmnkcmkpjmfaaaGreat

/- 'x = append(x, u)' at a step of a region that draws, and where the new row lies. -/
namespace Go.Proofs.YtdmnkcmkpjmfaaaGreat
open Go.RowKit
section
variable {P : Program} {ops : Array Oper} {o : Oper} {a : Act} {w0 : World} {K : Act → World → Prop} {Q : Exit → Act → World → Prop} {E : Prop}
theorem st_pushG (t e : TypeId) {s x : Operand} {z : Value} {sz bytes : Nat} (hinfo : (P.info? e).map (fun i => (i.zero, i.size, i.bytes)) = some (some z, sz, bytes)) (ht : P.underlying t = some (.slice e)) (hzs : z.cells.size = sz) (hsz : 0 < sz)
    {base n : Nat} {v : Value} {xs us : List Value} (hgd : o.guard = none) (ho : o.op = .call { callee := .builtin .append, args := #[s, x], argTypes := #[t, t] }) (hown : OwR w0 base e sz v n xs) (hb : base ≤ w0.heap.size) (hus : us.length = sz) (h1 : ∀ u ∈ us, u.oneCell' = true) (hn : n ≤ 1048576) (hby : bytes ≤ 1000)
    (hs : a.eval s = v) (hx : a.eval x = .slice (some ⟨w0.heap.size, 0, none⟩) 1 1)
    (h : ∀ g cap w', OwR w' base e sz (.slice (some ⟨g, 0, none⟩) (n + 1) cap) (n + 1) (xs ++ us) → w0.grownBy w' v.ownBlock → (v.ownBlock = some g ∨ w0.heap.size < g) → w0.heap.size < w'.heap.size → Below base w0 w' → K (a.put o.dst (.slice (some ⟨g, 0, none⟩) (n + 1) cap)) w') :
    if Region.wanted o (yielded ops a.tmps) = true then Oper.wp P o a (w0.alloc (.cells us.toArray e)) K Q else E := by
  obtain ⟨i0, hi0, hz0, hz1, hz2⟩ := info_parts hinfo
  refine step_append_lies _ hgd s x t ho base e i0 z sz bytes ht hi0 hz0 hz1 hz2 hzs hsz v n xs hs (World.ownsRow.alloc hown _) ⟨w0.heap.size, 0, none⟩ 1 1 us hx (by omega) ?_ h1 (by omega) (by unfold maxLen; omega) ?_ (by simp; omega) (w0.heap.size + 1) (by simp) ?_
  · intro j u hu
    rw [add_none, Nat.zero_add, World.cell?_alloc_mark]; simpa using hu
  · have : (n + 1) * bytes ≤ (1048576 + 1) * 1000 := Nat.mul_le_mul (by omega) hby
    omega
  · intro g cap w' ho hg hat hlt
    have hs' := hg.size
    simp only [World.size_alloc] at hs'
    refine h g cap w' ho ?_ ?_ (by omega) ?_
    · exact ⟨hg.os, hg.tape, hg.output, by omega, fun k hk hne => (hg.block k (by simp; omega) hne).trans (Below.heap_alloc w0 _ k hk)⟩
    · rcases hat with h1 | h1
      · exact .inl h1
      · exact .inr (by omega)
    · refine ((Below.refl base w0).alloc hb _).grown hg (by simp; omega) (fun k hk => ?_)
      exact (World.ownsRow.lt hown k hk).1
end
/-- What is owned elsewhere stays when a row grows. -/
theorem Own.grownO {w w' : World} {g : Nat} {cs : List Value} {b : Option Nat} (h : Own w g cs) (hg : w.grownBy w' b) (hr : b ≠ some g) : Own w' g cs :=
  h.keep (Nat.lt_of_lt_of_le h.lt hg.size) (hg.block g h.lt (fun e => hr e.symm))
end Go.Proofs.YtdmnkcmkpjmfaaaGreat

/- The links of a menu: their cells, and what a menu of a word is. -/
namespace Go.Proofs.YtdmnkcmkpjmfaaaGreat
open Go.RowKit

/-- A link: its first letter, its second letter, and the number of its key. -/
structure Lnk where
  p : ByteArray
  c : ByteArray
  k : Int
def lkv (x : Lnk) : List Value := [.string x.p, .string x.c, .int .i64 x.k]
def lks : List Lnk → List Value
  | [] => []
  | x :: xs => .string x.p :: .string x.c :: .int .i64 x.k :: lks xs
theorem len_lks : ∀ xs : List Lnk, (lks xs).length = 3 * xs.length
  | [] => rfl
  | x :: xs => by simp only [lks, List.length_cons, len_lks xs]; omega
theorem lks_sub : ∀ (xs : List Lnk) (i : Nat) (h : i < xs.length), ((lks xs).drop (i * 3)).take 3 = lkv xs[i]
  | x :: xs, 0, _ => by simp [lks, lkv]
  | x :: xs, i + 1, h => by
    have h' : i < xs.length := by simpa using h
    rw [show (i + 1) * 3 = i * 3 + 1 + 1 + 1 by omega]
    simp only [lks, List.drop_succ_cons, List.getElem_cons_succ]
    exact lks_sub xs i h'
theorem lks_at0 (xs : List Lnk) (i : Nat) (h : i < xs.length) : (lks xs)[i * 3]? = some (.string xs[i].p) := by
  have := congrArg (fun l => l[0]?) (lks_sub xs i h)
  simpa [lkv, List.getElem?_take, List.getElem?_drop] using this
theorem lks_at1 (xs : List Lnk) (i : Nat) (h : i < xs.length) : (lks xs)[i * 3 + 1]? = some (.string xs[i].c) := by
  have := congrArg (fun l => l[1]?) (lks_sub xs i h)
  simpa [lkv, List.getElem?_take, List.getElem?_drop] using this
theorem lks_at2 (xs : List Lnk) (i : Nat) (h : i < xs.length) : (lks xs)[i * 3 + 2]? = some (.int .i64 xs[i].k) := by
  have := congrArg (fun l => l[2]?) (lks_sub xs i h)
  simpa [lkv, List.getElem?_take, List.getElem?_drop] using this
theorem lks_append : ∀ a b : List Lnk, lks (a ++ b) = lks a ++ lks b
  | [], _ => rfl
  | x :: a, b => by simp [lks, lks_append a b]
theorem lks_one (x : Lnk) : lks [x] = lkv x := rfl
/-- The link of a place of a word that stands in a place of an enciphered one. -/
def lnkA (s u : ByteArray) (q i : Nat) : Lnk := ⟨u.extract i (i + 1), s.extract (q + i) (q + i + 1), ((q + i + 1 : Nat) : Int)⟩
/-- The first links of a word's menu. -/
def lnkL (s u : ByteArray) (q n : Nat) : List Lnk := (List.range n).map (lnkA s u q)
theorem len_lnkL (s u : ByteArray) (q n : Nat) : (lnkL s u q n).length = n := by simp [lnkL]
theorem lnkL_snoc (s u : ByteArray) (q n : Nat) : lnkL s u q (n + 1) = lnkL s u q n ++ [lnkA s u q n] := by simp [lnkL, List.range_succ]
theorem lnkL_zero (s u : ByteArray) (q : Nat) : lnkL s u q 0 = [] := rfl
theorem at_lnkL (s u : ByteArray) (q : Nat) {n i : Nat} (h : i < (lnkL s u q n).length) : (lnkL s u q n)[i] = lnkA s u q i := by simp [lnkL]
end Go.Proofs.YtdmnkcmkpjmfaaaGreat

/- The day products of the program. -/
namespace Go.Proofs.YtdmnkcmkpjmfaaaGreat
open Go.RowKit
attribute [local go_sem] Oper.semAt_some

/-- The cells of the first keys, in a row. -/
def kv (m : Mach) (v : ByteArray) (n : Nat) : List Value := ((List.range n).map fun k => pv (keyN m v k)).flatten
theorem kv_zero (m : Mach) (v : ByteArray) : kv m v 0 = [] := rfl
theorem kv_snoc (m : Mach) (v : ByteArray) (n : Nat) : kv m v (n + 1) = kv m v n ++ pv (keyN m v n) := by simp [kv, List.range_succ]
/-- The cells of the first products, in a row. -/
def pvs (m : Mach) (v : ByteArray) (n : Nat) : List Value := ((List.range n).map fun k => pv (prodP m v k)).flatten
theorem pvs_zero (m : Mach) (v : ByteArray) : pvs m v 0 = [] := rfl
theorem pvs_snoc (m : Mach) (v : ByteArray) (n : Nat) : pvs m v (n + 1) = pvs m v n ++ pv (prodP m v n) := by simp [pvs, List.range_succ]
theorem inf_perm : (Tryz.prog.info? 102).map (fun i => (i.zero, i.size, i.bytes)) = some (some (.agg #[.int .u8 0, .int .u8 0, .int .u8 0, .int .u8 0, .int .u8 0, .int .u8 0, .int .u8 0, .int .u8 0, .int .u8 0, .int .u8 0]), 10, 10) := by kernel_rfl

section
variable {P : Program} {Q : Exit → Act → World → Prop} {a : Act} {w : World}
theorem wp_onlyN {c : Code} (h : c.wp P (onlyN Q) a w) : c.wp P Q a w := wp_mono h (fun e a w h => by obtain ⟨rfl, h⟩ := h; exact h)
variable {o : Oper} {w0 : World} {K : Act → World → Prop}
theorem kr_push (t e : TypeId) {s x : Operand} {z : Value} {sz bytes : Nat} (hinfo : (P.info? e).map (fun i => (i.zero, i.size, i.bytes)) = some (some z, sz, bytes)) (ht : P.underlying t = some (.slice e)) (hzs : z.cells.size = sz) (hsz : 0 < sz)
    {base n : Nat} {v : Value} {xs us : List Value} (hgd : o.guard = none) (ho : o.op = .call { callee := .builtin .append, args := #[s, x], argTypes := #[t, t] }) (hown : OwR w0 base e sz v n xs) (hb : base ≤ w0.heap.size) (hus : us.length = sz) (h1 : ∀ u ∈ us, u.oneCell' = true) (hn : n ≤ 1048576) (hby : bytes ≤ 1000)
    (hs : a.eval s = v) (hx : a.eval x = .slice (some ⟨w0.heap.size, 0, none⟩) 1 1)
    (h : ∀ g cap w', OwR w' base e sz (.slice (some ⟨g, 0, none⟩) (n + 1) cap) (n + 1) (xs ++ us) → Below base w0 w' → w0.heap.size < w'.heap.size → K (a.put o.dst (.slice (some ⟨g, 0, none⟩) (n + 1) cap)) w') :
    Oper.wp P o a (w0.alloc (.cells us.toArray e)) K Q := by
  have hst := st_push (ops := #[]) (E := False) (Q := Q) (K := K) t e hinfo ht hzs hsz hgd ho hown hb hus h1 hn hby hs hx h
  split at hst
  · exact hst
  · exact hst.elim
end
theorem flat_at : ∀ (L : List (List Value)) (k : Nat) (_ : ∀ x ∈ L, x.length = 10) (h : k < L.length), (L.flatten.drop (k * 10)).take 10 = L[k]
  | [], _, _, h => absurd h (by simp)
  | x :: L, 0, h1, _ => by
    have hx := h1 x (by simp)
    simp only [List.flatten_cons, Nat.zero_mul, List.drop_zero, List.getElem_cons_zero]
    rw [List.take_append_of_le_length (by omega), List.take_of_length_le (by omega)]
  | x :: L, k + 1, h1, h => by
    have hx := h1 x (by simp)
    have ih := flat_at L k (fun y hy => h1 y (by simp [hy])) (by simpa using h)
    simp only [List.flatten_cons, List.getElem_cons_succ]
    rw [show (k + 1) * 10 = x.length + k * 10 by omega, List.drop_append, List.drop_eq_nil_of_le (by omega), List.nil_append, show x.length + k * 10 - x.length = k * 10 by omega]
    exact ih
theorem kv_cells {m : Mach} {v : ByteArray} {w : World} {g q k : Nat} (hm : machB m = true) (h : Cells w g 0 (kv m v q)) (hk : k < q) : Cells w g (k * 10) (pv (keyN m v k)) := by
  have hL : ∀ x ∈ (List.range q).map (fun k => pv (keyN m v k)), x.length = 10 := by
    intro x hx
    obtain ⟨i, -, rfl⟩ := List.mem_map.1 hx
    rw [length_pv, (isP_keyN hm v i).len]
  have hf := flat_at _ k hL (by simpa using hk)
  have h1 := h.sub (k * 10) 10 (by
    have : (kv m v q).length = q * 10 := by
      unfold kv
      rw [List.length_flatten, List.map_map]
      have : (List.range q).map (List.length ∘ fun k => pv (keyN m v k)) = List.replicate q 10 := by
        rw [List.eq_replicate_iff]
        refine ⟨by simp, fun x hx => ?_⟩
        obtain ⟨y, -, rfl⟩ := List.mem_map.1 hx
        simp [length_pv, (isP_keyN hm v y).len]
      rw [this, List.sum_replicate_nat]
    omega)
  rw [Nat.zero_add] at h1
  unfold kv at h1
  rw [hf] at h1
  simpa using h1
theorem build_pv (cs : List Value) (h : cs.length = 10) : List.foldl (fun (cs : Array Value) (x : Value × Nat) => cs.setIfInBounds x.snd x.fst) #[.int .u8 0, .int .u8 0, .int .u8 0, .int .u8 0, .int .u8 0, .int .u8 0, .int .u8 0, .int .u8 0, .int .u8 0, .int .u8 0] cs.zipIdx = cs.toArray := by
  match cs, h with
  | [_, _, _, _, _, _, _, _, _, _], _ => simp only [List.zipIdx_cons, List.zipIdx_nil, List.foldl_cons, List.foldl_nil, Nat.reduceAdd, List.setIfInBounds_toArray, List.set_cons_zero, List.set_cons_succ]
end Go.Proofs.YtdmnkcmkpjmfaaaGreat
