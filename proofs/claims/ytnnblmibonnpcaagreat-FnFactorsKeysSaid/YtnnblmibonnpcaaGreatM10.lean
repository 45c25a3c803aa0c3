/- Several of my texts in one: Enc, SpecN, SpecO, ProdS, DayQ. -/
import Derived.Test.YtnnblmibonnpcaaGreatM8
import Derived.Test.YtnnblmibonnpcaaGreatM9
/- The program's Encipher. -/
namespace Go.Proofs.YtnnblmibonnpcaaGreat
open Go.RowKit
attribute [local go_sem] Oper.semAt_some

theorem encT_no {m : Mach} {v u : ByteArray} (h : ¬ (setB m v = true ∧ wordB u = true)) : encT m v u = (S [], S [], false) := by simp only [encT, if_neg h]
theorem encT_yes {m : Mach} {v u : ByteArray} (h : setB m v = true) (h2 : wordB u = true) : encT m v u = (wd (encD m v (dg u)), stepN m.wheels u.size v, true) := by
  have : setB m v = true ∧ wordB u = true := ⟨h, h2⟩
  simp only [encT, if_pos this]
/-- Three results. -/
def encV (m : Mach) (v u : ByteArray) : Value := .tuple #[.string (encT m v u).1, .string (encT m v u).2.1, .bool (encT m v u).2.2]

/-- How far the word has been enciphered. -/
structure EncI (m : Mach) (v u : ByteArray) (w : World) (BM OB cap L k : Nat) (W : World) : Prop where
  row : Own W OB (bv ((Go.Proofs.YtnnblmibonnpcaaGreat.L (wd (encD m v (dg u)))).take k ++ (Go.Proofs.YtnnblmibonnpcaaGreat.L u).drop k))
  out : Own W (OB + 1) [.slice (some ⟨OB, 0, none⟩) u.size cap]
  i : Own W (OB + 1 + 1) [.int .i64 (k : Int)]
  win : Own W (BM + 1) [.string (stepN m.wheels k v)]
  bel : Below BM w W
  size : L ≤ W.heap.size
theorem EncI.grown {m : Mach} {v u : ByteArray} {w : World} {BM OB cap L k r : Nat} {A B : World} (h : EncI m v u w BM OB cap L k A) (hg : A.grownBy B (some r)) (hB : BM + 1 < OB) (h1 : OB + 1 + 1 < r) (hA : BM ≤ A.heap.size) : EncI m v u w BM OB cap L k B :=
  ⟨h.row.grown hg (by simp; omega), h.out.grown hg (by simp; omega), h.i.grown hg (by simp; omega), h.win.grown hg (by simp; omega), h.bel.grown hg hA (fun x e => by cases e; omega), Nat.le_trans h.size hg.size⟩

end Go.Proofs.YtnnblmibonnpcaaGreat

/- The specification's permutation of a key, keys, and Encipher. -/
namespace Go.Proofs.YtnnblmibonnpcaaGreat
open Go.RowKit

set_option maxRecDepth 100000 in
set_option maxHeartbeats 1000000 in
theorem l8Perm_any (a : Option Addr) (n c : Nat) (m : Mach) (v : ByteArray) (w : World) (h : MachAt w w.heap.size a n m) (hs : setB m v = true) :
    Calls Tryz.prog 68 #[.agg #[.slice a n c, .string m.wheels.refl, .string m.rings, .string m.plugs], .string v] w fun e w' => e = .returned (.string (wd (keyP m v))) ∧ Below w.heap.size w w' := by
  have hm := setB_mach hs
  have hf := setB_fit hs
  have hp := machB_plugP hm
  have hw := isP_way isP_id m.wheels.rotors (offs m.rings v) hf.perms
  have hsc : IsP (scrP m.wheels (offs m.rings v)) := (machB_reflP hm).conj hw.back
  have HLO : Hid ((offs m.rings v).length = m.wheels.rotors.length) := by
    show _ = _
    rw [len_offs, setB_len hs]
  have o0 := Own.new w [.slice a n c, .string m.wheels.refl, .string m.rings, .string m.plugs] 27
  have hb0 := (Below.refl w.heap.size w).alloc (Nat.le_refl _) (.cells [.slice a n c, .string m.wheels.refl, .string m.rings, .string m.plugs].toArray 27)
  have h' := h.alloc_ (.cells [.slice a n c, .string m.wheels.refl, .string m.rings, .string m.plugs].toArray 27)
  have f0 := o0.at_ (i := 0) rfl
  have f1 := o0.at_ (i := 1) rfl
  have f2 := o0.at_ (i := 2) rfl
  have f3 := o0.at_ (i := 3) rfl
  have l0 := o0.lt
  have t3 := fun W => l2Renamed_any (scrP m.wheels (offs m.rings v)) (dg m.plugs) W hsc hp
  rw [wd_dg (permB_word (plugB_perm (machB_plug hm)))] at t3
  have HK := Lib.hid (key_conj hm v)
  rw [HK.out]
  generalize conjP (scrP m.wheels (offs m.rings v)) (dg m.plugs) = y1 at *
  go_enter Tryz.func68, Tryz.ntmps68
  go_wp2_with fail
  generalize hW : (w.alloc (.cells [.slice a n c, .string m.wheels.refl, .string m.rings, .string m.plugs].toArray 27)) = W at *
  have hM : MachAt W.drew W.drew.heap.size a n m := h'.keep (fun _ _ => rfl)
  go_region_held3 (fun w' => w'.cell? ⟨w.heap.size, 0, none⟩ = some (.slice a n c) ∧ w'.cell? ⟨w.heap.size, 1, none⟩ = some (.string m.wheels.refl) ∧ w'.cell? ⟨w.heap.size, 2, none⟩ = some (.string m.rings) ∧ w'.cell? ⟨w.heap.size, 3, none⟩ = some (.string m.plugs)) (first | go_keep | exact ⟨k0, k1, k2, k3⟩ | exact ⟨j0, j1, j2, j3⟩ | exact ⟨i0, i1, i2, i3⟩)
    (first | (go_at_call 90; refine (l8Offsets_any a n c m v _ (setB_word hs) (machB_fit hm).word (setB_size hs)).mono ?_; rintro e w1 ⟨vv, rfl, hown, hb1⟩; obtain ⟨oa, oc, rfl, hoc, hrd, -⟩ := OwR.val hown; have o1 := o0.drew.below hb1 l0; have k0 := o1.at_ (i := 0) rfl; have k1 := o1.at_ (i := 1) rfl; have k2 := o1.at_ (i := 2) rfl; have k3 := o1.at_ (i := 3) rfl; have hM1 := (hM.below hb1 (Nat.le_refl _)).more hb1.size) | (go_at_call 89; refine (l6Scramble_any a n c m.wheels v _ _ _ _ hM1.whl hf hrd HLO.out (offs_lt _ _)).mono ?_; rintro e w2 ⟨rfl, hb2⟩; have o2 := o1.below hb2 o1.lt; have j0 := o2.at_ (i := 0) rfl; have j1 := o2.at_ (i := 1) rfl; have j2 := o2.at_ (i := 2) rfl; have j3 := o2.at_ (i := 3) rfl) | (go_at_call 88; refine (t3 _).mono ?_; rintro e w3 ⟨rfl, hb3⟩; have o3 := o2.below hb3 o2.lt; have i0 := o3.at_ (i := 0) rfl; have i1 := o3.at_ (i := 1) rfl; have i2 := o3.at_ (i := 2) rfl; have i3 := o3.at_ (i := 3) rfl))
  go_wp2
  go_ret
  subst hW
  exact ⟨rfl, ((hb0.drew.trans (hb1.mono (by simp))).trans (hb2.mono (by have := hb1.size; simp at this; omega))).trans (hb3.mono (by have := hb1.size; have := hb2.size; simp at *; omega))⟩

theorem keyS_snoc (m : Mach) (v : ByteArray) (k : Nat) : keyS m v (k + 1) = keyS m v k ++ [wd (keyN m v k)] := by simp [keyS, List.range_succ]
set_option maxRecDepth 100000 in
set_option maxHeartbeats 1000000 in
theorem l8Perms_any (a : Option Addr) (n c : Nat) (m : Mach) (v : ByteArray) (N : Nat) (w : World) (h : MachAt w w.heap.size a n m) (hs : setB m v = true) (hN : N ≤ 1000) :
    Calls Tryz.prog 39 #[.agg #[.slice a n c, .string m.wheels.refl, .string m.rings, .string m.plugs], .string v, .int .i64 (N : Int)] w (RowPost 9 1 (keyS m v N).length (sv (keyS m v N)) w) := by
  have o0 := Own.new w [.slice a n c, .string m.wheels.refl, .string m.rings, .string m.plugs] 27
  have hb0 := (Below.refl w.heap.size w).alloc (Nat.le_refl _) (.cells [.slice a n c, .string m.wheels.refl, .string m.rings, .string m.plugs].toArray 27)
  go_enter Tryz.func39, Tryz.ntmps39
  go_wp2
  go_loopw [1, 7, 8] (fun x u i wr => ∃ k : Nat, k ≤ N ∧ i = .int .i64 k ∧ x = .string (stepN m.wheels k v) ∧ OwR wr (w.heap.size + 1) 9 1 u k (sv (keyS m v k)) ∧ Own wr w.heap.size [.slice a n c, .string m.wheels.refl, .string m.rings, .string m.plugs] ∧ Below w.heap.size w wr) (fun _ _ i _ => N - (intOf i).toNat)
  case atStart =>
    refine ⟨0, Nat.zero_le _, rfl, rfl, ?_, o0.alloc _, hb0.alloc (by simp) _⟩
    have := World.ownsRow_lit (base := w.heap.size + 1) (e := 9) (size := 1) (w.alloc (.cells [.slice a n c, .string m.wheels.refl, .string m.rings, .string m.plugs].toArray 27)) #[] 0 (by simp) (by unfold maxLen; omega) (by simp)
    simpa [sv, keyS] using this
  case round =>
    clear o0 hb0
    obtain ⟨k, hk, rfl, rfl, hown, o0, hb⟩ := hrel
    by_cases hlt : k < N
    · have hx := setB_stepN k hs
      have hx1 := setB_stepN (k + 1) hs
      have hfit := setB_fit hx
      have HS := Lib.hid (stepN_succ m.wheels k v)
      have f0 := o0.at_ (i := 0) rfl
      have f1 := o0.at_ (i := 1) rfl
      have lt0 := o0.lt
      have hM : MachAt wr wr.heap.size a n m := (h.below hb (Nat.le_refl _)).more hb.size
      go_wp2_with fail
      refine (l7Step_any a n c m.wheels (stepN m.wheels k v) _ hM.whl hfit).mono ?_
      rintro e w1 ⟨rfl, hb1⟩
      rw [← HS.out]
      have o1 := o0.below hb1 lt0
      have q1 := OwR.below hown hb1 (Nat.le_refl _)
      have hM1 := (hM.below hb1 (Nat.le_refl _)).more hb1.size
      have hbw1 := bt hb hb1
      have lt1 := o1.lt
      clear f0 f1 o0 hown hM hb hb1
      have f0 := o1.at_ (i := 0) rfl
      have f1 := o1.at_ (i := 1) rfl
      have f2 := o1.at_ (i := 2) rfl
      have f3 := o1.at_ (i := 3) rfl
      go_wp2_with fail
      refine (l8Perm_any a n c m (stepN m.wheels (k + 1) v) _ hM1 hx1).mono ?_
      rintro e w2 ⟨rfl, hb2⟩
      have o2 := o1.below hb2 lt1
      have q2 := OwR.below q1 hb2 (Nat.le_refl _)
      have hbw2 := bt hbw1 hb2
      have hz2 := o2.lt
      clear f0 f1 f2 f3 o1 q1 hM1 hbw1 hb2
      go_wp2_with (at_builtin; ((with_reducible refine wl_push 30 9 inf_str Tryz.underlying30 rfl (by omega) q2 (by omega) rfl (by simp [Value.oneCell']) (by omega) (by omega) rfl rfl ?_); intro g cap w4 o4 b4 s4))
      go_roundw
      case rel =>
        refine ⟨k + 1, by omega, by go_num, rfl, ?_, o2.below b4 (by omega), hbw2.trans (b4.mono (by omega))⟩
        rw [keyS_snoc, sv_append]
        exact o4
      case measure => simp [intOf]; omega
    · have hk' : k = N := by omega
      subst hk'
      go_wp2
      go_ret
      refine ⟨_, rfl, ?_, hb⟩
      rw [len_keyS]
      exact World.ownsRow.mono hown (by omega)
end Go.Proofs.YtnnblmibonnpcaaGreat

/- The specification's Encipher. -/
namespace Go.Proofs.YtnnblmibonnpcaaGreat
open Go.RowKit

theorem enc_snoc {m : Mach} {v u : ByteArray} {k : Nat} (h : k < u.size) : wd ((encD m v (dg u)).take (k + 1)) = wd ((encD m v (dg u)).take k) ++ S [letr (pAt (keyN m v k) (pAt (dg u) k) : Int)] := by
  rw [wd_take_snoc (by rw [len_encD, len_dg]; exact h), at_enc m v h]
theorem specMachineValid_any (a : Option Addr) (n c : Nat) (m : Mach) (w : World) (h : MachAt w w.heap.size a n m) :
    Calls Tryz.prog 37 #[.agg #[.slice a n c, .string m.wheels.refl, .string m.rings, .string m.plugs]] w fun e w' => e = .returned (.bool (machB m)) ∧ Below w.heap.size w w' := by
  have hr := h.rings
  have hp := h.plugs
  have o0 := Own.new w [.slice a n c, .string m.wheels.refl, .string m.rings, .string m.plugs] 27
  have hb0 := (Below.refl w.heap.size w).alloc (Nat.le_refl _) (.cells [.slice a n c, .string m.wheels.refl, .string m.rings, .string m.plugs].toArray 27)
  have h' := h.alloc_ (.cells [.slice a n c, .string m.wheels.refl, .string m.rings, .string m.plugs].toArray 27)
  go_enter Tryz.func37, Tryz.ntmps37
  go_wp2_with fail
  refine (l7Windows_any a n c m.wheels m.rings _ h'.whl hr).mono ?_
  rintro e w1 ⟨rfl, hb1⟩
  have o1 := o0.below hb1 o0.lt
  have f3 := o1.at_ (i := 3) rfl
  have hb := bt hb0 hb1
  clear o0 hb0 hb1 o1 h'
  cases hf : fitB m.wheels m.rings with
  | false =>
    have HM : Hid (machB m = false) := by show _ = _; simp [machB, hf]
    go_wp2
    go_ret
    exact ⟨ret_bool HM.out.symm, hb⟩
  | true =>
    have HM : Hid (machB m = plugB m.plugs) := by show _ = _; simp [machB, hf]
    clear hf
    go_wp2_with fail
    refine (specPlugsValid_any m.plugs _ hp).mono ?_
    rintro e w2 ⟨rfl, hb2⟩
    go_wp2
    go_ret
    exact ⟨ret_bool (by rw [HM.out]), bt hb hb2⟩
theorem l8Fits_any (a : Option Addr) (n c : Nat) (m : Mach) (v : ByteArray) (w : World) (h : MachAt w w.heap.size a n m) (hv : v.size ≤ 4294967296) :
    Calls Tryz.prog 18 #[.agg #[.slice a n c, .string m.wheels.refl, .string m.rings, .string m.plugs], .string v] w fun e w' => e = .returned (.bool (setB m v)) ∧ Below w.heap.size w w' := by
  have hr := h.rings
  have o0 := Own.new w [.slice a n c, .string m.wheels.refl, .string m.rings, .string m.plugs] 27
  have hb0 := (Below.refl w.heap.size w).alloc (Nat.le_refl _) (.cells [.slice a n c, .string m.wheels.refl, .string m.rings, .string m.plugs].toArray 27)
  have h' := h.alloc_ (.cells [.slice a n c, .string m.wheels.refl, .string m.rings, .string m.plugs].toArray 27)
  go_enter Tryz.func18, Tryz.ntmps18
  go_wp2_with fail
  refine (specMachineValid_any a n c m _ h').mono ?_
  rintro e w1 ⟨rfl, hb1⟩
  have o1 := o0.below hb1 o0.lt
  have f3 := o1.at_ (i := 2) rfl
  have hb := bt hb0 hb1
  clear o0 hb0 hb1 o1 h'
  cases hm : machB m with
  | false =>
    have HM : Hid (setB m v = false) := by show _ = _; simp [setB, hm]
    go_wp2
    go_ret
    exact ⟨ret_bool HM.out.symm, hb⟩
  | true =>
    cases hw : wordB v with
    | false =>
      have HM : Hid (setB m v = false) := by show _ = _; simp [setB, hw]
      have hq := fun W => specWordValid_any v W hv
      rw [hw] at hq
      clear hm hw
      go_wp2_with (go_at_call 38; ((with_reducible refine (hq _).mono ?_); rintro e w' ⟨rfl, rfl⟩))
      go_ret
      exact ⟨ret_bool HM.out.symm, hb⟩
    | true =>
      have hq := fun W => specWordValid_any v W hv
      rw [hw] at hq
      have HM : Hid (setB m v = ((v.size : Int) == (m.rings.size : Int))) := by
        show _ = _
        simp only [setB, hm, hw, Bool.true_and, Bool.and_true]
        rw [Bool.eq_iff_iff]; simp; omega
      clear hm hw
      go_wp2_with (go_at_call 38; ((with_reducible refine (hq _).mono ?_); rintro e w' ⟨rfl, rfl⟩))
      go_ret
      exact ⟨ret_bool HM.out.symm, hb⟩
end Go.Proofs.YtnnblmibonnpcaaGreat

/- The day products of the specification. -/
namespace Go.Proofs.YtnnblmibonnpcaaGreat
open Go.RowKit

/-- The products as words. -/
def prodS (m : Mach) (v : ByteArray) (k : Nat) : List ByteArray := (List.range k).map fun i => wd (prodP m v i)
theorem len_prodS (m : Mach) (v : ByteArray) (k : Nat) : (prodS m v k).length = k := by simp [prodS]
theorem prodS_snoc (m : Mach) (v : ByteArray) (k : Nat) : prodS m v (k + 1) = prodS m v k ++ [wd (prodP m v k)] := by simp [prodS, List.range_succ]
theorem at_keyS2 (m : Mach) (v : ByteArray) {n k : Nat} (h : k < n) : (sv (keyS m v n))[k]? = some (.string (wd (keyN m v k))) := by
  simp [sv, keyS, h]
theorem OwR.lt1 {w : World} {base n sz g B : Nat} {e : TypeId} {v : Value} {xs : List Value} (_h : OwR w base e sz v n xs) (hg : g < w.heap.size) (hB : B ≤ g) : B ≤ w.drew.heap.size := by
  show B ≤ w.heap.size
  omega
/-- What DayProducts answers. -/
def prodT (m : Mach) (v : ByteArray) : List ByteArray := if setB m v = true then prodS m v v.size else []

set_option maxRecDepth 100000 in
set_option maxHeartbeats 1000000 in
theorem l10Products_any (a : Option Addr) (n c : Nat) (m : Mach) (v : ByteArray) (w : World) (h : MachAt w w.heap.size a n m) (hs : setB m v = true) :
    Calls Tryz.prog 19 #[.agg #[.slice a n c, .string m.wheels.refl, .string m.rings, .string m.plugs], .string v] w (RowPost 9 1 (prodS m v v.size).length (sv (prodS m v v.size)) w) := by
  have hmb := setB_mach hs
  have hv3 : v.size ≤ 3 := by rw [setB_len hs]; exact (machB_fit hmb).three
  have hv1 : 1 ≤ v.size := by rw [setB_len hs]; exact (machB_fit hmb).one
  have o0 := Own.new w [.slice a n c, .string m.wheels.refl, .string m.rings, .string m.plugs] 27
  have hb0 := (Below.refl w.heap.size w).alloc (Nat.le_refl _) (.cells [.slice a n c, .string m.wheels.refl, .string m.rings, .string m.plugs].toArray 27)
  have h' := h.alloc_ (.cells [.slice a n c, .string m.wheels.refl, .string m.rings, .string m.plugs].toArray 27)
  obtain ⟨N, hN⟩ : ∃ N : Nat, N = 2 * v.size := ⟨_, rfl⟩
  have hmul : IntKind.i64.wrap (2 * (v.size : Int)) = (N : Int) := by rw [hN]; rw [IntWalk.i64_in _ (by omega)]; omega
  have HN := Lib.hid hN
  have hN6 : N ≤ 6 := by omega
  clear hN
  have z0 : OwR ((w.alloc (.cells [.slice a n c, .string m.wheels.refl, .string m.rings, .string m.plugs].toArray 27)).alloc (.cells #[] 9)) (w.heap.size + 1) 9 1 (.slice (some ⟨w.heap.size + 1, 0, none⟩) 0 0) 0 (sv (prodS m v 0)) := by
    have := World.ownsRow_lit (base := w.heap.size + 1) (e := 9) (size := 1) (w.alloc (.cells [.slice a n c, .string m.wheels.refl, .string m.rings, .string m.plugs].toArray 27)) #[] 0 (by simp) (by unfold maxLen; omega) (by simp)
    simpa [sv, prodS] using this
  have hb1 := hb0.alloc (by simp) (.cells #[] 9)
  have h2 := h'.alloc_ (.cells #[] 9)
  have o1 := o0.alloc (.cells #[] 9)
  have f0 := o1.at_ (i := 0) rfl
  have f1 := o1.at_ (i := 1) rfl
  have f2 := o1.at_ (i := 2) rfl
  have f3 := o1.at_ (i := 3) rfl
  clear o0 hb0 h'
  go_enter Tryz.func19, Tryz.ntmps19
  go_wp2_with fail
  refine (l8Perms_any a n c m v N _ h2 hs (by omega)).mono ?_
  rintro e w2 ⟨lv, rfl, hol, hb2⟩
  rw [len_keyS] at hol
  obtain ⟨al, cl, rfl, hlc, -, hg⟩ := hol.val
  obtain ⟨g, rfl, hgb, og⟩ := hg.resolve_left (by have := HN.out; omega)
  have z1 := OwR.below z0 hb2 (Nat.le_refl _)
  have hbw2 := bt hb1 hb2
  simp only [World.size_alloc] at hgb
  have hne : (Value.slice (some ⟨w.heap.size + 1, 0, none⟩) 0 0).ownBlock ≠ some g := by simp [Value.ownBlock]; omega
  clear z0 hb1 hb2 h2 o1 f0 f1 f2 f3 hol h
  have hkey : ∀ k, k < N → (sv (keyS m v N))[k]? = some (.string (wd (keyN m v k))) := fun k hk => at_keyS2 m v hk
  have HK := Lib.hid hkey
  have HMB := Lib.hid hmb
  clear hkey hmb hs
  go_wp2_with fail
  go_loopw [5, 7] (fun u i wr => ∃ k : Nat, k ≤ v.size ∧ i = .int .i64 k ∧ u.ownBlock ≠ some g ∧ OwR wr (w.heap.size + 1) 9 1 u k (sv (prodS m v k)) ∧ Own wr g (sv (keyS m v N)) ∧ Below w.heap.size w wr) (fun _ i _ => v.size - (intOf i).toNat)
  case atStart => exact ⟨0, Nat.zero_le _, rfl, hne, z1, og, hbw2⟩
  case round =>
    clear z1 og hbw2 hne
    obtain ⟨k, hk, rfl, hne, hown, og, hb⟩ := hrel
    by_cases hlt : k < v.size
    · have hn2 := HN.out
      have hkn : k < N := by omega
      have hkn2 : k + v.size < N := by omega
      have f0 := og.at_ (HK.out k hkn)
      have f1 := og.at_ (HK.out (k + v.size) hkn2)
      have hp1 := isP_keyN HMB.out v k
      have hp2 := isP_keyN HMB.out v (k + v.size)
      have n1 := fun W => l2Then_any _ _ W hp1 hp2
      have HS := Lib.hid (prodS_snoc m v k)
      have HP : Hid (wd (thenP (keyN m v k) (keyN m v (k + v.size))) = wd (prodP m v k)) := Lib.hid rfl
      rw [HP.out] at n1
      generalize hy1 : wd (keyN m v k) = y1 at f0 n1
      generalize hy2 : wd (keyN m v (k + v.size)) = y2 at f1 n1
      have q1 : (0 : Int) ≤ (k : Int) := by omega
      have q2 : (k : Int) < (N : Int) := by omega
      obtain ⟨q, hq⟩ : ∃ q : Nat, q = k + v.size := ⟨_, rfl⟩
      have hadd : IntKind.i64.wrap ((k : Int) + (v.size : Int)) = (q : Int) := by rw [IntWalk.i64_in _ (by omega)]; omega
      have q3 : (0 : Int) ≤ (q : Int) := by omega
      have q4 : (q : Int) < (N : Int) := by omega
      rw [← hq] at f1
      have HK1 : ∀ {W : World}, Own W g (sv (keyS m v N)) → W.cell? ⟨g, q, none⟩ = some (.string y2) := fun o => by rw [hq]; exact (o.at_ (HK.out (k + v.size) hkn2)).trans (by rw [hy2])
      have HK0 : ∀ {W : World}, Own W g (sv (keyS m v N)) → W.cell? ⟨g, k, none⟩ = some (.string y1) := fun o => (o.at_ (HK.out k hkn)).trans (by rw [hy1])
      clear hq hy1 hy2
      have hz := hb.size
      have lg := og.lt
      have hownd : OwR wr.drew (w.heap.size + 1) 9 1 u5 k (sv (prodS m v k)) := hown
      have ogd : Own wr.drew g (sv (keyS m v N)) := og.drew
      have hzb : w.heap.size + 1 ≤ wr.drew.heap.size := (OwR.lt1 hown lg (by omega))
      clear hn2 hkn hkn2 hp1 hp2
      have ow1 := fun {w2 : World} (hb2 : Below wr.drew.heap.size wr.drew w2) => OwR.below hownd hb2 (Nat.le_refl _)
      have og1 := fun {w2 : World} (hb2 : Below wr.drew.heap.size wr.drew w2) => ogd.below hb2 (show g < wr.drew.heap.size from lg)
      go_wp2_with fail
      go_region_held3 (fun w' => w'.cell? ⟨g, k, none⟩ = some (.string y1) ∧ w'.cell? ⟨g, q, none⟩ = some (.string y2)) (first | go_keep | exact ⟨k0, k1⟩ | exact ⟨i0, i1⟩)
        (first | (go_at_call 40; refine (n1 _).mono ?_; rintro e w3 ⟨rfl, hb3⟩; have q0 := ow1 hb3; have p0 := og1 hb3; have k0 := HK0 p0; have k1 := HK1 p0) | (refine st_pushG 30 9 inf_str Tryz.underlying30 rfl (by omega) (by rfl) (by rfl) q0 (by have := hb3.size; omega) rfl (by simp [Value.oneCell']) (by omega) (by omega) (by rfl) (by rfl) ?_; intro g4 cap w4 o4 g4g g4n s4 b4; have p4 := p0.grownO g4g hne; have i0 := HK0 p4; have i1 := HK1 p4))
      all_goals
        go_wp2
        have hne4 : (Value.slice (some ⟨g4, 0, none⟩) (k + 1) cap).ownBlock ≠ some g := by
          rcases g4n with h1 | h1
          · rw [h1] at hne; exact hne
          · have := p0.lt; simp [Value.ownBlock]; omega
        go_roundw
        case rel =>
          refine ⟨k + 1, by omega, by go_num, hne4, ?_, p4, (hb.drew.trans (hb3.mono (by omega))).trans (b4.mono (by omega))⟩
          rw [HS.out, sv_append]
          exact o4
        case measure => simp [intOf]; omega
    · have hk' : k = v.size := by omega
      subst hk'
      go_wp2
      go_ret
      refine ⟨_, rfl, ?_, hb⟩
      rw [len_prodS]
      exact World.ownsRow.mono hown (by omega)
theorem prodT_no {m : Mach} {v : ByteArray} (h : setB m v = false) : prodT m v = [] := by simp [prodT, h]
theorem prodT_yes {m : Mach} {v : ByteArray} (h : setB m v = true) : prodT m v = prodS m v v.size := by simp [prodT, h]
set_option maxRecDepth 100000 in
theorem specDayProducts_any (a : Option Addr) (n c : Nat) (m : Mach) (v : ByteArray) (w : World) (h : MachAt w w.heap.size a n m) (hv : v.size ≤ 4294967296) :
    Calls Tryz.prog 8 #[.agg #[.slice a n c, .string m.wheels.refl, .string m.rings, .string m.plugs], .string v] w (RowPost 9 1 (prodT m v).length (sv (prodT m v)) w) := by
  have o0 := Own.new w [.slice a n c, .string m.wheels.refl, .string m.rings, .string m.plugs] 27
  have hb0 := (Below.refl w.heap.size w).alloc (Nat.le_refl _) (.cells [.slice a n c, .string m.wheels.refl, .string m.rings, .string m.plugs].toArray 27)
  have h' := h.alloc_ (.cells [.slice a n c, .string m.wheels.refl, .string m.rings, .string m.plugs].toArray 27)
  go_enter Tryz.func8, Tryz.ntmps8
  go_wp2_with fail
  refine (l8Fits_any _ _ _ _ _ _ h' hv).mono ?_
  rintro e w1 ⟨rfl, hb1⟩
  have o1 := o0.below hb1 o0.lt
  have hM := (h'.below hb1 (Nat.le_refl _)).more hb1.size
  have hb := bt hb0 hb1
  clear o0 hb0 hb1 h'
  cases hs : setB m v with
  | false =>
    have z0 := World.ownsRow_lit (base := w.heap.size) (e := 9) (size := 1) w1 #[] 0 hb.size (by unfold maxLen; omega) (by simp)
    have hbz := hb.alloc hb.size (.cells #[] 9)
    go_wp2
    go_ret
    refine ⟨_, rfl, ?_, hbz⟩
    rw [prodT_no hs]
    simpa [sv] using z0
  | true =>
    have f0 := o1.at_ (i := 0) rfl
    have f1 := o1.at_ (i := 1) rfl
    have f2 := o1.at_ (i := 2) rfl
    have f3 := o1.at_ (i := 3) rfl
    go_wp2_with fail
    refine (l10Products_any _ _ _ _ _ _ hM hs).mono ?_
    rintro e w2 ⟨lv, rfl, hol, hb2⟩
    go_wp2
    go_ret
    refine ⟨_, rfl, ?_, bt hb hb2⟩
    rw [prodT_yes hs]
    exact World.ownsRow.mono hol hb.size
end Go.Proofs.YtnnblmibonnpcaaGreat

/- DayProducts of the program. -/
namespace Go.Proofs.YtnnblmibonnpcaaGreat
open Go.RowKit

theorem pv_len10 {m : Mach} (h : machB m = true) (v : ByteArray) (k : Nat) : (pv (prodP m v k)).length = 10 := size_pv10 (isP_prod h v k)
theorem pvs_cells {m : Mach} {v : ByteArray} {w : World} {g q k : Nat} (hm : machB m = true) (h : Cells w g 0 (pvs m v q)) (hk : k < q) : Cells w g (k * 10) (pv (prodP m v k)) := by
  have hL : ∀ x ∈ (List.range q).map (fun k => pv (prodP m v k)), x.length = 10 := by
    intro x hx
    obtain ⟨i, -, rfl⟩ := List.mem_map.1 hx
    exact pv_len10 hm v i
  have hf := flat_at _ k hL (by simpa using hk)
  have h1 := h.sub (k * 10) 10 (by
    have : (pvs m v q).length = q * 10 := by
      unfold pvs
      rw [List.length_flatten, List.map_map]
      have : (List.range q).map (List.length ∘ fun k => pv (prodP m v k)) = List.replicate q 10 := by
        rw [List.eq_replicate_iff]
        refine ⟨by simp, fun x hx => ?_⟩
        obtain ⟨y, -, rfl⟩ := List.mem_map.1 hx
        exact pv_len10 hm v y
      rw [this, List.sum_replicate_nat]
    omega)
  rw [Nat.zero_add] at h1
  unfold pvs at h1
  rw [hf] at h1
  simpa using h1
set_option maxRecDepth 100000 in
set_option maxHeartbeats 1000000 in
theorem implDayProducts_any (a : Option Addr) (n c : Nat) (m : Mach) (v : ByteArray) (w : World) (h : MachAt w w.heap.size a n m) (hv : v.size ≤ 4294967296) :
    Calls Tryz.prog 6 #[.agg #[.slice a n c, .string m.wheels.refl, .string m.rings, .string m.plugs], .string v] w (RowPost 9 1 (prodT m v).length (sv (prodT m v)) w) := by
  have o0 := Own.new w [.slice a n c, .string m.wheels.refl, .string m.rings, .string m.plugs] 27
  have hb0 := (Below.refl w.heap.size w).alloc (Nat.le_refl _) (.cells [.slice a n c, .string m.wheels.refl, .string m.rings, .string m.plugs].toArray 27)
  have h' := h.alloc_ (.cells [.slice a n c, .string m.wheels.refl, .string m.rings, .string m.plugs].toArray 27)
  go_enter Tryz.func6, Tryz.ntmps6
  go_wp2_with fail
  refine (settingValid_any _ _ _ _ _ _ h' hv).mono ?_
  rintro e w1 ⟨rfl, hb1⟩
  have o1 := o0.below hb1 o0.lt
  have hM := (h'.below hb1 (Nat.le_refl _)).more hb1.size
  have hb := bt hb0 hb1
  clear o0 hb0 hb1 h'
  cases hs : setB m v with
  | false =>
    go_wp2
    go_ret
    refine ⟨_, rfl, ?_, hb⟩
    rw [prodT_no hs]
    exact World.ownsRow_nil _ _ _ _
  | true =>
    have hmb := setB_mach hs
    have hv3 : v.size ≤ 3 := by rw [setB_len hs]; exact (machB_fit hmb).three
    have hmk : ∀ W : World, (Instr.makeSlice 30 (.int .i64 0) (.int .i64 (v.size : Int))).run Tryz.prog W = .ok (.slice (some ⟨W.heap.size, 0, none⟩) 0 v.size) (W.alloc (.cells (Array.replicate v.size (Value.string ⟨#[]⟩)) 9)) :=
      fun W => by have := run_make1 (P := Tryz.prog) Tryz.underlying30 info_str rfl 0 v.size (Nat.zero_le _) (by omega) (by omega) W; simpa using this
    have hz := hb.size
    have r1 := World.ownsRow_made (base := w.heap.size) (e := 9) (size := 1) w1 (Array.replicate v.size (Value.string ⟨#[]⟩)) v.size hz (by unfold maxLen; omega) (by simp)
    have o2 := o1.alloc (.cells (Array.replicate v.size (Value.string ⟨#[]⟩)) 9)
    have hM2 := hM.alloc_ (.cells (Array.replicate v.size (Value.string ⟨#[]⟩)) 9)
    have hb2 := hb.alloc hz (.cells (Array.replicate v.size (Value.string ⟨#[]⟩)) 9)
    have f0 := o2.at_ (i := 0) rfl
    have f1 := o2.at_ (i := 1) rfl
    have f2 := o2.at_ (i := 2) rfl
    have f3 := o2.at_ (i := 3) rfl
    clear o1 hM hb
    go_wp2_with fail
    refine (dayProducts_any _ _ _ _ _ _ hM2 hs).mono ?_
    rintro e w3 ⟨lv, rfl, hol, hb3⟩
    have hv1 : 1 ≤ v.size := by rw [setB_len hs]; exact (machB_fit hmb).one
    obtain ⟨al, cl, rfl, hlc, -, hg⟩ := hol.val
    obtain ⟨gP, rfl, hgb, og⟩ := hg.resolve_left (by omega)
    simp only [World.size_alloc] at hgb
    have r3 := OwR.below r1 hb3 (Nat.le_refl _)
    have hbw3 := bt hb2 hb3
    have hne : (Value.slice (some ⟨w1.heap.size, 0, none⟩) 0 v.size).ownBlock ≠ some gP := by simp [Value.ownBlock]; omega
    clear o2 hM2 hb2 f0 f1 f2 f3 hb3 hol hg hmk r1 h
    go_wp2_with fail
    go_loopw [5, 7, 19] (fun u _ i wr => ∃ k : Nat, k ≤ v.size ∧ i = .int .i64 k ∧ u.ownBlock ≠ some gP ∧ OwR wr w.heap.size 9 1 u k (sv (prodS m v k)) ∧ Own wr gP (pvs m v v.size) ∧ Below w.heap.size w wr) (fun _ _ i _ => v.size - (intOf i).toNat)
    case atStart => exact ⟨0, Nat.zero_le _, rfl, hne, r3, og, hbw3⟩
    case round =>
      clear r3 og hbw3 hne
      obtain ⟨k, hk, rfl, hne, hown, og, hb⟩ := hrel
      by_cases hlt : k < v.size
      · have hpp := isP_prod hmb v k
        have hlp := size_pv10 hpp
        have hzs := size_pv hpp.len
        have hc1 := pvs_cells hmb og.cells hlt
        have HS := Lib.hid (prodS_snoc m v k)
        have hzb := hb.size
        have lg := og.lt
        have q1 : (0 : Int) ≤ (k : Int) := by omega
        have q2 : (k : Int) < (v.size : Int) := by omega
        have z9 : Own (wr.alloc (.cells #[.int .u8 0, .int .u8 0, .int .u8 0, .int .u8 0, .int .u8 0, .int .u8 0, .int .u8 0, .int .u8 0, .int .u8 0, .int .u8 0] 42)) wr.heap.size z10 := Own.new wr z10 42
        have hown1 := World.ownsRow.alloc hown (.cells #[.int .u8 0, .int .u8 0, .int .u8 0, .int .u8 0, .int .u8 0, .int .u8 0, .int .u8 0, .int .u8 0, .int .u8 0, .int .u8 0] 42)
        have og1 := og.alloc (.cells #[.int .u8 0, .int .u8 0, .int .u8 0, .int .u8 0, .int .u8 0, .int .u8 0, .int .u8 0, .int .u8 0, .int .u8 0, .int .u8 0] 42)
        have hb1 := hb.alloc hzb (.cells #[.int .u8 0, .int .u8 0, .int .u8 0, .int .u8 0, .int .u8 0, .int .u8 0, .int .u8 0, .int .u8 0, .int .u8 0, .int .u8 0] 42)
        go_wp2_with (first | ((with_reducible refine wl_load 42 hc1 hzs Tryz.underlying42 ?_ ?_ ?_ ?_); (· rfl); (· rfl); (· rfl)) | ((with_reducible refine wl_store 42 0 z9 hzs (pv_one _) (by rw [hlp, len_z10]; omega) ?_ ?_ ?_ ?_); (· rfl); (· rfl); (· rfl); intro w5 q5 b5 s5; rw [put_z10 hlp] at q5; have hown5 := World.ownsRow.kept hown1 b5 (by cases e : u5.ownBlock with | none => exact .inl rfl | some x => exact .inr (by have := (World.ownsRow.lt hown x e).2; simp; omega)); have og5 := og1.grownO b5 (by simp; omega); have hb5 := bel_store hb1 b5 (by simp; omega) (by omega)) | ((with_reducible refine wl_load 42 q5.cells hzs Tryz.underlying42 ?_ ?_ ?_ ?_); (· rfl); (· rfl); (· rfl)))
        refine (string_any _ _ hpp).mono ?_
        rintro e w6 ⟨rfl, hb6⟩
        have own6 := OwR.below hown5 hb6 (Nat.le_refl _)
        have og6 := og5.below hb6 og5.lt
        have hbw6 := bt hb5 hb6
        have hz6 := hbw6.size
        clear hc1 z9 hown1 og1 hb1 q5 b5 s5 hown5 og5 hb5
        go_wp2_with (at_builtin; ((with_reducible refine wl_pushG 30 9 inf_str Tryz.underlying30 rfl (by omega) own6 (by omega) rfl (by simp [Value.oneCell']) (by omega) (by omega) rfl rfl ?_); intro g cap w7 hr7 hg7 hat7 hz7 hk7))
        have og7 := og6.grownO hg7 hne
        have lg6 := og6.lt
        have hb7 : Below w.heap.size w w7 := hbw6.grown hg7 hz6 (fun x e => (World.ownsRow.lt own6 x e).1)
        have hne7 : (Value.slice (some ⟨g, 0, none⟩) (k + 1) cap).ownBlock ≠ some gP := by
          rcases hat7 with h1 | h1
          · rw [h1] at hne; exact hne
          · simp [Value.ownBlock]; omega
        go_roundw
        case rel =>
          refine ⟨k + 1, by omega, by go_num, hne7, ?_, og7, hb7⟩
          rw [HS.out, sv_append]
          exact hr7
        case measure => simp [intOf]; omega
      · have hk' : k = v.size := by omega
        subst hk'
        go_wp2
        go_ret
        refine ⟨_, rfl, ?_, hb⟩
        rw [prodT_yes hs, len_prodS]
        exact hown
end Go.Proofs.YtnnblmibonnpcaaGreat
