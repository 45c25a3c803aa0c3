/- Several of my texts in one: CgS, CgJ, CgN, CgR. -/
import Derived.Test.YtlpfhabfbnjnbaaDoorM7
import Derived.Deep.DeepCutAuto
/- Contracts of FormatCage of the reference. -/
namespace Go.Proofs.YtlpfhabfbnjnbaaDoor
open Go.RowKit

theorem dec_big {j : Nat} (h : 9 < j) : Lib.decDigits j = Lib.decDigits (j / 10) ++ [UInt8.ofNat (48 + j % 10)] := by
  rw [Lib.decDigits, dif_neg (by omega)]
theorem dec_small {j : Nat} (h : j ≤ 9) : Lib.decDigits j = [UInt8.ofNat (48 + j)] := by
  rw [Lib.decDigits, dif_pos (by omega)]
set_option maxRecDepth 100000 in
set_option maxHeartbeats 1000000 in
theorem l21Dec_any (k : Nat) (w : World) (hk : k < 100) :
    Calls Tryd.prog 33 #[.int .i64 (k : Int)] w fun e w' => e = .returned (.string (S (Lib.decDigits k))) ∧ Below w.heap.size w w' := by
  have t0 : decide ((k : Int) < -9223372036854775807) = false := decide_eq_false (by omega)
  have t1 : decide ((k : Int) < 0) = false := decide_eq_false (by omega)
  go_enter Tryd.func33, Tryd.ntmps33
  go_wp2
  go_loopw [0, 3] (fun i o wr => ∃ (j : Nat) (t : List UInt8), i = .int .i64 j ∧ o = .string (S t) ∧ t.length + j ≤ k ∧ Lib.decDigits j ++ t = Lib.decDigits k ∧ Below w.heap.size w wr) (fun i _ _ => (intOf i).toNat)
  case atStart => exact ⟨k, [], rfl, rfl, by simp, by simp, Below.refl _ _⟩
  case round =>
    obtain ⟨j, t, rfl, rfl, hl, he, hb⟩ := hrel
    have hsz : (S t).size ≤ 100000000 := by rw [size_S]; omega
    have HE := Lib.hid he
    clear he
    by_cases hlt : 9 < j
    · have HP := Lib.hid (dec_big hlt)
      have tk : decide ((9 : Int) < (j : Int)) = true := decide_eq_true (by omega)
      have tk2 : decide (9 < j) = true := decide_eq_true hlt
      have hc := run_conv_new (P := Tryd.prog) wr 31 9 5 Tryd.underlying31 Tryd.underlying5 Tryd.underlying9 [48 + (j : Int) % 10]
      simp only [List.map_cons, List.map_nil, List.length_cons, List.length_nil, Nat.zero_add] at hc
      rw [show (48 + (j : Int) % 10).toNat = 48 + j % 10 by omega] at hc
      generalize UInt8.ofNat (48 + j % 10) = d at hc HP
      have hs1 : (S [d]).size ≤ 1 := by rw [size_S]; simp
      go_wp2
      go_roundw
      case rel =>
        refine ⟨j / 10, d :: t, by go_num, ?_, ?_, ?_, hb.alloc hb.size _⟩
        · rw [S_append]; rfl
        · simp; omega
        · rw [← HE.out, HP.out]; simp
      case measure => simp [intOf]; omega
    · have HP := Lib.hid (dec_small (j := j) (by omega))
      have tk : decide ((9 : Int) < (j : Int)) = false := decide_eq_false (by omega)
      have tk2 : decide (9 < j) = false := decide_eq_false hlt
      have hc := run_conv_new (P := Tryd.prog) wr 31 9 5 Tryd.underlying31 Tryd.underlying5 Tryd.underlying9 [48 + (j : Int)]
      simp only [List.map_cons, List.map_nil, List.length_cons, List.length_nil, Nat.zero_add] at hc
      rw [show (48 + (j : Int)).toNat = 48 + j by omega] at hc
      generalize UInt8.ofNat (48 + j) = d at hc HP
      have hs1 : (S [d]).size ≤ 1 := by rw [size_S]; simp
      go_wp2
      go_ret
      refine ⟨ret_str ?_, hb.alloc hb.size _⟩
      rw [S_append, ← HE.out, HP.out]
set_option maxRecDepth 100000 in
set_option maxHeartbeats 2000000 in
theorem specFormatCage_any (a1 a2 : Option Addr) (c1 c2 : Nat) (ws : List ByteArray) (bs : List Int) (w : World) (h1 : Reads w w.heap.size a1 (sv ws)) (h2 : Reads w w.heap.size a2 (iv bs)) (hz : ∀ s ∈ ws, s.size ≤ 4294967296) (hl1 : ws.length ≤ 4294967296) (hl2 : bs.length ≤ 4294967296) :
    Calls Tryd.prog 12 #[.agg #[.slice a1 ws.length c1, .slice a2 bs.length c2]] w fun e w' => e = .returned (.string (fmtC ws bs)) ∧ Below w.heap.size w w' := by
  have o0 := Own.new w [.slice a1 ws.length c1, .slice a2 bs.length c2] 25
  have hb0 := (Below.refl w.heap.size w).alloc (Nat.le_refl _) (.cells [.slice a1 ws.length c1, .slice a2 bs.length c2].toArray 25)
  have f0 := o0.at_ (i := 0) rfl
  have f1 := o0.at_ (i := 1) rfl
  have r1 := h1.alloc_ (.cells [.slice a1 ws.length c1, .slice a2 bs.length c2].toArray 25)
  have r2 := (h2.below hb0 (Nat.le_refl _)).more hb0.size
  have nv := fun W r1 r2 => specCageValid_any a1 a2 c1 c2 ws bs W r1 r2 hz hl1 hl2
  clear h1 h2 hz
  by_cases hc : cageB ws bs = true
  case neg =>
    have hc' : cageB ws bs = false := by rw [Bool.eq_false_iff]; exact hc
    have HE : Hid (fmtC ws bs = ⟨#[]⟩) := Lib.hid (by unfold fmtC; rw [if_neg hc]; rfl)
    rw [hc'] at nv
    go_enter Tryd.func12, Tryd.ntmps12
    go_wp2_with fail
    refine (nv _ r1 r2).mono ?_
    rintro e w1 ⟨rfl, hb1⟩
    go_wp2
    go_ret
    exact ⟨ret_str HE.out.symm, bt hb0 hb1⟩
  rw [hc] at nv
  have HC := Lib.hid hc
  clear hc
  have hw1 := whl_len HC.out
  have hd1 := bar_len HC.out
  obtain ⟨⟨l1, l2, l3, l4⟩, -, -⟩ := cage_iff.1 HC.out
  have HJ1 : Hid (∀ k, (joT (ws.map L) k).length ≤ 1000) := Lib.hid (fun k => by
    have h := joT_len hw1 k
    rw [List.length_map] at h
    omega)
  have HJ2 : Hid (∀ k, (joT (bs.map dcB) k).length ≤ 1000) := Lib.hid (fun k => by
    have h := joT_len hd1 k
    rw [List.length_map] at h
    omega)
  clear hw1 hd1
  go_enter Tryd.func12, Tryd.ntmps12
  go_wp2_with fail
  refine (nv _ r1 r2).mono ?_
  rintro e w1 ⟨rfl, hb1⟩
  have o1 := o0.below hb1 o0.lt
  have hbw1 := bt hb0 hb1
  have q1 := (r1.below hb1 (Nat.le_refl _)).more hb1.size
  have q2 := (r2.below hb1 (Nat.le_refl _)).more hb1.size
  have e0 := o1.at_ (i := 0) rfl
  have e1 := o1.at_ (i := 1) rfl
  have HQ1 := Lib.hid q1
  clear o0 hb0 f0 f1 r1 r2 nv hb1 q1
  go_wp2_with fail
  go_loop [3, 4] (fun o i => ∃ k : Nat, k ≤ ws.length ∧ i = .int .i64 (k : Int) ∧ o = .string (S (joT (ws.map L) k))) (fun _ i => ws.length - (intOf i).toNat)
  case atStart => exact ⟨0, Nat.zero_le _, rfl, by rw [joT_zero]; rfl⟩
  case round =>
    obtain ⟨k, hk, rfl, rfl⟩ := hrel
    by_cases hlt : k < ws.length
    · obtain ⟨b, off, rfl, hbl, hcl⟩ := HQ1.out.open_ (by rw [length_sv]; omega)
      have d1 := hcl k (by rw [length_sv]; exact hlt)
      rw [sv_at hlt] at d1
      have p1 : (0 : Int) ≤ (k : Int) := by omega
      have p2 : (k : Int) < (ws.length : Int) := by omega
      have HS : Hid (joT (ws.map L) (k + 1) = (joT (ws.map L) k ++ if 0 < k then [32] else []) ++ L ws[k]) := Lib.hid (by rw [joT_succ (by rw [List.length_map]; exact hlt), List.getElem_map])
      have hsz : ws[k].size ≤ 9 := (bitsB_size ((cage_iff.1 HC.out).2.1 _ (List.getElem_mem hlt))).2
      have hjz : (S (joT (ws.map L) k)).size ≤ 1000 := by rw [size_S]; exact HJ1.out k
      clear hcl
      generalize ws[k] = s at *
      generalize joT (ws.map L) k = j at *
      by_cases h0 : 0 < k
      · have t0 : decide ((0 : Int) < (k : Int)) = true := decide_eq_true (by omega)
        have t1 : decide (0 < k) = true := decide_eq_true h0
        have HE : Hid (S ((j ++ if 0 < k then [32] else []) ++ L s) = (S j ++ ⟨#[32]⟩) ++ s) := Lib.hid (by rw [if_pos h0, ← S_append, ← S_append, S_L]; rfl)
        clear h0
        go_wp2_with fail
        go_round
        case rel => exact ⟨k + 1, by omega, by go_num, by rw [HS.out, HE.out]⟩
        case measure => simp [intOf]; omega
      · have t0 : decide ((0 : Int) < (k : Int)) = false := decide_eq_false (by omega)
        have t1 : decide (0 < k) = false := decide_eq_false h0
        have HE : Hid (S ((j ++ if 0 < k then [32] else []) ++ L s) = S j ++ s) := Lib.hid (by rw [if_neg h0, List.append_nil, ← S_append, S_L])
        clear h0
        go_wp2_with fail
        go_round
        case rel => exact ⟨k + 1, by omega, by go_num, by rw [HS.out, HE.out]⟩
        case measure => simp [intOf]; omega
    · have hk' : k = ws.length := by omega
      subst hk'
      have HW : Hid (joT (ws.map L) ws.length = Lib.join (ws.map L) [32]) := Lib.hid (by have := joT_all (ws.map L); rwa [List.length_map] at this)
      have hjz : (S (joT (ws.map L) ws.length)).size ≤ 1000 := by rw [size_S]; exact HJ1.out _
      have HF := Lib.hid (fmt_cat HC.out)
      rw [← HW.out] at HF
      generalize S (joT (ws.map L) ws.length) = j1 at *
      have hwB : w.heap.size < w1.heap.size := o1.lt
      clear hk hlt HW
      go_wp2_with fail
      go_loopw [3, 5] (fun o i wr => ∃ k : Nat, k ≤ bs.length ∧ i = .int .i64 (k : Int) ∧ o = .string ((j1 ++ ⟨#[47]⟩) ++ S (joT (bs.map dcB) k)) ∧ Below w1.heap.size w1 wr) (fun _ i _ => bs.length - (intOf i).toNat)
      case atStart => exact ⟨0, Nat.zero_le _, rfl, by rw [joT_zero]; congr 1; exact (ByteArray.append_empty).symm, Below.refl _ _⟩
      case round =>
        obtain ⟨k, hk, rfl, rfl, hb⟩ := hrel
        have g0 := (hb.cell (p := ⟨w.heap.size, 0, none⟩) hwB).trans e0
        have g1 := (hb.cell (p := ⟨w.heap.size, 1, none⟩) hwB).trans e1
        have hbw := bt hbw1 hb
        by_cases hlt : k < bs.length
        · obtain ⟨b, off, rfl, hbl, hcl⟩ := (q2.below hb (Nat.le_refl _)).open_ (by rw [length_iv]; omega)
          have d1 := hcl k (by rw [length_iv]; exact hlt)
          rw [iv_at hlt] at d1
          have p1 : (0 : Int) ≤ (k : Int) := by omega
          have p2 : (k : Int) < (bs.length : Int) := by omega
          have HS : Hid (joT (bs.map dcB) (k + 1) = (joT (bs.map dcB) k ++ if 0 < k then [32] else []) ++ Lib.decDigits bs[k].toNat) := Lib.hid (by rw [joT_succ (by rw [List.length_map]; exact hlt), List.getElem_map]; rfl)
          obtain ⟨hx0, hx1⟩ := cage_bar HC.out _ (List.getElem_mem hlt)
          have hjz2 : (S (joT (bs.map dcB) k)).size ≤ 1000 := by rw [size_S]; exact HJ2.out k
          clear hcl
          generalize bs[k] = x at *
          obtain ⟨n, rfl⟩ := Int.eq_ofNat_of_zero_le hx0
          have nd := fun W => l21Dec_any n W (by omega)
          have hdz : (S (Lib.decDigits n)).size ≤ 2 := by rw [size_S]; exact (dec_len (n := n) (by omega)).2
          rw [Int.toNat_natCast] at HS
          generalize Lib.decDigits n = dn at *
          generalize joT (bs.map dcB) k = j at *
          by_cases h0 : 0 < k
          · have t0 : decide ((0 : Int) < (k : Int)) = true := decide_eq_true (by omega)
            have t1 : decide (0 < k) = true := decide_eq_true h0
            have HE : Hid ((j1 ++ ⟨#[47]⟩) ++ S ((j ++ if 0 < k then [32] else []) ++ dn) = ((j1 ++ ⟨#[47]⟩) ++ S j ++ ⟨#[32]⟩) ++ S dn) := Lib.hid (by rw [if_pos h0, ← S_append, ← S_append, ← ByteArray.append_assoc, ← ByteArray.append_assoc]; rfl)
            clear h0
            go_wp2_with fail
            refine (nd _).mono ?_
            rintro e w5 ⟨rfl, hb5⟩
            go_wp2_with fail
            go_roundw
            case rel => exact ⟨k + 1, by omega, by go_num, by rw [HS.out, HE.out], hb.trans (hb5.mono hb.size)⟩
            case measure => simp [intOf]; omega
          · have t0 : decide ((0 : Int) < (k : Int)) = false := decide_eq_false (by omega)
            have t1 : decide (0 < k) = false := decide_eq_false h0
            have HE : Hid ((j1 ++ ⟨#[47]⟩) ++ S ((j ++ if 0 < k then [32] else []) ++ dn) = ((j1 ++ ⟨#[47]⟩) ++ S j) ++ S dn) := Lib.hid (by rw [if_neg h0, List.append_nil, ← S_append, ← ByteArray.append_assoc])
            clear h0
            go_wp2_with fail
            refine (nd _).mono ?_
            rintro e w5 ⟨rfl, hb5⟩
            go_wp2_with fail
            go_roundw
            case rel => exact ⟨k + 1, by omega, by go_num, by rw [HS.out, HE.out], hb.trans (hb5.mono hb.size)⟩
            case measure => simp [intOf]; omega
        · have hk' : k = bs.length := by omega
          subst hk'
          have HB : Hid (joT (bs.map dcB) bs.length = Lib.join (bs.map dcB) [32]) := Lib.hid (by have := joT_all (bs.map dcB); rwa [List.length_map] at this)
          have hjz2 : (S (joT (bs.map dcB) bs.length)).size ≤ 1000 := by rw [size_S]; exact HJ2.out _
          rw [← HB.out] at HF
          generalize S (joT (bs.map dcB) bs.length) = j2 at *
          go_wp2_with fail
          go_ret
          exact ⟨ret_str HF.out, hbw⟩
end Go.Proofs.YtlpfhabfbnjnbaaDoor

/- The reference's ParseCage: its helpers. -/
namespace Go.Proofs.YtlpfhabfbnjnbaaDoor
open Go.RowKit

theorem find_yes (s : ByteArray) (A B : List UInt8) (w : World) (hs : s.size ≤ 4294967296) (e : L s = A ++ 47 :: B) (hA : (47 : UInt8) ∉ A) :
    Calls Tryd.prog 16 #[.string s, .int .u8 47] w fun e w' => e = .returned (.int .i64 (A.length : Int)) ∧ w = w' := by
  have hl := congrArg List.length e
  rw [size_L, List.length_append, List.length_cons] at hl
  have HG : Hid (∀ k (h : k < s.size), k < A.length → ¬ (s[k].toNat : Int) = 47) := Lib.hid (fun k h hk he => by
    have h1 : s[k] = A[k] := by
      rw [getElem_L]
      have h2 : (L s)[k]? = some A[k] := by rw [e, List.getElem?_append_left hk, List.getElem?_eq_getElem hk]
      rw [List.getElem?_eq_getElem (by rw [size_L]; exact h)] at h2
      exact Option.some.inj h2
    have h3 : A[k] = 47 := UInt8.toNat_inj.1 (by rw [← h1]; show _ = 47; omega)
    exact hA (by rw [← h3]; exact List.getElem_mem hk))
  have HE : Hid (∀ (h : A.length < s.size), s[A.length].toNat = 47) := Lib.hid (fun h => by
    have h1 : s[A.length] = 47 := by
      rw [getElem_L]
      have h2 : (L s)[A.length]? = some 47 := by rw [e, List.getElem?_append_right (Nat.le_refl _), Nat.sub_self]; rfl
      rw [List.getElem?_eq_getElem (by rw [size_L]; exact h)] at h2
      exact Option.some.inj h2
    rw [h1]; rfl)
  clear e hA
  go_enter Tryd.func16, Tryd.ntmps16
  go_wp2
  go_loop [5] (fun i => ∃ k : Nat, k ≤ A.length ∧ i = .int .i64 (k : Int)) (fun i => s.size - (intOf i).toNat)
  case atStart => exact ⟨0, Nat.zero_le _, rfl⟩
  case round =>
    obtain ⟨k, hk, rfl⟩ := hrel
    have hlt : k < s.size := by omega
    have q1 : (0 : Int) ≤ (k : Int) := by omega
    have q2 : (k : Int) < (s.size : Int) := by omega
    by_cases hke : k < A.length
    · have te : ((s[k].toNat : Int) == 47) = false := by rw [beq_eq_false_iff_ne]; exact HG.out k hlt hke
      go_wp2
      go_round
      case rel => exact ⟨k + 1, by omega, by go_num⟩
      case measure => simp [intOf]; omega
    · have hk' : k = A.length := by omega
      subst hk'
      have te : ((s[A.length].toNat : Int) == 47) = true := by rw [HE.out hlt]; rfl
      go_wp2
      go_ret
      exact ⟨rfl, rfl⟩
theorem find_no (s : ByteArray) (w : World) (hs : s.size ≤ 4294967296) (h47 : (47 : UInt8) ∉ L s) :
    Calls Tryd.prog 16 #[.string s, .int .u8 47] w fun e w' => e = .returned (.int .i64 (-1)) ∧ w = w' := by
  have HG : Hid (∀ k (h : k < s.size), ¬ (s[k].toNat : Int) = 47) := Lib.hid (fun k h he => by
    have h3 : s[k] = 47 := UInt8.toNat_inj.1 (by show _ = 47; omega)
    exact h47 (by rw [← h3, getElem_L]; exact List.getElem_mem _))
  clear h47
  go_enter Tryd.func16, Tryd.ntmps16
  go_wp2
  go_loop [5] (fun i => ∃ k : Nat, k ≤ s.size ∧ i = .int .i64 (k : Int)) (fun i => s.size - (intOf i).toNat)
  case atStart => exact ⟨0, Nat.zero_le _, rfl⟩
  case round =>
    obtain ⟨k, hk, rfl⟩ := hrel
    by_cases hlt : k < s.size
    · have q1 : (0 : Int) ≤ (k : Int) := by omega
      have q2 : (k : Int) < (s.size : Int) := by omega
      have te : ((s[k].toNat : Int) == 47) = false := by rw [beq_eq_false_iff_ne]; exact HG.out k hlt
      go_wp2
      go_round
      case rel => exact ⟨k + 1, by omega, by go_num⟩
      case measure => simp [intOf]; omega
    · go_wp2
      go_ret
      exact ⟨rfl, rfl⟩
/-- The pieces that are done, and what is left. -/
def CutS (s : ByteArray) (done : List (List UInt8)) (fr k : Nat) : Prop :=
  (k ≤ s.size ∧ fr ≤ k ∧ done ++ spl 32 ((L s).drop fr) = spl 32 (L s) ∧ ∀ j (h : j < s.size), fr ≤ j → j < k → s[j] ≠ 32) ∨ (k = s.size + 1 ∧ done = spl 32 (L s))
theorem cut_free {s : ByteArray} {fr k : Nat} (hk : k ≤ s.size) (h : ∀ j (h : j < s.size), fr ≤ j → j < k → s[j] ≠ 32) : (32 : UInt8) ∉ ((L s).take k).drop fr := by
  intro hm
  obtain ⟨j, hj, e⟩ := List.mem_iff_getElem.1 hm
  simp only [List.length_drop, List.length_take, size_L] at hj
  rw [List.getElem_drop, List.getElem_take] at e
  exact h (fr + j) (by omega) (by omega) (by omega) (by rw [getElem_L]; exact e)
theorem cut_next {s : ByteArray} {done : List (List UInt8)} {fr k : Nat} (h : CutS s done fr k) (hk : k < s.size) (hne : s[k] ≠ 32) : CutS s done fr (k + 1) := by
  rcases h with ⟨h1, h2, h3, h4⟩ | ⟨h1, -⟩
  · refine .inl ⟨by omega, by omega, h3, fun j hj a b => ?_⟩
    by_cases e : j = k
    · subst e; exact hne
    · exact h4 j hj a (by omega)
  · omega
theorem cut_push {s : ByteArray} {done : List (List UInt8)} {fr k : Nat} (h : CutS s done fr k) (hk : k < s.size) (he : s[k] = 32) : CutS s (done ++ [((L s).take k).drop fr]) (k + 1) (k + 1) := by
  rcases h with ⟨h1, h2, h3, h4⟩ | ⟨h1, -⟩
  · refine .inl ⟨by omega, Nat.le_refl _, ?_, fun j hj a b => by omega⟩
    have hd : (L s).drop fr = ((L s).take k).drop fr ++ 32 :: (L s).drop (k + 1) := by
      have e1 : (L s) = (L s).take k ++ (L s).drop k := (List.take_append_drop k _).symm
      have e2 : (L s).drop k = (L s)[k]'(by rw [size_L]; exact hk) :: (L s).drop (k + 1) := List.drop_eq_getElem_cons _
      rw [← getElem_L s k hk, he] at e2
      have e3 : ((L s).take k ++ (L s).drop k).drop fr = ((L s).take k).drop fr ++ (L s).drop k := by
        rw [List.drop_append_of_le_length (by rw [List.length_take, size_L]; omega)]
      rw [← e1, e2] at e3
      exact e3
    rw [← h3, hd, spl_at (cut_free (by omega) h4), List.append_assoc]
    rfl
  · omega
theorem cut_last {s : ByteArray} {done : List (List UInt8)} {fr k : Nat} (h : CutS s done fr k) (hk : k = s.size) : CutS s (done ++ [((L s).take k).drop fr]) (k + 1) (k + 1) := by
  rcases h with ⟨h1, h2, h3, h4⟩ | ⟨h1, -⟩
  · refine .inr ⟨by omega, ?_⟩
    have hf := cut_free (by omega) h4
    have ht : (L s).take k = L s := List.take_of_length_le (by rw [size_L]; omega)
    rw [ht] at hf ⊢
    rw [← h3, spl_free hf]
  · omega
theorem cut_ext (s : ByteArray) (a b : Nat) : s.extract a b = S (((L s).take b).drop a) := L_inj (by rw [L_extract, L_S])
set_option maxRecDepth 100000 in
set_option maxHeartbeats 1000000 in
theorem l21Cut_any (s : ByteArray) (w : World) (hs : s.size ≤ 1048576) :
    Calls Tryd.prog 17 #[.string s, .int .u8 32] w (RowPost 9 1 (spl 32 (L s)).length (sv ((spl 32 (L s)).map S)) w) := by
  have z0 := World.ownsRow_lit (base := w.heap.size) (e := 9) (size := 1) w #[] 0 (Nat.le_refl _) (by unfold maxLen; omega) (by simp)
  have hb0 := (Below.refl w.heap.size w).alloc (Nat.le_refl _) (.cells #[] 9)
  go_enter Tryd.func17, Tryd.ntmps17
  go_wp2_with fail
  go_loopw [5, 6, 7] (fun o fr i wr => ∃ (k f : Nat) (done : List (List UInt8)), CutS s done f k ∧ done.length ≤ k ∧ i = .int .i64 (k : Int) ∧ fr = .int .i64 (f : Int) ∧ OwR wr w.heap.size 9 1 o done.length (sv (done.map S)) ∧ Below w.heap.size w wr) (fun _ _ i _ => s.size + 2 - (intOf i).toNat)
  case atStart => exact ⟨0, 0, [], .inl ⟨Nat.zero_le _, Nat.le_refl _, by simp, fun j _ _ h => absurd h (by omega)⟩, Nat.le_refl _, rfl, rfl, z0, hb0⟩
  case round =>
    clear z0 hb0
    obtain ⟨k, f, done, hC, hdl, rfl, rfl, hown, hb⟩ := hrel
    have HC := Lib.hid hC
    have hz := hb.size
    have hk1 : k ≤ s.size + 1 := by rcases hC with ⟨h, -⟩ | ⟨h, -⟩ <;> omega
    have q1 : (0 : Int) ≤ (k : Int) := by omega
    by_cases hk : k ≤ s.size
    · have hfk : f ≤ k := by rcases hC with ⟨-, h, -⟩ | ⟨h, -⟩ <;> omega
      have t0 : decide ((k : Int) ≤ (s.size : Int)) = true := decide_eq_true (by omega)
      have t0' : decide (k ≤ s.size) = true := decide_eq_true hk
      by_cases hke : k = s.size
      · have te : ((k : Int) == (s.size : Int)) = true := by rw [hke]; simp
        have te' : (k == s.size) = true := by rw [hke]; simp
        have HN := Lib.hid (cut_last hC hke)
        have HX := Lib.hid (cut_ext s f k)
        clear hC hke
        have hd6 : done.length ≤ 1048576 := by omega
        go_wp2_with (at_builtin; ((with_reducible refine wl_push 22 9 inf_str1 Tryd.underlying22 rfl (by omega) hown hz rfl (by simp [Value.oneCell']) (by omega) (by omega) rfl rfl ?_); intro g7 cap w7 o7 b7 k7))
        go_roundw
        case rel => exact ⟨k + 1, k + 1, done ++ [((L s).take k).drop f], HN.out, by simp; omega, by go_num, by go_num, by rw [List.length_append, List.map_append, sv_append]; rw [HX.out] at o7; exact o7, hb.trans b7⟩
        case measure => simp [intOf]; omega
      · have hlt : k < s.size := by omega
        have te : ((k : Int) == (s.size : Int)) = false := by rw [beq_eq_false_iff_ne]; omega
        have te' : (k == s.size) = false := by rw [beq_eq_false_iff_ne]; exact hke
        have q2 : (k : Int) < (s.size : Int) := by omega
        by_cases h32 : s[k] = 32
        · have tb : ((s[k].toNat : Int) == 32) = true := by rw [h32]; rfl
          have HN := Lib.hid (cut_push hC hlt h32)
          have HX := Lib.hid (cut_ext s f k)
          clear hC h32 hke
          have hd6 : done.length ≤ 1048576 := by omega
          go_wp2_with (at_builtin; ((with_reducible refine wl_push 22 9 inf_str1 Tryd.underlying22 rfl (by omega) hown hz rfl (by simp [Value.oneCell']) (by omega) (by omega) rfl rfl ?_); intro g7 cap w7 o7 b7 k7))
          go_roundw
          case rel => exact ⟨k + 1, k + 1, done ++ [((L s).take k).drop f], HN.out, by simp; omega, by go_num, by go_num, by rw [List.length_append, List.map_append, sv_append]; rw [HX.out] at o7; exact o7, hb.trans b7⟩
          case measure => simp [intOf]; omega
        · have tb : ((s[k].toNat : Int) == 32) = false := by
            rw [beq_eq_false_iff_ne]
            exact fun h => h32 (UInt8.toNat_inj.1 (by show _ = 32; omega))
          have HN := Lib.hid (cut_next hC hlt h32)
          clear hC h32 hke
          go_wp2_with fail
          go_roundw
          case rel => exact ⟨k + 1, f, done, HN.out, by omega, by go_num, rfl, hown, hb⟩
          case measure => simp [intOf]; omega
    · have t0 : decide ((k : Int) ≤ (s.size : Int)) = false := decide_eq_false (by omega)
      have t0' : decide (k ≤ s.size) = false := decide_eq_false hk
      have HD : Hid (done = spl 32 (L s)) := Lib.hid (by rcases hC with ⟨h, -⟩ | ⟨-, h⟩; exact absurd h hk; exact h)
      clear hC
      go_wp2_with fail
      go_ret
      exact ⟨_, rfl, by rw [← HD.out]; exact hown, hb⟩
end Go.Proofs.YtlpfhabfbnjnbaaDoor

/- The reference's l21Num: right at the digits of a small number, some number elsewhere. -/
namespace Go.Proofs.YtlpfhabfbnjnbaaDoor
open Go.RowKit

/-- The number v is what the text says, if the text is that of a small number. -/
def NumOk (t : List UInt8) (v : Int) : Prop := ∀ n : Nat, n < 100 → t = Lib.decDigits n → v = (n : Int)
/-- One digit more. -/
def numF (t : List UInt8) : Int := t.foldl (fun a c => wrap64 (wrap64 (a * 10) + ((c.toNat : Int) - 48))) 0
theorem numF_snoc (t : List UInt8) (c : UInt8) : numF (t ++ [c]) = wrap64 (wrap64 (numF t * 10) + ((c.toNat : Int) - 48)) := by simp [numF]
theorem numF_fin : ∀ p : Fin 100, numF (if p.val < 10 then [UInt8.ofNat (48 + p.val)] else [UInt8.ofNat (48 + p.val / 10), UInt8.ofNat (48 + p.val % 10)]) = (p.val : Int) := by decide +kernel
theorem num_all (t : List UInt8) : NumOk t (numF t) := fun n hn e => by rw [e, dec_lt hn]; exact numF_fin ⟨n, hn⟩
theorem num_bad {t : List UInt8} {c : UInt8} (hc : c ∈ t) (h : ¬ (48 ≤ c.toNat ∧ c.toNat ≤ 57)) (v : Int) : NumOk t v := fun n hn e => absurd (dec_dig hn c (by rw [← e]; exact hc)) h
theorem num_nil {t : List UInt8} (h : t.length = 0) (v : Int) : NumOk t v := fun n hn e => by
  have := (dec_len hn).1
  rw [← e] at this; omega
theorem num_long {t : List UInt8} (h : 17 < t.length) (v : Int) : NumOk t v := fun n hn e => by
  have := (dec_len hn).2
  rw [← e] at this; omega
theorem zero_fin : ∀ p : Fin 100, ((if p.val < 10 then [UInt8.ofNat (48 + p.val)] else [UInt8.ofNat (48 + p.val / 10), UInt8.ofNat (48 + p.val % 10)]) : List UInt8).head? = some 48 → p.val = 0 := by decide +kernel
theorem num_zero {t : List UInt8} (h : t.head? = some 48) (hl : 1 < t.length) (v : Int) : NumOk t v := fun n hn e => by
  rw [e, dec_lt hn] at h
  have h0 : n = 0 := zero_fin ⟨n, hn⟩ h
  subst h0
  have h2 : (Lib.decDigits 0).length = 1 := by rw [dec_lt (by omega)]; rfl
  rw [e] at hl; omega
theorem head_L {s : ByteArray} (h : 0 < s.size) : (L s).head? = some s[0] := by
  rw [List.head?_eq_getElem?, List.getElem?_eq_getElem (by rw [size_L]; exact h)]
  rfl
theorem take_L {s : ByteArray} {k : Nat} (h : k < s.size) : (L s).take (k + 1) = (L s).take k ++ [s[k]] := by
  rw [List.take_succ_eq_append_getElem (by rw [size_L]; exact h)]; rfl
/-- What l21Num answers. -/
def NumAns (s : ByteArray) (w : World) (e : Ending) (w' : World) : Prop := w = w' ∧ ∃ v b, NumOk (L s) v ∧ e = .returned (.tuple #[.int .i64 v, .bool b])
set_option maxRecDepth 100000 in
set_option maxHeartbeats 2000000 in
theorem l21Num_any (s : ByteArray) (w : World) (hs : s.size ≤ 1048576) :
    Calls Tryd.prog 18 #[.string s] w (NumAns s w) := by
  by_cases h0 : s.size = 0
  · have HO := Lib.hid (fun v => num_nil (t := L s) (by rw [size_L]; exact h0) v)
    go_enter Tryd.func18, Tryd.ntmps18
    go_wp2_with fail
    go_ret2
    exact ⟨rfl, _, _, HO.out _, rfl⟩
  have g0 : (0 : Int) < (s.size : Int) := by omega
  have g0' : 0 < s.size := by omega
  by_cases h45 : (s[0]'g0').toNat = 45
  · have HO : Hid (∀ v, NumOk (L s) v) := Lib.hid (fun v => num_bad (c := s[0]'g0') (by rw [getElem_L]; exact List.getElem_mem _) (by omega) v)
    have tm : (((s[0]'g0').toNat : Int) == 45) = true := by rw [h45]; rfl
    have hu := fun (u : ByteArray) (hu : u = s.extract 1 s.size) => (by rw [hu, ByteArray.size_extract]; omega : u.size ≤ 1048576)
    obtain ⟨u, hue⟩ : ∃ u, u = s.extract 1 s.size := ⟨_, rfl⟩
    have huz := hu u hue
    clear hu
    go_enter Tryd.func18, Tryd.ntmps18
    go_upto_region 4 with fail
    rw [← hue]
    clear hue
    by_cases hu0 : u.size = 0
    · go_wp2_with fail
      go_ret2
      exact ⟨rfl, _, _, HO.out _, rfl⟩
    have k0 : (0 : Int) < (u.size : Int) := by omega
    have k0' : 0 < u.size := by omega
    have kz : ((u.size : Int) == 0) = false := by rw [beq_eq_false_iff_ne]; omega
    by_cases hu17 : 17 < u.size
    · have t17 : (17 : Int) < (u.size : Int) := by omega
      go_wp2_with fail
      go_ret2
      exact ⟨rfl, _, _, HO.out _, rfl⟩
    by_cases hu48 : (u[0]'k0').toNat = 48
    · have tz : (((u[0]'k0').toNat : Int) == 48) = true := by rw [hu48]; rfl
      go_wp2_with fail
      all_goals (go_ret2; exact ⟨rfl, _, _, HO.out _, rfl⟩)
    have tz : (((u[0]'k0').toNat : Int) == 48) = false := by rw [beq_eq_false_iff_ne]; omega
    have n17 : ¬ (17 : Int) < (u.size : Int) := by omega
    go_wp2_with fail
    go_loop [5, 6] (fun n i => ∃ k : Nat, k ≤ u.size ∧ i = .int .i64 (k : Int) ∧ n = .int .i64 (numF ((L u).take k))) (fun _ i => u.size - (intOf i).toNat)
    case atStart => exact ⟨0, Nat.zero_le _, rfl, rfl⟩
    case round =>
      obtain ⟨k, hk, rfl, rfl⟩ := hrel
      by_cases hlt : k < u.size
      · have p1 : (0 : Int) ≤ (k : Int) := by omega
        have p2 : (k : Int) < (u.size : Int) := by omega
        have hbt := byte_lt u[k]
        by_cases h48 : (u[k].toNat : Int) < 48
        · have HO := Lib.hid (fun v => (HO.out v : NumOk (L s) v))
          go_wp2_with fail
          go_ret2
          exact ⟨rfl, _, _, HO.out _, rfl⟩
        by_cases h57 : (57 : Int) < (u[k].toNat : Int)
        · have HO := Lib.hid (fun v => (HO.out v : NumOk (L s) v))
          go_wp2_with fail
          go_ret2
          exact ⟨rfl, _, _, HO.out _, rfl⟩
        have HS : Hid (numF ((L u).take (k + 1)) = wrap64 (wrap64 (numF ((L u).take k) * 10) + ((u[k].toNat : Int) - 48))) := Lib.hid (by rw [take_L hlt, numF_snoc])
        generalize numF ((L u).take k) = x at *
        go_wp2_with fail
        go_round
        case rel => exact ⟨k + 1, by omega, by go_num, by rw [HS.out]⟩
        case measure => simp [intOf]; omega
      · have hk' : k = u.size := by omega
        subst hk'
        go_wp2_with fail
        go_ret2
        exact ⟨rfl, _, _, HO.out _, rfl⟩
  · have tm : (((s[0]'g0').toNat : Int) == 45) = false := by rw [beq_eq_false_iff_ne]; omega
    by_cases h17 : 17 < s.size
    · have HO := Lib.hid (fun v => num_long (t := L s) (by rw [size_L]; exact h17) v)
      have t17 : (17 : Int) < (s.size : Int) := by omega
      go_enter Tryd.func18, Tryd.ntmps18
      go_wp2_with fail
      go_ret2
      exact ⟨rfl, _, _, HO.out _, rfl⟩
    have n17 : ¬ (17 : Int) < (s.size : Int) := by omega
    have nz : ((s.size : Int) == 0) = false := by rw [beq_eq_false_iff_ne]; omega
    by_cases h48 : (s[0]'g0').toNat = 48
    · have tz : (((s[0]'g0').toNat : Int) == 48) = true := by rw [h48]; rfl
      by_cases h1 : 1 < s.size
      · have HO := Lib.hid (fun v => num_zero (t := L s) (by rw [head_L g0']; exact congrArg some (UInt8.toNat_inj.1 h48)) (by rw [size_L]; exact h1) v)
        have t1 : (1 : Int) < (s.size : Int) := by omega
        go_enter Tryd.func18, Tryd.ntmps18
        go_wp2_with fail
        go_ret2
        exact ⟨rfl, _, _, HO.out _, rfl⟩
      · have t1 : ¬ (1 : Int) < (s.size : Int) := by omega
        go_enter Tryd.func18, Tryd.ntmps18
        go_wp2_with fail
        go_loop [5, 6] (fun n i => ∃ k : Nat, k ≤ s.size ∧ i = .int .i64 (k : Int) ∧ n = .int .i64 (numF ((L s).take k))) (fun _ i => s.size - (intOf i).toNat)
        case atStart => exact ⟨0, Nat.zero_le _, rfl, rfl⟩
        case round =>
          obtain ⟨k, hk, rfl, rfl⟩ := hrel
          by_cases hlt : k < s.size
          · have p1 : (0 : Int) ≤ (k : Int) := by omega
            have p2 : (k : Int) < (s.size : Int) := by omega
            have hbt := byte_lt s[k]
            by_cases h48 : (s[k].toNat : Int) < 48
            · have HO := Lib.hid (fun v => (num_bad (c := s[k]) (by rw [getElem_L]; exact List.getElem_mem _) (by omega) v : NumOk (L s) v))
              go_wp2_with fail
              go_ret2
              exact ⟨rfl, _, _, HO.out _, rfl⟩
            by_cases h57 : (57 : Int) < (s[k].toNat : Int)
            · have HO := Lib.hid (fun v => (num_bad (c := s[k]) (by rw [getElem_L]; exact List.getElem_mem _) (by omega) v : NumOk (L s) v))
              go_wp2_with fail
              go_ret2
              exact ⟨rfl, _, _, HO.out _, rfl⟩
            have HS : Hid (numF ((L s).take (k + 1)) = wrap64 (wrap64 (numF ((L s).take k) * 10) + ((s[k].toNat : Int) - 48))) := Lib.hid (by rw [take_L hlt, numF_snoc])
            generalize numF ((L s).take k) = x at *
            go_wp2_with fail
            go_round
            case rel => exact ⟨k + 1, by omega, by go_num, by rw [HS.out]⟩
            case measure => simp [intOf]; omega
          · have hk' : k = s.size := by omega
            subst hk'
            have HO : Hid (NumOk (L s) (numF ((L s).take s.size))) := Lib.hid (by rw [List.take_of_length_le (by rw [size_L]; exact Nat.le_refl _)]; exact num_all _)
            go_wp2_with fail
            go_ret2
            exact ⟨rfl, _, _, HO.out, rfl⟩
    · have tz : (((s[0]'g0').toNat : Int) == 48) = false := by rw [beq_eq_false_iff_ne]; omega
      go_enter Tryd.func18, Tryd.ntmps18
      go_wp2_with fail
      go_loop [5, 6] (fun n i => ∃ k : Nat, k ≤ s.size ∧ i = .int .i64 (k : Int) ∧ n = .int .i64 (numF ((L s).take k))) (fun _ i => s.size - (intOf i).toNat)
      case atStart => exact ⟨0, Nat.zero_le _, rfl, rfl⟩
      case round =>
        obtain ⟨k, hk, rfl, rfl⟩ := hrel
        by_cases hlt : k < s.size
        · have p1 : (0 : Int) ≤ (k : Int) := by omega
          have p2 : (k : Int) < (s.size : Int) := by omega
          have hbt := byte_lt s[k]
          by_cases h48 : (s[k].toNat : Int) < 48
          · have HO := Lib.hid (fun v => (num_bad (c := s[k]) (by rw [getElem_L]; exact List.getElem_mem _) (by omega) v : NumOk (L s) v))
            go_wp2_with fail
            go_ret2
            exact ⟨rfl, _, _, HO.out _, rfl⟩
          by_cases h57 : (57 : Int) < (s[k].toNat : Int)
          · have HO := Lib.hid (fun v => (num_bad (c := s[k]) (by rw [getElem_L]; exact List.getElem_mem _) (by omega) v : NumOk (L s) v))
            go_wp2_with fail
            go_ret2
            exact ⟨rfl, _, _, HO.out _, rfl⟩
          have HS : Hid (numF ((L s).take (k + 1)) = wrap64 (wrap64 (numF ((L s).take k) * 10) + ((s[k].toNat : Int) - 48))) := Lib.hid (by rw [take_L hlt, numF_snoc])
          generalize numF ((L s).take k) = x at *
          go_wp2_with fail
          go_round
          case rel => exact ⟨k + 1, by omega, by go_num, by rw [HS.out]⟩
          case measure => simp [intOf]; omega
        · have hk' : k = s.size := by omega
          subst hk'
          have HO : Hid (NumOk (L s) (numF ((L s).take s.size))) := Lib.hid (by rw [List.take_of_length_le (by rw [size_L]; exact Nat.le_refl _)]; exact num_all _)
          go_wp2_with fail
          go_ret2
          exact ⟨rfl, _, _, HO.out, rfl⟩
end Go.Proofs.YtlpfhabfbnjnbaaDoor

/- The contract of ParseCage, in the reference. -/
namespace Go.Proofs.YtlpfhabfbnjnbaaDoor
open Go.RowKit

set_option maxRecDepth 100000 in
set_option maxHeartbeats 2000000 in
theorem specParseCage_any (s : ByteArray) (w : World) (hs : s.size ≤ 1048576) :
    Calls Tryd.prog 5 #[.string s] w (PcPost s w) := by
  have ob := (Own.new w [.slice none 0 0, .slice none 0 0] 25).alloc (.cells [.slice none 0 0, .slice none 0 0].toArray 25)
  have oc := Own.new (w.alloc (.cells [.slice none 0 0, .slice none 0 0].toArray 25)) [.slice none 0 0, .slice none 0 0] 25
  have hb0 := ((Below.refl w.heap.size w).alloc (Nat.le_refl _) (.cells [.slice none 0 0, .slice none 0 0].toArray 25)).alloc (by simp) (.cells [.slice none 0 0, .slice none 0 0].toArray 25)
  rw [World.size_alloc] at oc
  rcases first_of 47 (L s) with h47 | ⟨A, B, hAB, hA⟩
  · have hno : ∀ ws bs, ¬ ansIs s ws bs := fun ws bs h => h47 (ans_cut h)
    go_enter Tryd.func5, Tryd.ntmps5
    go_wp2_with fail
    refine (find_no s _ (by omega) h47).mono ?_
    rintro e w1 ⟨rfl, rfl⟩
    have u0 := ob.at_ (i := 0) rfl
    have u1 := ob.at_ (i := 1) rfl
    have v0 := ob.free 0 (by simp)
    have v1 := ob.free 1 (by simp)
    generalize ((w.alloc (.cells [.slice none 0 0, .slice none 0 0].toArray 25)).alloc (.cells [.slice none 0 0, .slice none 0 0].toArray 25)) = W1 at *
    go_wp2_with fail
    have o2 := (ob.set_ (i := 0) (by simp) (.slice none 0 0)).set_ (i := 1) (by simp) (.slice none 0 0)
    have hb2 := (hb0.setCell (p := ⟨w.heap.size, 0, none⟩) (Nat.le_refl _) (.slice none 0 0)).setCell (p := ⟨w.heap.size, 1, none⟩) (Nat.le_refl _) (.slice none 0 0)
    refine bodyPost_ret (results_cell_tmp_own Tryd.results5 _ _ _ _ _ _ (by rfl) (by rfl) o2.cells Tryd.underlying25 rfl (by kernel_rfl)) rfl ?_
    exact ⟨hb2, .inr ⟨hno, rfl⟩⟩
  · have hln := congrArg List.length hAB
    rw [size_L, List.length_append, List.length_cons] at hln
    have hxa : s.extract 0 A.length = S A := L_inj (by rw [L_extract, L_S, hAB, List.drop_zero, List.take_left])
    have hxb : s.extract (A.length + 1) s.size = S B := L_inj (by
      rw [L_extract, L_S, List.take_of_length_le (by rw [size_L]; exact Nat.le_refl _), hAB]
      have e : A ++ 47 :: B = (A ++ [47]) ++ B := by simp
      rw [e, List.drop_left' (by simp)])
    have ncA := fun W => l21Cut_any (S A) W (by rw [size_S]; omega)
    have ncB := fun W => l21Cut_any (S B) W (by rw [size_S]; omega)
    rw [L_S] at ncA ncB
    have hp1 := List.length_pos_iff.2 (spl_ne 32 A)
    have hp2 := List.length_pos_iff.2 (spl_ne 32 B)
    have HWL : Hid ((spl 32 A).length ≤ 1048577) := Lib.hid (by have h1 := spl_count 32 A; have h2 : List.count 32 A ≤ A.length := List.count_le_length; omega)
    have HTL : Hid ((spl 32 B).length ≤ 1048577) := Lib.hid (by have h1 := spl_count 32 B; have h2 : List.count 32 B ≤ B.length := List.count_le_length; omega)
    have HTS : Hid (∀ t ∈ spl 32 B, t.length ≤ 1048576) := Lib.hid (fun t ht => by have := spl_len B t ht; omega)
    have HWZ : Hid (∀ t ∈ (spl 32 A).map S, t.size ≤ 4294967296) := Lib.hid (fun t ht => by
      obtain ⟨p, hp, rfl⟩ := List.mem_map.1 ht
      rw [size_S]
      have := spl_len A p hp
      omega)
    have HRD := Lib.hid (fun vs (hv : saysN (spl 32 B) vs) hl ws bs h => ans_read hAB hA (ws := ws) (bs := bs) hv hl h)
    have HAB := Lib.hid hAB
    have nfi := fun W => find_yes s A B W (by omega) hAB hA
    have t0 : decide ((A.length : Int) < 0) = false := decide_eq_false (by omega)
    have hln1 : A.length + (B.length + 1) ≤ s.size := by omega
    clear hAB hA hln
    generalize spl 32 B = ts at *
    generalize hws : (spl 32 A).map S = ws at *
    have hwl : (spl 32 A).length = ws.length := by rw [← hws, List.length_map]
    rw [hwl] at ncA hp1 HWL
    clear hwl hws
    go_enter Tryd.func5, Tryd.ntmps5
    go_wp2_with fail
    refine (nfi _).mono ?_
    rintro e w1 ⟨rfl, rfl⟩
    generalize ((w.alloc (.cells [.slice none 0 0, .slice none 0 0].toArray 25)).alloc (.cells [.slice none 0 0, .slice none 0 0].toArray 25)) = W1 at *
    go_wp2_with fail
    refine (ncA _).mono ?_
    rintro e w2 ⟨lv, rfl, hol, hb2⟩
    obtain ⟨a1, c1, rfl, hc1, -, hg1⟩ := OwR.val hol
    obtain ⟨g1, rfl, hg1, oW2⟩ := hg1.resolve_left (by omega)
    have oc2 := oc.below hb2 oc.lt
    have ob2 := ob.below hb2 ob.lt
    have hbw2 := bt hb0 hb2
    have u0 := oc2.at_ (i := 0) rfl
    have v0 := oc2.free 0 (by simp)
    have hcg : w.heap.size + 1 < W1.heap.size := oc.lt
    have oc3 : Own (w2.setCell ⟨w.heap.size + 1, 0, none⟩ (.slice (some ⟨g1, 0, none⟩) ws.length c1)) (w.heap.size + 1) [.slice (some ⟨g1, 0, none⟩) ws.length c1, .slice none 0 0] := oc2.set_ (i := 0) (by simp) (.slice (some ⟨g1, 0, none⟩) ws.length c1)
    have ob3 := ob2.far (p := ⟨w.heap.size + 1, 0, none⟩) (by simp) (.slice (some ⟨g1, 0, none⟩) ws.length c1)
    have oW3 := oW2.far (p := ⟨w.heap.size + 1, 0, none⟩) (by simp; omega) (.slice (some ⟨g1, 0, none⟩) ws.length c1)
    have hb3 := hbw2.setCell (p := ⟨w.heap.size + 1, 0, none⟩) (by simp) (.slice (some ⟨g1, 0, none⟩) ws.length c1)
    clear oc ob hb0 hol hb2 oc2 ob2 hbw2 nfi ncA
    go_wp2_with fail
    generalize w2.setCell ⟨w.heap.size + 1, 0, none⟩ (.slice (some ⟨g1, 0, none⟩) ws.length c1) = w3 at *
    refine (ncB _).mono ?_
    rintro e w4 ⟨lv4, rfl, hol4, hb4⟩
    obtain ⟨aT, cT, rfl, -, -, hgT⟩ := OwR.val hol4
    obtain ⟨gT, rfl, hgT, oT4⟩ := hgT.resolve_left (by omega)
    have oc4 := oc3.below hb4 oc3.lt
    have ob4 := ob3.below hb4 ob3.lt
    have oW4 := oW3.below hb4 oW3.lt
    have hbw4 := bt hb3 hb4
    have hg3 := oW3.lt
    have hTl := oT4.lt
    clear oc3 ob3 oW3 hb3 hol4 hb4 u0 v0 oW2 ncB
    obtain ⟨Bl, hBl⟩ : ∃ Bl, Bl = w4.heap.size := ⟨_, rfl⟩
    rw [← hBl] at hTl
    have hgTW : g1 < gT := by omega
    have hgc2 : w.heap.size + 1 < g1 := by omega
    have HTN := Lib.hid (show (sv (ts.map S)).length = ts.length by rw [length_sv, List.length_map])
    go_wp2_with fail
    go_loopw [7, 8, 9] (fun i _ _ wr => ∃ (k : Nat) (vs : List Int) (v : Value), k ≤ ts.length ∧ k ≤ 10 ∧ i = .int .i64 (k : Int) ∧ vs.length = k ∧ saysN ts vs ∧ Bl ≤ wr.heap.size ∧ OwR wr Bl 3 1 v k (iv vs) ∧ Own wr (w.heap.size + 1) [.slice (some ⟨g1, 0, none⟩) ws.length c1, v] ∧ Own wr gT (sv (ts.map S)) ∧ Own wr g1 (sv ws) ∧ Own wr w.heap.size [.slice none 0 0, .slice none 0 0] ∧ Below w.heap.size w wr) (fun i _ _ _ => ts.length - (intOf i).toNat)
    case atStart => exact ⟨0, [], .slice none 0 0, Nat.zero_le _, Nat.zero_le _, rfl, rfl, says_nil _, by omega, World.ownsRow_nil w4 Bl 3 1, oc4, oT4, oW4, ob4, hbw4⟩
    case round =>
      clear oc4 oT4 oW4 ob4 hbw4 hBl
      obtain ⟨k, vs, v, hk, hk10, rfl, hvl, hsn, hBr, hown, oc, oT, oW, ob, hb⟩ := hrel
      have HVL := Lib.hid hvl
      have HSN := Lib.hid hsn
      clear hsn
      have p1 : (0 : Int) ≤ (k : Int) := by omega
      by_cases hgo : k < ts.length ∧ k ≤ 9
      · obtain ⟨hlt, hk9⟩ := hgo
        have d1 := oT.at_ (i := k) (u := .string (S ts[k])) (by rw [sv_at (by rw [List.length_map]; exact hlt), List.getElem_map])
        have p2 : (k : Int) < (ts.length : Int) := by omega
        have p3 : (k : Int) ≤ 9 := by omega
        have nnm := fun W => l21Num_any (S ts[k]) W (by rw [size_S]; exact HTS.out _ (List.getElem_mem hlt))
        have HNX := Lib.hid (fun x (hx : NumOk ts[k] x) => says_snoc (v := x) HSN.out (by rw [HVL.out]; exact hlt) (fun n hn e => hx n hn (by rw [← e]; congr 1; exact HVL.out.symm)))
        have HLS := Lib.hid (L_S ts[k])
        clear hvl
        generalize ts[k] = t at *
        go_wp2_with fail
        refine (nnm _).mono ?_
        rintro e w' ⟨rfl, x, b, hx, rfl⟩
        rw [HLS.out] at hx
        have HSN2 := Lib.hid (HNX.out x hx)
        have e1 := oc.at_ (i := 1) rfl
        clear d1 nnm HNX hx HLS
        go_wp2_with (first | ((at_builtin; ((with_reducible refine wl_push 23 3 inf_int1 Tryd.underlying23 rfl (by omega) hown hBr rfl (by simp [Value.oneCell']) (by omega) (by omega) rfl rfl ?_); intro g6 cap w6 o6 b6 k6)); have oc6 := oc.below b6 (by omega); have u1 := oc6.at_ (i := 1) rfl; have v1 := oc6.free 1 (by simp)))
        have oT7 := (oT.below b6 (by omega)).far (p := ⟨w.heap.size + 1, 1, none⟩) (by simp; omega) (.slice (some ⟨g6, 0, none⟩) (k + 1) cap)
        have oW7 := (oW.below b6 (by omega)).far (p := ⟨w.heap.size + 1, 1, none⟩) (by simp; omega) (.slice (some ⟨g6, 0, none⟩) (k + 1) cap)
        have ob7 := (ob.below b6 (by omega)).far (p := ⟨w.heap.size + 1, 1, none⟩) (by simp) (.slice (some ⟨g6, 0, none⟩) (k + 1) cap)
        have oc7 := oc6.set_ (i := 1) (by simp) (.slice (some ⟨g6, 0, none⟩) (k + 1) cap)
        have o7 := OwR.far o6 (p := ⟨w.heap.size + 1, 1, none⟩) (by simp; omega) (.slice (some ⟨g6, 0, none⟩) (k + 1) cap)
        have hb7 := (hb.trans (b6.mono (by omega))).setCell (p := ⟨w.heap.size + 1, 1, none⟩) (by simp) (.slice (some ⟨g6, 0, none⟩) (k + 1) cap)
        go_roundw
        case rel => exact ⟨k + 1, vs ++ [x], _, by omega, by omega, by go_num, by rw [List.length_append, HVL.out]; rfl, HSN2.out, by simp [World.setCell]; omega, by rw [show iv (vs ++ [x]) = iv vs ++ [.int .i64 x] by simp [iv]]; exact o7, oc7, oT7, oW7, ob7, hb7⟩
        case measure => simp [intOf]; omega
      · by_cases hlt : k < ts.length
        · have p2 : (k : Int) < (ts.length : Int) := by omega
          have p3 : ¬ (k : Int) ≤ 9 := by omega
          have rW : Reads wr wr.heap.size (some ⟨g1, 0, none⟩) (sv ws) := Reads.of_own oW oW.lt
          obtain ⟨aB, cB, rfl, hcB, hrB, hgB⟩ := OwR.val hown
          have c0 := oc.at_ (i := 0) rfl
          have c1' := oc.at_ (i := 1) rfl
          have hvl' : vs.length = k := hvl
          have nf := fun W r1 r2 => specFormatCage_any (some ⟨g1, 0, none⟩) aB c1 cB ws vs W r1 r2 HWZ.out (by have := HWL.out; omega) (by omega)
          rw [hvl'] at nf
          have HMN : Hid (min 10 ts.length ≤ vs.length) := Lib.hid (by omega)
          clear hvl hvl'
          go_wp2_with fail
          refine (nf _ rW hrB).mono ?_
          rintro e w5 ⟨rfl, hb5⟩
          have oc5 := oc.below hb5 oc.lt
          have oW5 := oW.below hb5 oW.lt
          have ob5 := ob.below hb5 ob.lt
          have hbw5 := bt hb hb5
          have e0 := oc5.at_ (i := 0) rfl
          have e1 := oc5.at_ (i := 1) rfl
          have u0 := ob5.at_ (i := 0) rfl
          have u1 := ob5.at_ (i := 1) rfl
          have v0 := ob5.free 0 (by simp)
          have v1 := ob5.free 1 (by simp)
          clear oc oW ob hb c0 c1' nf oT
          by_cases hf : fmtC ws vs = s
          · have te : ((fmtC ws vs).toList == s.toList) = true := by rw [hf]; simp
            have hans := fmt_ne (by omega) hf
            have h1 := (cage_iff.1 hans.1).1
            have HV2 := HVL.out
            obtain ⟨g2, rfl, hg2, oB⟩ := hgB.resolve_left (by omega)
            have oB5 := oB.below hb5 oB.lt
            have HANS := Lib.hid hans
            have HVV := Lib.hid HV2
            clear hans h1 HV2 hf oB hown hrB rW hb5
            generalize fmtC ws vs = fs at *
            go_wp2_with fail
            have o2 := (ob5.set_ (i := 0) (by simp) (.slice (some ⟨g1, 0, none⟩) ws.length c1)).set_ (i := 1) (by simp) (.slice (some ⟨g2, 0, none⟩) k cB)
            have hb2 := (hbw5.setCell (p := ⟨w.heap.size, 0, none⟩) (Nat.le_refl _) (.slice (some ⟨g1, 0, none⟩) ws.length c1)).setCell (p := ⟨w.heap.size, 1, none⟩) (Nat.le_refl _) (.slice (some ⟨g2, 0, none⟩) k cB)
            have oW6 := (oW5.far (p := ⟨w.heap.size, 0, none⟩) (by simp; omega) (.slice (some ⟨g1, 0, none⟩) ws.length c1)).far (p := ⟨w.heap.size, 1, none⟩) (by simp; omega) (.slice (some ⟨g2, 0, none⟩) k cB)
            have oB6 := (oB5.far (p := ⟨w.heap.size, 0, none⟩) (by simp; omega) (.slice (some ⟨g1, 0, none⟩) ws.length c1)).far (p := ⟨w.heap.size, 1, none⟩) (by simp; omega) (.slice (some ⟨g2, 0, none⟩) k cB)
            refine bodyPost_ret (results_cell_tmp_own Tryd.results5 _ _ _ _ _ _ (by rfl) (by rfl) o2.cells Tryd.underlying25 rfl (by kernel_rfl)) rfl ?_
            exact ⟨hb2, .inl ⟨ws, vs, g1, c1, g2, cB, HANS.out, by rw [HVV.out]; rfl, by omega, by omega, by omega, hc1, oW6, oB6⟩⟩
          · have te : ((fmtC ws vs).toList == s.toList) = false := by
              rw [toList_L, toList_L, beq_eq_false_iff_ne]
              exact fun h => hf (L_inj h)
            have hno : ∀ ws' bs, ¬ ansIs s ws' bs := fun ws' bs h => by
              obtain ⟨rfl, rfl⟩ := HRD.out vs HSN.out HMN.out ws' bs h
              exact hf h.2
            clear hf
            generalize fmtC ws vs = fs at *
            go_wp2_with fail
            have o2 := (ob5.set_ (i := 0) (by simp) (.slice none 0 0)).set_ (i := 1) (by simp) (.slice none 0 0)
            have hb2 := (hbw5.setCell (p := ⟨w.heap.size, 0, none⟩) (Nat.le_refl _) (.slice none 0 0)).setCell (p := ⟨w.heap.size, 1, none⟩) (Nat.le_refl _) (.slice none 0 0)
            refine bodyPost_ret (results_cell_tmp_own Tryd.results5 _ _ _ _ _ _ (by rfl) (by rfl) o2.cells Tryd.underlying25 rfl (by kernel_rfl)) rfl ?_
            exact ⟨hb2, .inr ⟨hno, rfl⟩⟩
        · have p2 : ¬ (k : Int) < (ts.length : Int) := by omega
          have rW : Reads wr wr.heap.size (some ⟨g1, 0, none⟩) (sv ws) := Reads.of_own oW oW.lt
          obtain ⟨aB, cB, rfl, hcB, hrB, hgB⟩ := OwR.val hown
          have c0 := oc.at_ (i := 0) rfl
          have c1' := oc.at_ (i := 1) rfl
          have hvl' : vs.length = k := hvl
          have nf := fun W r1 r2 => specFormatCage_any (some ⟨g1, 0, none⟩) aB c1 cB ws vs W r1 r2 HWZ.out (by have := HWL.out; omega) (by omega)
          rw [hvl'] at nf
          have HMN : Hid (min 10 ts.length ≤ vs.length) := Lib.hid (by omega)
          clear hvl hvl'
          go_wp2_with fail
          refine (nf _ rW hrB).mono ?_
          rintro e w5 ⟨rfl, hb5⟩
          have oc5 := oc.below hb5 oc.lt
          have oW5 := oW.below hb5 oW.lt
          have ob5 := ob.below hb5 ob.lt
          have hbw5 := bt hb hb5
          have e0 := oc5.at_ (i := 0) rfl
          have e1 := oc5.at_ (i := 1) rfl
          have u0 := ob5.at_ (i := 0) rfl
          have u1 := ob5.at_ (i := 1) rfl
          have v0 := ob5.free 0 (by simp)
          have v1 := ob5.free 1 (by simp)
          clear oc oW ob hb c0 c1' nf oT
          by_cases hf : fmtC ws vs = s
          · have te : ((fmtC ws vs).toList == s.toList) = true := by rw [hf]; simp
            have hans := fmt_ne (by omega) hf
            have h1 := (cage_iff.1 hans.1).1
            have HV2 := HVL.out
            obtain ⟨g2, rfl, hg2, oB⟩ := hgB.resolve_left (by omega)
            have oB5 := oB.below hb5 oB.lt
            have HANS := Lib.hid hans
            have HVV := Lib.hid HV2
            clear hans h1 HV2 hf oB hown hrB rW hb5
            generalize fmtC ws vs = fs at *
            go_wp2_with fail
            have o2 := (ob5.set_ (i := 0) (by simp) (.slice (some ⟨g1, 0, none⟩) ws.length c1)).set_ (i := 1) (by simp) (.slice (some ⟨g2, 0, none⟩) k cB)
            have hb2 := (hbw5.setCell (p := ⟨w.heap.size, 0, none⟩) (Nat.le_refl _) (.slice (some ⟨g1, 0, none⟩) ws.length c1)).setCell (p := ⟨w.heap.size, 1, none⟩) (Nat.le_refl _) (.slice (some ⟨g2, 0, none⟩) k cB)
            have oW6 := (oW5.far (p := ⟨w.heap.size, 0, none⟩) (by simp; omega) (.slice (some ⟨g1, 0, none⟩) ws.length c1)).far (p := ⟨w.heap.size, 1, none⟩) (by simp; omega) (.slice (some ⟨g2, 0, none⟩) k cB)
            have oB6 := (oB5.far (p := ⟨w.heap.size, 0, none⟩) (by simp; omega) (.slice (some ⟨g1, 0, none⟩) ws.length c1)).far (p := ⟨w.heap.size, 1, none⟩) (by simp; omega) (.slice (some ⟨g2, 0, none⟩) k cB)
            refine bodyPost_ret (results_cell_tmp_own Tryd.results5 _ _ _ _ _ _ (by rfl) (by rfl) o2.cells Tryd.underlying25 rfl (by kernel_rfl)) rfl ?_
            exact ⟨hb2, .inl ⟨ws, vs, g1, c1, g2, cB, HANS.out, by rw [HVV.out]; rfl, by omega, by omega, by omega, hc1, oW6, oB6⟩⟩
          · have te : ((fmtC ws vs).toList == s.toList) = false := by
              rw [toList_L, toList_L, beq_eq_false_iff_ne]
              exact fun h => hf (L_inj h)
            have hno : ∀ ws' bs, ¬ ansIs s ws' bs := fun ws' bs h => by
              obtain ⟨rfl, rfl⟩ := HRD.out vs HSN.out HMN.out ws' bs h
              exact hf h.2
            clear hf
            generalize fmtC ws vs = fs at *
            go_wp2_with fail
            have o2 := (ob5.set_ (i := 0) (by simp) (.slice none 0 0)).set_ (i := 1) (by simp) (.slice none 0 0)
            have hb2 := (hbw5.setCell (p := ⟨w.heap.size, 0, none⟩) (Nat.le_refl _) (.slice none 0 0)).setCell (p := ⟨w.heap.size, 1, none⟩) (Nat.le_refl _) (.slice none 0 0)
            refine bodyPost_ret (results_cell_tmp_own Tryd.results5 _ _ _ _ _ _ (by rfl) (by rfl) o2.cells Tryd.underlying25 rfl (by kernel_rfl)) rfl ?_
            exact ⟨hb2, .inr ⟨hno, rfl⟩⟩
end Go.Proofs.YtlpfhabfbnjnbaaDoor
