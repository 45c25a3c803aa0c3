/- Several of my texts in one: PairI, PrA, PrB, PrC, PpW. -/
import Derived.Test.YtnnblmibonnpcaaGreatM16
import Derived.Test.YtnnblmibonnpcaaGreatM7
import Derived.Test.YtnnblmibonnpcaaGreatM1
import Derived.Test.YtnnblmibonnpcaaGreatM10
import Derived.Test.YtnnblmibonnpcaaGreatM11
import Derived.Test.YtnnblmibonnpcaaGreatM5
/- Whether the cycles of a permutation come in pairs, in the program. -/
namespace Go.Proofs.YtnnblmibonnpcaaGreat
open Go.RowKit

/-- One bit a length, each seen an odd number of times. -/
def xmT (l : List Int) : Nat := l.foldl (fun m x => m ^^^ 2 ^ x.toNat) 0
theorem xmT_snoc (l : List Int) (x : Int) : xmT (l ++ [x]) = xmT l ^^^ 2 ^ x.toNat := by simp [xmT]
theorem xmT_lt {l : List Int} (h : ∀ x ∈ l, x.toNat ≤ 10) : xmT l < 2 ^ 11 := by
  have aux : ∀ (l : List Int) (m : Nat), m < 2 ^ 11 → (∀ x ∈ l, x.toNat ≤ 10) → l.foldl (fun m x => m ^^^ 2 ^ x.toNat) m < 2 ^ 11 := by
    intro l
    induction l with
    | nil => intro m h _; exact h
    | cons x l ih =>
      intro m hm hl
      refine ih _ (Nat.xor_lt_two_pow hm (Nat.pow_lt_pow_right (by omega) (by have := hl x (by simp); omega))) (fun y hy => hl y (by simp [hy]))
  exact aux l 0 (by decide) h
/-- Whether the cycles come in pairs. -/
def pairedB (p : List Nat) : Bool := decide (xmT (lenD p) = 0)
set_option maxRecDepth 100000 in
set_option maxHeartbeats 2000000 in
theorem paired_any (p : List Nat) (w : World) (hp : IsP p) :
    Calls Tryz.prog 21 #[.agg (pv p).toArray] w fun e w' => e = .returned (.bool (pairedB p)) ∧ Below w.heap.size w w' := by
  have o0 := Own.new w (pv p) 42
  have hb0 := (Below.refl w.heap.size w).alloc (Nat.le_refl _) (.cells (pv p).toArray 42)
  have hcl : (cycs p).length ≤ 10 := cycsTo_len p 10
  have hln := fun W => lengths_any p W hp
  rw [← len_lenD] at hcl hln
  have HM := Lib.hid (mem_lenD hp)
  have HP : Hid (pairedB p = decide (xmT (lenD p) = 0)) := Lib.hid rfl
  generalize pairedB p = pb at *
  generalize lenD p = ld at *
  go_enter Tryz.func21, Tryz.ntmps21
  go_wp2_with ((with_reducible refine wl_load 42 o0.cells (size_pv hp.len) Tryz.underlying42 ?_ ?_ ?_ ?_); (· rfl); (· rfl); (· rfl))
  refine (hln _).mono ?_
  rintro e w1 ⟨cv, rfl, oc, hb1⟩
  obtain ⟨ca, cc, rfl, -, hrc, -⟩ := OwR.val oc
  have hbw1 := bt hb0 hb1
  clear hb0 hb1 oc o0
  have HRC := Lib.hid hrc
  clear hrc
  go_wp2_with fail
  go_loop [3, 5, 9] (fun u _ i => ∃ k : Nat, k ≤ ld.length ∧ i = .int .i64 k ∧ u = .int .i64 (xmT (ld.take k) : Nat)) (fun _ _ i => ld.length - (intOf i).toNat)
  case atStart => exact ⟨0, Nat.zero_le _, rfl, rfl⟩
  case round =>
    obtain ⟨k, hk, rfl, rfl⟩ := hrel
    by_cases hlt : k < ld.length
    · obtain ⟨b, off, rfl, hbl, hcl2⟩ := HRC.out.open_ (by rw [length_iv]; omega)
      have c1 := hcl2 k (by rw [length_iv]; exact hlt)
      rw [iv_at hlt] at c1
      clear hcl2
      have q1 : (0 : Int) ≤ (k : Int) := by omega
      have q2 : (k : Int) < (ld.length : Int) := by omega
      obtain ⟨n, hn, n1, n2⟩ := HM.out _ (List.getElem_mem hlt)
      have HS : Hid (xmT (ld.take (k + 1)) = xmT (ld.take k) ^^^ 2 ^ n) := Lib.hid (by rw [List.take_succ_eq_append_getElem hlt, xmT_snoc, hn]; rfl)
      have hb11 : xmT (ld.take k) < 2048 := xmT_lt (fun x hx => by
        obtain ⟨n, rfl, h1, h2⟩ := HM.out x (List.mem_of_mem_take hx)
        omega)
      rw [hn] at c1
      have hpw : 2 ^ n ≤ 1024 := Nat.pow_le_pow_right (n := 2) (by omega) n2
      have hx := i64_xor_nat (xmT (ld.take k)) (2 ^ n) (by omega) (by omega)
      have hwr : wrap64 (2 ^ n) = ((2 ^ n : Nat) : Int) := by
        have h2 : (2 : Int) ^ n = ((2 ^ n : Nat) : Int) := by simp
        rw [h2]
        clear h2 hx
        generalize (2 ^ n : Nat) = x at *
        unfold wrap64; omega
      clear hn
      generalize xmT (ld.take k) = mk at *
      go_wp2_with fail
      go_round
      case rel => exact ⟨k + 1, by omega, by go_num, by rw [HS.out, show ((2 : Int) ^ n) = ((2 ^ n : Nat) : Int) by simp, hx]⟩
      case measure => simp [intOf]; omega
    · have hk' : k = ld.length := by omega
      subst hk'
      rw [List.take_length]
      have HE : Hid ((((xmT ld : Nat) : Int) == 0) = pb) := Lib.hid (by
        rw [HP.out, Bool.eq_iff_iff, beq_iff_eq, decide_eq_true_eq]; omega)
      go_wp2
      go_ret
      exact ⟨ret_bool HE.out, hbw1⟩
set_option maxRecDepth 100000 in
set_option maxHeartbeats 2000000 in
theorem PairedCycles_yes (p : List Nat) (w : World) (hp : IsP p) :
    Calls Tryz.prog 9 #[.string (wd p)] w fun e w' => e = .returned (.bool (pairedB p)) ∧ Below w.heap.size w w' := by
  have hpl := size_pv10 hp
  have hps : (wd p).size ≤ 4294967296 := by rw [size_wd, hp.len]; omega
  have n1 := fun W => permOf_any (wd p) W hps
  rw [permB_wd hp, permC_yes, dg_wd hp.lt] at n1
  have npr := fun W => paired_any p W hp
  generalize pairedB p = pb at *
  go_enter Tryz.func9, Tryz.ntmps9
  go_wp2_with fail
  refine (n1 _).mono ?_
  rintro e w1 ⟨rfl, hb1⟩
  have o1 : Own (w1.alloc (.cells #[.int .u8 0, .int .u8 0, .int .u8 0, .int .u8 0, .int .u8 0, .int .u8 0, .int .u8 0, .int .u8 0, .int .u8 0, .int .u8 0] 42)) w1.heap.size z10 := Own.new w1 z10 42
  have hz1 := hb1.size
  have hbw := hb1.alloc (by omega) (.cells #[.int .u8 0, .int .u8 0, .int .u8 0, .int .u8 0, .int .u8 0, .int .u8 0, .int .u8 0, .int .u8 0, .int .u8 0, .int .u8 0] 42)
  go_wp2_with (first | ((with_reducible refine wl_store 42 0 o1 (size_pv hp.len) (pv_one _) (by rw [hpl, len_z10]; omega) ?_ ?_ ?_ ?_); (· rfl); (· rfl); (· rfl); intro w2 o2 b2 s2; rw [put_z10 hpl] at o2) | ((with_reducible refine wl_load 42 o2.cells (size_pv hp.len) Tryz.underlying42 ?_ ?_ ?_ ?_); (· rfl); (· rfl); (· rfl)))
  simp only [World.size_alloc] at s2
  have hbw2 := bel_store hbw b2 (by simp; omega) (by omega)
  refine (npr _).mono ?_
  rintro e w3 ⟨rfl, hb3⟩
  go_wp2
  go_ret
  exact ⟨rfl, bt hbw2 hb3⟩
/-- The letters before i that p moves past p's i. -/
def invN (p : List Nat) (i j : Nat) : Nat := ((List.range j).filter fun t => decide (pAt p i < pAt p t)).length
theorem invN_succ (p : List Nat) (i j : Nat) : invN p i (j + 1) = invN p i j + if pAt p i < pAt p j then 1 else 0 := by
  unfold invN
  rw [List.range_succ, List.filter_append, List.length_append]
  by_cases h : pAt p i < pAt p j <;> simp [h]
/-- The inversions of the first letters. -/
def invS (p : List Nat) : Nat → Nat
  | 0 => 0
  | k + 1 => invS p k + invN p k k
/-- One, or minus one. -/
def sgN (n : Nat) : Int := if n % 2 = 0 then 1 else -1
theorem sgN_neg (n : Nat) : -sgN n = sgN (n + 1) := by
  unfold sgN
  rcases Nat.mod_two_eq_zero_or_one n with h | h
  · rw [if_pos h, if_neg (by omega)]
  · rw [if_neg (by omega), if_pos (by omega)]; rfl
theorem sgN_cases (n : Nat) : sgN n = 1 ∨ sgN n = -1 := by
  unfold sgN; split
  · exact .inl rfl
  · exact .inr rfl
set_option maxRecDepth 100000 in
set_option maxHeartbeats 2000000 in
theorem PermSign_yes (p : List Nat) (w : World) (hp : IsP p) :
    Calls Tryz.prog 10 #[.string (wd p)] w fun e w' => e = .returned (.int .i64 (sgN (invS p 10))) ∧ Below w.heap.size w w' := by
  have hpl := size_pv10 hp
  have hps : (wd p).size ≤ 4294967296 := by rw [size_wd, hp.len]; omega
  have n1 := fun W => permOf_any (wd p) W hps
  rw [permB_wd hp, permC_yes, dg_wd hp.lt] at n1
  go_enter Tryz.func10, Tryz.ntmps10
  go_wp2_with fail
  refine (n1 _).mono ?_
  rintro e w1 ⟨rfl, hb1⟩
  have o1 : Own (w1.alloc (.cells #[.int .u8 0, .int .u8 0, .int .u8 0, .int .u8 0, .int .u8 0, .int .u8 0, .int .u8 0, .int .u8 0, .int .u8 0, .int .u8 0] 42)) w1.heap.size z10 := Own.new w1 z10 42
  have hz1 := hb1.size
  have hbw := hb1.alloc (by omega) (.cells #[.int .u8 0, .int .u8 0, .int .u8 0, .int .u8 0, .int .u8 0, .int .u8 0, .int .u8 0, .int .u8 0, .int .u8 0, .int .u8 0] 42)
  go_wp2_with ((with_reducible refine wl_store 42 0 o1 (size_pv hp.len) (pv_one _) (by rw [hpl, len_z10]; omega) ?_ ?_ ?_ ?_); (· rfl); (· rfl); (· rfl); intro w2 o2 b2 s2; rw [put_z10 hpl] at o2)
  simp only [World.size_alloc] at s2
  have hbw2 := bel_store hbw b2 (by simp; omega) (by omega)
  clear o1 hbw b2 s2 n1 hb1
  go_loopw [5, 6, 7, 15, 19] (fun s _ _ i _ wr => ∃ k n : Nat, k ≤ 10 ∧ i = .int .i64 k ∧ s = .int .i64 (sgN (invS p k)) ∧ wr = w2.drewN n) (fun _ _ _ i _ _ => 10 - (intOf i).toNat)
  case atStart => exact ⟨0, 0, by omega, rfl, rfl, rfl⟩
  case round =>
    obtain ⟨k, n, hk, rfl, rfl, rfl⟩ := hrel
    by_cases hlt : k < 10
    · have tk : decide ((k : Int) < 10) = true := decide_eq_true (by omega)
      have HI : Hid (invS p (k + 1) = invS p k + invN p k k) := Lib.hid rfl
      go_wp2_with fail
      go_loopw [5, 7, 19] (fun s _ j wr => ∃ i n : Nat, i ≤ k ∧ j = .int .i64 i ∧ s = .int .i64 (sgN (invS p k + invN p k i)) ∧ wr = w2.drewN n) (fun _ _ j _ => k - (intOf j).toNat)
      case atStart => exact ⟨0, n, by omega, rfl, rfl, rfl⟩
      case round =>
        obtain ⟨i, n, hi, rfl, rfl, rfl⟩ := hrel
        by_cases hl2 : i < k
        · have tk2 : decide ((i : Int) < (k : Int)) = true := decide_eq_true (by omega)
          have o3 := o2
          have c1 := o2.at_ (pv_at (p := p) (i := i) (by rw [hp.len]; omega))
          have c2 := o2.at_ (pv_at (p := p) (i := k) (by rw [hp.len]; omega))
          have HV := Lib.hid (invN_succ p k i)
          have hx1 := hp.at_lt (show i < 10 by omega)
          have hx2 := hp.at_lt hlt
          have q1 : (0 : Int) ≤ (i : Int) := by omega
          have q2 : (i : Int) < 10 := by omega
          have q3 : (0 : Int) ≤ (k : Int) := by omega
          have q4 : (k : Int) < 10 := by omega
          by_cases hgt : pAt p k < pAt p i
          · have tg : decide (pAt p k < pAt p i) = true := decide_eq_true hgt
            have HV2 : Hid (invN p k (i + 1) = invN p k i + 1) := Lib.hid (by rw [HV.out, if_pos hgt])
            have HN := Lib.hid (sgN_neg (invS p k + invN p k i))
            have hsg := sgN_cases (invS p k + invN p k i)
            have HW : Hid (wrap64 (-sgN (invS p k + invN p k i)) = -sgN (invS p k + invN p k i)) := Lib.hid (by rcases hsg with h | h <;> rw [h] <;> unfold wrap64 <;> omega)
            clear hgt hsg
            generalize hs : sgN (invS p k + invN p k i) = sg at *
            have HS := Lib.hid hs
            clear hs
            go_wp2_with fail
            go_quiet (fail)
            go_wp2
            go_roundw
            case rel => exact ⟨i + 1, _, by omega, by go_num, by rw [HV2.out, ← Nat.add_assoc, ← HN.out, HW.out], rfl⟩
            case measure => simp [intOf]; omega
          · have tg : decide (pAt p k < pAt p i) = false := decide_eq_false hgt
            have HV2 : Hid (invN p k (i + 1) = invN p k i) := Lib.hid (by rw [HV.out, if_neg hgt]; rfl)
            clear hgt
            go_wp2_with fail
            go_quiet (fail)
            go_wp2
            go_roundw
            case rel => exact ⟨i + 1, _, by omega, by go_num, by rw [HV2.out], rfl⟩
            case measure => simp [intOf]; omega
        · have hik : i = k := by omega
          subst hik
          have tk2 : decide ((i : Int) < (i : Int)) = false := decide_eq_false (by omega)
          go_wp2
          go_roundw
          case rel => exact ⟨i + 1, n, by omega, by go_num, by rw [HI.out], rfl⟩
          case measure => simp [intOf]; omega
    · have hk' : k = 10 := by omega
      subst hk'
      go_wp2
      go_ret
      exact ⟨rfl, bel_drewN hbw2 n⟩
end Go.Proofs.YtnnblmibonnpcaaGreat

/- Plain laws: lists turned by an involution; parity. -/
namespace Go.Proofs.YtnnblmibonnpcaaGreat

/-- An involution that fixes nothing of a list pairs it off. -/
theorem even_of_inv {α : Type} [DecidableEq α] (f : α → α) : ∀ (n : Nat) (l : List α), l.length = n → l.Nodup → (∀ x ∈ l, f x ∈ l) → (∀ x ∈ l, f (f x) = x) → (∀ x ∈ l, f x ≠ x) → n % 2 = 0 := by
  intro n
  induction n using Nat.strongRecOn with
  | ind n ih =>
    intro l hl hd hc hi hf
    match l, hl with
    | [], hl => simp at hl; subst hl; rfl
    | x :: t, hl =>
      have hx := hc x (by simp)
      have hne := hf x (by simp)
      have hd2 := List.nodup_cons.1 hd
      have hxt : f x ∈ t := by
        rcases List.mem_cons.1 hx with h | h
        · exact absurd h hne
        · exact h
      have hle := List.length_erase_of_mem hxt
      have hpos := List.length_pos_of_mem hxt
      simp only [List.length_cons] at hl
      have hmem : ∀ y, y ∈ t.erase (f x) ↔ y ≠ f x ∧ y ∈ t := fun y => List.Nodup.mem_erase_iff hd2.2
      have := ih (n - 2) (by omega) (t.erase (f x)) (by omega) (List.Nodup.erase _ hd2.2) (fun y hy => by
        obtain ⟨h1, h2⟩ := (hmem y).1 hy
        have h3 := hc y (by simp [h2])
        refine (hmem _).2 ⟨fun e => ?_, ?_⟩
        · have h4 := congrArg f e
          rw [hi y (by simp [h2]), hi x (by simp)] at h4
          exact hd2.1 (h4 ▸ h2)
        · rcases List.mem_cons.1 h3 with h | h
          · have h4 := congrArg f h
            rw [hi y (by simp [h2])] at h4
            exact absurd h4 h1
          · exact h) (fun y hy => hi y (by simp [((hmem y).1 hy).2])) (fun y hy => hf y (by simp [((hmem y).1 hy).2]))
      omega
theorem nodup_filter {α : Type} {l : List α} (P : α → Bool) (h : l.Nodup) : (l.filter P).Nodup := List.nodup_iff_pairwise_ne.2 (List.Pairwise.filter P (List.nodup_iff_pairwise_ne.1 h))
theorem filter_both {α : Type} (P : α → Bool) : ∀ l : List α, l.length = (l.filter P).length + (l.filter fun x => !P x).length
  | [] => rfl
  | x :: l => by
    have := filter_both P l
    cases h : P x <;> simp [h] <;> omega
/-- .. and with fixed members: as many as it fixes, but for pairs. -/
theorem odd_of_inv {α : Type} [DecidableEq α] (f : α → α) (l : List α) (hd : l.Nodup) (hc : ∀ x ∈ l, f x ∈ l) (hi : ∀ x ∈ l, f (f x) = x) : l.length % 2 = (l.filter fun x => decide (f x = x)).length % 2 := by
  have h1 := filter_both (fun x => decide (f x = x)) l
  have h2 := even_of_inv f _ (l.filter fun x => !decide (f x = x)) rfl (nodup_filter _ hd) (fun x hx => by
    obtain ⟨a, b⟩ := List.mem_filter.1 hx
    refine List.mem_filter.2 ⟨hc x a, ?_⟩
    simp only [Bool.not_eq_true', decide_eq_false_iff_not] at b ⊢
    rw [hi x a]
    exact fun e => b e.symm) (fun x hx => hi x (List.mem_filter.1 hx).1) (fun x hx => by
    have b := (List.mem_filter.1 hx).2
    simpa using b)
  omega
/-- The sum of the first values. -/
def sumN : Nat → (Nat → Nat) → Nat
  | 0, _ => 0
  | n + 1, f => sumN n f + f n
theorem sumN_congr {f g : Nat → Nat} : ∀ {n : Nat}, (∀ i, i < n → f i = g i) → sumN n f = sumN n g
  | 0, _ => rfl
  | n + 1, h => by simp only [sumN]; rw [sumN_congr (fun i hi => h i (by omega)), h n (by omega)]
theorem sumN_add (f g : Nat → Nat) : ∀ n, sumN n (fun i => f i + g i) = sumN n f + sumN n g
  | 0 => rfl
  | n + 1 => by simp only [sumN]; rw [sumN_add f g n]; omega
theorem sumN_list (f : Nat → Nat) : ∀ n, sumN n f = ((List.range n).map f).sum
  | 0 => rfl
  | n + 1 => by simp only [sumN]; rw [List.range_succ, List.map_append, List.sum_append_nat, sumN_list f n]; simp
theorem IsP.perm_range {p : List Nat} (h : IsP p) : (List.range 10).map (pAt p) = p := by
  apply List.ext_getElem (by simp [h.len])
  intro i h1 h2
  simp [pAt_get h2]
theorem sumN_perm {p : List Nat} (h : IsP p) (f : Nat → Nat) : sumN 10 (fun i => f (pAt p i)) = sumN 10 f := by
  rw [sumN_list, sumN_list]
  have e : (List.range 10).map (fun i => f (pAt p i)) = ((List.range 10).map (pAt p)).map f := by simp
  rw [e, h.perm_range]
  have hp : p.Perm (List.range 10) := (List.perm_ext_iff_of_nodup h.nd List.nodup_range).2 fun x => ⟨fun hx => by simpa using h.lt x hx, fun hx => h.mem (by simpa using hx)⟩
  exact (hp.map f).sum_nat
/-- Twice the sum below the diagonal. -/
theorem sumN_sym {F : Nat → Nat → Nat} (hs : ∀ i j, F i j = F j i) (h0 : ∀ i, F i i = 0) : ∀ n, sumN n (fun i => sumN n (F i)) = 2 * sumN n (fun i => sumN i (F i))
  | 0 => rfl
  | n + 1 => by
    have ih := sumN_sym hs h0 n
    simp only [sumN]
    rw [sumN_add, ih, h0]
    have : sumN n (fun i => F i n) = sumN n (F n) := sumN_congr fun i _ => hs i n
    rw [this]
    omega
end Go.Proofs.YtnnblmibonnpcaaGreat

/- Plain laws: the sign of a permutation by its inversions. -/
namespace Go.Proofs.YtnnblmibonnpcaaGreat

/-- Whether p turns the order of two letters. -/
def turnB (p : List Nat) (i j : Nat) : Nat := if (i < j ∧ pAt p j < pAt p i) ∨ (j < i ∧ pAt p i < pAt p j) then 1 else 0
theorem turnB_symm (p : List Nat) (i j : Nat) : turnB p i j = turnB p j i := by
  unfold turnB
  split <;> split <;> omega
theorem turnB_self (p : List Nat) (i : Nat) : turnB p i i = 0 := by
  unfold turnB
  split <;> omega
theorem invN_sum (p : List Nat) (i : Nat) : ∀ j, j ≤ i → invN p i j = sumN j (turnB p i)
  | 0, _ => rfl
  | j + 1, h => by
    rw [invN_succ, invN_sum p i j (by omega)]
    simp only [sumN]
    congr 1
    unfold turnB
    split <;> split <;> omega
theorem invS_sum (p : List Nat) : ∀ k, invS p k = sumN k (fun i => sumN i (turnB p i))
  | 0 => rfl
  | k + 1 => by simp only [invS, sumN]; rw [invS_sum p k, invN_sum p k k (Nat.le_refl _)]
theorem turnB_then {a b : List Nat} (ha : IsP a) (hb : IsP b) {i j : Nat} (hi : i < 10) (hj : j < 10) : (turnB (thenP a b) i j + turnB a i j + turnB b (pAt a i) (pAt a j)) % 2 = 0 := by
  unfold turnB
  rw [at_then b (i := i) (by rw [ha.len]; exact hi), at_then b (i := j) (by rw [ha.len]; exact hj)]
  have h1 : pAt a i = pAt a j → i = j := ha.inj hi hj
  have h2 : pAt b (pAt a i) = pAt b (pAt a j) → pAt a i = pAt a j := hb.inj (ha.at_lt hi) (ha.at_lt hj)
  have h3 : i = j → pAt a i = pAt a j := fun e => by rw [e]
  have h4 : pAt a i = pAt a j → pAt b (pAt a i) = pAt b (pAt a j) := fun e => by rw [e]
  generalize pAt b (pAt a i) = u at *
  generalize pAt b (pAt a j) = v at *
  generalize pAt a i = x at *
  generalize pAt a j = y at *
  split <;> split <;> split <;> omega
theorem even_sum {f : Nat → Nat} : ∀ {n : Nat}, (∀ i, i < n → f i % 2 = 0) → sumN n f % 2 = 0
  | 0, _ => rfl
  | n + 1, h => by
    have h1 := even_sum (n := n) (fun i hi => h i (by omega))
    have h2 := h n (by omega)
    simp only [sumN]; omega
/-- Inversions add up, but for pairs. -/
theorem invS_then {a b : List Nat} (ha : IsP a) (hb : IsP b) : (invS (thenP a b) 10 + invS a 10 + invS b 10) % 2 = 0 := by
  have hT : (sumN 10 fun i => sumN i fun j => turnB b (pAt a i) (pAt a j)) = sumN 10 (fun i => sumN i (turnB b i)) := by
    have h1 := sumN_sym (F := fun i j => turnB b (pAt a i) (pAt a j)) (fun i j => turnB_symm b _ _) (fun i => turnB_self b _) 10
    have h2 := sumN_sym (F := turnB b) (turnB_symm b) (turnB_self b) 10
    have h3 : (sumN 10 fun i => sumN 10 fun j => turnB b (pAt a i) (pAt a j)) = sumN 10 (fun i => sumN 10 (turnB b i)) := by
      rw [← sumN_perm ha (fun x => sumN 10 (turnB b x))]
      exact sumN_congr fun i _ => sumN_perm ha (turnB b (pAt a i))
    have h1' : (sumN 10 fun i => sumN 10 fun j => turnB b (pAt a i) (pAt a j)) = 2 * (sumN 10 fun i => sumN i fun j => turnB b (pAt a i) (pAt a j)) := h1
    omega
  rw [invS_sum, invS_sum a, invS_sum b, ← hT, ← sumN_add, ← sumN_add]
  refine even_sum fun i hi => ?_
  rw [← sumN_add, ← sumN_add]
  exact even_sum fun j hj => turnB_then ha hb hi (by omega)
/-- The pairs that p turns. -/
def invL (p : List Nat) (k : Nat) : List (Nat × Nat) := ((List.range k).map fun i => ((List.range i).filter fun t => decide (pAt p i < pAt p t)).map fun t => (t, i)).flatten
theorem len_invL (p : List Nat) : ∀ k, (invL p k).length = invS p k
  | 0 => rfl
  | k + 1 => by
    have := len_invL p k
    unfold invL at this ⊢
    rw [List.range_succ, List.map_append, List.flatten_append, List.length_append, this]
    simp [invS, invN]
theorem mem_invL {p : List Nat} {k : Nat} {x : Nat × Nat} : x ∈ invL p k ↔ x.1 < x.2 ∧ x.2 < k ∧ pAt p x.2 < pAt p x.1 := by
  unfold invL
  simp only [List.mem_flatten, List.mem_map, List.mem_range]
  constructor
  · rintro ⟨l, ⟨i, hi, rfl⟩, hx⟩
    obtain ⟨t, ht, rfl⟩ := List.mem_map.1 hx
    obtain ⟨h1, h2⟩ := List.mem_filter.1 ht
    exact ⟨by simpa using h1, hi, by simpa using h2⟩
  · rintro ⟨h1, h2, h3⟩
    exact ⟨_, ⟨x.2, h2, rfl⟩, List.mem_map.2 ⟨x.1, List.mem_filter.2 ⟨by simpa using h1, by simpa using h3⟩, rfl⟩⟩
theorem nodup_invL (p : List Nat) : ∀ k, (invL p k).Nodup
  | 0 => by simp [invL]
  | k + 1 => by
    have ih := nodup_invL p k
    have e : invL p (k + 1) = invL p k ++ ((List.range k).filter fun t => decide (pAt p k < pAt p t)).map fun t => (t, k) := by
      unfold invL
      rw [List.range_succ, List.map_append, List.flatten_append]; simp
    rw [e, List.nodup_append]
    refine ⟨ih, ?_, fun a ha b hb he => ?_⟩
    · rw [List.nodup_iff_pairwise_ne, List.pairwise_map]
      refine List.Pairwise.imp ?_ (List.nodup_iff_pairwise_ne.1 (nodup_filter _ List.nodup_range))
      intro x y h e
      exact h (congrArg Prod.fst e)
    · subst he
      have h1 := (mem_invL.1 ha).2.1
      obtain ⟨t, -, rfl⟩ := List.mem_map.1 hb
      simp at h1
/-- An involution without fixed letters has an odd number of inversions. -/
theorem invS_odd {a : List Nat} (ha : IsP a) (hi : ∀ x, x < 10 → pAt a (pAt a x) = x) (hf : ∀ x, x < 10 → pAt a x ≠ x) : invS a 10 % 2 = 1 := by
  rw [← len_invL]
  have h1 := odd_of_inv (fun x : Nat × Nat => (pAt a x.2, pAt a x.1)) (invL a 10) (nodup_invL a 10) (fun x hx => by
    obtain ⟨h1, h2, h3⟩ := mem_invL.1 hx
    refine mem_invL.2 ⟨h3, ha.at_lt (by omega), ?_⟩
    simp only
    rw [hi x.1 (by omega), hi x.2 h2]; exact h1) (fun x hx => by
    obtain ⟨h1, h2, h3⟩ := mem_invL.1 hx
    simp only
    rw [hi x.1 (by omega), hi x.2 h2])
  rw [h1]
  -- the pairs that stay: those that a exchanges
  have h2 : ((invL a 10).filter fun x => decide ((pAt a x.2, pAt a x.1) = x)).length = ((List.range 10).filter fun i => decide (pAt a i < i)).length := by
    have hp : (((invL a 10).filter fun x => decide ((pAt a x.2, pAt a x.1) = x)).map Prod.snd).Perm ((List.range 10).filter fun i => decide (pAt a i < i)) := by
      refine (List.perm_ext_iff_of_nodup ?_ (nodup_filter _ List.nodup_range)).2 fun i => ?_
      · rw [List.nodup_iff_pairwise_ne, List.pairwise_map]
        have hnd := List.nodup_iff_pairwise_ne.1 (nodup_filter (fun x => decide ((pAt a x.2, pAt a x.1) = x)) (nodup_invL a 10))
        refine List.Pairwise.imp_of_mem (fun {x y} hx hy h e => h ?_) hnd
        have ex := (List.mem_filter.1 hx).2
        have ey := (List.mem_filter.1 hy).2
        simp only [decide_eq_true_eq] at ex ey
        have e1 : x.1 = y.1 := by
          have h5 := congrArg Prod.fst ex
          have h6 := congrArg Prod.fst ey
          simp only at h5 h6 e
          rw [← h5, ← h6, e]
        exact Prod.ext e1 e
      · simp only [List.mem_map, List.mem_filter, List.mem_range, decide_eq_true_eq, mem_invL]
        constructor
        · rintro ⟨x, ⟨⟨h1, h2, h3⟩, h4⟩, rfl⟩
          have h5 := congrArg Prod.fst h4
          simp only at h5
          exact ⟨h2, by omega⟩
        · rintro ⟨hx, hn⟩
          refine ⟨(pAt a i, i), ⟨⟨hn, hx, ?_⟩, ?_⟩, rfl⟩
          · simp only; rw [hi i hx]; exact hn
          · simp only; rw [hi i hx]
    rw [← hp.length_eq, List.length_map]
  have h3 := filter_both (fun i => decide (pAt a i < i)) (List.range 10)
  have h4 : ((List.range 10).filter fun i => !decide (pAt a i < i)).length = ((List.range 10).filter fun i => decide (pAt a i < i)).length := by
    have hp : (((List.range 10).filter fun i => !decide (pAt a i < i)).map (pAt a)).Perm ((List.range 10).filter fun i => decide (pAt a i < i)) := by
      refine (List.perm_ext_iff_of_nodup ?_ (nodup_filter _ List.nodup_range)).2 fun i => ?_
      · rw [List.nodup_iff_pairwise_ne, List.pairwise_map]
        refine List.Pairwise.imp_of_mem (fun {x y} hx hy h e => h ?_) (List.nodup_iff_pairwise_ne.1 (nodup_filter _ List.nodup_range))
        exact ha.inj (by simpa using (List.mem_filter.1 hx).1) (by simpa using (List.mem_filter.1 hy).1) e
      · simp only [List.mem_map, List.mem_filter, List.mem_range, Bool.not_eq_true', decide_eq_false_iff_not, decide_eq_true_eq]
        constructor
        · rintro ⟨x, ⟨hx, hn⟩, rfl⟩
          have := hf x hx
          exact ⟨ha.at_lt hx, by rw [hi x hx]; omega⟩
        · rintro ⟨hx, hn⟩
          exact ⟨pAt a i, ⟨ha.at_lt hx, by rw [hi i hx]; omega⟩, hi i hx⟩
    rw [← hp.length_eq, List.length_map]
  rw [List.length_range] at h3
  rw [h2]
  omega
theorem sgN_prod {a b : List Nat} (ha : IsP a) (hb : IsP b) (ia : ∀ x, x < 10 → pAt a (pAt a x) = x) (fa : ∀ x, x < 10 → pAt a x ≠ x) (ib : ∀ x, x < 10 → pAt b (pAt b x) = x) (fb : ∀ x, x < 10 → pAt b x ≠ x) : sgN (invS (thenP a b) 10) = 1 := by
  have h1 := invS_then ha hb
  have h2 := invS_odd ha ia fa
  have h3 := invS_odd hb ib fb
  unfold sgN
  rw [if_pos (by omega)]
end Go.Proofs.YtnnblmibonnpcaaGreat

/- Plain laws: the cycles of a product of two involutions come in pairs. -/
namespace Go.Proofs.YtnnblmibonnpcaaGreat

theorem cyc_symm {p : List Nat} (h : IsP p) {x y : Nat} (hx : x < 10) (hy : y < 10) (hm : y ∈ cycL p x) : x ∈ cycL p y := by
  obtain ⟨k, _, e⟩ := List.mem_map.1 hm
  refine itP_unback h hy hx (n := k) ?_
  show itP p k x ∈ _
  rw [show itP p k x = y from e]
  exact self_cycL p y
theorem cyc_trans {p : List Nat} (h : IsP p) {x y z : Nat} (hx : x < 10) (h1 : y ∈ cycL p x) (h2 : z ∈ cycL p y) : z ∈ cycL p x := by
  obtain ⟨k, _, e⟩ := List.mem_map.1 h1
  obtain ⟨j, _, e2⟩ := List.mem_map.1 h2
  rw [← e2, ← e, ← itP_add]
  exact itP_mem h hx _
theorem cyc_lt {p : List Nat} (h : IsP p) {x y : Nat} (hx : x < 10) (h1 : y ∈ cycL p x) : y < 10 := cycL_lt h hx y h1
/-- The least letter of a cycle. -/
def mnC (p : List Nat) (x : Nat) : Nat := (List.range 10).findIdx fun r => decide (x ∈ cycL p r)
theorem mnC_mem {p : List Nat} {x : Nat} (hx : x < 10) : mnC p x < 10 ∧ x ∈ cycL p (mnC p x) := by
  have h1 : (List.range 10).findIdx (fun r => decide (x ∈ cycL p r)) < (List.range 10).length := by
    rw [List.findIdx_lt_length]
    exact ⟨x, by simpa using hx, by simpa using self_cycL p x⟩
  have h2 := List.findIdx_getElem (w := h1)
  simp only [List.getElem_range, decide_eq_true_eq] at h2
  rw [List.length_range] at h1
  exact ⟨h1, h2⟩
theorem mnC_min {p : List Nat} {x r : Nat} (hr : r < mnC p x) : ¬ x ∈ cycL p r := by
  have h3 : r < (List.range 10).findIdx (fun r => decide (x ∈ cycL p r)) := hr
  have := List.not_of_lt_findIdx (p := fun r => decide (x ∈ cycL p r)) (xs := List.range 10) (i := r) h3
  simpa using this
theorem mnC_le {p : List Nat} {x r : Nat} (h : x ∈ cycL p r) : mnC p x ≤ r := by
  rcases Nat.lt_or_ge r (mnC p x) with h1 | h1
  · exact absurd h (mnC_min h1)
  · exact h1
theorem mnC_eq {p : List Nat} (h : IsP p) {x y : Nat} (hx : x < 10) (hy : y < 10) (hm : y ∈ cycL p x) : mnC p x = mnC p y := by
  have h1 := mnC_mem (p := p) hx
  have h2 := mnC_mem (p := p) hy
  have h3 := mnC_le (cyc_trans h h1.1 h1.2 hm)
  have h4 := mnC_le (cyc_trans h h2.1 h2.2 (cyc_symm h hx hy hm))
  omega
theorem mnC_mn {p : List Nat} (h : IsP p) {x : Nat} (hx : x < 10) : mnC p (mnC p x) = mnC p x := by
  have h1 := mnC_mem (p := p) hx
  exact mnC_eq h h1.1 hx h1.2
/-- The least letters of the cycles. -/
def repC (p : List Nat) (k : Nat) : List Nat := (List.range k).filter fun r => decide (mnC p r = r)
theorem repC_succ (p : List Nat) (k : Nat) : repC p (k + 1) = repC p k ++ if mnC p k = k then [k] else [] := by
  unfold repC
  rw [List.range_succ, List.filter_append]
  congr 1
  by_cases h : mnC p k = k <;> simp [h]
theorem cycs_rep {p : List Nat} (h : IsP p) : ∀ k, k ≤ 10 → cycsTo p k = (repC p k).map (cycL p)
  | 0, _ => rfl
  | k + 1, hk => by
    have ih := cycs_rep h k (by omega)
    have hiff : k ∈ (cycsTo p k).flatten ↔ mnC p k ≠ k := by
      rw [ih, List.mem_flatten]
      constructor
      · rintro ⟨c, hc, hm⟩
        obtain ⟨a, ha, rfl⟩ := List.mem_map.1 hc
        have h1 := mnC_le hm
        have h2 := (List.mem_filter.1 ha).1
        have : a < k := by simpa using h2
        omega
      · intro hne
        have h1 := mnC_mem (p := p) (x := k) (by omega)
        have h2 := mnC_le (p := p) (self_cycL p k)
        refine ⟨_, List.mem_map.2 ⟨mnC p k, List.mem_filter.2 ⟨by simp; omega, ?_⟩, rfl⟩, h1.2⟩
        simpa using mnC_mn h (x := k) (by omega)
    rw [repC_succ]
    by_cases hm : k ∈ (cycsTo p k).flatten
    · rw [cycsTo_yes hm, if_neg (hiff.1 hm), List.append_nil, ih]
    · have hmk : mnC p k = k := Classical.byContradiction fun hne => hm (hiff.2 hne)
      rw [cycsTo_no hm, if_pos hmk, ih, List.map_append]; rfl
theorem lens_rep {p : List Nat} (h : IsP p) : lensI p (cycs p).length = (repC p 10).map fun r => (ordP p r : Int) := by
  unfold lensI
  rw [List.take_length]
  unfold cycs
  rw [cycs_rep h 10 (Nat.le_refl _), List.map_map]
  apply List.map_congr_left
  intro r _
  simp [len_cycL]
theorem odd_xor {a b : Nat} : decide ((a + b) % 2 = 1) = (decide (a % 2 = 1) ^^ decide (b % 2 = 1)) := by
  rcases Nat.mod_two_eq_zero_or_one a with h | h <;> rcases Nat.mod_two_eq_zero_or_one b with h2 | h2 <;> simp [h, h2, Nat.add_mod]
theorem xmT_test (l : List Int) (y : Nat) : (xmT l).testBit y = decide ((l.filter fun x => decide (x.toNat = y)).length % 2 = 1) := by
  have aux : ∀ (l : List Int) (m : Nat), (l.foldl (fun m x => m ^^^ 2 ^ x.toNat) m).testBit y = (m.testBit y ^^ decide ((l.filter fun x => decide (x.toNat = y)).length % 2 = 1)) := by
    intro l
    induction l with
    | nil => intro m; simp
    | cons x l ih =>
      intro m
      rw [List.foldl_cons, ih, Nat.testBit_xor, Nat.testBit_two_pow]
      by_cases h : x.toNat = y
      · rw [List.filter_cons_of_pos (by simpa using h), List.length_cons, Nat.add_comm, odd_xor]
        simp [h]
      · rw [List.filter_cons_of_neg (by simpa using h)]
        simp [h]
  have := aux l 0
  simpa [xmT] using this
/-- The lengths pair off if those of each length do. -/
theorem paired_of {p : List Nat} (h : IsP p) (hc : ∀ n, ((repC p 10).filter fun r => decide (ordP p r = n)).length % 2 = 0) : pairedB p = true := by
  unfold pairedB
  rw [decide_eq_true_eq]
  apply Nat.eq_of_testBit_eq
  intro y
  rw [xmT_test, Nat.zero_testBit, decide_eq_false_iff_not]
  have h1 : ((lenD p).filter fun x => decide (x.toNat = y)).length = ((lensI p (cycs p).length).filter fun x => decide (x.toNat = y)).length := by
    have hp : (lenD p).Perm (lensI p (cycs p).length) := by
      unfold lenD sortI
      exact (List.reverse_perm _).trans (List.mergeSort_perm _ _)
    exact (hp.filter _).length_eq
  rw [h1, lens_rep h, List.filter_map, List.length_map]
  have := hc y
  have e : ((repC p 10).filter ((fun x : Int => decide (x.toNat = y)) ∘ fun r => (ordP p r : Int))) = ((repC p 10).filter fun r => decide (ordP p r = y)) := by
    apply List.filter_congr
    intro r _
    simp
  rw [e]
  omega
theorem at_pr {a : List Nat} (b : List Nat) (ha : IsP a) {x : Nat} (hx : x < 10) : pAt (thenP a b) x = pAt b (pAt a x) := at_then b (by rw [ha.len]; exact hx)
section
variable {a b : List Nat} (ha : IsP a) (hb : IsP b) (ia : ∀ x, x < 10 → pAt a (pAt a x) = x) (fa : ∀ x, x < 10 → pAt a x ≠ x) (ib : ∀ x, x < 10 → pAt b (pAt b x) = x) (fb : ∀ x, x < 10 → pAt b x ≠ x)
include ha hb ia ib
/-- a turns the product about. -/
theorem turn_one {y : Nat} (hy : y < 10) : pAt (thenP a b) (pAt a (pAt (thenP a b) y)) = pAt a y := by
  have h1 := ha.at_lt hy
  have h2 := hb.at_lt h1
  rw [at_pr b ha hy, at_pr b ha (ha.at_lt h2), ia _ h2, ib _ h1]
theorem turn_all {x : Nat} (hx : x < 10) : ∀ k, itP (thenP a b) k (pAt a (itP (thenP a b) k x)) = pAt a x
  | 0 => rfl
  | k + 1 => by
    have h1 := itP_lt (ha.then hb) hx k
    rw [itP_add]
    show itP (thenP a b) k (itP (thenP a b) 1 (pAt a (pAt (thenP a b) (itP (thenP a b) k x)))) = _
    show itP (thenP a b) k (pAt (thenP a b) (pAt a (pAt (thenP a b) (itP (thenP a b) k x)))) = _
    rw [turn_one ha hb ia ib h1]
    exact turn_all hx k
theorem turn_cyc {x y : Nat} (hx : x < 10) (hm : y ∈ cycL (thenP a b) x) : pAt a y ∈ cycL (thenP a b) (pAt a x) := by
  have hp := ha.then hb
  obtain ⟨k, _, e⟩ := List.mem_map.1 hm
  have h1 := turn_all ha hb ia ib hx k
  rw [show itP (thenP a b) k x = y from e] at h1
  have hy := cyc_lt hp hx hm
  refine cyc_symm hp (ha.at_lt hy) (ha.at_lt hx) ?_
  rw [← h1]
  exact itP_mem hp (ha.at_lt hy) k
include fa fb
theorem turn_far {x : Nat} (hx : x < 10) : ¬ pAt a x ∈ cycL (thenP a b) x := fun hm => by
  have hp := ha.then hb
  obtain ⟨k, _, e⟩ := List.mem_map.1 hm
  have e : itP (thenP a b) k x = pAt a x := e
  have hj := itP_lt hp hx (k / 2)
  have h1 := turn_all ha hb ia ib hx (k / 2)
  rcases Nat.mod_two_eq_zero_or_one k with h | h
  · have hk : k = k / 2 + k / 2 := by omega
    rw [hk, itP_add, ← h1] at e
    exact fa _ hj (itP_inj hp hj (ha.at_lt hj) _ e).symm
  · have hk : k = k / 2 + (1 + k / 2) := by omega
    rw [hk, itP_add, itP_add, ← h1] at e
    have e2 := itP_inj hp (itP_lt hp hj 1) (ha.at_lt hj) _ e
    have e3 : pAt (thenP a b) (itP (thenP a b) (k / 2) x) = pAt a (itP (thenP a b) (k / 2) x) := e2
    rw [at_pr b ha hj] at e3
    exact fb _ (ha.at_lt hj) e3
omit fa fb
theorem turn_ord {x : Nat} (hx : x < 10) : ordP (thenP a b) (pAt a x) ≤ ordP (thenP a b) x := by
  have hp := ha.then hb
  have h1 := turn_all ha hb ia ib hx (ordP (thenP a b) x)
  rw [ordP_spec hp hx] at h1
  rcases Nat.lt_or_ge (ordP (thenP a b) x) (ordP (thenP a b) (pAt a x)) with h | h
  · exact absurd h1 (ordP_min _ (ordP_pos _ _) h)
  · exact h
end
theorem ord_cyc {p : List Nat} (h : IsP p) {x y : Nat} (hx : x < 10) (hm : y ∈ cycL p x) : ordP p y = ordP p x := by
  have aux : ∀ {x y : Nat}, x < 10 → y ∈ cycL p x → ordP p y ≤ ordP p x := by
    intro x y hx hm
    obtain ⟨k, _, e⟩ := List.mem_map.1 hm
    have e : itP p k x = y := e
    have h1 : itP p (ordP p x) y = y := by
      rw [← e, ← itP_add, Nat.add_comm, itP_add, ordP_spec h hx]
    rcases Nat.lt_or_ge (ordP p x) (ordP p y) with h2 | h2
    · exact absurd h1 (ordP_min _ (ordP_pos _ _) h2)
    · exact h2
  have hy := cyc_lt h hx hm
  have h1 := aux hx hm
  have h2 := aux hy (cyc_symm h hx hy hm)
  omega
/-- The cycles of a product of two involutions without fixed letters come in pairs. -/
theorem paired_prod {a b : List Nat} (ha : IsP a) (hb : IsP b) (ia : ∀ x, x < 10 → pAt a (pAt a x) = x) (fa : ∀ x, x < 10 → pAt a x ≠ x) (ib : ∀ x, x < 10 → pAt b (pAt b x) = x) (fb : ∀ x, x < 10 → pAt b x ≠ x) : pairedB (thenP a b) = true := by
  have hp := ha.then hb
  refine paired_of hp fun n => ?_
  have hR : ∀ {r : Nat}, r ∈ (repC (thenP a b) 10).filter (fun r => decide (ordP (thenP a b) r = n)) ↔ r < 10 ∧ mnC (thenP a b) r = r ∧ ordP (thenP a b) r = n := by
    intro r
    unfold repC
    simp only [List.mem_filter, List.mem_range, decide_eq_true_eq, and_assoc]
  have hord : ∀ x, x < 10 → ordP (thenP a b) (pAt a x) = ordP (thenP a b) x := fun x hx => by
    have h1 := turn_ord ha hb ia ib hx
    have h2 := turn_ord ha hb ia ib (ha.at_lt hx)
    rw [ia x hx] at h2
    omega
  refine even_of_inv (fun r => mnC (thenP a b) (pAt a r)) _ _ rfl (nodup_filter _ (nodup_filter _ List.nodup_range)) (fun r hr => ?_) (fun r hr => ?_) (fun r hr => ?_)
  · obtain ⟨h1, h2, h3⟩ := hR.1 hr
    have h4 := ha.at_lt h1
    have h5 := mnC_mem (p := thenP a b) h4
    refine hR.2 ⟨h5.1, mnC_mn hp h4, ?_⟩
    rw [← ord_cyc hp h5.1 h5.2, hord r h1]; exact h3
  · obtain ⟨h1, h2, h3⟩ := hR.1 hr
    have h4 := ha.at_lt h1
    have h5 := mnC_mem (p := thenP a b) h4
    have h6 := turn_cyc ha hb ia ib h5.1 h5.2
    rw [ia r h1] at h6
    show mnC (thenP a b) (pAt a (mnC (thenP a b) (pAt a r))) = r
    rw [mnC_eq hp (ha.at_lt h5.1) h1 h6, h2]
  · obtain ⟨h1, h2, h3⟩ := hR.1 hr
    have h4 := ha.at_lt h1
    have h5 := mnC_mem (p := thenP a b) h4
    intro e
    have e : mnC (thenP a b) (pAt a r) = r := e
    rw [e] at h5
    exact turn_far ha hb ia fa ib fb h1 h5.2
end Go.Proofs.YtnnblmibonnpcaaGreat

/- The walk of the law that the cycles of a product come in pairs. -/
namespace Go.Proofs.YtnnblmibonnpcaaGreat
open Go.RowKit

theorem prod_ok {m : Mach} {v : ByteArray} {j : Nat} (h : j < (prodT m v).length) : ∃ p, (prodT m v)[j] = wd p ∧ IsP p ∧ pairedB p = true ∧ sgN (invS p 10) = 1 := by
  have hsb : setB m v = true := by
    by_cases hs : setB m v = true
    · exact hs
    · unfold prodT at h; rw [if_neg hs] at h; simp at h
  have hmb := setB_mach hsb
  refine ⟨prodP m v j, ?_, isP_prod hmb v j, ?_, ?_⟩
  · simp only [prodT_yes hsb, prodS, List.getElem_map, List.getElem_range]
  · exact paired_prod (isP_keyN hmb v j) (isP_keyN hmb v _) (fun x hx => inv_keyN hmb v j hx) (fun x hx => free_keyN hmb v j hx) (fun x hx => inv_keyN hmb v _ hx) (fun x hx => free_keyN hmb v _ hx)
  · exact sgN_prod (isP_keyN hmb v j) (isP_keyN hmb v _) (fun x hx => inv_keyN hmb v j hx) (fun x hx => free_keyN hmb v j hx) (fun x hx => inv_keyN hmb v _ hx) (fun x hx => free_keyN hmb v _ hx)
set_option maxRecDepth 100000 in
set_option maxHeartbeats 4000000 in
theorem productsPaired_walk (a : Option Addr) (len cap : Nat) (zs : List Int) (w : World) (h : IsRow .u8 w a len cap zs) :
    Calls Tryz.prog 3 #[.slice a len cap] w fun e w' => e = .returned (.bool true) ∧ Below w.heap.size w w' := by
  have hlen : len ≤ 9223372036854775807 := by
    rcases h with ⟨_, rfl, _⟩ | ⟨x, _, hl, hm, _⟩
    · omega
    · unfold maxLen at hm; omega
  by_cases hl : 1048576 < len
  · go_enter Tryz.func3, Tryz.ntmps3
    go_wp2
    go_ret
    exact ⟨rfl, Below.refl _ _⟩
  · go_enter Tryz.func3, Tryz.ntmps3
    go_wp2_with fail
    refine (DrawDayProducts_any a len cap zs _ h (by omega)).mono ?_
    rintro e w1 ⟨m, v, a1, cap1, ⟨hsm, hrd, -, hb1⟩, hv, rfl⟩
    have o1 := Own.new w1 [.slice a1 m.wheels.rotors.length cap1, .string m.wheels.refl, .string m.rings, .string m.plugs] 27
    have hb1' := hb1.alloc hb1.size (.cells [.slice a1 m.wheels.rotors.length cap1, .string m.wheels.refl, .string m.rings, .string m.plugs].toArray 27)
    have hat := (hsm.at_ hrd).alloc_ (.cells [.slice a1 m.wheels.rotors.length cap1, .string m.wheels.refl, .string m.rings, .string m.plugs].toArray 27)
    clear hrd hb1 h
    go_wp2_with fail
    generalize (w1.alloc (.cells [.slice a1 m.wheels.rotors.length cap1, .string m.wheels.refl, .string m.rings, .string m.plugs].toArray 27)) = W1 at *
    generalize w1.heap.size = B1 at *
    refine (implDayProducts_any a1 _ cap1 m v _ hat (by omega)).mono ?_
    rintro e w2 ⟨lv, rfl, hol, hb2⟩
    have o2 := o1.below hb2 o1.lt
    have hbw2 := bt hb1' hb2
    have hat2 := (hat.below hb2 (Nat.le_refl _)).more hb2.size
    obtain ⟨al, cl, rfl, hlc, hrl, hgl⟩ := hol.val
    clear o1 hb1' hat hb2 hol
    have f0 := o2.at_ (i := 0) rfl
    have f1 := o2.at_ (i := 1) rfl
    have f2 := o2.at_ (i := 2) rfl
    have f3 := o2.at_ (i := 3) rfl
    go_wp2_with fail
    refine (specDayProducts_any a1 _ cap1 m v _ hat2 (by omega)).mono ?_
    rintro e w3 ⟨lv2, rfl, hol2, hb3⟩
    have o3 := o2.below hb3 o2.lt
    have hbw3 := bt hbw2 hb3
    have hat3 := (hat2.below hb3 (Nat.le_refl _)).more hb3.size
    obtain ⟨al2, cl2, rfl, hlc2, hrl2, -⟩ := hol2.val
    have hrl3 := (hrl.below hb3 (Nat.le_refl _)).more hb3.size
    have hpl : (prodT m v).length ≤ 1048576 := by
      unfold prodT; split
      · rw [len_prodS]; omega
      · simp
    have hgl3 : (prodT m v).length = 0 ∨ ∃ g, al = some ⟨g, 0, none⟩ ∧ Own w3 g (sv (prodT m v)) := hgl.imp id fun ⟨g, h1, _, h2⟩ => ⟨g, h1, h2.below hb3 h2.lt⟩
    clear o2 hbw2 hat2 hrl hol2 hgl f0 f1 f2 f3 hb3
    go_wp2_with fail
    refine (rcTexts_any al al2 cl cl2 (prodT m v) (prodT m v) _ hrl3 hrl2 hpl).mono ?_
    rintro e w' ⟨rfl, n4, rfl⟩
    rw [show decide (prodT m v = prodT m v) = true from decide_eq_true rfl]
    have o4 := o3.drewN n4
    have hbw4 := bel_drewN hbw3 n4
    have hat4 : MachAt (w3.drewN n4) (w3.drewN n4).heap.size a1 m.wheels.rotors.length m := hat3.keep (fun _ _ => rfl)
    have hrl4 : Reads (w3.drewN n4) (w3.drewN n4).heap.size al (sv (prodT m v)) := hrl3
    have hgl4 : (prodT m v).length = 0 ∨ ∃ g, al = some ⟨g, 0, none⟩ ∧ Own (w3.drewN n4) g (sv (prodT m v)) := hgl3.imp id fun ⟨g, h1, h2⟩ => ⟨g, h1, h2.drewN n4⟩
    generalize w3.drewN n4 = w4 at *
    clear o3 hbw3 hat3 hrl3 hrl2 hgl3
    have HOK := Lib.hid (fun j (h : j < (prodT m v).length) => @prod_ok m v j h)
    clear hgl4 hat4 o4
    generalize prodT m v = ls at *
    go_wp2_with fail
    go_loopw [6] (fun i wr => ∃ k : Nat, k ≤ ls.length ∧ i = .int .i64 k ∧ Reads wr wr.heap.size al (sv ls) ∧ Below w.heap.size w wr) (fun i _ => ls.length - (intOf i).toNat)
    case atStart => exact ⟨0, Nat.zero_le _, rfl, hrl4, hbw4⟩
    case round =>
      clear hrl4 hbw4
      obtain ⟨k, hk, rfl, hrl, hb⟩ := hrel
      by_cases hlt : k < ls.length
      · have hrd := hrl
        obtain ⟨b, off, rfl, hbl, hcl⟩ := hrd.open_ (by rw [length_sv]; omega)
        have c1 := hcl k (by rw [length_sv]; exact hlt)
        rw [sv_at hlt] at c1
        clear hcl
        have q1 : (0 : Int) ≤ (k : Int) := by omega
        have q2 : (k : Int) < (ls.length : Int) := by omega
        obtain ⟨p, e1, hp, h1, h2⟩ := HOK.out k hlt
        rw [e1] at c1
        have n1 := fun W => PairedCycles_yes p W hp
        have n2 := fun W => PermSign_yes p W hp
        rw [h1] at n1
        rw [h2] at n2
        clear e1 hp h1 h2
        generalize wd p = s at *
        go_wp2_with fail
        refine (n1 _).mono ?_
        rintro e w5 ⟨rfl, hb5⟩
        have c2 := (hb5.cell (p := ⟨b, off + k, none⟩) hbl).trans c1
        have hr5 := (hrl.below hb5 (Nat.le_refl _)).more hb5.size
        have hbw5 := bt hb hb5
        clear c1 hrl hb hb5
        go_wp2_with fail
        refine (n2 _).mono ?_
        rintro e w6 ⟨rfl, hb6⟩
        have hr6 := (hr5.below hb6 (Nat.le_refl _)).more hb6.size
        have hbw6 := bt hbw5 hb6
        clear hr5 hbw5 hb6 c2
        go_wp2_with fail
        go_roundw
        case rel => exact ⟨k + 1, by omega, by go_num, hr6, hbw6⟩
        case measure => simp [intOf]; omega
      · go_wp2
        go_ret
        exact ⟨rfl, hb⟩
end Go.Proofs.YtnnblmibonnpcaaGreat
