/- Several of my texts in one: LtS, LtD, PairI, ShelfD, LtT, LtI, ChI, DrawCh, CtW. -/
import Derived.Test.YtnnblmibonnpcaaGreatDoorM12
import Derived.Test.YtnnblmibonnpcaaGreatDoorM4
import Derived.Test.YtnnblmibonnpcaaGreatDoorM7
import Derived.Test.YtnnblmibonnpcaaGreatDoorM8
import Derived.Lib.ItoaNum
import Derived.Lib.Join
import Derived.Shelf.Strings.OnBuilder
import Derived.Shelf.LaysM
import Derived.Shelf.Strconv.Itoa3
import Derived.Shelf.Slices.Equal
import Derived.Test.YtnnblmibonnpcaaGreatDoorProg
import Derived.Test.YtnnblmibonnpcaaGreatDoorM10
import Derived.Test.YtnnblmibonnpcaaGreatDoorM11
import Derived.Test.YtnnblmibonnpcaaGreatDoorM5
/- The lengths of the cycles in the specification. -/
namespace Go.Proofs.YtnnblmibonnpcaaGreatDoor
open Go.RowKit

/-- The lengths of the cycles, as they stand. -/
def lensN (p : List Nat) : List Nat := (cycs p).map List.length
/-- Those of one length. -/
def ofLen (ls : List Nat) (n : Nat) : List Int := (ls.filter (fun x : Nat => decide (x = n))).map (fun x : Nat => (x : Int))
theorem ofLen_snoc (ls : List Nat) (x n : Nat) : ofLen (ls ++ [x]) n = ofLen ls n ++ if x = n then [(x : Int)] else [] := by
  unfold ofLen
  rw [List.filter_append, List.map_append]
  congr 1
  by_cases h : x = n <;> simp [h]
theorem ofLen_len (ls : List Nat) (n : Nat) : (ofLen ls n).length ≤ ls.length := by
  unfold ofLen
  rw [List.length_map]
  exact List.length_filter_le _ _
/-- The longest lengths first, d of them gone over. -/
def grpD (ls : List Nat) : Nat → List Int
  | 0 => []
  | d + 1 => grpD ls d ++ ofLen ls (10 - d)
theorem grpD_len (ls : List Nat) : ∀ d, (grpD ls d).length ≤ d * ls.length
  | 0 => by simp [grpD]
  | d + 1 => by
    have h1 := grpD_len ls d
    have h2 := ofLen_len ls (10 - d)
    simp only [grpD, List.length_append, Nat.succ_mul]
    omega
theorem cycsTo_pos (p : List Nat) : ∀ k, 0 < (cycsTo p (k + 1)).length
  | 0 => by rw [cycsTo_no (by simp [cycsTo])]; simp
  | k + 1 => by
    by_cases h : k + 1 ∈ (cycsTo p (k + 1)).flatten
    · rw [cycsTo_yes h]; exact cycsTo_pos p k
    · rw [cycsTo_no h]; simp
theorem cycs_pos (p : List Nat) : 0 < (cycs p).length := cycsTo_pos p 9
set_option maxRecDepth 100000 in
set_option maxHeartbeats 2000000 in
theorem specCycleLengths_any (p : List Nat) (w : World) (hp : IsP p) :
    Calls Tryz.prog 65 #[.string (wd p)] w (RowPost 3 1 (grpD (lensN p) 10).length (iv (grpD (lensN p) 10)) w) := by
  have hb0 := (Below.refl w.heap.size w).alloc (Nat.le_refl _) (.cells #[] 3)
  have r0 : OwR (w.alloc (.cells #[] 3)) w.heap.size 3 1 (.slice (some ⟨w.heap.size, 0, none⟩) 0 0) 0 [] := World.ownsRow_lit w #[] 0 (Nat.le_refl _) (by unfold maxLen; omega) rfl
  have hcl : (cycs p).length ≤ 10 := cycsTo_len p 10
  have hcp := cycs_pos p
  have hcy := fun W => specCyclesOf_any (wd p) W (by rw [size_wd, hp.len]; omega)
  have hcs : cycsS (wd p) = (cycs p).map wd := by unfold cycsS; rw [if_pos (permB_wd hp), dg_wd hp.lt]
  rw [hcs] at hcy
  clear hcs
  have hll : (lensN p).length = (cycs p).length := by simp [lensN]
  have HSZ : Hid (∀ j (h : j < (cycs p).length), (wd (cycs p)[j]).size = (lensN p)[j]'(by rw [hll]; exact h) ∧ (wd (cycs p)[j]).size ≤ 10) := Lib.hid (fun j h => ⟨by rw [size_wd]; simp [lensN], by rw [size_wd]; exact (cycsTo_size hp (Nat.le_refl 10) _ (List.getElem_mem h)).2⟩)
  have HGL := Lib.hid (grpD_len (lensN p))
  generalize lensN p = ls at *
  generalize cycs p = cs at *
  go_enter Tryz.func65, Tryz.ntmps65
  go_wp2_with fail
  refine (hcy _).mono ?_
  rintro e w1 ⟨cv, rfl, oc, hb1⟩
  obtain ⟨ca, cc, rfl, -, -, hgc⟩ := OwR.val oc
  obtain ⟨gC, rfl, hgl, oC⟩ := hgc.resolve_left (by rw [List.length_map]; omega)
  have hbw1 := bt hb0 hb1
  have r1 := OwR.below r0 hb1 (Nat.le_refl _)
  have hz1 := hbw1.size
  rw [World.size_alloc] at hgl
  clear hb0 oc r0 hcy hgc hb1
  rw [List.length_map]
  go_wp2_with fail
  go_loopw [3, 5, 6] (fun u x _ wr => ∃ d n : Nat, n + d = 10 ∧ x = .int .i64 n ∧ OwR wr w.heap.size 3 1 u (grpD ls d).length (iv (grpD ls d)) ∧ Own wr gC (sv (cs.map wd)) ∧ u.ownBlock ≠ some gC ∧ Below w.heap.size w wr) (fun _ x _ _ => (intOf x).toNat)
  case atStart => exact ⟨0, 10, rfl, rfl, r1, oC, by simp [Value.ownBlock]; omega, hbw1⟩
  case round =>
    clear r1 hbw1 oC
    obtain ⟨d, n, hdn, rfl, hown, oC, hne, hb⟩ := hrel
    have hgl := HGL.out d
    by_cases hn : 0 < n
    · have tn : decide ((0 : Int) < (n : Int)) = true := decide_eq_true (by omega)
      have tn2 : decide (0 < n) = true := decide_eq_true hn
      have hw1 : IntKind.i64.wrap ((n : Int) - 1) = ((n - 1 : Nat) : Int) := by rw [IntWalk.i64_in _ (by omega)]; omega
      have HG : Hid (grpD ls (d + 1) = grpD ls d ++ ofLen ls n) := Lib.hid (by show grpD ls d ++ ofLen ls (10 - d) = _; rw [show 10 - d = n by omega])
      have HD := Lib.hid hdn
      have hml : d * ls.length ≤ 100 := by
        have : d * ls.length ≤ 10 * 10 := Nat.mul_le_mul (by omega) (by omega)
        omega
      clear hdn
      generalize grpD ls d = gd at *
      go_wp2_with fail
      go_loopw [3, 6] (fun u x wr => ∃ i : Nat, i ≤ cs.length ∧ x = .int .i64 i ∧ OwR wr w.heap.size 3 1 u (gd ++ ofLen (ls.take i) n).length (iv (gd ++ ofLen (ls.take i) n)) ∧ Own wr gC (sv (cs.map wd)) ∧ u.ownBlock ≠ some gC ∧ Below w.heap.size w wr) (fun _ x _ => cs.length - (intOf x).toNat)
      case atStart => exact ⟨0, Nat.zero_le _, rfl, by rw [show ofLen (ls.take 0) n = [] from rfl, List.append_nil]; exact hown, oC, hne, hb⟩
      case round =>
        clear hown oC hne hb
        obtain ⟨i, hi, rfl, hown, oC, hne, hb⟩ := hrel
        obtain ⟨la, lc, rfl, -, -, -⟩ := OwR.val hown
        by_cases hlt : i < cs.length
        · have hsl : i < ls.length := by omega
          have c1 := oC.at_ (i := i) (u := .string (wd cs[i])) (by rw [sv_at (by rw [List.length_map]; exact hlt), List.getElem_map])
          obtain ⟨z1, z2⟩ := HSZ.out i hlt
          have q1 : (0 : Int) ≤ (i : Int) := by omega
          have q2 : (i : Int) < (cs.length : Int) := by omega
          have HS : Hid (ofLen (ls.take (i + 1)) n = ofLen (ls.take i) n ++ if ls[i] = n then [((ls[i] : Nat) : Int)] else []) := Lib.hid (by rw [List.take_succ_eq_append_getElem hsl, ofLen_snoc])
          have hol := ofLen_len (ls.take i) n
          rw [List.length_take] at hol
          have hlo := oC.lt
          have hzb := hb.size
          generalize wd cs[i] = s at *
          generalize hoo : ofLen (ls.take i) n = oo at *
          have hsum : (gd ++ oo).length ≤ 200 := by rw [List.length_append]; omega
          have HL : Hid ((gd ++ oo).length + 1 = (gd ++ (oo ++ [(n : Int)])).length) := Lib.hid (by simp only [List.length_append, List.length_cons, List.length_nil]; omega)
          have HV : Hid (iv (gd ++ (oo ++ [(n : Int)])) = iv (gd ++ oo) ++ [.int .i64 (n : Int)]) := Lib.hid (by rw [← List.append_assoc, iv_append]; rfl)
          have HG2 : Hid (gd ++ oo = gd ++ oo) := Lib.hid rfl
          clear hoo hol
          generalize hgo : gd ++ oo = go at *
          have HG2 := Lib.hid hgo
          clear hgo
          by_cases hen : s.size = n
          · have te : ((s.size : Int) == (n : Int)) = true := by simp [hen]
            have te2 : (s.size == n) = true := by simp [hen]
            have HS2 : Hid (ofLen (ls.take (i + 1)) n = oo ++ [(n : Int)]) := Lib.hid (by rw [HS.out, if_pos (by omega), show ls[i] = n by omega])
            clear hen z1
            go_wp2_with (at_builtin; ((with_reducible refine wl_pushG 78 3 inf_int Tryz.underlying78 rfl (by omega) hown (by omega) rfl (by simp [Value.oneCell']) (by omega) (by omega) rfl rfl ?_); intro g7 cap w7 o7 hg7 hat7 k7 b7))
            have hlo2 := hb.size
            go_roundw
            case rel => exact ⟨i + 1, by omega, by go_num, by rw [HS2.out, ← HL.out, HV.out]; exact o7, oC.grownO hg7 hne, by intro e; simp only [Value.ownBlock, Option.some.injEq] at e; subst e; rcases hat7 with h | h; exact hne h; omega, hb.trans ((Below.refl w.heap.size wr).grown hg7 hzb (fun k hk => (World.ownsRow.lt hown k hk).1))⟩
            case measure => simp [intOf]; omega
          · have te : ((s.size : Int) == (n : Int)) = false := by rw [beq_eq_false_iff_ne]; omega
            have te2 : (s.size == n) = false := by simp [hen]
            have HS2 : Hid (ofLen (ls.take (i + 1)) n = oo) := Lib.hid (by rw [HS.out, if_neg (by omega), List.append_nil])
            clear hen z1
            go_wp2
            go_roundw
            case rel => exact ⟨i + 1, by omega, by go_num, by rw [HS2.out, HG2.out]; exact hown, oC, hne, hb⟩
            case measure => simp [intOf]; omega
        · have hk' : i = cs.length := by omega
          subst hk'
          have HT : Hid (ls.take cs.length = ls) := Lib.hid (by rw [← hll, List.take_length])
          have hd := HD.out
          go_wp2
          go_roundw
          case rel => exact ⟨d + 1, n - 1, by omega, by rw [← hw1], by rw [HG.out]; rw [HT.out] at hown ⊢; exact hown, oC, hne, hb⟩
          case measure => simp [intOf]; omega
    · have tn : decide ((0 : Int) < (n : Int)) = false := decide_eq_false (by omega)
      have tn2 : decide (0 < n) = false := decide_eq_false hn
      have hd : d = 10 := by omega
      subst hd
      go_wp2
      go_ret
      exact ⟨_, rfl, hown, hb⟩
end Go.Proofs.YtnnblmibonnpcaaGreatDoor

/- Decimal digits and the text of the lengths, in the specification. -/
namespace Go.Proofs.YtnnblmibonnpcaaGreatDoor
open Go.RowKit

theorem dec_big {j : Nat} (h : 9 < j) : Lib.decDigits j = Lib.decDigits (j / 10) ++ [UInt8.ofNat (48 + j % 10)] := by
  rw [Lib.decDigits, dif_neg (by omega)]
theorem dec_small {j : Nat} (h : j ≤ 9) : Lib.decDigits j = [UInt8.ofNat (48 + j)] := by
  rw [Lib.decDigits, dif_pos (by omega)]
set_option maxRecDepth 100000 in
set_option maxHeartbeats 1000000 in
theorem l21Dec_any (k : Nat) (w : World) (hk : k < 100) :
    Calls Tryz.prog 66 #[.int .i64 (k : Int)] w fun e w' => e = .returned (.string (S (Lib.decDigits k))) ∧ Below w.heap.size w w' := by
  have t0 : decide ((k : Int) < -9223372036854775807) = false := decide_eq_false (by omega)
  have t1 : decide ((k : Int) < 0) = false := decide_eq_false (by omega)
  go_enter Tryz.func66, Tryz.ntmps66
  go_wp2
  go_loopw [0, 3] (fun i o wr => ∃ (j : Nat) (t : List UInt8), i = .int .i64 j ∧ o = .string (S t) ∧ t.length + j ≤ k ∧ Lib.decDigits j ++ t = Lib.decDigits k ∧ Below w.heap.size w wr) (fun i _ _ => (intOf i).toNat)
  case atStart => exact ⟨k, [], rfl, rfl, by simp, by simp, Below.refl _ _⟩
  case round =>
    obtain ⟨j, t, rfl, rfl, hl, he, hb⟩ := hrel
    have hsz : (S t).size ≤ 100000000 := by rw [size_S]; omega
    have HE := Lib.hid he
    clear he
    by_cases hlt : 9 < j
    · have HP := Lib.hid (dec_big hlt)
      have tk : decide ((9 : Int) < (j : Int)) = true := decide_eq_true (by omega)
      have tk2 : decide (9 < j) = true := decide_eq_true hlt
      have hc := run_conv_new (P := Tryz.prog) wr 22 9 5 Tryz.underlying22 Tryz.underlying5 Tryz.underlying9 [48 + (j : Int) % 10]
      simp only [List.map_cons, List.map_nil, List.length_cons, List.length_nil, Nat.zero_add] at hc
      rw [show (48 + (j : Int) % 10).toNat = 48 + j % 10 by omega] at hc
      generalize UInt8.ofNat (48 + j % 10) = d at hc HP
      have hs1 : (S [d]).size ≤ 1 := by rw [size_S]; simp
      go_wp2
      go_roundw
      case rel =>
        refine ⟨j / 10, d :: t, by go_num, ?_, ?_, ?_, hb.alloc hb.size _⟩
        · rw [S_append]; rfl
        · simp; omega
        · rw [← HE.out, HP.out]; simp
      case measure => simp [intOf]; omega
    · have HP := Lib.hid (dec_small (j := j) (by omega))
      have tk : decide ((9 : Int) < (j : Int)) = false := decide_eq_false (by omega)
      have tk2 : decide (9 < j) = false := decide_eq_false hlt
      have hc := run_conv_new (P := Tryz.prog) wr 22 9 5 Tryz.underlying22 Tryz.underlying5 Tryz.underlying9 [48 + (j : Int)]
      simp only [List.map_cons, List.map_nil, List.length_cons, List.length_nil, Nat.zero_add] at hc
      rw [show (48 + (j : Int)).toNat = 48 + j by omega] at hc
      generalize UInt8.ofNat (48 + j) = d at hc HP
      have hs1 : (S [d]).size ≤ 1 := by rw [size_S]; simp
      go_wp2
      go_ret
      refine ⟨ret_str ?_, hb.alloc hb.size _⟩
      rw [S_append, ← HE.out, HP.out]
/-- The lengths, one after the other, as a text. -/
def ltT : List Int → Nat → ByteArray
  | _, 0 => S []
  | l, k + 1 => (ltT l k ++ S (if 0 < k then [32] else [])) ++ S (Lib.decDigits (l.getD k 0).toNat)
theorem ltT_size {l : List Int} (h : ∀ x ∈ l, ∃ n : Nat, x = (n : Int) ∧ 1 ≤ n ∧ n ≤ 10) : ∀ k, k ≤ l.length → (ltT l k).size ≤ 3 * k
  | 0, _ => by simp [ltT, size_S]
  | k + 1, hk => by
    have ih := ltT_size h k (by omega)
    obtain ⟨n, e, h1, h2⟩ := h (l[k]'(by omega)) (List.getElem_mem (by omega))
    have hd : (Lib.decDigits n).length ≤ 2 := by
      rcases Nat.lt_or_ge 9 n with h3 | h3
      · rw [dec_big h3, dec_small (by omega)]; simp
      · rw [dec_small h3]; simp
    have e2 : (l.getD k 0).toNat = n := by rw [List.getD_eq_getElem?_getD, List.getElem?_eq_getElem (by omega)]; simp [e]
    simp only [ltT, ByteArray.size_append, size_S, e2]
    by_cases h0 : 0 < k
    · simp [h0]; omega
    · simp [h0]; omega
end Go.Proofs.YtnnblmibonnpcaaGreatDoor

/- Whether the cycles of a permutation come in pairs, in the program. -/
namespace Go.Proofs.YtnnblmibonnpcaaGreatDoor
open Go.RowKit

/-- One bit a length, each seen an odd number of times. -/
def xmT (l : List Int) : Nat := l.foldl (fun m x => m ^^^ 2 ^ x.toNat) 0
theorem xmT_snoc (l : List Int) (x : Int) : xmT (l ++ [x]) = xmT l ^^^ 2 ^ x.toNat := by simp [xmT]
theorem xmT_lt {l : List Int} (h : ∀ x ∈ l, x.toNat ≤ 10) : xmT l < 2 ^ 11 := by
  have aux : ∀ (l : List Int) (m : Nat), m < 2 ^ 11 → (∀ x ∈ l, x.toNat ≤ 10) → l.foldl (fun m x => m ^^^ 2 ^ x.toNat) m < 2 ^ 11 := by
    intro l
    induction l with
    | nil => intro m h _; exact h
    | cons x l ih =>
      intro m hm hl
      refine ih _ (Nat.xor_lt_two_pow hm (Nat.pow_lt_pow_right (by omega) (by have := hl x (by simp); omega))) (fun y hy => hl y (by simp [hy]))
  exact aux l 0 (by decide) h
/-- Whether the cycles come in pairs. -/
def pairedB (p : List Nat) : Bool := decide (xmT (lenD p) = 0)
/-- The letters before i that p moves past p's i. -/
def invN (p : List Nat) (i j : Nat) : Nat := ((List.range j).filter fun t => decide (pAt p i < pAt p t)).length
theorem invN_succ (p : List Nat) (i j : Nat) : invN p i (j + 1) = invN p i j + if pAt p i < pAt p j then 1 else 0 := by
  unfold invN
  rw [List.range_succ, List.filter_append, List.length_append]
  by_cases h : pAt p i < pAt p j <;> simp [h]
/-- The inversions of the first letters. -/
def invS (p : List Nat) : Nat → Nat
  | 0 => 0
  | k + 1 => invS p k + invN p k k
/-- One, or minus one. -/
def sgN (n : Nat) : Int := if n % 2 = 0 then 1 else -1
theorem sgN_neg (n : Nat) : -sgN n = sgN (n + 1) := by
  unfold sgN
  rcases Nat.mod_two_eq_zero_or_one n with h | h
  · rw [if_pos h, if_neg (by omega)]
  · rw [if_neg (by omega), if_pos (by omega)]; rfl
theorem sgN_cases (n : Nat) : sgN n = 1 ∨ sgN n = -1 := by
  unfold sgN; split
  · exact .inl rfl
  · exact .inr rfl
end Go.Proofs.YtnnblmibonnpcaaGreatDoor

/- A contract of the library, laid by the shelf's tools at this program (plain form). -/
namespace Go.Proofs
open Go.Shelf
def Tryz.lays156_ren : Go.Shelf.Ren := ⟨fun | 156 => 58 | 165 => 87 | 166 => 88 | 169 => 89 | 240 => 119 | 241 => 120 | 276 => 144 | 277 => 145 | n => n, fun | 31 => 30 | 9 => 9 | 3 => 3 | 4 => 4 | 0 => 0 | 20 => 20 | 72 => 103 | 76 => 107 | 70 => 101 | 37 => 22 | 75 => 106 | 127 => 135 | 164 => 158 | 5 => 5 | 80 => 77 | n => n, fun | n => n⟩
theorem Tryz.lays156 : Go.Proofs.Lays.n156 Tryz.prog Tryz.lays156_ren := {
  mixed := by kernel_rfl
  f156 := Tryz.func58.trans (congrArg some (by kernel_rfl))
  f165 := Tryz.func87.trans (congrArg some (by kernel_rfl))
  f166 := Tryz.func88.trans (congrArg some (by kernel_rfl))
  f169 := Tryz.func89.trans (congrArg some (by kernel_rfl))
  f240 := Tryz.func119.trans (congrArg some (by kernel_rfl))
  f241 := Tryz.func120.trans (congrArg some (by kernel_rfl))
  f276 := Tryz.func144.trans (congrArg some (by kernel_rfl))
  f277 := Tryz.func145.trans (congrArg some (by kernel_rfl))
  t0 := Tryz.underlying0
  a0 := Tryz.isAgg0
  z0 := Tryz.sizeOf0
  v0 := Tryz.zeroValue0
  t3 := Tryz.underlying3
  a3 := Tryz.isAgg3
  z3 := Tryz.sizeOf3
  v3 := Tryz.zeroValue3
  t4 := Tryz.underlying4
  a4 := Tryz.isAgg4
  z4 := Tryz.sizeOf4
  v4 := Tryz.zeroValue4
  t9 := Tryz.underlying9
  a9 := Tryz.isAgg9
  z9 := Tryz.sizeOf9
  v9 := Tryz.zeroValue9
  t20 := Tryz.underlying20
  a20 := Tryz.isAgg20
  z20 := Tryz.sizeOf20
  v20 := Tryz.zeroValue20
  t31 := Tryz.underlying30
  a31 := Tryz.isAgg30
  z31 := Tryz.sizeOf30
  v31 := Tryz.zeroValue30
  t37 := Tryz.underlying22
  a37 := Tryz.isAgg22
  z37 := Tryz.sizeOf22
  v37 := Tryz.zeroValue22
  t70 := Tryz.underlying101
  a70 := Tryz.isAgg101
  z70 := Tryz.sizeOf101
  v70 := Tryz.zeroValue101
  t72 := Tryz.underlying103
  a72 := Tryz.isAgg103
  z72 := Tryz.sizeOf103
  v72 := Tryz.zeroValue103
  t75 := Tryz.underlying106
  a75 := Tryz.isAgg106
  z75 := Tryz.sizeOf106
  v75 := Tryz.zeroValue106
  t76 := Tryz.underlying107
  a76 := Tryz.isAgg107
  z76 := Tryz.sizeOf107
  v76 := Tryz.zeroValue107
  t127 := Tryz.underlying135
  a127 := Tryz.isAgg135
  z127 := Tryz.sizeOf135
  v127 := Tryz.zeroValue135
  t164 := Tryz.underlying158
  a164 := Tryz.isAgg158
  z164 := Tryz.sizeOf158
  v164 := Tryz.zeroValue158 }
theorem Tryz.Builder_Extra_156 : Builder.Extra Tryz.prog Tryz.lays156_ren := {
  sizeBuilder := by kernel_rfl
  liesBuilder := by kernel_rfl
  t5 := Tryz.underlying5
  a5 := Tryz.isAgg5
  z5 := Tryz.sizeOf5
  v5 := Tryz.zeroValue5
  infoByte := by kernel_rfl
  cellsByte := by kernel_rfl
  sizeByte := by kernel_rfl
  neB5 := by decide }
open Go.RowKit in
theorem Tryz.strings_Join_none (a : Option Addr) (c : Nat) (sep : ByteArray) (w : World) :
    Calls Tryz.prog 58 #[.slice a 0 c, .string sep] w fun e w' => e = .returned (.string ⟨#[]⟩) ∧ w' = w := Any.strings_Join_none Tryz.lays156 Tryz.Builder_Extra_156 a c sep w
open Go.RowKit in
theorem Tryz.strings_Join (bk o c : Nat) (xs : List ByteArray) (sep : ByteArray) (w : World) (hcells : ∀ (j : Nat) x, xs[j]? = some x → w.cell? ⟨bk, o + j, none⟩ = some (.string x)) (hbk : bk < w.heap.size) (hN : xs.length ≤ 140737488355328) (hcap : xs.length ≤ c) (hlen : (Lib.join (xs.map (·.data.toList)) sep.data.toList).length ≤ 140737488355328) :
    Calls Tryz.prog 58 #[.slice (some ⟨bk, o, none⟩) xs.length c, .string sep] w fun e w' => e = .returned (.string ⟨(Lib.join (xs.map (·.data.toList)) sep.data.toList).toArray⟩) ∧ Below w.heap.size w w' := Any.strings_Join Tryz.lays156 Tryz.Builder_Extra_156 bk o c xs sep w hcells hbk hN hcap hlen
open Go.RowKit Go.Sort Go.Lib in
open Go.RowKit Go.Sort Go.Lib in
open Go.RowKit Go.Sort Go.Lib in
open Go.RowKit Go.Sort Go.Lib in
open Go.RowKit Go.Sort Go.Lib in
def Tryz.lays171_ren : Go.Shelf.Ren := ⟨fun | 171 => 57 | 243 => 86 | 246 => 118 | 283 => 140 | 284 => 141 | 285 => 142 | 286 => 143 | 129 => 171 | 317 => 172 | 318 => 173 | 319 => 174 | 320 => 175 | 337 => 188 | 338 => 189 | n => n, fun | 3 => 3 | 9 => 9 | 2 => 2 | 4 => 4 | 171 => 152 | 0 => 0 | 53 => 153 | 37 => 22 | 5 => 5 | 173 => 156 | 212 => 180 | 51 => 178 | 20 => 20 | 213 => 181 | 46 => 151 | 232 => 193 | 233 => 194 | n => n, fun | 17 => 0 | 18 => 2 | 19 => 3 | n => n⟩
theorem Tryz.lays171 : Go.Proofs.Lays.n171 Tryz.prog Tryz.lays171_ren := {
  mixed := by kernel_rfl
  f129 := Tryz.func171.trans (congrArg some (by kernel_rfl))
  f171 := Tryz.func57.trans (congrArg some (by kernel_rfl))
  f243 := Tryz.func86.trans (congrArg some (by kernel_rfl))
  f246 := Tryz.func118.trans (congrArg some (by kernel_rfl))
  f283 := Tryz.func140.trans (congrArg some (by kernel_rfl))
  f284 := Tryz.func141.trans (congrArg some (by kernel_rfl))
  f285 := Tryz.func142.trans (congrArg some (by kernel_rfl))
  f286 := Tryz.func143.trans (congrArg some (by kernel_rfl))
  f317 := Tryz.func172.trans (congrArg some (by kernel_rfl))
  f318 := Tryz.func173.trans (congrArg some (by kernel_rfl))
  f319 := Tryz.func174.trans (congrArg some (by kernel_rfl))
  f320 := Tryz.func175.trans (congrArg some (by kernel_rfl))
  f337 := Tryz.func188.trans (congrArg some (by kernel_rfl))
  f338 := Tryz.func189.trans (congrArg some (by kernel_rfl))
  t0 := Tryz.underlying0
  a0 := Tryz.isAgg0
  z0 := Tryz.sizeOf0
  v0 := Tryz.zeroValue0
  t2 := Tryz.underlying2
  a2 := Tryz.isAgg2
  z2 := Tryz.sizeOf2
  v2 := Tryz.zeroValue2
  t3 := Tryz.underlying3
  a3 := Tryz.isAgg3
  z3 := Tryz.sizeOf3
  v3 := Tryz.zeroValue3
  t4 := Tryz.underlying4
  a4 := Tryz.isAgg4
  z4 := Tryz.sizeOf4
  v4 := Tryz.zeroValue4
  t5 := Tryz.underlying5
  a5 := Tryz.isAgg5
  z5 := Tryz.sizeOf5
  v5 := Tryz.zeroValue5
  t9 := Tryz.underlying9
  a9 := Tryz.isAgg9
  z9 := Tryz.sizeOf9
  v9 := Tryz.zeroValue9
  t20 := Tryz.underlying20
  a20 := Tryz.isAgg20
  z20 := Tryz.sizeOf20
  v20 := Tryz.zeroValue20
  t37 := Tryz.underlying22
  a37 := Tryz.isAgg22
  z37 := Tryz.sizeOf22
  v37 := Tryz.zeroValue22
  t46 := Tryz.underlying151
  a46 := Tryz.isAgg151
  z46 := Tryz.sizeOf151
  v46 := Tryz.zeroValue151
  t51 := Tryz.underlying178
  a51 := Tryz.isAgg178
  z51 := Tryz.sizeOf178
  v51 := Tryz.zeroValue178
  t53 := Tryz.underlying153
  a53 := Tryz.isAgg153
  z53 := Tryz.sizeOf153
  v53 := Tryz.zeroValue153
  t171 := Tryz.underlying152
  a171 := Tryz.isAgg152
  z171 := Tryz.sizeOf152
  v171 := Tryz.zeroValue152
  t173 := Tryz.underlying156
  a173 := Tryz.isAgg156
  z173 := Tryz.sizeOf156
  v173 := Tryz.zeroValue156
  t212 := Tryz.underlying180
  a212 := Tryz.isAgg180
  z212 := Tryz.sizeOf180
  v212 := Tryz.zeroValue180
  t213 := Tryz.underlying181
  a213 := Tryz.isAgg181
  z213 := Tryz.sizeOf181
  t232 := Tryz.underlying193
  a232 := Tryz.isAgg193
  z232 := Tryz.sizeOf193
  v232 := Tryz.zeroValue193
  t233 := Tryz.underlying194
  a233 := Tryz.isAgg194
  z233 := Tryz.sizeOf194
  v233 := Tryz.zeroValue194
  g17 := by kernel_rfl
  g18 := by kernel_rfl
  g19 := by kernel_rfl }
open Go.RowKit Go.Sort Go.Lib in
theorem Tryz.strconv_Itoa_small (i : Nat) (hi : i < 100) (w : World) :
    Calls Tryz.prog 57 #[.int .i64 i] w fun e w' => e = .returned (.string ⟨(Lib.decDigits i).toArray⟩) ∧ w' = w := Any.strconv_Itoa_small Tryz.lays171 i hi w
def Tryz.lays193_ren : Go.Shelf.Ren := ⟨fun | 193 => 48 | n => n, fun | 31 => 30 | 9 => 9 | 4 => 4 | 3 => 3 | 0 => 0 | n => n, fun | n => n⟩
theorem Tryz.lays193 : Go.Proofs.Lays.n193 Tryz.prog Tryz.lays193_ren := {
  mixed := by kernel_rfl
  f193 := Tryz.func48.trans (congrArg some (by kernel_rfl))
  t0 := Tryz.underlying0
  a0 := Tryz.isAgg0
  z0 := Tryz.sizeOf0
  v0 := Tryz.zeroValue0
  t3 := Tryz.underlying3
  a3 := Tryz.isAgg3
  z3 := Tryz.sizeOf3
  v3 := Tryz.zeroValue3
  t4 := Tryz.underlying4
  a4 := Tryz.isAgg4
  z4 := Tryz.sizeOf4
  v4 := Tryz.zeroValue4
  t9 := Tryz.underlying9
  a9 := Tryz.isAgg9
  z9 := Tryz.sizeOf9
  v9 := Tryz.zeroValue9
  t31 := Tryz.underlying30
  a31 := Tryz.isAgg30
  z31 := Tryz.sizeOf30
  v31 := Tryz.zeroValue30 }
open Go.RowKit Go.Lib in
theorem Tryz.slices_Equal_string (b1 o1 n c b2 o2 m d : Nat) (xs ys : List ByteArray) (w : World) (hx : n ≤ xs.length) (hy : m ≤ ys.length) (hbig : n ≤ 9223372036854775807) (hbig2 : m ≤ 9223372036854775807) (hc1 : ∀ j, j < xs.length → w.cell? ⟨b1, o1 + j, none⟩ = some (.string (xs.getD j ByteArray.empty))) (hc2 : ∀ j, j < ys.length → w.cell? ⟨b2, o2 + j, none⟩ = some (.string (ys.getD j ByteArray.empty))) :
    Calls Tryz.prog 48 #[.slice (some ⟨b1, o1, none⟩) n c, .slice (some ⟨b2, o2, none⟩) m d] w fun e w' => e = .returned (.bool (decide (xs.take n = ys.take m))) ∧ ∃ q, w' = w.drewN q := Any.slices_Equal_string Tryz.lays193 b1 o1 n c b2 o2 m d xs ys w hx hy hbig hbig2 hc1 hc2
open Go.RowKit Go.Lib in
theorem Tryz.slices_Equal_string_empty (a1 a2 : Option Addr) (c m d : Nat) (w : World) (hbig2 : m ≤ 9223372036854775807) :
    Calls Tryz.prog 48 #[.slice a1 0 c, .slice a2 m d] w fun e w' => e = .returned (.bool (decide (m = 0))) ∧ w' = w := Any.slices_Equal_string_empty Tryz.lays193 a1 a2 c m d w hbig2
end Go.Proofs

/- The text of the lengths, in the specification and in the program. -/
namespace Go.Proofs.YtnnblmibonnpcaaGreatDoor
open Go.RowKit

theorem perm_grp : ∀ (ls : List Nat) (d : Nat), d ≤ 10 → (∀ x ∈ ls, 1 ≤ x ∧ x ≤ 10) → (grpD ls d).Perm ((ls.filter (fun x : Nat => decide (10 < x + d))).map (fun x : Nat => (x : Int)))
  | ls, 0, _, h => by
    have : ls.filter (fun x : Nat => decide (10 < x + 0)) = [] := by
      rw [List.filter_eq_nil_iff]; intro x hx; have := h x hx; simp; omega
    rw [this]; exact List.Perm.refl _
  | ls, d + 1, hd, h => by
    have ih := perm_grp ls d (by omega) h
    have key : ∀ (l : List Nat), (((l.filter (fun x : Nat => decide (10 < x + d))).map (fun x : Nat => (x : Int))) ++ ofLen l (10 - d)).Perm ((l.filter (fun x : Nat => decide (10 < x + (d + 1)))).map (fun x : Nat => (x : Int))) := by
      intro l
      induction l with
      | nil => exact List.Perm.refl _
      | cons x l ih2 =>
        unfold ofLen at ih2 ⊢
        by_cases h1 : 10 < x + d
        · rw [List.filter_cons_of_pos (by simpa using h1), List.filter_cons_of_neg (by simp; omega), List.filter_cons_of_pos (by simp; omega)]
          simp only [List.map_cons, List.cons_append]
          exact List.Perm.cons _ ih2
        · by_cases h2 : x = 10 - d
          · rw [List.filter_cons_of_neg (by simpa using h1), List.filter_cons_of_pos (by simpa using h2), List.filter_cons_of_pos (by simp; omega)]
            simp only [List.map_cons]
            exact List.perm_middle.trans (List.Perm.cons _ ih2)
          · rw [List.filter_cons_of_neg (by simpa using h1), List.filter_cons_of_neg (by simpa using h2), List.filter_cons_of_neg (by simp; omega)]
            exact ih2
    exact (List.Perm.append_right _ ih).trans (key ls)
theorem grp_ge : ∀ (ls : List Nat) (d : Nat), d ≤ 10 → ∀ x ∈ grpD ls d, (11 : Int) - d ≤ x
  | _, 0, _, x, hx => by simp [grpD] at hx
  | ls, d + 1, hd, x, hx => by
    simp only [grpD, List.mem_append] at hx
    rcases hx with h | h
    · have := grp_ge ls d (by omega) x h; omega
    · unfold ofLen at h
      obtain ⟨y, hy, rfl⟩ := List.mem_map.1 h
      have := (List.mem_filter.1 hy).2
      simp only [decide_eq_true_eq] at this
      omega
theorem grp_desc : ∀ (ls : List Nat) (d : Nat), d ≤ 10 → (grpD ls d).Pairwise (fun a b => b ≤ a)
  | _, 0, _ => List.Pairwise.nil
  | ls, d + 1, hd => by
    simp only [grpD]
    have hof : ∀ y ∈ ofLen ls (10 - d), y = ((10 - d : Nat) : Int) := by
      intro y hy
      unfold ofLen at hy
      obtain ⟨z, hz, rfl⟩ := List.mem_map.1 hy
      have := (List.mem_filter.1 hz).2
      simp only [decide_eq_true_eq] at this
      rw [this]
    rw [List.pairwise_append]
    refine ⟨grp_desc ls d (by omega), ?_, fun a ha b hb => ?_⟩
    · rw [List.pairwise_iff_getElem]
      intro i j hi hj _
      rw [hof _ (List.getElem_mem hi), hof _ (List.getElem_mem hj)]
      exact Int.le_refl _
    · have h1 := grp_ge ls d (by omega) a ha
      rw [hof b hb]; omega
/-- Both ways of writing the lengths down agree. -/
theorem lenD_grp {p : List Nat} (hp : IsP p) : lenD p = grpD (lensN p) 10 := by
  have h1 : (lenD p).Perm (grpD (lensN p) 10) := by
    have hb : ∀ x ∈ lensN p, 1 ≤ x ∧ x ≤ 10 := by
      intro x hx
      obtain ⟨c, hc, rfl⟩ := List.mem_map.1 hx
      exact cycsTo_size hp (Nat.le_refl 10) c hc
    have h2 := perm_grp (lensN p) 10 (Nat.le_refl _) hb
    have h3 : (lensN p).filter (fun x : Nat => decide (10 < x + 10)) = lensN p := by
      rw [List.filter_eq_self]; intro x hx; have := hb x hx; simp; omega
    rw [h3] at h2
    have h4 : (lenD p).Perm (lensI p (cycs p).length) := by
      unfold lenD sortI
      exact (List.reverse_perm _).trans (List.mergeSort_perm _ _)
    have h5 : lensI p (cycs p).length = (lensN p).map (fun x : Nat => (x : Int)) := by
      unfold lensI lensN
      rw [List.take_length, List.map_map]; rfl
    rw [h5] at h4
    exact h4.trans h2.symm
  refine List.Perm.eq_of_pairwise (le := fun a b => b ≤ a) (fun a b _ _ h1 h2 => Int.le_antisymm h2 h1) ?_ (grp_desc _ _ (Nat.le_refl _)) h1
  unfold lenD
  rw [List.pairwise_reverse]
  have := List.pairwise_mergeSort (le := fun a b : Int => decide (a ≤ b)) (fun a b c h1 h2 => by simp only [decide_eq_true_eq] at *; omega) (fun a b => by simp only [Bool.or_eq_true, decide_eq_true_eq]; omega) (lensI p (cycs p).length)
  exact this.imp (fun h => by simpa using h)
set_option maxRecDepth 100000 in
set_option maxHeartbeats 1000000 in
theorem specLengthsText_any (p : List Nat) (w : World) (hp : IsP p) :
    Calls Tryz.prog 35 #[.string (wd p)] w fun e w' => e = .returned (.string (ltT (lenD p) (lenD p).length)) ∧ Below w.heap.size w w' := by
  have hcy := fun W => specCycleLengths_any p W hp
  rw [← lenD_grp hp] at hcy
  have hl10 : (lenD p).length ≤ 10 := by rw [len_lenD]; exact cycsTo_len p 10
  have HM := Lib.hid (mem_lenD hp)
  have HSZ := Lib.hid (ltT_size (l := lenD p) (mem_lenD hp))
  generalize lenD p = l at *
  go_enter Tryz.func35, Tryz.ntmps35
  go_wp2_with fail
  refine (hcy _).mono ?_
  rintro e w1 ⟨cv, rfl, oc, hb1⟩
  obtain ⟨ca, cc, rfl, -, hrc, -⟩ := OwR.val oc
  have HRC := Lib.hid (fun (W : World) (hb : Below w1.heap.size w1 W) => hrc.below hb (Nat.le_refl _))
  clear oc hrc hcy
  go_wp2_with fail
  go_loopw [3, 5] (fun s i wr => ∃ k : Nat, k ≤ l.length ∧ i = .int .i64 k ∧ s = .string (ltT l k) ∧ Below w1.heap.size w1 wr) (fun _ i _ => l.length - (intOf i).toNat)
  case atStart => exact ⟨0, Nat.zero_le _, rfl, rfl, Below.refl _ _⟩
  case round =>
    obtain ⟨k, hk, rfl, rfl, hb⟩ := hrel
    by_cases hlt : k < l.length
    · obtain ⟨b, off, rfl, hbl, hcl2⟩ := (HRC.out _ hb).open_ (by rw [length_iv]; omega)
      have c1 := hcl2 k (by rw [length_iv]; exact hlt)
      rw [iv_at hlt] at c1
      clear hcl2
      have q1 : (0 : Int) ≤ (k : Int) := by omega
      have q2 : (k : Int) < (l.length : Int) := by omega
      obtain ⟨n, hn, n1, n2⟩ := HM.out _ (List.getElem_mem hlt)
      have HL : Hid (ltT l (k + 1) = (ltT l k ++ S (if 0 < k then [32] else [])) ++ S (Lib.decDigits n)) := Lib.hid (by
        have e2 : (l.getD k 0).toNat = n := by rw [List.getD_eq_getElem?_getD, List.getElem?_eq_getElem hlt]; simp [hn]
        simp only [ltT, e2])
      have hts := HSZ.out k hk
      have hds : (S (Lib.decDigits n)).size ≤ 10 := by
        rw [size_S]
        rcases Nat.lt_or_ge 9 n with h3 | h3
        · rw [dec_big h3, dec_small (by omega)]; simp
        · rw [dec_small h3]; simp
      have hdn := fun W => l21Dec_any n W (by omega)
      rw [hn] at c1
      clear hn
      generalize ltT l k = t at *
      generalize S (Lib.decDigits n) = d at *
      by_cases h0 : 0 < k
      · have t0 : decide ((0 : Int) < (k : Int)) = true := decide_eq_true (by omega)
        have t1 : decide (0 < k) = true := decide_eq_true h0
        rw [if_pos h0] at HL
        have hts2 : (t ++ ⟨#[32]⟩).size ≤ 100 := by rw [ByteArray.size_append]; show t.size + 1 ≤ 100; omega
        have HT : Hid ((t ++ ⟨#[32]⟩ : ByteArray) = t ++ S [32]) := Lib.hid rfl
        go_wp2_with fail
        generalize (t ++ ⟨#[32]⟩ : ByteArray) = t2 at *
        refine (hdn _).mono ?_
        rintro e w3 ⟨rfl, hb3⟩
        have hb4 := hb.trans (hb3.mono hb.size)
        go_wp2
        go_roundw
        case rel => exact ⟨k + 1, by omega, by go_num, by rw [HL.out, ← HT.out], hb4⟩
        case measure => simp [intOf]; omega
      · have t0 : decide ((0 : Int) < (k : Int)) = false := decide_eq_false (by omega)
        have t1 : decide (0 < k) = false := decide_eq_false h0
        rw [if_neg h0] at HL
        go_wp2_with fail
        refine (hdn _).mono ?_
        rintro e w3 ⟨rfl, hb3⟩
        have hb4 := hb.trans (hb3.mono hb.size)
        go_wp2
        go_roundw
        case rel => exact ⟨k + 1, by omega, by go_num, by rw [HL.out, show S [] = (ByteArray.empty) from rfl, ByteArray.append_empty], hb4⟩
        case measure => simp [intOf]; omega
    · have hk' : k = l.length := by omega
      subst hk'
      go_wp2
      go_ret
      exact ⟨rfl, hb1.trans (hb.mono hb1.size)⟩
end Go.Proofs.YtnnblmibonnpcaaGreatDoor

/- The text of the lengths, in the program. -/
namespace Go.Proofs.YtnnblmibonnpcaaGreatDoor
open Go.RowKit

theorem join_snoc (xs : List (List UInt8)) (y sep : List UInt8) (h : xs ≠ []) : Lib.join (xs ++ [y]) sep = Lib.join xs sep ++ sep ++ y := by
  match xs, h with
  | x :: r, _ =>
    rw [List.cons_append, Lib.join_cons, Lib.join_cons]
    unfold Lib.joinTail
    simp
/-- The digits of the lengths. -/
def digL (l : List Int) : List ByteArray := l.map fun x => S (Lib.decDigits x.toNat)
theorem digL_snoc (l : List Int) (x : Int) : digL (l ++ [x]) = digL l ++ [S (Lib.decDigits x.toNat)] := by simp [digL]
theorem len_digL (l : List Int) : (digL l).length = l.length := by simp [digL]
theorem ltT_join (l : List Int) : ∀ k, k ≤ l.length → ltT l k = S (Lib.join ((digL (l.take k)).map (·.data.toList)) [32])
  | 0, _ => rfl
  | k + 1, hk => by
    have ih := ltT_join l k (by omega)
    have hx : (l.getD k 0) = l[k]'(by omega) := by rw [List.getD_eq_getElem?_getD, List.getElem?_eq_getElem (by omega)]; rfl
    rw [List.take_succ_eq_append_getElem (by omega), digL_snoc, List.map_append]
    simp only [ltT, hx, List.map_cons, List.map_nil]
    rw [ih]
    by_cases h0 : 0 < k
    · rw [if_pos h0, join_snoc _ _ _ (by
        intro e
        have := congrArg List.length e
        simp only [digL, List.length_map, List.length_take, List.length_nil] at this; omega), S_append, S_append]
      rfl
    · have : k = 0 := by omega
      subst this
      rw [if_neg h0, List.take_zero]
      simp only [digL, List.map_nil, List.nil_append]
      rw [Lib.join_one, Lib.join_nil, S_append, S_append]
      rfl
set_option maxRecDepth 100000 in
set_option maxHeartbeats 1000000 in
theorem implCycleLengths_yes (p : List Nat) (w : World) (hp : IsP p) :
    Calls Tryz.prog 56 #[.string (wd p)] w (RowPost 3 1 (lenD p).length (iv (lenD p)) w) := by
  have hpl := size_pv10 hp
  have hps : (wd p).size ≤ 4294967296 := by rw [size_wd, hp.len]; omega
  have n1 := fun W => permOf_any (wd p) W hps
  rw [permB_wd hp, permC_yes, dg_wd hp.lt] at n1
  have npr := fun W => lengths_any p W hp
  rw [← len_lenD] at npr
  generalize lenD p = l at *
  go_enter Tryz.func56, Tryz.ntmps56
  go_wp2_with fail
  refine (n1 _).mono ?_
  rintro e w1 ⟨rfl, hb1⟩
  have o1 : Own (w1.alloc (.cells #[.int .u8 0, .int .u8 0, .int .u8 0, .int .u8 0, .int .u8 0, .int .u8 0, .int .u8 0, .int .u8 0, .int .u8 0, .int .u8 0] 65)) w1.heap.size z10 := Own.new w1 z10 65
  have hz1 := hb1.size
  have hbw := hb1.alloc (by omega) (.cells #[.int .u8 0, .int .u8 0, .int .u8 0, .int .u8 0, .int .u8 0, .int .u8 0, .int .u8 0, .int .u8 0, .int .u8 0, .int .u8 0] 65)
  go_wp2_with (first | ((with_reducible refine wl_store 65 0 o1 (size_pv hp.len) (pv_one _) (by rw [hpl, len_z10]; omega) ?_ ?_ ?_ ?_); (· rfl); (· rfl); (· rfl); intro w2 o2 b2 s2; rw [put_z10 hpl] at o2) | ((with_reducible refine wl_load 65 o2.cells (size_pv hp.len) Tryz.underlying65 ?_ ?_ ?_ ?_); (· rfl); (· rfl); (· rfl)))
  simp only [World.size_alloc] at s2
  have hbw2 := bel_store hbw b2 (by simp; omega) (by omega)
  refine (npr _).mono ?_
  rintro e w3 ⟨v, rfl, h3, hb3⟩
  go_wp2
  go_ret
  exact ⟨_, rfl, World.ownsRow.mono h3 hbw2.size, bt hbw2 hb3⟩
set_option maxRecDepth 100000 in
set_option maxHeartbeats 1000000 in
theorem implLengthsText_any (p : List Nat) (w : World) (hp : IsP p) :
    Calls Tryz.prog 31 #[.string (wd p)] w fun e w' => e = .returned (.string (ltT (lenD p) (lenD p).length)) ∧ Below w.heap.size w w' := by
  have hcy := fun W => implCycleLengths_yes p W hp
  have hl10 : (lenD p).length ≤ 10 := by rw [len_lenD]; exact cycsTo_len p 10
  have HM := Lib.hid (mem_lenD hp)
  have HSZ := Lib.hid (ltT_size (l := lenD p) (mem_lenD hp))
  have HJ := Lib.hid (ltT_join (lenD p) _ (Nat.le_refl _))
  generalize lenD p = l at *
  rw [List.take_length] at HJ
  go_enter Tryz.func31, Tryz.ntmps31
  go_wp2_with fail
  refine (hcy _).mono ?_
  rintro e w1 ⟨cv, rfl, oc, hb1⟩
  obtain ⟨ca, cc, rfl, -, hrc, -⟩ := OwR.val oc
  have HRC := Lib.hid (fun (W : World) (hb : Below w1.heap.size w1 W) => hrc.below hb (Nat.le_refl _))
  clear oc hrc hcy
  go_wp2_with fail
  go_loopw [3, 5, 9] (fun u _ i wr => ∃ k : Nat, k ≤ l.length ∧ i = .int .i64 k ∧ OwR wr w1.heap.size 9 1 u k (sv (digL (l.take k))) ∧ Below w1.heap.size w1 wr) (fun _ _ i _ => l.length - (intOf i).toNat)
  case atStart => exact ⟨0, Nat.zero_le _, rfl, World.ownsRow_nil _ _ _ _, Below.refl _ _⟩
  case round =>
    obtain ⟨k, hk, rfl, hown, hb⟩ := hrel
    have hz := hb.size
    obtain ⟨la, lc, rfl, hlc, hrl, hgl⟩ := OwR.val hown
    by_cases hlt : k < l.length
    · obtain ⟨b, off, rfl, hbl, hcl2⟩ := (HRC.out _ hb).open_ (by rw [length_iv]; omega)
      have c1 := hcl2 k (by rw [length_iv]; exact hlt)
      rw [iv_at hlt] at c1
      clear hcl2 hrl hgl
      have q1 : (0 : Int) ≤ (k : Int) := by omega
      have q2 : (k : Int) < (l.length : Int) := by omega
      obtain ⟨n, hn, n1, n2⟩ := HM.out _ (List.getElem_mem hlt)
      have HD : Hid (digL (l.take (k + 1)) = digL (l.take k) ++ [S (Lib.decDigits n)]) := Lib.hid (by rw [List.take_succ_eq_append_getElem hlt, digL_snoc, hn]; rfl)
      have hdn : ∀ W, Calls Tryz.prog 57 #[.int .i64 (n : Int)] W fun e w' => e = .returned (.string (S (Lib.decDigits n))) ∧ w' = W := fun W => Tryz.strconv_Itoa_small n (by omega) W
      rw [hn] at c1
      clear hn
      generalize S (Lib.decDigits n) = d at *
      go_wp2_with fail
      refine (hdn _).mono ?_
      rintro e w' ⟨rfl, rfl⟩
      go_wp2_with (at_builtin; ((with_reducible refine wl_push 30 9 inf_str Tryz.underlying30 rfl (by omega) hown (by omega) rfl (by simp [Value.oneCell']) (by omega) (by omega) rfl rfl ?_); intro g7 cap w7 o7 b7 k7))
      go_roundw
      case rel => exact ⟨k + 1, by omega, by go_num, by rw [HD.out, sv_append]; exact o7, hb.trans b7⟩
      case measure => simp [intOf]; omega
    · have hk' : k = l.length := by omega
      subst hk'
      rw [List.take_length] at hrl hgl hown
      have hbw := hb1.trans (hb.mono hb1.size)
      have hjz := HSZ.out _ (Nat.le_refl _)
      rw [HJ.out, size_S] at hjz
      have hjn : Calls Tryz.prog 58 #[.slice la l.length lc, .string ⟨#[32]⟩] wr fun e w' => e = .returned (.string (ltT l l.length)) ∧ Below wr.heap.size wr w' := by
        rcases Nat.eq_zero_or_pos l.length with h0 | h0
        · have hnil : l = [] := List.eq_nil_of_length_eq_zero h0
          subst hnil
          refine (Tryz.strings_Join_none la lc ⟨#[32]⟩ wr).mono ?_
          rintro e w' ⟨rfl, rfl⟩
          exact ⟨rfl, Below.refl _ _⟩
        · obtain ⟨g, rfl, -, og⟩ := hgl.resolve_left (by omega)
          have := Tryz.strings_Join g 0 lc (digL l) ⟨#[32]⟩ wr (fun j x hx => by
            rw [Nat.zero_add]
            have hj := (List.getElem?_eq_some_iff.1 hx).1
            exact og.at_ (by rw [sv_at hj, (List.getElem?_eq_some_iff.1 hx).2])) og.lt (by rw [len_digL]; omega) (by rw [len_digL]; exact hlc) (by
            have : (Lib.join ((digL l).map (·.data.toList)) [32]).length ≤ 140737488355328 := by omega
            exact this)
          rw [len_digL] at this
          refine this.mono ?_
          rintro e w' ⟨rfl, hb⟩
          exact ⟨by rw [HJ.out]; rfl, hb⟩
      clear hrl hgl hown
      go_wp2_with fail
      refine hjn.mono ?_
      rintro e w2 ⟨rfl, hb2⟩
      go_wp2
      go_ret
      exact ⟨rfl, bt hbw hb2⟩
end Go.Proofs.YtnnblmibonnpcaaGreatDoor

/- The characteristic, in the program and in the specification. -/
namespace Go.Proofs.YtnnblmibonnpcaaGreatDoor
open Go.RowKit

/-- The text of the lengths of the cycles. -/
def lenT (p : List Nat) : ByteArray := ltT (lenD p) (lenD p).length
/-- The day's products, if the setting fits. -/
def chP (m : Mach) (v : ByteArray) : List (List Nat) := if setB m v = true then prods m v else []
theorem chP_prod (m : Mach) (v : ByteArray) : prodT m v = (chP m v).map wd := by
  unfold prodT chP
  split
  · simp [prodS, prods]
  · rfl
theorem chP_isP {m : Mach} {v : ByteArray} : ∀ p ∈ chP m v, IsP p := by
  intro p hp
  unfold chP at hp
  split at hp
  · rename_i hs
    unfold prods at hp
    obtain ⟨i, -, rfl⟩ := List.mem_map.1 hp
    exact isP_prod (setB_mach hs) v i
  · simp at hp
/-- The characteristic. -/
def chT (m : Mach) (v : ByteArray) : List ByteArray := (chP m v).map lenT
/-- The first k turned into texts. -/
def mixC (ps : List (List Nat)) (k : Nat) : List ByteArray := (ps.take k).map lenT ++ (ps.drop k).map wd
theorem mixC_zero (ps : List (List Nat)) : mixC ps 0 = ps.map wd := by simp [mixC]
theorem mixC_all (ps : List (List Nat)) : mixC ps ps.length = ps.map lenT := by simp [mixC]
theorem len_mixC (ps : List (List Nat)) (k : Nat) : (mixC ps k).length = ps.length := by
  unfold mixC
  rw [List.length_append, List.length_map, List.length_map, List.length_take, List.length_drop]; omega
theorem mixC_at {ps : List (List Nat)} {k : Nat} (h : k < ps.length) : (mixC ps k)[k]'(by rw [len_mixC]; exact h) = wd ps[k] := by
  unfold mixC
  rw [List.getElem_append_right (by simp; omega)]
  simp [Nat.min_eq_left (Nat.le_of_lt h)]
theorem mixC_set {ps : List (List Nat)} {k : Nat} (h : k < ps.length) : (mixC ps k).set k (lenT ps[k]) = mixC ps (k + 1) := by
  unfold mixC
  have hl : ((ps.take k).map lenT).length = k := by simp; omega
  rw [List.set_append, if_neg (by omega), hl, Nat.sub_self, List.drop_eq_getElem_cons h, List.take_succ_eq_append_getElem h]
  simp only [List.map_cons, List.set_cons_zero, List.map_append, List.map_nil, List.append_assoc, List.cons_append, List.nil_append]
set_option maxRecDepth 100000 in
set_option maxHeartbeats 1000000 in
theorem implCharacteristic_any (a : Option Addr) (n c : Nat) (m : Mach) (v : ByteArray) (w : World) (h : MachAt w w.heap.size a n m) (hv : v.size ≤ 4294967296) :
    Calls Tryz.prog 9 #[.agg #[.slice a n c, .string m.wheels.refl, .string m.rings, .string m.plugs], .string v] w (RowPost 9 1 (chT m v).length (sv (chT m v)) w) := by
  have o0 := Own.new w [.slice a n c, .string m.wheels.refl, .string m.rings, .string m.plugs] 27
  have hb0 := (Below.refl w.heap.size w).alloc (Nat.le_refl _) (.cells [.slice a n c, .string m.wheels.refl, .string m.rings, .string m.plugs].toArray 27)
  have h' := h.alloc_ (.cells [.slice a n c, .string m.wheels.refl, .string m.rings, .string m.plugs].toArray 27)
  have hdp := fun W h => implDayProducts_any a n c m v W h hv
  rw [chP_prod, List.length_map] at hdp
  have HP := Lib.hid (@chP_isP m v)
  have HL : Hid ((chP m v).length ≤ 4294967296) := Lib.hid (by unfold chP; split; simp [prods]; omega; simp)
  show Calls _ _ _ _ (RowPost 9 1 ((chP m v).map lenT).length (sv ((chP m v).map lenT)) w)
  generalize chP m v = ps at *
  rw [List.length_map]
  have f0 := o0.at_ (i := 0) rfl
  have f1 := o0.at_ (i := 1) rfl
  have f2 := o0.at_ (i := 2) rfl
  have f3 := o0.at_ (i := 3) rfl
  go_enter Tryz.func9, Tryz.ntmps9
  go_wp2_with fail
  refine (hdp _ h').mono ?_
  rintro e w1 ⟨lv, rfl, hol, hb1⟩
  have hbw := bt hb0 hb1
  have hl := HL.out
  rw [← mixC_zero] at hol
  obtain ⟨la, lc, rfl, -, -, -⟩ := OwR.val hol
  rw [World.size_alloc] at hol
  have hz1 := hbw.size
  clear hb0 hb1 f0 f1 f2 f3 o0 h' h hdp HL
  go_wp2_with fail
  go_loopw [6, 7, 13] (fun _ _ i wr => ∃ k : Nat, k ≤ ps.length ∧ i = .int .i64 k ∧ OwR wr (w.heap.size + 1) 9 1 (.slice la ps.length lc) ps.length (sv (mixC ps k)) ∧ Below w.heap.size w wr) (fun _ _ i _ => ps.length - (intOf i).toNat)
  case atStart => exact ⟨0, Nat.zero_le _, rfl, hol, hbw⟩
  case round =>
    clear hol hbw
    obtain ⟨k, hk, rfl, hol, hb⟩ := hrel
    by_cases hlt : k < ps.length
    · obtain ⟨la', lc', e, -, -, hgl⟩ := OwR.val hol
      cases e
      obtain ⟨g, rfl, hg, og⟩ := hgl.resolve_left (by omega)
      have hml : k < (mixC ps k).length := by rw [len_mixC]; exact hlt
      have c1 := og.at_ (i := k) (u := .string (wd ps[k])) (by rw [sv_at hml, mixC_at hlt])
      have q1 : (0 : Int) ≤ (k : Int) := by omega
      have q2 : (k : Int) < (ps.length : Int) := by omega
      have hpk := HP.out _ (List.getElem_mem hlt)
      have nlt := fun W => implLengthsText_any _ W hpk
      have HS : Hid ((sv (mixC ps k)).set k (.string (lenT ps[k])) = sv (mixC ps (k + 1))) := Lib.hid (by rw [← mixC_set hlt]; simp [sv, List.map_set])
      have hlT : ltT (lenD ps[k]) (lenD ps[k]).length = lenT ps[k] := rfl
      rw [hlT] at nlt
      clear hlT hpk hgl
      have hlg := og.lt
      generalize wd ps[k] = s at *
      generalize lenT ps[k] = t at *
      go_wp2_with fail
      refine (nlt _).mono ?_
      rintro e w2 ⟨rfl, hb2⟩
      have hol2 := OwR.below hol hb2 (Nat.le_refl _)
      have og2 := og.below hb2 og.lt
      have hbw2 := bt hb hb2
      obtain ⟨st1, -⟩ := World.ownsRow.stored hol2 k (.string t)
      obtain ⟨y0, c0⟩ := og2.some_ (i := k) (by rw [length_sv]; exact hml)
      have g0 := og2.free k (by rw [length_sv]; exact hml)
      have hbs := hbw2.setCell (p := ⟨g, k, none⟩) (show w.heap.size ≤ g by omega) (.string t)
      clear hol og hb hb2 c1 hol2 hbw2
      go_wp2
      go_roundw
      case rel => exact ⟨k + 1, by omega, by go_num, by rw [← HS.out]; exact st1, hbs⟩
      case measure => simp [intOf]; omega
    · have hk' : k = ps.length := by omega
      subst hk'
      rw [mixC_all] at hol
      go_wp2
      go_ret
      exact ⟨_, rfl, World.ownsRow.mono hol (by omega), hb⟩
set_option maxRecDepth 100000 in
set_option maxHeartbeats 1000000 in
theorem specCharacteristic_any (a : Option Addr) (n c : Nat) (m : Mach) (v : ByteArray) (w : World) (h : MachAt w w.heap.size a n m) (hv : v.size ≤ 4294967296) :
    Calls Tryz.prog 11 #[.agg #[.slice a n c, .string m.wheels.refl, .string m.rings, .string m.plugs], .string v] w (RowPost 9 1 (chT m v).length (sv (chT m v)) w) := by
  have o0 := Own.new w [.slice a n c, .string m.wheels.refl, .string m.rings, .string m.plugs] 27
  have hb0 := (Below.refl w.heap.size w).alloc (Nat.le_refl _) (.cells [.slice a n c, .string m.wheels.refl, .string m.rings, .string m.plugs].toArray 27)
  have h' := h.alloc_ (.cells [.slice a n c, .string m.wheels.refl, .string m.rings, .string m.plugs].toArray 27)
  have hdp := fun W h => specDayProducts_any a n c m v W h hv
  rw [chP_prod, List.length_map] at hdp
  have HP := Lib.hid (@chP_isP m v)
  have HL : Hid ((chP m v).length ≤ 4294967296) := Lib.hid (by unfold chP; split; simp [prods]; omega; simp)
  show Calls _ _ _ _ (RowPost 9 1 ((chP m v).map lenT).length (sv ((chP m v).map lenT)) w)
  generalize chP m v = ps at *
  rw [List.length_map]
  have f0 := o0.at_ (i := 0) rfl
  have f1 := o0.at_ (i := 1) rfl
  have f2 := o0.at_ (i := 2) rfl
  have f3 := o0.at_ (i := 3) rfl
  go_enter Tryz.func11, Tryz.ntmps11
  go_wp2_with fail
  refine (hdp _ h').mono ?_
  rintro e w1 ⟨lv, rfl, hol, hb1⟩
  have hbw := bt hb0 hb1
  have hl := HL.out
  rw [← mixC_zero] at hol
  obtain ⟨la, lc, rfl, -, -, -⟩ := OwR.val hol
  rw [World.size_alloc] at hol
  have hz1 := hbw.size
  clear hb0 hb1 f0 f1 f2 f3 o0 h' h hdp HL
  go_wp2_with fail
  go_loopw [6] (fun i wr => ∃ k : Nat, k ≤ ps.length ∧ i = .int .i64 k ∧ OwR wr (w.heap.size + 1) 9 1 (.slice la ps.length lc) ps.length (sv (mixC ps k)) ∧ Below w.heap.size w wr) (fun i _ => ps.length - (intOf i).toNat)
  case atStart => exact ⟨0, Nat.zero_le _, rfl, hol, hbw⟩
  case round =>
    clear hol hbw
    obtain ⟨k, hk, rfl, hol, hb⟩ := hrel
    by_cases hlt : k < ps.length
    · obtain ⟨la', lc', e, -, -, hgl⟩ := OwR.val hol
      cases e
      obtain ⟨g, rfl, hg, og⟩ := hgl.resolve_left (by omega)
      have hml : k < (mixC ps k).length := by rw [len_mixC]; exact hlt
      have c1 := og.at_ (i := k) (u := .string (wd ps[k])) (by rw [sv_at hml, mixC_at hlt])
      have q1 : (0 : Int) ≤ (k : Int) := by omega
      have q2 : (k : Int) < (ps.length : Int) := by omega
      have hpk := HP.out _ (List.getElem_mem hlt)
      have nlt := fun W => specLengthsText_any _ W hpk
      have HS : Hid ((sv (mixC ps k)).set k (.string (lenT ps[k])) = sv (mixC ps (k + 1))) := Lib.hid (by rw [← mixC_set hlt]; simp [sv, List.map_set])
      have hlT : ltT (lenD ps[k]) (lenD ps[k]).length = lenT ps[k] := rfl
      rw [hlT] at nlt
      clear hlT hpk hgl
      have hlg := og.lt
      generalize wd ps[k] = s at *
      generalize lenT ps[k] = t at *
      go_wp2_with fail
      refine (nlt _).mono ?_
      rintro e w2 ⟨rfl, hb2⟩
      have hol2 := OwR.below hol hb2 (Nat.le_refl _)
      have og2 := og.below hb2 og.lt
      have hbw2 := bt hb hb2
      obtain ⟨st1, -⟩ := World.ownsRow.stored hol2 k (.string t)
      obtain ⟨y0, c0⟩ := og2.some_ (i := k) (by rw [length_sv]; exact hml)
      have g0 := og2.free k (by rw [length_sv]; exact hml)
      have hbs := hbw2.setCell (p := ⟨g, k, none⟩) (show w.heap.size ≤ g by omega) (.string t)
      clear hol og hb hb2 c1 hol2 hbw2
      go_wp2
      go_roundw
      case rel => exact ⟨k + 1, by omega, by go_num, by rw [← HS.out]; exact st1, hbs⟩
      case measure => simp [intOf]; omega
    · have hk' : k = ps.length := by omega
      subst hk'
      rw [mixC_all] at hol
      go_wp2
      go_ret
      exact ⟨_, rfl, World.ownsRow.mono hol (by omega), hb⟩
end Go.Proofs.YtnnblmibonnpcaaGreatDoor

/- What Characteristic is drawn; the products of a law. -/
namespace Go.Proofs.YtnnblmibonnpcaaGreatDoor
open Go.RowKit
set_option maxRecDepth 100000 in
theorem DrawCharacteristic_any (a0 : Option Addr) (len cap : Nat) (zs : List Int) (w : World) (h : IsRow .u8 w a0 len cap zs) (hl : len ≤ 1048576) :
    Calls Tryz.prog 8 #[.slice a0 len cap] w (DrawnV w) := by
  have o0 := Own.new w [.slice none 0 0, .string ⟨#[]⟩, .string ⟨#[]⟩, .string ⟨#[]⟩] 27
  have hb0 := (Below.refl w.heap.size w).alloc (Nat.le_refl _) (.cells #[.slice none 0 0, .string ⟨#[]⟩, .string ⟨#[]⟩, .string ⟨#[]⟩] 27)
  go_enter Tryz.func8, Tryz.ntmps8
  go_wp2_with fail
  refine (DrawMachineOffsets_any a0 len cap zs _ (h.alloc_ _) hl).mono ?_
  rintro e w9 ⟨m6, v9, a6, cap6, ⟨hm, hrd, hbl, hb9⟩, hv9, rfl⟩
  have o9 := o0.below hb9 o0.lt
  have hbw9 := bt hb0 hb9
  simp only [World.size_alloc] at hbl
  generalize hB0 : w.heap.size = B0 at *
  have HB0 := Lib.hid hB0
  clear hB0 o0 hb0 hb9 h
  have HRD := Lib.hid hrd
  have HBL := Lib.hid hbl
  clear hrd hbl
  have c0 := o9.at_ (i := 0) rfl
  have c1 := o9.at_ (i := 1) rfl
  have c2 := o9.at_ (i := 2) rfl
  have c3 := o9.at_ (i := 3) rfl
  have b0 := o9.free 0 (by simp)
  have b1 := o9.free 1 (by simp)
  have b2 := o9.free 2 (by simp)
  have b3 := o9.free 3 (by simp)
  go_wp2
  have oz := o9.set4 (.slice a6 m6.wheels.rotors.length cap6) (.string m6.wheels.refl) (.string m6.rings) (.string m6.plugs)
  have k0 := oz.at_ (i := 0) rfl
  have k1 := oz.at_ (i := 1) rfl
  have k2 := oz.at_ (i := 2) rfl
  have k3 := oz.at_ (i := 3) rfl
  refine bodyPost_ret (v := .tuple #[.agg #[.slice a6 m6.wheels.rotors.length cap6, .string m6.wheels.refl, .string m6.rings, .string m6.plugs], .string v9]) (by unfold set4 at *; simp [results, Tryz.results8, go_sem, k0, k1, k2, k3]) rfl ?_
  refine ⟨m6, v9, a6, cap6, ⟨hm, ?_, ?_, ?_⟩, hv9, rfl⟩
  · show Reads (set4 w9 B0 _ _ _ _) (set4 w9 B0 _ _ _ _).heap.size _ _
    rw [size_set4]
    exact HRD.out.set4 (fun ad h => by have := HBL.out ad h; omega) _ _ _ _
  · intro ad h
    rw [HB0.out]
    have := HBL.out ad h; omega
  · rw [HB0.out]
    exact bel_set4 hbw9 (Nat.le_refl _) _ _ _ _
set_option maxRecDepth 100000 in
theorem rcProducts_any (a : Option Addr) (n c : Nat) (m : Mach) (v : ByteArray) (w : World) (h : MachAt w w.heap.size a n m) (hv : v.size ≤ 4294967296) :
    Calls Tryz.prog 30 #[.agg #[.slice a n c, .string m.wheels.refl, .string m.rings, .string m.plugs], .string v] w (RowPost 9 1 (prodT m v).length (sv (prodT m v)) w) := by
  have o0 := Own.new w [.slice a n c, .string m.wheels.refl, .string m.rings, .string m.plugs] 27
  have hb0 := (Below.refl w.heap.size w).alloc (Nat.le_refl _) (.cells [.slice a n c, .string m.wheels.refl, .string m.rings, .string m.plugs].toArray 27)
  have h' := h.alloc_ (.cells [.slice a n c, .string m.wheels.refl, .string m.rings, .string m.plugs].toArray 27)
  have f0 := o0.at_ (i := 0) rfl
  have f1 := o0.at_ (i := 1) rfl
  have f2 := o0.at_ (i := 2) rfl
  have f3 := o0.at_ (i := 3) rfl
  go_enter Tryz.func30, Tryz.ntmps30
  go_wp2_with fail
  refine (implDayProducts_any a n c m v _ h' hv).mono ?_
  rintro e w1 ⟨lv, rfl, hol, hb1⟩
  rw [World.size_alloc] at hol
  go_wp2
  go_ret
  exact ⟨_, rfl, World.ownsRow.mono hol (by omega), bt hb0 hb1⟩
end Go.Proofs.YtnnblmibonnpcaaGreatDoor

/- The walk of the law that the characteristic is the texts of the products. -/
namespace Go.Proofs.YtnnblmibonnpcaaGreatDoor
open Go.RowKit

set_option maxRecDepth 100000 in
set_option maxHeartbeats 4000000 in
theorem characteristicText_walk (a : Option Addr) (len cap : Nat) (zs : List Int) (w : World) (h : IsRow .u8 w a len cap zs) :
    Calls Tryz.prog 7 #[.slice a len cap] w fun e w' => e = .returned (.bool true) ∧ Below w.heap.size w w' := by
  have hlen : len ≤ 9223372036854775807 := by
    rcases h with ⟨_, rfl, _⟩ | ⟨x, _, hl, hm, _⟩
    · omega
    · unfold maxLen at hm; omega
  by_cases hl : 1048576 < len
  · go_enter Tryz.func7, Tryz.ntmps7
    go_wp2
    go_ret
    exact ⟨rfl, Below.refl _ _⟩
  · go_enter Tryz.func7, Tryz.ntmps7
    go_wp2_with fail
    refine (DrawCharacteristic_any a len cap zs _ h (by omega)).mono ?_
    rintro e w1 ⟨m, v, a1, cap1, ⟨hsm, hrd, -, hb1⟩, hv, rfl⟩
    have o1 := Own.new w1 [.slice a1 m.wheels.rotors.length cap1, .string m.wheels.refl, .string m.rings, .string m.plugs] 27
    have hb1' := hb1.alloc hb1.size (.cells [.slice a1 m.wheels.rotors.length cap1, .string m.wheels.refl, .string m.rings, .string m.plugs].toArray 27)
    have hat := (hsm.at_ hrd).alloc_ (.cells [.slice a1 m.wheels.rotors.length cap1, .string m.wheels.refl, .string m.rings, .string m.plugs].toArray 27)
    clear hrd hb1 h
    go_wp2_with fail
    generalize (w1.alloc (.cells [.slice a1 m.wheels.rotors.length cap1, .string m.wheels.refl, .string m.rings, .string m.plugs].toArray 27)) = W1 at *
    generalize w1.heap.size = B1 at *
    refine (implCharacteristic_any a1 _ cap1 m v _ hat (by omega)).mono ?_
    rintro e w2 ⟨lv, rfl, hol, hb2⟩
    have o2 := o1.below hb2 o1.lt
    have hbw2 := bt hb1' hb2
    have hat2 := (hat.below hb2 (Nat.le_refl _)).more hb2.size
    obtain ⟨al, cl, rfl, hlc, hrl, hgl⟩ := hol.val
    clear o1 hb1' hat hb2 hol
    have f0 := o2.at_ (i := 0) rfl
    have f1 := o2.at_ (i := 1) rfl
    have f2 := o2.at_ (i := 2) rfl
    have f3 := o2.at_ (i := 3) rfl
    go_wp2_with fail
    refine (specCharacteristic_any a1 _ cap1 m v _ hat2 (by omega)).mono ?_
    rintro e w3 ⟨lv2, rfl, hol2, hb3⟩
    have o3 := o2.below hb3 o2.lt
    have hbw3 := bt hbw2 hb3
    have hat3 := (hat2.below hb3 (Nat.le_refl _)).more hb3.size
    obtain ⟨al2, cl2, rfl, hlc2, hrl2, -⟩ := hol2.val
    have hrl3 := (hrl.below hb3 (Nat.le_refl _)).more hb3.size
    have hpl : (chT m v).length ≤ 1048576 := by
      unfold chT chP
      rw [List.length_map]
      split
      · simp [prods]; omega
      · simp
    have hgl3 : (chT m v).length = 0 ∨ ∃ g, al = some ⟨g, 0, none⟩ ∧ Own w3 g (sv (chT m v)) := hgl.imp id fun ⟨g, h1, _, h2⟩ => ⟨g, h1, h2.below hb3 h2.lt⟩
    clear o2 hbw2 hat2 hrl hol2 hgl f0 f1 f2 f3 hb3
    go_wp2_with fail
    refine (rcTexts_any al al2 cl cl2 (chT m v) (chT m v) _ hrl3 hrl2 hpl).mono ?_
    rintro e w' ⟨rfl, n4, rfl⟩
    rw [show decide (chT m v = chT m v) = true from decide_eq_true rfl]
    have o4 := o3.drewN n4
    have hbw4 := bel_drewN hbw3 n4
    have hat4 : MachAt (w3.drewN n4) (w3.drewN n4).heap.size a1 m.wheels.rotors.length m := hat3.keep (fun _ _ => rfl)
    have hrl4 : Reads (w3.drewN n4) (w3.drewN n4).heap.size al (sv (chT m v)) := hrl3
    have hgl4 : (chT m v).length = 0 ∨ ∃ g, al = some ⟨g, 0, none⟩ ∧ Own (w3.drewN n4) g (sv (chT m v)) := hgl3.imp id fun ⟨g, h1, h2⟩ => ⟨g, h1, h2.drewN n4⟩
    generalize w3.drewN n4 = w4 at *
    clear o3 hbw3 hat3 hrl3 hrl2 hgl3
    have f0 := o4.at_ (i := 0) rfl
    have f1 := o4.at_ (i := 1) rfl
    have f2 := o4.at_ (i := 2) rfl
    have f3 := o4.at_ (i := 3) rfl
    go_wp2_with fail
    refine (rcProducts_any a1 _ cap1 m v _ hat4 (by omega)).mono ?_
    rintro e w5 ⟨lp, rfl, hop, hb5⟩
    obtain ⟨ap, cp, rfl, -, hrp, -⟩ := hop.val
    have hbw5 := bt hbw4 hb5
    have hrl5 := (hrl4.below hb5 (Nat.le_refl _)).more hb5.size
    have HP := Lib.hid (@chP_isP m v)
    have hch : chT m v = (chP m v).map lenT := rfl
    have hpr := chP_prod m v
    rw [hch] at hrl5 hpl ⊢
    rw [hpr] at hrp ⊢
    clear hgl4 hat4 o4 hrl4 hbw4 hb5 hop f0 f1 f2 f3 hch hpr hlc
    generalize chP m v = ps at *
    rw [List.length_map] at hpl ⊢
    try rw [List.length_map]
    go_wp2_with fail
    go_loopw [7] (fun i wr => ∃ k : Nat, k ≤ ps.length ∧ i = .int .i64 k ∧ Reads wr wr.heap.size al (sv (ps.map lenT)) ∧ Reads wr wr.heap.size ap (sv (ps.map wd)) ∧ Below w.heap.size w wr) (fun i _ => ps.length - (intOf i).toNat)
    case atStart => exact ⟨0, Nat.zero_le _, rfl, hrl5, hrp, hbw5⟩
    case round =>
      clear hrl5 hrp hbw5
      obtain ⟨k, hk, rfl, hrl, hrp, hb⟩ := hrel
      by_cases hlt : k < ps.length
      · have hrl' := hrl
        have hrp' := hrp
        obtain ⟨b1, off1, rfl, hbl1, hcl1⟩ := hrl'.open_ (by rw [length_sv, List.length_map]; omega)
        obtain ⟨b2, off2, rfl, hbl2, hcl2⟩ := hrp'.open_ (by rw [length_sv, List.length_map]; omega)
        have c1 := hcl1 k (by rw [length_sv, List.length_map]; exact hlt)
        have c2 := hcl2 k (by rw [length_sv, List.length_map]; exact hlt)
        rw [sv_at (by rw [List.length_map]; exact hlt), List.getElem_map] at c1 c2
        clear hcl1 hcl2
        have q1 : (0 : Int) ≤ (k : Int) := by omega
        have q2 : (k : Int) < (ps.length : Int) := by omega
        have tge : decide ((ps.length : Int) ≤ (k : Int)) = false := decide_eq_false (by omega)
        have tge2 : decide (ps.length ≤ k) = false := decide_eq_false (by omega)
        have HL := Lib.hid (fun (cc : Cls wr.heap.size wr) => show Calls Tryz.prog 31 #[.string (wd ps[k])] cc.w (fun e w' => e = .returned (.string (lenT ps[k])) ∧ Below cc.w.heap.size cc.w w') from implLengthsText_any ps[k] cc.w (HP.out _ (List.getElem_mem hlt)))
        have d1 := fun (cc : Cls wr.heap.size wr) => (cc.cell b1 (off1 + k) (by omega)).trans c1
        have d2 := fun (cc : Cls wr.heap.size wr) => (cc.cell b2 (off2 + k) (by omega)).trans c2
        have te : ((lenT ps[k]).toList == (lenT ps[k]).toList) = true := by simp
        clear c1 c2
        generalize wd ps[k] = s at *
        generalize lenT ps[k] = t at *
        go_wp2_with fail
        refine wp_region_cls (by kernel_rfl) (by kernel_rfl) ?_
        repeat (go_big_quiet_step (first | (go_at_call 31; with_reducible exact cls_of (Nat.le_refl _) (HL.out _))))
        refine wpQuiet_nil ?_
        intro wc hbc
        have hr1 := (hrl.below hbc (Nat.le_refl _)).more hbc.size
        have hr2 := (hrp.below hbc (Nat.le_refl _)).more hbc.size
        have hbw := bt hb hbc
        clear d1 d2 hrl hrp HL
        go_wp2
        go_roundw
        case rel => exact ⟨k + 1, by omega, by go_num, hr1, hr2, hbw⟩
        case measure => simp [intOf]; omega
      · have hk' : k = ps.length := by omega
        subst hk'
        go_wp2
        go_ret
        exact ⟨rfl, hb⟩
end Go.Proofs.YtnnblmibonnpcaaGreatDoor
