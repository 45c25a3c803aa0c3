/- Several of my texts in one: Links, MenuI, MenuW. -/
import Derived.Test.YtbeohccbflhdiaaGreatM15
import Derived.Test.YtbeohccbflhdiaaGreatM22
import Derived.Test.YtbeohccbflhdiaaGreatM25
import Derived.Test.YtbeohccbflhdiaaGreatM14
/- The links of a menu: their cells, and what a menu of a word is. -/
namespace Go.Proofs.YtbeohccbflhdiaaGreat
open Go.RowKit

/-- A link: its first letter, its second letter, and the number of its key. -/
structure Lnk where
  p : ByteArray
  c : ByteArray
  k : Int
def lkv (x : Lnk) : List Value := [.string x.p, .string x.c, .int .i64 x.k]
def lks : List Lnk → List Value
  | [] => []
  | x :: xs => .string x.p :: .string x.c :: .int .i64 x.k :: lks xs
theorem len_lks : ∀ xs : List Lnk, (lks xs).length = 3 * xs.length
  | [] => rfl
  | x :: xs => by simp only [lks, List.length_cons, len_lks xs]; omega
theorem lks_sub : ∀ (xs : List Lnk) (i : Nat) (h : i < xs.length), ((lks xs).drop (i * 3)).take 3 = lkv xs[i]
  | x :: xs, 0, _ => by simp [lks, lkv]
  | x :: xs, i + 1, h => by
    have h' : i < xs.length := by simpa using h
    rw [show (i + 1) * 3 = i * 3 + 1 + 1 + 1 by omega]
    simp only [lks, List.drop_succ_cons, List.getElem_cons_succ]
    exact lks_sub xs i h'
theorem lks_at0 (xs : List Lnk) (i : Nat) (h : i < xs.length) : (lks xs)[i * 3]? = some (.string xs[i].p) := by
  have := congrArg (fun l => l[0]?) (lks_sub xs i h)
  simpa [lkv, List.getElem?_take, List.getElem?_drop] using this
theorem lks_at1 (xs : List Lnk) (i : Nat) (h : i < xs.length) : (lks xs)[i * 3 + 1]? = some (.string xs[i].c) := by
  have := congrArg (fun l => l[1]?) (lks_sub xs i h)
  simpa [lkv, List.getElem?_take, List.getElem?_drop] using this
theorem lks_at2 (xs : List Lnk) (i : Nat) (h : i < xs.length) : (lks xs)[i * 3 + 2]? = some (.int .i64 xs[i].k) := by
  have := congrArg (fun l => l[2]?) (lks_sub xs i h)
  simpa [lkv, List.getElem?_take, List.getElem?_drop] using this
theorem lks_append : ∀ a b : List Lnk, lks (a ++ b) = lks a ++ lks b
  | [], _ => rfl
  | x :: a, b => by simp [lks, lks_append a b]
theorem lks_one (x : Lnk) : lks [x] = lkv x := rfl
/-- The link of a place of a word that stands in a place of an enciphered one. -/
def lnkA (s u : ByteArray) (q i : Nat) : Lnk := ⟨u.extract i (i + 1), s.extract (q + i) (q + i + 1), ((q + i + 1 : Nat) : Int)⟩
/-- The first links of a word's menu. -/
def lnkL (s u : ByteArray) (q n : Nat) : List Lnk := (List.range n).map (lnkA s u q)
theorem len_lnkL (s u : ByteArray) (q n : Nat) : (lnkL s u q n).length = n := by simp [lnkL]
theorem lnkL_snoc (s u : ByteArray) (q n : Nat) : lnkL s u q (n + 1) = lnkL s u q n ++ [lnkA s u q n] := by simp [lnkL, List.range_succ]
theorem lnkL_zero (s u : ByteArray) (q : Nat) : lnkL s u q 0 = [] := rfl
theorem at_lnkL (s u : ByteArray) (q : Nat) {n i : Nat} (h : i < (lnkL s u q n).length) : (lnkL s u q n)[i] = lnkA s u q i := by simp [lnkL]
end Go.Proofs.YtbeohccbflhdiaaGreat

/- CribFits and MenuOf of the program, where a word stands in its own place. -/
namespace Go.Proofs.YtbeohccbflhdiaaGreat
open Go.RowKit

set_option maxRecDepth 100000 in
theorem implCribFits_yes (s u : ByteArray) (q : Nat) (w : World) (h1 : wordB s = true) (h2 : wordB u = true) (h3 : 1 ≤ u.size) (h4 : q + u.size ≤ s.size) (hne : ∀ i (hi : i < u.size), u[i] ≠ s[q + i]'(by omega)) :
    Calls Tryz.prog 103 #[.string s, .string u, .int .i64 (q : Int)] w fun e w' => e = .returned (.bool true) ∧ ∃ n, w' = w.drewN n := by
  have hs := wordB_size h1
  have hu := wordB_size h2
  have n1 := fun W => implWordValid_any s W (by omega)
  have n2 := fun W => implWordValid_any u W (by omega)
  rw [h1] at n1
  rw [h2] at n2
  have hsub : IntKind.i64.wrap ((s.size : Int) - (u.size : Int)) = (s.size : Int) - (u.size : Int) := IntWalk.i64_in _ (by omega)
  have he := ne_empty (s := u) (by omega)
  have t0 : decide ((q : Int) < 0) = false := decide_eq_false (by omega)
  have t1 : decide ((s.size : Int) - (u.size : Int) < (q : Int)) = false := decide_eq_false (by omega)
  have HNE := Lib.hid hne
  clear h1 h2 hne
  go_enter Tryz.func103, Tryz.ntmps103
  go_wp2_with (first | (go_at_call 35; ((with_reducible refine (n1 _).mono ?_); rintro e w' ⟨rfl, rfl⟩)) | (go_at_call 35; ((with_reducible refine (n2 _).mono ?_); rintro e w' ⟨rfl, rfl⟩)))
  go_loopw [7, 35] (fun _ i wr => ∃ k n : Nat, k ≤ u.size ∧ i = .int .i64 k ∧ wr = w.drewN n) (fun _ i _ => u.size - (intOf i).toNat)
  case atStart => exact ⟨0, 0, Nat.zero_le _, rfl, rfl⟩
  case round =>
    obtain ⟨k, n, hk, rfl, rfl⟩ := hrel
    by_cases hlt : k < u.size
    · obtain ⟨j, hj⟩ : ∃ j : Nat, j = q + k := ⟨_, rfl⟩
      have hadd : IntKind.i64.wrap ((q : Int) + (k : Int)) = (j : Int) := by rw [IntWalk.i64_in _ (by omega)]; omega
      have hjs : j < s.size := by omega
      have q1 : (0 : Int) ≤ (k : Int) := by omega
      have q2 : (k : Int) < (u.size : Int) := by omega
      have q3 : (0 : Int) ≤ (j : Int) := by omega
      have q4 : (j : Int) < (s.size : Int) := by omega
      have t2 : ((u[k].toNat : Int) == (s[j].toNat : Int)) = false := by
        rw [beq_eq_false_iff_ne]
        intro e
        have := HNE.out k hlt
        subst hj
        exact this (UInt8.toNat.inj (by omega))
      clear hj
      go_wp2_with fail
      go_quiet (fail)
      go_wp2
      go_roundw
      case rel => exact ⟨k + 1, n + nq, by omega, by go_num, rfl⟩
      case measure => simp [intOf]; omega
    · go_wp2
      go_ret
      exact ⟨rfl, n, rfl⟩
theorem inf_lnk : (Tryz.prog.info? 70).map (fun i => (i.zero, i.size, i.bytes)) = some (some (.agg #[.string ⟨#[]⟩, .string ⟨#[]⟩, .int .i64 0]), 3, 40) := by kernel_rfl
theorem make_lnk (c : Nat) (hc : c ≤ 1048576) : ∃ X : Array Value, X.size = c * 3 ∧ ∀ w : World, (Instr.makeSlice 66 (.int .i64 0) (.int .i64 (c : Int))).run Tryz.prog w = .ok (.slice (some ⟨w.heap.size, 0, none⟩) 0 c) (w.alloc (.cells X 70)) := by
  obtain ⟨i, hi, h1, h2, h3⟩ := info_parts inf_lnk
  refine ⟨madeCells #[.string ⟨#[]⟩, .string ⟨#[]⟩, .int .i64 0] (c * 3), size_madeCells _ _, fun w => ?_⟩
  have hr := run_make (P := Tryz.prog) w 66 70 i _ Tryz.underlying66 hi h1 .i64 .i64 0 c (by omega) (by omega) (by rw [h3]; omega) (by omega)
  simp only [Int.toNat_natCast, h2] at hr
  exact hr
theorem one_lnk (a b : ByteArray) (k : Int) : ∀ v ∈ [Value.string a, .string b, .int .i64 k], v.oneCell' = true := by
  intro v hv
  simp only [List.mem_cons, List.not_mem_nil, or_false] at hv
  rcases hv with rfl | rfl | rfl <;> rfl
set_option maxRecDepth 100000 in
set_option maxHeartbeats 1000000 in
theorem implMenuOf_yes (s u : ByteArray) (q : Nat) (w : World) (h1 : wordB s = true) (h2 : wordB u = true) (h3 : 1 ≤ u.size) (h4 : q + u.size ≤ s.size) (hne : ∀ i (hi : i < u.size), u[i] ≠ s[q + i]'(by omega)) (h12 : u.size ≤ 12) (h60 : q + u.size ≤ 60) :
    Calls Tryz.prog 52 #[.string s, .string u, .int .i64 (q : Int)] w fun e w' => ∃ lv, e = .returned (.tuple #[lv, .bool true]) ∧ OwR w' w.heap.size 70 3 lv u.size (lks (lnkL s u q u.size)) ∧ Below w.heap.size w w' := by
  have hs := wordB_size h1
  have n1 := fun W => implCribFits_yes s u q W h1 h2 h3 h4 hne
  have hadd0 : IntKind.i64.wrap ((q : Int) + (u.size : Int)) = (q : Int) + (u.size : Int) := IntWalk.i64_in _ (by omega)
  have t0 : decide ((60 : Int) < (q : Int) + (u.size : Int)) = false := decide_eq_false (by omega)
  have t1 : decide ((12 : Int) < (u.size : Int)) = false := decide_eq_false (by omega)
  obtain ⟨X, hX, hmk⟩ := make_lnk u.size (by omega)
  clear h1 h2 hne
  go_enter Tryz.func52, Tryz.ntmps52
  go_wp2_with fail
  refine (n1 _).mono ?_
  rintro e w' ⟨rfl, n, rfl⟩
  have r1 := World.ownsRow_made (base := w.heap.size) (e := 70) (size := 3) (w.drewN n) X u.size (Nat.le_refl _) (by unfold maxLen; omega) hX
  have hb1 := (bel_drewN (Below.refl w.heap.size w) n).alloc (Nat.le_refl _) (.cells X 70)
  have r2 : OwR ((w.drewN n).alloc (.cells X 70)) w.heap.size 70 3 (.slice (some ⟨w.heap.size, 0, none⟩) 0 u.size) 0 (lks (lnkL s u q 0)) := r1
  clear r1 n1
  go_wp2_with fail
  generalize ((w.drewN n).alloc (.cells X 70)) = W1 at *
  go_loopw [8, 9, 32] (fun v _ i wr => ∃ k : Nat, k ≤ u.size ∧ i = .int .i64 k ∧ OwR wr w.heap.size 70 3 v k (lks (lnkL s u q k)) ∧ Below w.heap.size w wr) (fun _ _ i _ => u.size - (intOf i).toNat)
  case atStart => exact ⟨0, Nat.zero_le _, rfl, r2, hb1⟩
  case round =>
    clear r2 hb1 hmk hX
    obtain ⟨k, hk, rfl, hown, hb⟩ := hrel
    by_cases hlt : k < u.size
    · obtain ⟨j, hj⟩ : ∃ j : Nat, j = q + k := ⟨_, rfl⟩
      have hadd : IntKind.i64.wrap ((q : Int) + (k : Int)) = (j : Int) := by rw [IntWalk.i64_in _ (by omega)]; omega
      have hjs : j < s.size := by omega
      have q1 : (0 : Int) ≤ (k : Int) := by omega
      have q2 : (k : Int) ≤ (k : Int) + 1 := by omega
      have q3 : (k : Int) + 1 ≤ (u.size : Int) := by omega
      have q4 : (0 : Int) ≤ (j : Int) := by omega
      have q5 : (j : Int) ≤ (j : Int) + 1 := by omega
      have q6 : (j : Int) + 1 ≤ (s.size : Int) := by omega
      have HS : Hid (lks (lnkL s u q (k + 1)) = lks (lnkL s u q k) ++ lkv ⟨u.extract k (k + 1), s.extract j (j + 1), (j : Int) + 1⟩) := by
        show _ = _
        rw [lnkL_snoc, lks_append, lks_one, hj]
        simp [lnkA, lkv]
      have hz := hb.size
      have hzd : w.heap.size ≤ wr.drew.heap.size := hz
      clear hj
      generalize lks (lnkL s u q k) = ls at *
      have hownd : OwR wr.drew w.heap.size 70 3 u8 k ls := hown
      have hk1 : IntKind.i64.wrap ((k : Int) + 1) = (k : Int) + 1 := IntWalk.i64_in _ (by omega)
      have hj1 : IntKind.i64.wrap ((j : Int) + 1) = (j : Int) + 1 := IntWalk.i64_in _ (by omega)
      have ht1 : ((k : Int) + 1).toNat = k + 1 := by omega
      have ht2 : ((j : Int) + 1).toNat = j + 1 := by omega
      go_wp2_with fail
      refine wp_onlyN ?_
      refine wp_region_any (by kernel_rfl) ?_
      refine wpAny_of_K (S := fun _ => True) (kp := fun _ => true) _ _ _ _ ?_
      refine kr_take 0 35 (v := u8) rfl (by kernel_rfl) (by kernel_rfl) (by kernel_rfl) (by kernel_rfl) (fun _ _ _ h => by cases h.1) rfl trivial (Or.inl ⟨by rfl, fun _ _ => rfl⟩) ?_
      simp only [Act.put, List.setIfInBounds_toArray, List.set_cons_succ, List.set_cons_zero]
      refine kr_take 1 36 (v := .string u) rfl (by kernel_rfl) (by kernel_rfl) (by kernel_rfl) (by kernel_rfl) (fun _ _ _ h => by cases h.1) rfl trivial (Or.inl ⟨by rfl, fun _ _ => rfl⟩) ?_
      simp only [Act.put, List.setIfInBounds_toArray, List.set_cons_succ, List.set_cons_zero]
      refine kr_take 2 37 (v := .int .i64 (k : Int)) rfl (by kernel_rfl) (by kernel_rfl) (by kernel_rfl) (by kernel_rfl) (fun _ _ _ h => by cases h.1) rfl trivial (Or.inl ⟨by rfl, fun _ _ => rfl⟩) ?_
      simp only [Act.put, List.setIfInBounds_toArray, List.set_cons_succ, List.set_cons_zero]
      refine kr_take 3 38 (v := .int .i64 (k : Int)) rfl (by kernel_rfl) (by kernel_rfl) (by kernel_rfl) (by kernel_rfl) (fun _ _ _ h => by cases h.1) rfl trivial (Or.inl ⟨by rfl, fun _ _ => rfl⟩) ?_
      simp only [Act.put, List.setIfInBounds_toArray, List.set_cons_succ, List.set_cons_zero]
      refine kr_take 4 39 (v := .int .i64 ((k : Int) + 1)) rfl (by kernel_rfl) (by kernel_rfl) (by kernel_rfl) (by kernel_rfl) (fun _ _ _ h => by cases h.1) rfl trivial (Or.inl ⟨by rfl, fun w' _ => by simp [go_sem, hk1]⟩) ?_
      simp only [Act.put, List.setIfInBounds_toArray, List.set_cons_succ, List.set_cons_zero]
      refine kr_take 5 40 (v := .string (u.extract k (k + 1))) rfl (by kernel_rfl) (by kernel_rfl) (by kernel_rfl) (by kernel_rfl) (fun _ _ _ h => by cases h.1) rfl trivial (Or.inl ⟨by rfl, fun w' _ => by simp [go_sem, q1, q2, q3, ht1]⟩) ?_
      simp only [Act.put, List.setIfInBounds_toArray, List.set_cons_succ, List.set_cons_zero]
      refine kr_take 6 41 (v := .string s) rfl (by kernel_rfl) (by kernel_rfl) (by kernel_rfl) (by kernel_rfl) (fun _ _ _ h => by cases h.1) rfl trivial (Or.inl ⟨by rfl, fun _ _ => rfl⟩) ?_
      simp only [Act.put, List.setIfInBounds_toArray, List.set_cons_succ, List.set_cons_zero]
      refine kr_take 7 42 (v := .int .i64 (q : Int)) rfl (by kernel_rfl) (by kernel_rfl) (by kernel_rfl) (by kernel_rfl) (fun _ _ _ h => by cases h.1) rfl trivial (Or.inl ⟨by rfl, fun _ _ => rfl⟩) ?_
      simp only [Act.put, List.setIfInBounds_toArray, List.set_cons_succ, List.set_cons_zero]
      refine kr_take 8 43 (v := .int .i64 (k : Int)) rfl (by kernel_rfl) (by kernel_rfl) (by kernel_rfl) (by kernel_rfl) (fun _ _ _ h => by cases h.1) rfl trivial (Or.inl ⟨by rfl, fun _ _ => rfl⟩) ?_
      simp only [Act.put, List.setIfInBounds_toArray, List.set_cons_succ, List.set_cons_zero]
      refine kr_take 9 44 (v := .int .i64 (j : Int)) rfl (by kernel_rfl) (by kernel_rfl) (by kernel_rfl) (by kernel_rfl) (fun _ _ _ h => by cases h.1) rfl trivial (Or.inl ⟨by rfl, fun w' _ => by simp [go_sem, hadd]⟩) ?_
      simp only [Act.put, List.setIfInBounds_toArray, List.set_cons_succ, List.set_cons_zero]
      refine kr_take 10 45 (v := .int .i64 (q : Int)) rfl (by kernel_rfl) (by kernel_rfl) (by kernel_rfl) (by kernel_rfl) (fun _ _ _ h => by cases h.1) rfl trivial (Or.inl ⟨by rfl, fun _ _ => rfl⟩) ?_
      simp only [Act.put, List.setIfInBounds_toArray, List.set_cons_succ, List.set_cons_zero]
      refine kr_take 11 46 (v := .int .i64 (k : Int)) rfl (by kernel_rfl) (by kernel_rfl) (by kernel_rfl) (by kernel_rfl) (fun _ _ _ h => by cases h.1) rfl trivial (Or.inl ⟨by rfl, fun _ _ => rfl⟩) ?_
      simp only [Act.put, List.setIfInBounds_toArray, List.set_cons_succ, List.set_cons_zero]
      refine kr_take 12 47 (v := .int .i64 (j : Int)) rfl (by kernel_rfl) (by kernel_rfl) (by kernel_rfl) (by kernel_rfl) (fun _ _ _ h => by cases h.1) rfl trivial (Or.inl ⟨by rfl, fun w' _ => by simp [go_sem, hadd]⟩) ?_
      simp only [Act.put, List.setIfInBounds_toArray, List.set_cons_succ, List.set_cons_zero]
      refine kr_take 13 48 (v := .int .i64 ((j : Int) + 1)) rfl (by kernel_rfl) (by kernel_rfl) (by kernel_rfl) (by kernel_rfl) (fun _ _ _ h => by cases h.1) rfl trivial (Or.inl ⟨by rfl, fun w' _ => by simp [go_sem, hj1]⟩) ?_
      simp only [Act.put, List.setIfInBounds_toArray, List.set_cons_succ, List.set_cons_zero]
      refine kr_take 14 49 (v := .string (s.extract j (j + 1))) rfl (by kernel_rfl) (by kernel_rfl) (by kernel_rfl) (by kernel_rfl) (fun _ _ _ h => by cases h.1) rfl trivial (Or.inl ⟨by rfl, fun w' _ => by simp [go_sem, q4, q5, q6, ht2]⟩) ?_
      simp only [Act.put, List.setIfInBounds_toArray, List.set_cons_succ, List.set_cons_zero]
      refine kr_take 15 50 (v := .int .i64 (q : Int)) rfl (by kernel_rfl) (by kernel_rfl) (by kernel_rfl) (by kernel_rfl) (fun _ _ _ h => by cases h.1) rfl trivial (Or.inl ⟨by rfl, fun _ _ => rfl⟩) ?_
      simp only [Act.put, List.setIfInBounds_toArray, List.set_cons_succ, List.set_cons_zero]
      refine kr_take 16 51 (v := .int .i64 (k : Int)) rfl (by kernel_rfl) (by kernel_rfl) (by kernel_rfl) (by kernel_rfl) (fun _ _ _ h => by cases h.1) rfl trivial (Or.inl ⟨by rfl, fun _ _ => rfl⟩) ?_
      simp only [Act.put, List.setIfInBounds_toArray, List.set_cons_succ, List.set_cons_zero]
      refine kr_take 17 52 (v := .int .i64 (j : Int)) rfl (by kernel_rfl) (by kernel_rfl) (by kernel_rfl) (by kernel_rfl) (fun _ _ _ h => by cases h.1) rfl trivial (Or.inl ⟨by rfl, fun w' _ => by simp [go_sem, hadd]⟩) ?_
      simp only [Act.put, List.setIfInBounds_toArray, List.set_cons_succ, List.set_cons_zero]
      refine kr_take 18 53 (v := .int .i64 ((j : Int) + 1)) rfl (by kernel_rfl) (by kernel_rfl) (by kernel_rfl) (by kernel_rfl) (fun _ _ _ h => by cases h.1) rfl trivial (Or.inl ⟨by rfl, fun w' _ => by simp [go_sem, hj1]⟩) ?_
      simp only [Act.put, List.setIfInBounds_toArray, List.set_cons_succ, List.set_cons_zero]
      refine kr_take 19 54 (v := .agg #[.string (u.extract k (k + 1)), .string (s.extract j (j + 1)), .int .i64 ((j : Int) + 1)]) rfl (by kernel_rfl) (by kernel_rfl) (by kernel_rfl) (by kernel_rfl) (fun _ _ _ h => by cases h.1) rfl trivial (Or.inl ⟨by rfl, fun w' _ => by simp [go_sem]⟩) ?_
      simp only [Act.put, List.setIfInBounds_toArray, List.set_cons_succ, List.set_cons_zero]
      refine kr_value 20 55 (v := .slice (some ⟨wr.heap.size, 0, none⟩) 1 1) (w' := wr.drew.alloc (.cells [.string (u.extract k (k + 1)), .string (s.extract j (j + 1)), .int .i64 ((j : Int) + 1)].toArray 70)) (by kernel_rfl) rfl (by rfl) rfl (by simp [go_sem]) ⟨trivial, ?_⟩
      simp only [Act.put, List.setIfInBounds_toArray, List.set_cons_succ, List.set_cons_zero]
      refine kr_one 21 (by kernel_rfl) rfl (by rfl) ?_
      refine kr_push 66 70 inf_lnk Tryz.underlying66 rfl (by omega) rfl rfl hownd hzd rfl (one_lnk _ _ _) (by omega) (by omega) rfl rfl ?_
      intro g cap w6 hr6 hb6 hz6
      refine ⟨fun _ => trivial, ?_⟩
      simp only [Act.put, List.setIfInBounds_toArray]
      refine kr_take 22 8 (v := .slice (some ⟨g, 0, none⟩) (k + 1) cap) rfl (by kernel_rfl) (by kernel_rfl) (by kernel_rfl) (by kernel_rfl) (fun _ _ _ h => by cases h.1) rfl trivial (Or.inl ⟨by rfl, fun _ _ => rfl⟩) ?_
      simp only [Act.put]
      refine ⟨by kernel_rfl, onlyN_mk ?_⟩
      go_wp2
      go_roundw
      case rel =>
        refine ⟨k + 1, by omega, by go_num, ?_, ?_⟩
        · rw [HS.out]; exact hr6
        · exact hb.drew.trans hb6
      case measure => simp [intOf]; omega
    · have hk' : k = u.size := by omega
      subst hk'
      go_wp2
      refine bodyPost_ret (v := .tuple #[u8, .bool true]) (by simp [results, Tryz.results52, go_sem]) rfl ?_
      exact ⟨_, rfl, hown, hb⟩
theorem implMenuOf_no (s u : ByteArray) (q : Nat) (w : World) (h1 : wordB s = true) (h2 : wordB u = true) (h3 : 1 ≤ u.size) (h4 : q + u.size ≤ s.size) (hne : ∀ i (hi : i < u.size), u[i] ≠ s[q + i]'(by omega)) (h12 : u.size ≤ 12) (h60 : 60 < q + u.size) :
    Calls Tryz.prog 52 #[.string s, .string u, .int .i64 (q : Int)] w fun e w' => e = .returned (.tuple #[.slice none 0 0, .bool false]) ∧ Below w.heap.size w w' := by
  have hs := wordB_size h1
  have n1 := fun W => implCribFits_yes s u q W h1 h2 h3 h4 hne
  have hadd0 : IntKind.i64.wrap ((q : Int) + (u.size : Int)) = (q : Int) + (u.size : Int) := IntWalk.i64_in _ (by omega)
  have t0 : decide ((60 : Int) < (q : Int) + (u.size : Int)) = true := decide_eq_true (by omega)
  have t1 : decide ((12 : Int) < (u.size : Int)) = false := decide_eq_false (by omega)
  clear h1 h2 hne
  go_enter Tryz.func52, Tryz.ntmps52
  go_wp2_with fail
  refine (n1 _).mono ?_
  rintro e w' ⟨rfl, n, rfl⟩
  go_wp2
  refine bodyPost_ret (v := .tuple #[.slice none 0 0, .bool false]) (by simp [results, Tryz.results52, go_sem]) rfl ?_
  exact ⟨rfl, bel_drewN (Below.refl _ _) n⟩
end Go.Proofs.YtbeohccbflhdiaaGreat

/- The walk of the law that the keys of the machine exchange the letters of the links of a word's own menu. -/
namespace Go.Proofs.YtbeohccbflhdiaaGreat
open Go.RowKit

theorem keys_back {m : Mach} {v u : ByteArray} (h : setB m v = true) (hw : wordB u = true) {k : Nat} (hk : k < u.size) :
    appV (wd (keyN m v k)) ((wd (encD m v (dg u))).extract k (k + 1)) = u.extract k (k + 1) := by
  have hmb := setB_mach h
  have hd := wordB_at hw k hk
  obtain ⟨d, hdd⟩ := Int.eq_ofNat_of_zero_le hd.1
  have hx : pAt (dg u) k = d := by rw [dg_at hk]; omega
  have hd10 : d < 10 := by omega
  have hp := isP_keyN hmb v k
  have hl := hp.at_lt hd10
  rw [one_extract hk, one_extract (by rw [size_wd, len_encD, len_dg]; exact hk), enc_at v hk, hx, app_one hp (d := pAt (keyN m v k) d) (isL_letr _) (by rw [dig_letr]; omega), inv_keyN hmb v k hd10, ← hdd, letr_dig ⟨hd.1, by omega⟩]
set_option maxRecDepth 100000 in
set_option maxHeartbeats 4000000 in
theorem menuTrue_walk (a : Option Addr) (len cap : Nat) (zs : List Int) (w : World) (h : IsRow .u8 w a len cap zs) :
    Calls Tryz.prog 12 #[.slice a len cap] w fun e w' => e = .returned (.bool true) ∧ Below w.heap.size w w' := by
  have hlen : len ≤ 9223372036854775807 := by
    rcases h with ⟨_, rfl, _⟩ | ⟨x, _, hl, hm, _⟩
    · omega
    · unfold maxLen at hm; omega
  by_cases hl : 1048576 < len
  · go_enter Tryz.func12, Tryz.ntmps12
    go_wp2
    go_ret
    exact ⟨rfl, Below.refl _ _⟩
  · go_enter Tryz.func12, Tryz.ntmps12
    go_wp2_with fail
    refine (DrawEncipher_any a len cap zs _ h (by omega)).mono ?_
    rintro e w1 ⟨m, v, u, a1, cap1, ⟨hsm, hrd, -, hb1⟩, hv, hu, rfl⟩
    have o1 := Own.new w1 [.slice a1 m.wheels.rotors.length cap1, .string m.wheels.refl, .string m.rings, .string m.plugs] 27
    have hb1' := hb1.alloc hb1.size (.cells [.slice a1 m.wheels.rotors.length cap1, .string m.wheels.refl, .string m.rings, .string m.plugs].toArray 27)
    have hat := (hsm.at_ hrd).alloc_ (.cells [.slice a1 m.wheels.rotors.length cap1, .string m.wheels.refl, .string m.rings, .string m.plugs].toArray 27)
    clear hrd hb1 h
    go_wp2_with fail
    generalize (w1.alloc (.cells [.slice a1 m.wheels.rotors.length cap1, .string m.wheels.refl, .string m.rings, .string m.plugs].toArray 27)) = W1 at *
    generalize w1.heap.size = B1 at *
    refine (implEncipher_any a1 _ cap1 m v u _ hat (by omega) (by omega)).mono ?_
    rintro e w2 ⟨rfl, hb2⟩
    have o2 := o1.below hb2 o1.lt
    have hbw2 := bt hb1' hb2
    have hat2 := (hat.below hb2 (Nat.le_refl _)).more hb2.size
    clear o1 hb1' hat hb2
    have f0 := o2.at_ (i := 0) rfl
    have f1 := o2.at_ (i := 1) rfl
    have f2 := o2.at_ (i := 2) rfl
    have f3 := o2.at_ (i := 3) rfl
    unfold encV
    go_wp2_with fail
    refine (specEncipher_any a1 _ cap1 m v u _ hat2 (by omega) (by omega)).mono ?_
    rintro e w3 ⟨rfl, hb3⟩
    have o3 := o2.below hb3 o2.lt
    have hbw3 := bt hbw2 hb3
    have hat3 := (hat2.below hb3 (Nat.le_refl _)).more hb3.size
    clear o2 hbw2 hat2 hb3 f0 f1 f2 f3
    unfold encV
    by_cases hyes : setB m v = true ∧ wordB u = true
    · obtain ⟨hsb, hwu⟩ := hyes
      have HE := Lib.hid (encT_yes hsb hwu)
      rw [HE.out]
      simp only
      have hmb := setB_mach hsb
      by_cases hu0 : u.size = 0
      · have he := is_empty hu0
        go_wp2
        go_ret
        exact ⟨by simp, hbw3⟩
      · have he := ne_empty hu0
        by_cases h12 : 12 < u.size
        · have t1 : decide ((12 : Int) < (u.size : Int)) = true := decide_eq_true (by omega)
          go_wp2
          go_ret
          exact ⟨by simp, hbw3⟩
        · have t1 : decide ((12 : Int) < (u.size : Int)) = false := decide_eq_false (by omega)
          have hsz1 : (wd (encD m v (dg u))).size = u.size := by rw [size_wd, len_encD, len_dg]
          have n1 := fun W => implMenuOf_yes (wd (encD m v (dg u))) u 0 W (wordB_enc m v hwu) hwu (by omega) (by omega) (fun i hi => by
            have h1 := enc_ne hmb v hwu hi
            intro e
            refine h1 ?_
            rw [e]
            congr 1
            omega) (by omega) (by omega)
          have HKL := Lib.hid (fun k (hk : k < u.size) => keys_law hsb hwu hk)
          have HKB := Lib.hid (fun k (hk : k < u.size) => keys_back hsb hwu hk)
          have hz1 : (wd (encD m v (dg u))).size ≤ u.size := by omega
          have hz2 : u.size ≤ (wd (encD m v (dg u))).size := by omega
          clear hsz1
          generalize wd (encD m v (dg u)) = s at *
          go_wp2_with fail
          refine (n1 _).mono ?_
          rintro e w4 ⟨lv, rfl, hol, hb4⟩
          obtain ⟨al, cl, rfl, hlc, -, hgl⟩ := hol.val
          obtain ⟨gM, rfl, -, om⟩ := hgl.resolve_left (by omega)
          have o4 := o3.below hb4 o3.lt
          have hbw4 := bt hbw3 hb4
          have hat4 := (hat3.below hb4 (Nat.le_refl _)).more hb4.size
          clear o3 hbw3 hat3 hb4 hol hgl n1
          have f0 := o4.at_ (i := 0) rfl
          have f1 := o4.at_ (i := 1) rfl
          have f2 := o4.at_ (i := 2) rfl
          have f3 := o4.at_ (i := 3) rfl
          go_wp2_with fail
          have hkp := implKeyPerms_any a1 _ cap1 m v (u.size : Int) _ hat4 (by omega)
          rw [keyT_yes hsb (by omega)] at hkp
          refine hkp.mono ?_
          rintro e w5 ⟨lv, rfl, hol, hb5⟩
          clear hkp f0 f1 f2 f3
          rw [len_keyS] at hol
          obtain ⟨al, cl2, rfl, hlc2, -, hgl⟩ := hol.val
          obtain ⟨gK, rfl, -, ok⟩ := hgl.resolve_left (by omega)
          have om5 := om.below hb5 om.lt
          have hbw5 := bt hbw4 hb5
          clear o4 hbw4 hat4 hb5 hol hgl om
          go_wp2_with fail
          go_loopw [15, 16] (fun i _ wr => ∃ k : Nat, k ≤ u.size ∧ i = .int .i64 k ∧ Below w.heap.size w wr ∧ Own wr gM (lks (lnkL s u 0 u.size)) ∧ Own wr gK (sv (keyS m v u.size))) (fun i _ _ => u.size - (intOf i).toNat)
          case atStart => exact ⟨0, Nat.zero_le _, rfl, hbw5, om5, ok⟩
          case round =>
            clear hbw5 om5 ok
            obtain ⟨k, hk, rfl, hbw5, om, ok⟩ := hrel
            by_cases hlt : k < u.size
            · have hkey := HKL.out k hlt
              have hkeb := HKB.out k hlt
              have hlm := om.lt
              have hlk := ok.lt
              have hln : k < (lnkL s u 0 u.size).length := by rw [len_lnkL]; exact hlt
              have e0 := lks_at0 _ k hln
              have e1 := lks_at1 _ k hln
              have e2 := lks_at2 _ k hln
              rw [at_lnkL] at e0 e1 e2
              simp only [lnkA, Nat.zero_add] at e0 e1 e2
              have c0 := ok.at_ (at_keyS m v hlt)
              have c1 := om.at_ e0
              have c2 := om.at_ e1
              have c3 := om.at_ e2
              have d1 := fun (cc : Cls wr.heap.size wr) => (cc.cell gM (k * 3) hlm).trans c1
              have d2 := fun (cc : Cls wr.heap.size wr) => (cc.cell gM (k * 3 + 1) hlm).trans c2
              have hz1 : (wd (keyN m v k)).size ≤ 10 := by rw [size_wd, (isP_keyN hmb v k).len]; exact Nat.le_refl _
              have hx1 : (u.extract k (k + 1)).size ≤ 1 := by rw [one_extract hlt, size_S]; simp
              have hx2 : (s.extract k (k + 1)).size ≤ 1 := by rw [one_extract (by omega), size_S]; simp
              have n1 := fun W => implApplyPerm_any (wd (keyN m v k)) (u.extract k (k + 1)) W (by omega) (by omega)
              have n2 := fun W => implApplyPerm_any (wd (keyN m v k)) (s.extract k (k + 1)) W (by omega) (by omega)
              rw [hkey] at n1
              rw [hkeb] at n2
              have q1 : (0 : Int) ≤ (k : Int) := by omega
              have q2 : (k : Int) < (u.size : Int) := by omega
              have q3 : IntKind.i64.wrap (((k + 1 : Nat) : Int) - 1) = (k : Int) := by rw [IntWalk.i64_in _ (by omega)]; omega
              clear hkey hkeb e0 e1 e2 hln hx1 hx2 hz1
              generalize wd (keyN m v k) = y1 at *
              have tne1 : ((s.extract k (k + 1)).toList != (s.extract k (k + 1)).toList) = false := by simp
              have tne2 : ((u.extract k (k + 1)).toList != (u.extract k (k + 1)).toList) = false := by simp
              generalize s.extract k (k + 1) = y2 at *
              generalize u.extract k (k + 1) = y3 at *
              go_wp2_with fail
              refine wp_region_cls (by kernel_rfl) (by kernel_rfl) ?_
              repeat (go_big_quiet_step (first | (go_at_call 40; with_reducible exact cls_of (Nat.le_refl _) (n1 _)) | (go_at_call 40; with_reducible exact cls_of (Nat.le_refl _) (n2 _))))
              refine wpQuiet_nil ?_
              intro wc hbc
              go_wp2
              go_roundw
              case rel => exact ⟨k + 1, by omega, by go_num, bt hbw5 hbc, om.below hbc hlm, ok.below hbc hlk⟩
              case measure => simp [intOf]; omega
            · go_wp2
              go_ret
              exact ⟨by simp, hbw5⟩
    · have HE := Lib.hid (encT_no hyes)
      rw [HE.out]
      simp only
      go_wp2
      go_ret
      exact ⟨rfl, hbw3⟩
end Go.Proofs.YtbeohccbflhdiaaGreat
