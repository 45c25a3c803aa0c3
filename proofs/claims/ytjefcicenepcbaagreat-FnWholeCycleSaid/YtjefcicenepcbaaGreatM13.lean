/- Several of my texts in one: WhP, WhC, WhW. -/
import Derived.Test.YtjefcicenepcbaaGreatM8
import Derived.Lib.SlicesS
/- Values of short words, and how often the first rotor moves: plain. -/
namespace Go.Proofs.YtjefcicenepcbaaGreat

/-- The number whose digits are given. -/
def valD (l : List Nat) : Nat := l.foldl (fun n d => n * 10 + d) 0
theorem valD_snoc (l : List Nat) (d : Nat) : valD (l ++ [d]) = valD l * 10 + d := by simp [valD]
/-- The value of a word. -/
def valW (v : ByteArray) : Nat := valD (dg v)
theorem valW_take {v : ByteArray} {k : Nat} (h : k < v.size) : valD ((dg v).take (k + 1)) = valD ((dg v).take k) * 10 + pAt (dg v) k := by
  have hk : k < (dg v).length := by rw [len_dg]; exact h
  rw [List.take_succ_eq_append_getElem hk, valD_snoc, pAt_get hk]
theorem valD_lt : ∀ (l : List Nat), (∀ x ∈ l, x < 10) → l.length ≤ 2 → valD l < 100
  | [], _, _ => by simp [valD]
  | [a], h, _ => by have := h a (by simp); simp [valD]; omega
  | [a, b], h, _ => by have := h a (by simp); have := h b (by simp); simp [valD]; omega
  | _ :: _ :: _ :: _, _, h => by simp at h
theorem valD_inj : ∀ (l k : List Nat), (∀ x ∈ l, x < 10) → (∀ x ∈ k, x < 10) → l.length = k.length → l.length ≤ 2 → valD l = valD k → l = k
  | [], [], _, _, _, _, _ => rfl
  | [a], [b], _, _, _, _, e => by simp [valD] at e; rw [e]
  | [a, b], [c, d], h1, h2, _, _, e => by
    have := h1 a (by simp); have := h1 b (by simp); have := h2 c (by simp); have := h2 d (by simp)
    simp [valD] at e
    rw [show a = c by omega, show b = d by omega]
  | [], _ :: _, _, _, h, _, _ => by simp at h
  | _ :: _, [], _, _, h, _, _ => by simp at h
  | [_], _ :: _ :: _, _, _, h, _, _ => by simp at h
  | _ :: _ :: _, [_], _, _, h, _, _ => by simp at h
  | [_, _], _ :: _ :: _ :: _, _, _, h, _, _ => by simp at h
  | _ :: _ :: _ :: _, _, _, _, _, h, _ => by simp at h
theorem valW_lt {v : ByteArray} (h : wordB v = true) (h2 : v.size ≤ 2) : valW v < 100 := valD_lt _ (word_dg_lt h) (by rw [len_dg]; exact h2)
theorem valW_inj {u v : ByteArray} (hu : wordB u = true) (hv : wordB v = true) (hs : u.size = v.size) (h2 : u.size ≤ 2) (e : valW u = valW v) : u = v := by
  have := valD_inj _ _ (word_dg_lt hu) (word_dg_lt hv) (by rw [len_dg, len_dg]; exact hs) (by rw [len_dg]; exact h2) e
  rw [← wd_dg hu, ← wd_dg hv, this]
/-- How often the first rotor moves in some steps. -/
def lmN (x : Whl) (v : ByteArray) : Nat → Nat
  | 0 => 0
  | n + 1 => lmN x v n + if mvB x (stepN x n v) 0 = true then 1 else 0
theorem lmN_le (x : Whl) (v : ByteArray) : ∀ n, lmN x v n ≤ n
  | 0 => Nat.le_refl _
  | n + 1 => by have := lmN_le x v n; unfold lmN; split <;> omega
theorem lmN_one (x : Whl) (v : ByteArray) : lmN x v 1 = if mvB x v 0 = true then 1 else 0 := by show 0 + (if mvB x (stepN x 0 v) 0 = true then 1 else 0) = _; rw [Nat.zero_add]; rfl
/-- The first letter after some steps. -/
theorem first_n {x : Whl} {v : ByteArray} (h : FitB x v) : ∀ n, dig (byteAt (stepN x n v) 0) = (dig (byteAt v 0) + (lmN x v n : Int)) % 10
  | 0 => by
    have hs : 0 < v.size := by have := h.one; have := h.size; omega
    have := (wordB_at h.word 0 hs)
    rw [byteAt_get (show 0 < (stepN x 0 v).size from hs)]
    show dig v[0] = _
    rw [byteAt_get hs]
    simp only [lmN]
    omega
  | n + 1 => by
    have ih := first_n h n
    have hs : 0 < (stepN x n v).size := by rw [size_stepN]; have := h.one; have := h.size; omega
    rw [stepN_succ, byteAt_stepW hs]
    unfold lmN
    by_cases hm : mvB x (stepN x n v) 0 = true
    · rw [if_pos hm, if_pos hm, dig_letr, ih]
      push_cast
      omega
    · rw [if_neg hm, if_neg hm, ih]
      simp
/-- A letter changes exactly if its rotor moves. -/
theorem step_ne {x : Whl} {v : ByteArray} (h : FitB x v) (h0 : 0 < (stepW x v).size) (h1 : 0 < v.size) : ((stepW x v)[0].toNat = v[0].toNat) ↔ ¬ mvB x v 0 = true := by
  have hd := wordB_at h.word 0 h1
  have e := stepL_at (x := x) (k := 0) h1
  rw [getElem_L]
  rw [e]
  by_cases hm : mvB x v 0 = true
  · rw [if_pos hm]
    refine ⟨fun h2 => ?_, fun h2 => absurd hm h2⟩
    exfalso
    rw [letr_toNat] at h2
    unfold dig at hd h2
    omega
  · rw [if_neg hm]
    exact ⟨fun _ => hm, fun _ => rfl⟩
section
variable {x : Whl} {u : ByteArray} {l p : Nat}
/-- The windows of a cycle. -/
theorem cyc_inj (hC : Cyc (fun n => stepN x n u) l p) {i j : Nat} (hi : i < p) (hj : j < p) (e : stepN x (l + i) u = stepN x (l + j) u) : i = j := by
  rcases Nat.lt_trichotomy i j with h | h | h
  · have := (hC.at_ (seqs_step x u) (N := l + i) (by omega)).2 (j - i) (by omega) (by omega)
    rw [show l + i + (j - i) = l + j by omega] at this
    exact absurd e.symm this
  · exact h
  · have := (hC.at_ (seqs_step x u) (N := l + j) (by omega)).2 (i - j) (by omega) (by omega)
    rw [show l + j + (i - j) = l + i by omega] at this
    exact absurd e this
theorem cyc_end (hC : Cyc (fun n => stepN x n u) l p) : stepN x (l + p) u = stepN x l u := hC.back
theorem whole_turns (hF : FitB x u) (hC : Cyc (fun n => stepN x n u) l p) : lmN x (stepN x l u) p % 10 = 0 := by
  have h := first_n (hF.stepN_ l) p
  rw [← stepN_add, cyc_end hC] at h
  omega
theorem lm_next (n : Nat) : lmN x (stepN x l u) (n + 1) = lmN x (stepN x l u) n + lmN x (stepN x (l + n) u) 1 := by
  rw [lmN_one, stepN_add]
  rfl
end
end Go.Proofs.YtjefcicenepcbaaGreat

/- Contracts of LeftMoves, WordValue, PeriodOf of the reference, and what PeriodOf is drawn. -/
namespace Go.Proofs.YtjefcicenepcbaaGreat
open Go.RowKit

set_option maxRecDepth 100000 in
set_option maxHeartbeats 2000000 in
theorem implLeftMoves_any (a : Option Addr) (n c : Nat) (x : Whl) (v : ByteArray) (N : Nat) (w : World) (h : WhlAt w w.heap.size a n x) (hf : fitB x v = true) (hN : N ≤ 2000) :
    Calls Tryz.prog 10 #[.agg #[.slice a n c, .string x.refl], .string v, .int .i64 (N : Int)] w fun e w' => e = .returned (.int .i64 (lmN x v N : Int)) ∧ Below w.heap.size w w' := by
  have o0 := Own.new w [.slice a n c, .string x.refl] 25
  have hb0 := (Below.refl w.heap.size w).alloc (Nat.le_refl _) (.cells [.slice a n c, .string x.refl].toArray 25)
  have h' := h.alloc_ (.cells [.slice a n c, .string x.refl].toArray 25)
  have hF := fitB_iff.1 hf
  have hv4 : v.size ≤ 4294967296 := by have := hF.size; have := hF.three; omega
  have hc := windowsValid_any a n c x v _ h' hv4
  rw [hf] at hc
  have HFIT := Lib.hid hF
  have hs1 := Lib.hid (fun (W : World) (hb : Below w.heap.size w W) (m : Nat) => step_any a n c x (stepN x m v) W ((h.below hb (Nat.le_refl _)).more hb.size) (hF.stepN_ m))
  have t1 : decide ((2000 : Int) < (N : Int)) = false := decide_eq_false (by omega)
  clear hf hF
  go_enter Tryz.func10, Tryz.ntmps10
  go_wp2_with fail
  refine hc.mono ?_
  rintro e w1 ⟨rfl, hb1⟩
  have o1 := o0.below hb1 o0.lt
  have hbw1 := bt hb0 hb1
  clear o0 hb0 hb1 hc h' h
  go_wp2_with fail
  go_loopw [1, 7, 8, 22] (fun s1 s7 _ i wr => ∃ k : Nat, k ≤ N ∧ i = .int .i64 k ∧ s1 = .string (stepN x k v) ∧ s7 = .int .i64 (lmN x v k : Int) ∧ Own wr w.heap.size [.slice a n c, .string x.refl] ∧ Below w.heap.size w wr) (fun _ _ _ i _ => N - (intOf i).toNat)
  case atStart => exact ⟨0, Nat.zero_le _, rfl, rfl, rfl, o1, hbw1⟩
  case round =>
    clear o1 hbw1
    obtain ⟨k, hk, rfl, rfl, rfl, o1, hb⟩ := hrel
    by_cases hlt : k < N
    · have tk : decide ((k : Int) < (N : Int)) = true := decide_eq_true (by omega)
      have c0 := o1.at_ (i := 0) rfl
      have c1 := o1.at_ (i := 1) rfl
      have g1 := hs1.out _ hb k
      have hsz : (stepN x k v).size = v.size := size_stepN x k v
      have hv1 : 1 ≤ v.size := by have := HFIT.out.size; have := HFIT.out.one; omega
      have hne := fun h0 h1 => step_ne (HFIT.out.stepN_ k) h0 h1
      have hS : Hid (stepN x (k + 1) v = stepW x (stepN x k v)) := Lib.hid (stepN_succ x k v)
      have hL : Hid (lmN x v (k + 1) = lmN x v k + if mvB x (stepN x k v) 0 = true then 1 else 0) := Lib.hid rfl
      have hle := lmN_le x v k
      have z0 : 0 < (stepN x k v).size := by omega
      have z1 : 0 < (stepW x (stepN x k v)).size := by rw [size_stepW]; omega
      have hne := hne z1 z0
      clear hsz
      generalize lmN x v k = M at *
      generalize stepW x (stepN x k v) = B at *
      generalize hbm : mvB x (stepN x k v) 0 = bm at *
      generalize stepN x k v = A at *
      clear hbm
      go_wp2_with fail
      refine g1.mono ?_
      rintro e w3 ⟨rfl, hb3⟩
      have o3 := o1.below hb3 o1.lt
      have hbw3 := bt hb hb3
      clear g1 c0 c1 o1 hb hb3
      have hw1 : IntKind.i64.wrap ((M : Int) + 1) = (M : Int) + 1 := IntWalk.i64_in _ (by omega)
      cases bm with
      | true =>
        have tn : (((B[0]'z1).toNat : Int) != ((A[0]'z0).toNat : Int)) = true := by
          rw [bne_iff_ne]; intro e
          exact hne.1 (by omega) rfl
        have HL2 : Hid (lmN x v (k + 1) = M + 1) := Lib.hid (by rw [hL.out]; rfl)
        clear hL hne
        go_wp2_with fail
        go_quiet (fail)
        have hbq : Below w3.heap.size w3 (w3.drewN nq) := bel_drewN (Below.refl _ _) nq
        have o4 := o3.below hbq o3.lt
        have hb4 := bt hbw3 hbq
        clear o3 hbw3 hbq
        generalize w3.drewN nq = w4 at *
        go_wp2
        go_roundw
        case rel => exact ⟨k + 1, by omega, by go_num, by rw [hS.out], by rw [HL2.out]; go_num, o4, hb4⟩
        case measure => simp [intOf]; omega
      | false =>
        have tn : (((B[0]'z1).toNat : Int) != ((A[0]'z0).toNat : Int)) = false := by
          rw [bne_eq_false_iff_eq]
          have := hne.2 (by simp)
          omega
        have HL2 : Hid (lmN x v (k + 1) = M) := Lib.hid (by rw [hL.out]; simp)
        clear hL hne
        go_wp2_with fail
        go_quiet (fail)
        have hbq : Below w3.heap.size w3 (w3.drewN nq) := bel_drewN (Below.refl _ _) nq
        have o4 := o3.below hbq o3.lt
        have hb4 := bt hbw3 hbq
        clear o3 hbw3 hbq
        generalize w3.drewN nq = w4 at *
        go_wp2
        go_roundw
        case rel => exact ⟨k + 1, by omega, by go_num, by rw [hS.out], by rw [HL2.out], o4, hb4⟩
        case measure => simp [intOf]; omega
    · have tk : decide ((k : Int) < (N : Int)) = false := decide_eq_false (by omega)
      have hk' : k = N := by omega
      subst hk'
      go_wp2
      go_ret
      exact ⟨rfl, hb⟩
set_option maxRecDepth 100000 in
set_option maxHeartbeats 1000000 in
theorem implWordValue_two (v : ByteArray) (w : World) (hw : wordB v = true) (h2 : v.size ≤ 2) :
    Calls Tryz.prog 9 #[.string v] w fun e w' => e = .returned (.tuple #[.int .i64 (valW v : Int), .bool true]) ∧ w = w' := by
  have n3 := fun W => implWordValid_any v W (by omega)
  rw [hw] at n3
  have t9 : decide ((9 : Int) < (v.size : Int)) = false := decide_eq_false (by omega)
  go_enter Tryz.func9, Tryz.ntmps9
  go_wp2_with (go_at_call 18; ((with_reducible refine (n3 _).mono ?_); rintro e w' ⟨rfl, rfl⟩))
  go_loop [4, 5, 16] (fun s4 _ i => ∃ k : Nat, k ≤ v.size ∧ i = .int .i64 k ∧ s4 = .int .i64 (valD ((dg v).take k) : Int)) (fun _ _ i => v.size - (intOf i).toNat)
  case atStart => exact ⟨0, Nat.zero_le _, rfl, rfl⟩
  case round =>
    obtain ⟨k, hk, rfl, rfl⟩ := hrel
    by_cases hlt : k < v.size
    · have tk : decide ((k : Int) < (v.size : Int)) = true := decide_eq_true (by omega)
      have hd := wordB_at hw k hlt
      have hnum := fun W => implNumber_any v[k] W (by have := hd.1; unfold dig at this; omega)
      have hdk : dig v[k] = (pAt (dg v) k : Int) := by have := dg_at hlt; have := hd.1; omega
      rw [hdk] at hnum
      have HV := Lib.hid (valW_take hlt)
      have hlw := valD_lt ((dg v).take k) (fun x hx => word_dg_lt hw x (List.mem_of_mem_take hx)) (by rw [List.length_take, len_dg]; omega)
      have hp10 : pAt (dg v) k < 10 := by have := hd.2; omega
      have q0 : (0 : Int) ≤ (k : Int) := by omega
      have q1 : (k : Int) < (v.size : Int) := by omega
      clear hd hdk
      generalize valD ((dg v).take k) = V at *
      generalize pAt (dg v) k = d at *
      have e1 : IntKind.i64.wrap ((V : Int) * 10) = ((V * 10 : Nat) : Int) := by rw [IntWalk.i64_in _ (by omega)]; omega
      have e2 : IntKind.i64.wrap (((V * 10 : Nat) : Int) + (d : Int)) = ((V * 10 + d : Nat) : Int) := by rw [IntWalk.i64_in _ (by omega)]; omega
      go_wp2_with (go_at_call 19; ((with_reducible refine (hnum _).mono ?_); rintro e w' ⟨rfl, rfl⟩))
      go_round
      case rel => exact ⟨k + 1, by omega, by go_num, by rw [HV.out]; first | rfl | (rw [← e2]; rfl) | (congr 1; omega)⟩
      case measure => simp [intOf]; omega
    · have tk : decide ((k : Int) < (v.size : Int)) = false := decide_eq_false (by omega)
      have hk' : k = v.size := by omega
      have HV : Hid (valD ((dg v).take k) = valW v) := Lib.hid (by rw [hk', ← len_dg v, List.take_length]; rfl)
      rw [HV.out]
      go_wp2
      go_ret2
      exact ⟨rfl, rfl⟩
theorem specPeriodOf_yes (a : Option Addr) (n c : Nat) (x : Whl) (v : ByteArray) (l p : Nat) (w : World) (h : WhlAt w w.heap.size a n x) (hv : v.size ≤ 4294967296) (hf : fitB x v = true) (hC : Cyc (fun n => stepN x n v) l p) (hp : p ≤ 1000) :
    Calls Tryz.prog 6 #[.agg #[.slice a n c, .string x.refl], .string v] w fun e w' => e = .returned (.int .i64 (p : Int)) ∧ Below w.heap.size w w' := by
  have o0 := Own.new w [.slice a n c, .string x.refl] 25
  have hb0 := (Below.refl w.heap.size w).alloc (Nat.le_refl _) (.cells [.slice a n c, .string x.refl].toArray 25)
  have h' := h.alloc_ (.cells [.slice a n c, .string x.refl].toArray 25)
  have hc := l7Windows_any a n c x v _ h' hv
  rw [hf] at hc
  have hF := fitB_iff.1 hf
  clear hf
  go_enter Tryz.func6, Tryz.ntmps6
  go_wp2_with fail
  refine hc.mono ?_
  rintro e w1 ⟨rfl, hb1⟩
  have o1 := o0.below hb1 o0.lt
  have c0 := o1.at_ (i := 0) rfl
  have c1 := o1.at_ (i := 1) rfl
  have h1 := (h'.below hb1 (Nat.le_refl _)).more hb1.size
  clear hc h'
  go_wp2_with fail
  refine (l7Period_any a n c x v l p _ h1 hF hC hp).mono ?_
  rintro e w2 ⟨rfl, hb2⟩
  go_wp2
  go_ret
  exact ⟨rfl, bt (bt hb0 hb1) hb2⟩
theorem specPeriodOf_no (a : Option Addr) (n c : Nat) (x : Whl) (v : ByteArray) (w : World) (h : WhlAt w w.heap.size a n x) (hv : v.size ≤ 4294967296) (hf : fitB x v = false) :
    Calls Tryz.prog 6 #[.agg #[.slice a n c, .string x.refl], .string v] w fun e w' => e = .returned (.int .i64 0) ∧ Below w.heap.size w w' := by
  have hb0 := (Below.refl w.heap.size w).alloc (Nat.le_refl _) (.cells [.slice a n c, .string x.refl].toArray 25)
  have h' := h.alloc_ (.cells [.slice a n c, .string x.refl].toArray 25)
  have hc := l7Windows_any a n c x v _ h' hv
  rw [hf] at hc
  clear hf
  go_enter Tryz.func6, Tryz.ntmps6
  go_wp2_with fail
  refine hc.mono ?_
  rintro e w1 ⟨rfl, hb1⟩
  go_wp2
  go_ret
  exact ⟨rfl, bt hb0 hb1⟩
theorem implPeriodOf_no (a : Option Addr) (n c : Nat) (x : Whl) (v : ByteArray) (w : World) (h : WhlAt w w.heap.size a n x) (hv : v.size ≤ 4294967296) (hf : fitB x v = false) :
    Calls Tryz.prog 5 #[.agg #[.slice a n c, .string x.refl], .string v] w fun e w' => e = .returned (.int .i64 0) ∧ Below w.heap.size w w' := by
  have hb0 := (Below.refl w.heap.size w).alloc (Nat.le_refl _) (.cells [.slice a n c, .string x.refl].toArray 25)
  have h' := h.alloc_ (.cells [.slice a n c, .string x.refl].toArray 25)
  have hc := windowsValid_any a n c x v _ h' hv
  rw [hf] at hc
  clear hf
  go_enter Tryz.func5, Tryz.ntmps5
  go_wp2_with fail
  refine hc.mono ?_
  rintro e w1 ⟨rfl, hb1⟩
  go_wp2
  go_ret
  exact ⟨rfl, bt hb0 hb1⟩
theorem DrawPeriodOf_any (a : Option Addr) (len cap : Nat) (zs : List Int) (w : World) (h : IsRow .u8 w a len cap zs) (hl : len ≤ 1048576) :
    Calls Tryz.prog 4 #[.slice a len cap] w (DrawnW w) := by
  have o0 := Own.new w [.slice none 0 0, .string ⟨#[]⟩] 25
  have hb0 := (Below.refl w.heap.size w).alloc (Nat.le_refl _) (.cells #[.slice none 0 0, .string ⟨#[]⟩] 25)
  go_enter Tryz.func4, Tryz.ntmps4
  go_wp2_with fail
  refine (DrawStepMoves_any a len cap zs _ (h.alloc_ _) hl).mono ?_
  rintro e w3 ⟨x3, u3, a3, cap3, hx3, hu3, rfl, hrd3, hbl3, hb3⟩
  have o3 := o0.below hb3 o0.lt
  have hbw3 := bt hb0 hb3
  rw [World.size_alloc] at hbl3
  have HX := Lib.hid hx3
  have HBL := Lib.hid hbl3
  clear hx3 o0 hb0 hb3 h hbl3
  have f0 := o3.at_ (i := 0) rfl
  have f1 := o3.at_ (i := 1) rfl
  have g0 := o3.free 0 (by simp)
  have g1 := o3.free 1 (by simp)
  go_wp2
  refine bodyPost_ret (v := .tuple #[.agg #[.slice a3 x3.rotors.length cap3, .string x3.refl], .string u3]) (by simp [results, Tryz.results4, go_sem, f0, f1]) rfl ?_
  refine ⟨x3, u3, a3, cap3, HX.out, hu3, rfl, ?_, ?_, ?_⟩
  · refine Reads.more (B := w3.heap.size) ((Reads.setOff hrd3 (p := ⟨w.heap.size, 0, none⟩) (fun ad h => ?_) _).setOff (p := ⟨w.heap.size, 1, none⟩) (fun ad h => ?_) _) (by simp [World.setCell])
    · have := HBL.out ad h; simp; omega
    · have := HBL.out ad h; simp; omega
  · intro ad h
    have := HBL.out ad h; omega
  · exact (hbw3.setCell (by simp) _).setCell (by simp) _
end Go.Proofs.YtjefcicenepcbaaGreat

/- The walk of the law on the whole cycle of one or two rotors. -/
namespace Go.Proofs.YtjefcicenepcbaaGreat
open Go.RowKit
attribute [local go_sem] Oper.semAt_some

/-- Which numbers have been seen. -/
def seenV (vs : List Nat) : List Value := (List.range 100).map fun n => .bool (decide (n ∈ vs))
theorem len_seenV (vs : List Nat) : (seenV vs).length = 100 := by simp [seenV]
theorem seenV_nil : seenV [] = List.replicate 100 (.bool false) := rfl
theorem seenV_at {vs : List Nat} {n : Nat} (h : n < 100) : (seenV vs)[n]? = some (.bool (decide (n ∈ vs))) := by simp [seenV, h]
theorem seenV_set (vs : List Nat) {n : Nat} (_h : n < 100) : (seenV vs).set n (.bool true) = seenV (vs ++ [n]) := by
  refine List.ext_getElem (by simp [len_seenV]) fun i h1 h2 => ?_
  rw [List.getElem_set]
  simp only [seenV, List.getElem_map, List.getElem_range]
  by_cases e : n = i
  · subst e; simp
  · rw [if_neg e]
    congr 1
    rw [decide_eq_decide]
    simp
    intro h; exact absurd h.symm e
/-- The values of the first windows of a cycle. -/
def valS (x : Whl) (u : ByteArray) (l k : Nat) : List Nat := (List.range k).map fun i => valW (stepN x (l + i) u)
theorem valS_succ (x : Whl) (u : ByteArray) (l k : Nat) : valS x u l (k + 1) = valS x u l k ++ [valW (stepN x (l + k) u)] := by simp [valS, List.range_succ]
theorem valS_new {x : Whl} {u : ByteArray} {l p k : Nat} (hF : FitB x u) (hC : Cyc (fun n => stepN x n u) l p) (h2 : u.size ≤ 2) (hk : k < p) : valW (stepN x (l + k) u) ∉ valS x u l k := by
  intro h
  obtain ⟨i, hi, e⟩ := List.mem_map.1 h
  have hik : i < k := by simpa using hi
  have := valW_inj (word_stepN _ hF.word) (word_stepN _ hF.word) (by rw [size_stepN, size_stepN]) (by rw [size_stepN]; exact h2) e
  have := cyc_inj hC (by omega) hk this
  omega
theorem back_mem {x : Whl} {v : ByteArray} (hf : fitB x v = true) : v ∈ backS x (stepW x v) := by
  have hF := fitB_iff.1 hf
  have hf2 : fitB x (stepW x v) = true := fitB_iff.2 hF.step_
  unfold backS
  rw [if_pos hf2]
  exact (mem_backTo (wordB_size (word_stepW hF.word))).2 ⟨hF.word, (size_stepW x v).symm, rfl⟩
set_option maxRecDepth 100000 in
set_option maxHeartbeats 20000000 in
theorem wholeCycle_walk (a : Option Addr) (len cap : Nat) (zs : List Int) (w : World) (h : IsRow .u8 w a len cap zs) :
    Calls Tryz.prog 3 #[.slice a len cap] w fun e w' => e = .returned (.bool true) ∧ Below w.heap.size w w' := by
  have hlen : len ≤ 9223372036854775807 := by
    rcases h with ⟨_, rfl, _⟩ | ⟨x, _, hl, hm, _⟩
    · omega
    · unfold maxLen at hm; omega
  by_cases hl : 1048576 < len
  · go_enter Tryz.func3, Tryz.ntmps3
    go_wp2
    go_ret
    exact ⟨rfl, Below.refl _ _⟩
  · go_enter Tryz.func3, Tryz.ntmps3
    go_wp2_with fail
    refine (DrawPeriodOf_any a len cap zs _ h (by omega)).mono ?_
    rintro e w1 ⟨x, u, a1, cap1, hx, hu, rfl, hrd, -, hb1⟩
    have o1 := Own.new w1 [.slice a1 x.rotors.length cap1, .string x.refl] 25
    have hb1' := hb1.alloc hb1.size (.cells [.slice a1 x.rotors.length cap1, .string x.refl].toArray 25)
    have hat := (hx.at_ hrd).alloc_ (.cells [.slice a1 x.rotors.length cap1, .string x.refl].toArray 25)
    clear hrd hb1 h
    go_wp2_with fail
    generalize (w1.alloc (.cells [.slice a1 x.rotors.length cap1, .string x.refl].toArray 25)) = W1 at *
    generalize w1.heap.size = B1 at *
    cases hf : fitB x u with
    | false =>
      have nsp := fun W h => specPeriodOf_no a1 x.rotors.length cap1 x u W h (by omega) hf
      refine (implPeriodOf_no a1 _ cap1 x u _ hat (by omega) hf).mono ?_
      rintro e w2 ⟨rfl, hb2⟩
      have o2 := o1.below hb2 o1.lt
      have hbw2 := bt hb1' hb2
      have hat2 := (hat.below hb2 (Nat.le_refl _)).more hb2.size
      clear o1 hb1' hat hb2 hf
      have f0 := o2.at_ (i := 0) rfl
      have f1 := o2.at_ (i := 1) rfl
      go_wp2_with fail
      refine (nsp _ hat2).mono ?_
      rintro e w3 ⟨rfl, hb3⟩
      have o3 := o2.below hb3 o2.lt
      have hbw3 := bt hbw2 hb3
      have hat3 := (hat2.below hb3 (Nat.le_refl _)).more hb3.size
      clear o2 hbw2 hat2 hb3 f0 f1
      have f0 := o3.at_ (i := 0) rfl
      have f1 := o3.at_ (i := 1) rfl
      go_wp2_with fail
      refine (nsp _ hat3).mono ?_
      rintro e w4 ⟨rfl, hb4⟩
      go_wp2
      go_ret
      exact ⟨rfl, bt hbw3 hb4⟩
    | true =>
      have hF := fitB_iff.1 hf
      obtain ⟨l, p, hC, hl1, hp1⟩ := exists_cyc hF
      have hpos := hC.pos
      have nsp := fun W h => specPeriodOf_yes a1 x.rotors.length cap1 x u l p W h (by omega) hf hC hp1
      refine (implPeriodOf_any a1 _ cap1 x u l p _ hat (by omega) hf hC).mono ?_
      rintro e w2 ⟨rfl, hb2⟩
      have o2 := o1.below hb2 o1.lt
      have hbw2 := bt hb1' hb2
      have hat2 := (hat.below hb2 (Nat.le_refl _)).more hb2.size
      clear o1 hb1' hat hb2
      have f0 := o2.at_ (i := 0) rfl
      have f1 := o2.at_ (i := 1) rfl
      have te : ((p : Int) == 0) = false := by rw [beq_eq_false_iff_ne]; omega
      go_wp2_with fail
      refine (nsp _ hat2).mono ?_
      rintro e w3 ⟨rfl, hb3⟩
      have o3 := o2.below hb3 o2.lt
      have hbw3 := bt hbw2 hb3
      have hat3 := (hat2.below hb3 (Nat.le_refl _)).more hb3.size
      clear o2 hbw2 hat2 hb3 f0 f1
      have f0 := o3.at_ (i := 0) rfl
      have f1 := o3.at_ (i := 1) rfl
      by_cases h3 : x.rotors.length = 3
      · have t3 : ((x.rotors.length : Int) == 3) = true := by rw [h3]; rfl
        clear h3
        go_wp2_with fail
        refine (nsp _ hat3).mono ?_
        rintro e w4 ⟨rfl, hb4⟩
        go_wp2
        go_ret
        exact ⟨rfl, bt hbw3 hb4⟩
      · have t3 : ((x.rotors.length : Int) == 3) = false := by rw [beq_eq_false_iff_ne]; omega
        have hu2 : u.size ≤ 2 := by have := hF.size; have := hF.three; omega
        have HFN := Lib.hid (fun k => fitB_iff.2 (hF.stepN_ (l + k)))
        have HNEW := Lib.hid (fun k (hk : k < p) => valS_new hF hC hu2 hk)
        have HVS := Lib.hid (valS_succ x u l)
        have HWD := Lib.hid (fun k => word_stepN (w := x) (l + k) hF.word)
        have HSZ := Lib.hid (fun k => size_stepN x (l + k) u)
        have HNXT : Hid (∀ k, stepW x (stepN x (l + k) u) = stepN x (l + (k + 1)) u) := Lib.hid (fun k => by rw [show l + (k + 1) = (l + k) + 1 by omega, stepN_succ])
        have HEND : Hid (stepN x (l + p) u = stepN x (l + 0) u) := Lib.hid (cyc_end hC)
        have HTRN := Lib.hid (whole_turns hF hC)
        have HLM := Lib.hid (fun k => lm_next (x := x) (u := u) (l := l) k)
        have HLE := Lib.hid (lmN_le x (stepN x l u))
        have hT : stepT x u (l : Int) = (stepN x l u, true) := stepT_yes hf (by omega)
        have hmk : ∀ W : World, (Instr.makeSlice 29 (.int .i64 100) (.int .i64 100)).run Tryz.prog W = .ok (.slice (some ⟨W.heap.size, 0, none⟩) 100 100) (W.alloc (.cells (Array.replicate 100 (Value.bool false)) 4)) := fun W => by
          have := run_make1 (P := Tryz.prog) (t := 29) (e := 4) (z := .bool false) (bytes := 1) Tryz.underlying29 (by kernel_rfl) rfl 100 100 (Nat.le_refl _) (by omega) (by omega) W
          rw [List.toArray_replicate] at this
          exact this
        have s0 : Own (w3.alloc (.cells (Array.replicate 100 (Value.bool false)) 4)) w3.heap.size (seenV (valS x u l 0)) := by
          have := Own.new w3 (List.replicate 100 (.bool false)) 4
          rw [List.toArray_replicate] at this
          exact this
        have o4 := o3.alloc (.cells (Array.replicate 100 (Value.bool false)) 4)
        have hatG := hat3.alloc (Nat.le_refl _) (.cells (Array.replicate 100 (Value.bool false)) 4)
        have hat4 := hat3.alloc_ (.cells (Array.replicate 100 (Value.bool false)) 4)
        have hbw4 := bt hbw3 ((Below.refl _ _).alloc (Nat.le_refl _) (.cells (Array.replicate 100 (Value.bool false)) 4))
        have hlo := o3.lt
        have hz4 : (w3.alloc (.cells (Array.replicate 100 (Value.bool false)) 4)).heap.size = w3.heap.size + 1 := by simp
        have hwz := hbw3.size
        have nld := fun W h => implLeadIn_any a1 x.rotors.length cap1 x u (l : Int) W h (by omega) (.inr ⟨hf, l, p, hC, rfl⟩)
        have nst := fun W h => hT ▸ rcSteps_any a1 x.rotors.length cap1 x u (l : Int) W h (by omega)
        clear nsp hT hF hC o3 hat3 hbw3 hf h3
        go_wp2_with fail
        clear hmk t3 te f0 f1
        generalize (w3.alloc (.cells (Array.replicate 100 (Value.bool false)) 4)) = W4 at *
        generalize w3.heap.size = G at *
        have p1 := fun (cc : Cls W4.heap.size W4) => nld cc.w ((hat4.below cc.bel (Nat.le_refl _)).more cc.bel.size)
        have p2 := fun (cc : Cls W4.heap.size W4) => nst cc.w ((hat4.below cc.bel (Nat.le_refl _)).more cc.bel.size)
        have f0 := o4.at_ (i := 0) rfl
        have f1 := o4.at_ (i := 1) rfl
        have l4 := o4.lt
        have d0 := fun (cc : Cls W4.heap.size W4) => (cc.cell B1 0 l4).trans f0
        have d1 := fun (cc : Cls W4.heap.size W4) => (cc.cell B1 1 l4).trans f1
        refine wp_region_cls (by kernel_rfl) (by kernel_rfl) ?_
        repeat (go_big_quiet_step (first | (go_at_call 8; with_reducible exact cls_of (Nat.le_refl _) (p1 _)) | (go_at_call 7; with_reducible exact cls_of (Nat.le_refl _) (p2 _))))
        refine wpQuiet_nil ?_
        intro wc hbc
        have o6 := o4.below hbc o4.lt
        have s6 := s0.below hbc s0.lt
        have hat6 := hatG.below hbc (by omega)
        have hbw7 := bt hbw4 hbc
        have hGw : w.heap.size ≤ G := hwz
        clear hbc o4 s0 hat4 hatG hbw4 nld nst hz4 hwz p1 p2 f0 f1 d0 d1 l4
        rename World => w6
        obtain ⟨X0, hX0⟩ : ∃ X0, X0 = stepN x l u := ⟨_, rfl⟩
        have HX0 := Lib.hid hX0
        rw [← hX0] at HTRN HLM HLE ⊢
        clear hX0
        go_wp2_with fail
        go_loopw [7, 9, 10, 11, 12, 13, 14, 15] (fun s7 s9 i _ _ _ _ _ wr => ∃ k : Nat, k ≤ p ∧ i = .int .i64 k ∧ s7 = .string (stepN x (l + k) u) ∧ s9 = .int .i64 (lmN x X0 k : Int) ∧ Own wr B1 [.slice a1 x.rotors.length cap1, .string x.refl] ∧ Own wr G (seenV (valS x u l k)) ∧ WhlAt wr G a1 x.rotors.length x ∧ Below w.heap.size w wr) (fun _ _ i _ _ _ _ _ _ => p - (intOf i).toNat)
        case atStart => exact ⟨0, Nat.zero_le _, rfl, by rw [HX0.out]; rfl, rfl, o6, s6, hat6, hbw7⟩
        case round =>
          clear o6 s6 hat6 hbw7
          obtain ⟨k, hk, rfl, rfl, rfl, o6, s6, hat6, hbw7⟩ := hrel
          by_cases hlt : k < p
          · have tk : decide ((k : Int) < (p : Int)) = true := decide_eq_true (by omega)
            have hwd := HWD.out k
            have hsz := HSZ.out k
            have hfn := HFN.out k
            have hvl := valW_lt hwd (by omega)
            have hnew := HNEW.out k hlt
            have nwv := fun W => implWordValue_two (stepN x (l + k) u) W hwd (by omega)
            have c0 := s6.at_ (seenV_at (vs := valS x u l k) hvl)
            rw [decide_eq_false hnew] at c0
            have hfr := s6.free (valW (stepN x (l + k) u)) (by rw [len_seenV]; exact hvl)
            have s7 := s6.set_ (i := valW (stepN x (l + k) u)) (by rw [len_seenV]; exact hvl) (.bool true)
            rw [seenV_set _ hvl, ← HVS.out k] at s7
            have hGlt := s6.lt
            have hne : B1 ≠ G := by omega
            have o7 := o6.far (p := ⟨G, valW (stepN x (l + k) u), none⟩) hne (.bool true)
            have hat7 : WhlAt (wr.setCell ⟨G, valW (stepN x (l + k) u), none⟩ (.bool true)) G a1 x.rotors.length x := hat6.keep (fun q hq => World.cell?_setCell_other wr ⟨G, valW (stepN x (l + k) u), none⟩ q _ (fun e => by subst e; simp at hq))
            have hbw8 := hbw7.setCell (p := ⟨G, valW (stepN x (l + k) u), none⟩) hGw (.bool true)
            have hsz8 : (wr.setCell ⟨G, valW (stepN x (l + k) u), none⟩ (.bool true)).heap.size = wr.heap.size := by simp [World.setCell]
            have HLK := Lib.hid (HLM.out k)
            have hle := HLE.out k
            have hle1 := lmN_le x (stepN x (l + k) u) 1
            have nlm := fun W h => implLeftMoves_any a1 x.rotors.length cap1 x (stepN x (l + k) u) 1 W h hfn (by omega)
            have hst1 : stepT x (stepN x (l + k) u) 1 = (stepN x (l + (k + 1)) u, true) := by
              have := stepT_yes (n := 1) hfn (by omega)
              rw [show ((1 : Nat) : Int) = 1 from rfl] at this
              rw [this, ← HNXT.out k]
              rfl
            have nst := fun W h => hst1 ▸ rcSteps_any a1 x.rotors.length cap1 x (stepN x (l + k) u) 1 W h (by omega)
            have nsb := fun W h => implStepsBack_any a1 x.rotors.length cap1 x (stepN x (l + (k + 1)) u) W h (by have := HSZ.out (k + 1); omega)
            have HBM : Hid (stepN x (l + k) u ∈ backS x (stepN x (l + (k + 1)) u)) := Lib.hid (by rw [← HNXT.out k]; exact back_mem hfn)
            have hbf := (backS_few x (stepN x (l + (k + 1)) u)).1
            have hz0 : 0 ≤ valW (stepN x (l + k) u) := Nat.zero_le _
            have q0 : (0 : Int) ≤ (valW (stepN x (l + k) u) : Int) := by omega
            have q1 : (valW (stepN x (l + k) u) : Int) < 100 := by omega
            have e0 := o6.at_ (i := 0) rfl
            have e1 := o6.at_ (i := 1) rfl
            clear hnew hwd hfn hst1 s6 o6 hat6 hbw7 hsz
            generalize lmN x (stepN x (l + k) u) 1 = D at *
            generalize lmN x X0 k = M at *
            generalize backS x (stepN x (l + (k + 1)) u) = ss at *
            generalize valW (stepN x (l + k) u) = vl at *
            generalize hA1 : stepN x (l + (k + 1)) u = A1 at *
            have HA1 := Lib.hid hA1
            clear hA1
            go_wp2_with (go_at_call 9; ((with_reducible refine (nwv _).mono ?_); rintro e w' ⟨rfl, rfl⟩))
            clear nwv c0 hfr e0 e1 hne
            generalize wr.setCell ⟨G, vl, none⟩ (.bool true) = wz at *
            refine (nlm wz (hat7.more (by omega))).mono ?_
            rintro e w8 ⟨rfl, hb8⟩
            have o8 := o7.below hb8 o7.lt
            have s8 := s7.below hb8 s7.lt
            have hG8 : G < wz.heap.size := by omega
            have hat8 := hat7.below hb8 (by omega)
            have hbw9 := bt hbw8 hb8
            have hz8 := hb8.size
            have hw1 : IntKind.i64.wrap ((M : Int) + (D : Int)) = ((M + D : Nat) : Int) := by rw [IntWalk.i64_in _ (by omega)]; omega
            clear o7 s7 hat7 hbw8 hb8 nlm
            have f0 := o8.at_ (i := 0) rfl
            have f1 := o8.at_ (i := 1) rfl
            have l8 := o8.lt
            have d0 := fun (cc : Cls w8.heap.size w8) => (cc.cell B1 0 l8).trans f0
            have d1 := fun (cc : Cls w8.heap.size w8) => (cc.cell B1 1 l8).trans f1
            have p1 := fun (cc : Cls w8.heap.size w8) => nst cc.w ((hat8.below cc.bel (by omega)).more (by have := cc.bel.size; omega))
            go_wp2_with fail
            refine wp_region_cls_tail 4 (by kernel_rfl) (by kernel_rfl) ?_
            simp only [List.take_succ_cons, List.take_zero, List.drop_succ_cons, List.drop_zero]
            repeat (go_big_quiet_step (first | (go_at_call 7; with_reducible exact cls_of (Nat.le_refl _) (p1 _))))
            refine wpQuiet_nil ?_
            intro wc hbc
            have o9 := o8.below hbc o8.lt
            have s9 := s8.below hbc s8.lt
            have hat9 := hat8.below hbc (by omega)
            have hbw10 := bt hbw9 hbc
            have hz9 := hbc.size
            clear o8 s8 hat8 hbw9 hbc d0 d1 p1 f0 f1
            rename World => w9
            go_wp2_with fail
            refine (nsb w9 (hat9.more (by omega))).mono ?_
            rintro e w10 ⟨lv, rfl, ol, hb10⟩
            obtain ⟨ab, cb, rfl, -, hrb, -⟩ := OwR.val ol
            have o10 := o9.below hb10 o9.lt
            have s10 := s9.below hb10 s9.lt
            have hat10 := hat9.below hb10 (by omega)
            have hbw11 := bt hbw10 hb10
            have hz10 := hb10.size
            clear o9 s9 hat9 hbw10 hb10 ol nsb
            go_wp2_with fail
            obtain ⟨i0, hi0, hei⟩ := List.getElem_of_mem HBM.out
            have HEI : Hid (∀ j (h : j < ss.length), j = i0 → ss[j] = stepN x (l + k) u) := Lib.hid (fun j h e => by subst e; exact hei)
            have HI0 := Lib.hid hi0
            clear hei hi0 HBM
            generalize hAA : stepN x (l + k) u = AA at *
            go_loopw [14, 15] (fun s14 i wr' => ∃ (j : Nat) (b : Bool), j ≤ ss.length ∧ i = .int .i64 j ∧ s14 = .bool b ∧ (i0 < j → b = true) ∧ wr' = w10) (fun _ i _ => ss.length - (intOf i).toNat)
            case atStart => exact ⟨0, false, Nat.zero_le _, rfl, rfl, fun h => absurd h (by omega), rfl⟩
            case round =>
              obtain ⟨j, b, hj, rfl, rfl, hbj, rfl⟩ := hrel
              have HBJ := Lib.hid hbj
              clear hbj
              by_cases hlt2 : j < ss.length
              · have tj : decide ((j : Int) < (ss.length : Int)) = true := decide_eq_true (by omega)
                cases b with
                | true =>
                  go_wp2
                  go_roundw
                  case rel => exact ⟨j + 1, true, by omega, by go_num, rfl, fun _ => rfl, trivial⟩
                  case measure => simp [intOf]; omega
                | false =>
                  obtain ⟨b2, off2, rfl, hbl2, hcl2⟩ := hrb.cells (by simp [sv]; omega)
                  have c0 := hcl2.at_ (i := j) (sv_at hlt2)
                  obtain ⟨Y, hY⟩ : ∃ Y, Y = ss[j] := ⟨_, rfl⟩
                  rw [← hY] at c0
                  obtain ⟨bE, hbE⟩ : ∃ bE : Bool, bE = (Y.toList == AA.toList) := ⟨_, rfl⟩
                  have HE : Hid (i0 < j + 1 → bE = true) := Lib.hid (fun h => by
                    by_cases e : j = i0
                    · rw [hbE]
                      exact (Go.Lib.bytes_beq_iff _ _).2 (by rw [hY]; exact HEI.out j hlt2 e)
                    · have := HBJ.out (by omega)
                      cases this)
                  have tE : (Y.toList == AA.toList) = bE := hbE.symm
                  have q4 : (0 : Int) ≤ (j : Int) := by omega
                  have q5 : (j : Int) < (ss.length : Int) := by omega
                  clear hcl2 hY hbE
                  go_wp2
                  go_roundw
                  case rel => exact ⟨j + 1, bE, by omega, by go_num, rfl, HE.out, trivial⟩
                  case measure => simp [intOf]; omega
              · have tj : decide ((j : Int) < (ss.length : Int)) = false := decide_eq_false (by omega)
                have hb := HBJ.out (by have := HI0.out; omega)
                subst hb
                have f0 := o10.at_ (i := 0) rfl
                have f1 := o10.at_ (i := 1) rfl
                go_wp2_with fail
                refine (nst wr (hat10.more (by omega))).mono ?_
                rintro e w12 ⟨rfl, hb12⟩
                have o12 := o10.below hb12 o10.lt
                have s12 := s10.below hb12 s10.lt
                have hat12 := hat10.below hb12 (by omega)
                have hbw12 := bt hbw11 hb12
                clear o10 s10 hat10 hbw11 hb12 nst f0 f1
                go_wp2
                go_roundw
                case rel => exact ⟨k + 1, by omega, by go_num, by rw [HA1.out], by rw [HLK.out, Int.natCast_add], o12, s12, hat12, hbw12⟩
                case measure => simp [intOf]; omega
          · have tk : decide ((k : Int) < (p : Int)) = false := decide_eq_false (by omega)
            have hk' : k = p := by omega
            have hX : stepN x (l + k) u = X0 := by rw [hk', HEND.out, HX0.out]; rfl
            have hfn := HFN.out 0
            rw [show stepN x (l + 0) u = X0 from HX0.out.symm] at hfn
            have nlm := implLeftMoves_any a1 x.rotors.length cap1 x X0 p wr (hat6.more (by have := s6.lt; omega)) hfn (by omega)
            have hle := HLE.out p
            have ht : ((lmN x X0 p : Int)).tmod 10 = 0 := by
              rw [Int.tmod_eq_emod_of_nonneg (by omega)]
              have := HTRN.out
              omega
            rw [hX]
            rw [hk']
            clear hX hfn hk' hlt hk
            generalize lmN x X0 p = M at *
            have f0 := o6.at_ (i := 0) rfl
            have f1 := o6.at_ (i := 1) rfl
            go_wp2_with fail
            refine nlm.mono ?_
            rintro e w8 ⟨rfl, hb8⟩
            have hbw8 := bt hbw7 hb8
            go_wp2
            go_ret
            exact ⟨rfl, hbw8⟩
end Go.Proofs.YtjefcicenepcbaaGreat
