/- The walk of the law on stops. -/
import Derived.Test.YtegbmjdaohnlaaaMotor2
namespace Go.Proofs.Ytegbmjdaohnlaaa
open Go.RowKit

def eqIto (ss tt : List Int) (k : Nat) : Prop := ∀ j (h1 : j < ss.length) (h2 : j < tt.length), j < k → ss[j] = tt[j]
theorem rcInts_any (a b : Option Addr) (c d : Nat) (ss tt : List Int) (w : World) (h1 : Reads w w.heap.size a (iv ss)) (h2 : Reads w w.heap.size b (iv tt)) (l1 : ss.length ≤ 1048576) :
    Calls Try.prog 34 #[.slice a ss.length c, .slice b tt.length d] w fun e w' => e = .returned (.bool (decide (ss = tt))) ∧ ∃ n, w' = w.drewN n := by
  by_cases hl : ss.length = tt.length
  · have t0 : ((ss.length : Int) != (tt.length : Int)) = false := by simp [hl]
    have g1 : ss.length ≤ tt.length := by omega
    have g2 : tt.length ≤ ss.length := by omega
    have HR1 := Lib.hid h1
    have HR2 := Lib.hid h2
    clear hl h1 h2
    go_enter Try.func34, Try.ntmps34
    go_wp2
    go_loopw [5] (fun i wr => ∃ k n : Nat, k ≤ ss.length ∧ i = .int .i64 k ∧ eqIto ss tt k ∧ wr = w.drewN n) (fun i _ => ss.length - (intOf i).toNat)
    case atStart => exact ⟨0, 0, Nat.zero_le _, rfl, fun _ _ _ h => absurd h (by omega), rfl⟩
    case round =>
      obtain ⟨k, n, hk, rfl, ha, rfl⟩ := hrel
      by_cases hlt : k < ss.length
      · obtain ⟨b1, off1, rfl, hb1, hc1⟩ := HR1.out.open_ (by rw [length_iv]; omega)
        obtain ⟨b2, off2, rfl, hb2, hc2⟩ := HR2.out.open_ (by rw [length_iv]; omega)
        have d1 := hc1 k (by rw [length_iv]; exact hlt)
        have d2 := hc2 k (by rw [length_iv]; omega)
        rw [iv_at hlt] at d1
        rw [iv_at (by omega)] at d2
        clear hc1 hc2
        have q1 : (k : Int) < (ss.length : Int) := by omega
        have q2 : (k : Int) < (tt.length : Int) := by omega
        by_cases he : ss[k] = tt[k]'(by omega)
        · have te : (ss[k] != (tt[k]'(by omega))) = false := by rw [he]; simp
          have He := Lib.hid he
          clear he
          go_wp2_with fail
          go_quiet (fail)
          go_wp2
          go_roundw
          case rel =>
            refine ⟨k + 1, _, by omega, by go_num, fun j hj1 hj2 hlt' => ?_, rfl⟩
            by_cases e : j = k
            · subst e; exact He.out
            · exact ha j hj1 hj2 (by omega)
          case measure => simp [intOf]; omega
        · have te : (ss[k] != (tt[k]'(by omega))) = true := by rw [bne_iff_ne]; exact he
          go_wp2_with fail
          go_quiet (fail)
          go_wp2
          go_ret
          exact ⟨ret_bool (by simp; intro h; exact he (by simp [h])), n + nq, by rw [World.drewN_drewN]⟩
      · go_wp2
        go_ret
        refine ⟨ret_bool ?_, n, rfl⟩
        have : ss = tt := List.ext_getElem (by omega) fun j hj1 hj2 => ha j hj1 hj2 (by omega)
        simp [this]
  · have t0 : ((ss.length : Int) != (tt.length : Int)) = true := by rw [bne_iff_ne]; omega
    have T : Hid (decide (ss = tt) = false) := by show _ = _; simp; intro h; exact hl (by rw [h])
    clear hl
    go_enter Try.func34, Try.ntmps34
    go_wp2
    go_ret
    exact ⟨ret_bool T.out.symm, 0, rfl⟩

theorem stopsTo_prefix (m : ByteArray) (i j : Nat) : ∃ r, stopsTo m (i + j) = stopsTo m i ++ r := by
  induction j with
  | zero => exact ⟨[], by simp⟩
  | succ j ih =>
    obtain ⟨r, hr⟩ := ih
    by_cases h : (wAt m (i + j)).toNat = 48
    · exact ⟨r ++ [((i + j : Nat) : Int)], by rw [← Nat.add_assoc, stopsTo_yes h, hr, List.append_assoc]⟩
    · exact ⟨r, by rw [← Nat.add_assoc, stopsTo_no h, hr]⟩
theorem stopsTo_at {m : ByteArray} {i N : Nat} (h : (wAt m i).toNat = 48) (hi : i < N) : ∃ hl : (stopsTo m i).length < (stopsTo m N).length, (stopsTo m N)[(stopsTo m i).length] = (i : Int) := by
  obtain ⟨r, hr⟩ := stopsTo_prefix m (i + 1) (N - (i + 1))
  rw [show i + 1 + (N - (i + 1)) = N by omega, stopsTo_yes h, List.append_assoc] at hr
  have hl : (stopsTo m i).length < (stopsTo m N).length := by rw [hr]; simp
  refine ⟨hl, ?_⟩
  have : (stopsTo m N)[(stopsTo m i).length]? = some (i : Int) := by rw [hr]; simp
  rw [List.getElem?_eq_getElem hl] at this
  exact Option.some.inj this

set_option maxRecDepth 100000 in
set_option maxHeartbeats 2000000 in
theorem motorStops_walk (a : Option Addr) (len cap : Nat) (zs : List Int) (w : World) (h : IsRow .u8 w a len cap zs) :
    Calls Try.prog 12 #[.slice a len cap] w fun e w' => e = .returned (.bool true) ∧ Below w.heap.size w w' := by
  by_cases hl : 1048576 < len
  · go_enter Try.func12, Try.ntmps12
    go_wp2
    go_ret
    exact ⟨rfl, Below.refl _ _⟩
  · go_enter Try.func12, Try.ntmps12
    go_wp2_with fail
    refine (DrawMotorStops_any a len cap zs w h (by omega)).mono ?_
    rintro e w1 ⟨v, n, rfl, hn, a1, a2, c1, c2, chi, psi, m, rfl, r1, r2, -, s1, s2, hm, l1, l2, hb1⟩
    have hT : TeleR w1 a1 a2 chi psi m := ⟨r1, r2, fun s hs => by have := s1 s hs; omega, fun s hs => by have := s2 s hs; omega, by omega, by omega, by omega⟩
    clear s1 s2 r1 r2
    go_wp2_with fail
    have o1 := Own.new w1 (teleC a1 a2 c1 c2 chi psi m) 30
    have hT1 := hT.alloc (.cells (teleC a1 a2 c1 c2 chi psi m).toArray 30)
    have hb2 : Below w.heap.size w (w1.alloc (.cells (teleC a1 a2 c1 c2 chi psi m).toArray 30)) := bt hb1 ((Below.refl _ _).alloc (Nat.le_refl _) _)
    clear hT hb1
    generalize (w1.alloc (.cells (teleC a1 a2 c1 c2 chi psi m).toArray 30)) = W at *
    generalize w1.heap.size = B1 at *
    refine (implMotorStops_any a1 a2 c1 c2 chi psi m n W hT1).mono ?_
    rintro e w3 ⟨x, cx, rfl, hx3, hb3⟩
    have o3 := o1.below hb3 o1.lt
    have hT3 := hT1.below hb3
    have hbw3 := bt hb2 hb3
    have f0 := o3.at_ (i := 0) rfl
    have f1 := o3.at_ (i := 1) rfl
    have f2 := o3.at_ (i := 2) rfl
    clear hb3 hb2 hT1 o1
    go_wp2_with fail
    refine (specMotorStops_any a1 a2 c1 c2 chi psi m n w3 hT3 hn).mono ?_
    rintro e w4 ⟨y, cy, rfl, hy4, hb4⟩
    have o4 := o3.below hb4 o3.lt
    have hT4 := hT3.below hb4
    have hx4 := (hx3.below hb4 (Nat.le_refl _)).more hb4.size
    have hbw4 := bt hbw3 hb4
    have hsl : (stops chi psi m n).length ≤ 1000 := by
      unfold stops
      split
      · rename_i hq
        obtain ⟨_, q0, q1⟩ := telenB_parts hq
        have := stopsTo_len m (n - 1).toNat
        omega
      · simp
    clear f0 f1 f2 hb4 hbw3 hT3 hx3 o3
    have f0 := o4.at_ (i := 0) rfl
    have f1 := o4.at_ (i := 1) rfl
    have f2 := o4.at_ (i := 2) rfl
    go_wp2_with fail
    refine (rcInts_any x y cx cy _ _ w4 hx4 hy4 (by omega)).mono ?_
    rintro e w5 ⟨rfl, nd, rfl⟩
    simp only [decide_true]
    go_wp2_with fail
    have hT5 : TeleR (w4.drewN nd) a1 a2 chi psi m := hT4.below (bdrewN (Below.refl _ _) nd)
    refine (hT5.impl c1 c2).mono ?_
    rintro e w6 ⟨rfl, hb6⟩
    have o6 : Own w6 B1 (teleC a1 a2 c1 c2 chi psi m) := Own.below (w := w4.drewN nd) (o4.drewN nd) hb6 o4.lt
    have hx6 : Reads w6 w6.heap.size x (iv (stops chi psi m n)) := (Reads.below (w := w4.drewN nd) hx4 hb6 (Nat.le_refl _)).more hb6.size
    have hbw6 : Below w.heap.size w w6 := bt hbw4 (bt (b := w4.drewN nd) (bdrewN (Below.refl _ _) nd) hb6)
    clear f0 f1 f2 hb6 hbw4 hT4 hT5 hx4 hy4 o4
    have f2 := o6.at_ (i := 2) rfl
    obtain ⟨hn1, hn2⟩ := hn
    cases hb : telenB chi psi m n
    · have hst : stops chi psi m n = [] := by simp [stops, hb]
      rw [hst]
      cases ht : teleB chi psi m
      · clear hb hst
        go_wp2_with fail
        refine wp_loop_rounds 1 ?_
        rw [rounds_succ]
        by_cases h1 : 1 < n
        · go_wp2
          go_ret
          exact ⟨rfl, hbw6⟩
        · go_wp2
          go_ret
          exact ⟨rfl, hbw6⟩
      · by_cases h0 : 0 ≤ n
        · have h2 : ¬ n ≤ 200 := by intro h2; simp [telenB, ht, h0, h2] at hb
          clear hb hst
          go_wp2_with fail
          refine wp_loop_rounds 1 ?_
          rw [rounds_succ]
          by_cases h1 : 1 < n
          · go_wp2
            go_ret
            exact ⟨rfl, hbw6⟩
          · go_wp2
            go_ret
            exact ⟨rfl, hbw6⟩
        · clear hb hst
          go_wp2_with fail
          refine wp_loop_rounds 1 ?_
          rw [rounds_succ]
          by_cases h1 : 1 < n
          · go_wp2
            go_ret
            exact ⟨rfl, hbw6⟩
          · go_wp2
            go_ret
            exact ⟨rfl, hbw6⟩
    · obtain ⟨ht, hn0, hn3⟩ := telenB_parts hb
      have hbm := teleB_motor ht
      have hz := bitsB_size hbm
      have hp : 0 < m.size := by omega
      obtain ⟨N, rfl⟩ := Int.eq_ofNat_of_zero_le hn0
      have hst : stops chi psi m N = stopsTo m (N - 1) := by simp [stops, hb]
      rw [hst] at hsl hx6 ⊢
      have HX := Lib.hid hx6
      have HAT : Hid (∀ i, i < N - 1 → (wAt m i).toNat = 48 → ∃ hl : (stopsTo m i).length < (stopsTo m (N - 1)).length, (stopsTo m (N - 1))[(stopsTo m i).length] = (i : Int)) := fun i hi hw => stopsTo_at hw hi
      have HB := Lib.hid hb
      clear hst hx6 hb
      go_wp2_with fail
      go_loopw [7, 8] (fun q i wr => ∃ k : Nat, (k ≤ N - 1) ∧ i = .int .i64 k ∧ q = .int .i64 ((stopsTo m k).length : Int) ∧ ∃ nd, wr = w6.drewN nd) (fun _ i _ => N - (intOf i).toNat)
      case atStart => exact ⟨0, by omega, rfl, rfl, 0, rfl⟩
      case round =>
        obtain ⟨k, hk, rfl, rfl, n2, rfl⟩ := hrel
        have hle := stopsTo_len m k
        by_cases hlt : k + 1 < N
        · have hw := Lib.hid (wAt_eq hp k)
          have hlt2 := Nat.mod_lt k hp
          have hby := byte_lt (m[k % m.size]'hlt2)
          have q1 : (0 : Int) ≤ (k : Int) % (m.size : Int) := by omega
          have q2 : (k : Int) % (m.size : Int) < (m.size : Int) := Int.emod_lt_of_pos _ (by omega)
          have q3 : ((k : Int) % (m.size : Int)).toNat = k % m.size := by omega
          have q4 : (1 : Int) ≤ (m.size : Int) := by omega
          by_cases hz8 : (wAt m k).toNat = 48
          · have te : (((m[k % m.size]'hlt2).toNat : Int) == 48) = true := by rw [← hw.out]; simp [hz8]
            obtain ⟨hl1, hl2⟩ := HAT.out k (by omega) hz8
            obtain ⟨b, off, rfl, hbb, hcc⟩ := HX.out.open_ (by rw [length_iv]; omega)
            have d1 := hcc (stopsTo m k).length (by rw [length_iv]; exact hl1)
            rw [iv_at hl1, hl2] at d1
            have hy := Lib.hid (stopsTo_yes hz8)
            clear hz8 hcc hl2
            go_wp2_with fail
            go_quiet (fail)
            go_wp2
            go_roundw
            case rel => exact ⟨k + 1, by omega, by go_num, by rw [hy.out]; simp, _, rfl⟩
            case measure => simp [intOf]; omega
          · have te : (((m[k % m.size]'hlt2).toNat : Int) == 48) = false := by rw [← hw.out, beq_eq_false_iff_ne]; omega
            have hy := Lib.hid (stopsTo_no hz8)
            clear hz8
            go_wp2_with fail
            go_quiet (fail)
            go_wp2
            go_roundw
            case rel => exact ⟨k + 1, by omega, by go_num, by rw [hy.out], _, rfl⟩
            case measure => simp [intOf]; omega
        · have hk1 : k = N - 1 := by omega
          subst hk1
          go_wp2
          go_ret
          exact ⟨rfl, bdrewN hbw6 _⟩
end Go.Proofs.Ytegbmjdaohnlaaa
