/- Several of my texts in one: DrawE, SelfW. -/
import Derived.Test.YtbeohccbflhdiaaGreatM10
/- The contract of DrawEncipher. -/
namespace Go.Proofs.YtbeohccbflhdiaaGreat
open Go.RowKit

set_option maxRecDepth 100000 in
set_option maxHeartbeats 2000000 in
theorem DrawEncipher_any (a : Option Addr) (len cap : Nat) (zs : List Int) (w : World) (h : IsRow .u8 w a len cap zs) (hl : len ≤ 1048576) :
    Calls Tryz.prog 18 #[.slice a len cap] w (DrawnE w) := by
  have o0 := Own.new w [.slice none 0 0, .string ⟨#[]⟩, .string ⟨#[]⟩, .string ⟨#[]⟩] 27
  have hb0 := (Below.refl w.heap.size w).alloc (Nat.le_refl _) (.cells #[.slice none 0 0, .string ⟨#[]⟩, .string ⟨#[]⟩, .string ⟨#[]⟩] 27)
  go_enter Tryz.func18, Tryz.ntmps18
  go_wp2_with fail
  refine (l21Open_any a len cap zs _ (h.alloc_ _) hl).mono ?_
  rintro e w1 ⟨rfl, hr1, hb1⟩
  have o1 := o0.below hb1 o0.lt
  have hbw1 := bt hb0 hb1
  rw [World.size_alloc] at hr1
  clear o0 hb0 hb1 h
  go_wp2_with fail
  generalize hB0 : w.heap.size = B0 at *
  have HB0 := Lib.hid hB0
  clear hB0
  refine (l8Any_any (B0 + 1) 0 _ hr1 (by omega)).mono ?_
  rintro e w2 ⟨m, v, g, cp, hx, hset, rfl, hown2, hg, hr2, hm2⟩
  have l1 := hr1.lt
  have o2 := o1.grown hm2 (by simp)
  have hbw2 : Below B0 w w2 := hbw1.trans (hm2.toBelow (by omega) (by omega))
  have hv3 : v.size ≤ 3 := by rw [setB_len hset]; exact hx.2.1
  have hv1 : 1 ≤ v.size := by rw [setB_len hset]; exact hx.1
  clear o1 hr1 hbw1 hm2
  have p2 := Own.new w2 [.slice (some ⟨g, 0, none⟩) m.wheels.rotors.length cp, .string m.wheels.refl, .string m.rings, .string m.plugs] 27
  have o2' := o2.alloc (.cells [.slice (some ⟨g, 0, none⟩) m.wheels.rotors.length cp, .string m.wheels.refl, .string m.rings, .string m.plugs].toArray 27)
  have hr2' := hr2.alloc (.cells [.slice (some ⟨g, 0, none⟩) m.wheels.rotors.length cp, .string m.wheels.refl, .string m.rings, .string m.plugs].toArray 27)
  have hown2' := World.ownsRow.alloc hown2 (.cells [.slice (some ⟨g, 0, none⟩) m.wheels.rotors.length cp, .string m.wheels.refl, .string m.rings, .string m.plugs].toArray 27)
  have hbw2' := hbw2.alloc (by have := o2.lt; omega) (.cells [.slice (some ⟨g, 0, none⟩) m.wheels.rotors.length cp, .string m.wheels.refl, .string m.rings, .string m.plugs].toArray 27)
  have l2 := o2.lt
  have lr2 := hr2.lt
  have lg := (World.ownsRow.lt hown2 g rfl).2
  go_wp2_with fail
  generalize (w2.alloc (.cells [.slice (some ⟨g, 0, none⟩) m.wheels.rotors.length cp, .string m.wheels.refl, .string m.rings, .string m.plugs].toArray 27)) = W2 at *
  generalize w2.heap.size = B2 at *
  clear o2 hr2 hown2 hbw2
  refine (l1Word_any (B0 + 1) 12 _ _ hr2' (by omega) (by omega)).mono ?_
  rintro e w3 ⟨u, ⟨hu1, hu2⟩, rfl, hr3, hm3⟩
  have p3 := p2.grown hm3 (by simp; omega)
  have o3 := o2'.grown hm3 (by simp)
  have q3 := OwR.movedR hown2' hm3 (by simp [Value.ownBlock]; omega)
  have hbw3 := hbw2'.trans (hm3.toBelow (by omega) (by have := o2'.lt; omega))
  clear p2 o2' hr2' hown2' hbw2' hm3 hu1
  go_wp2_with fail
  refine (pick_any (B0 + 1) _ _ _ hr3 (by omega) (by omega) (by omega)).mono ?_
  rintro e w4 ⟨k, rfl, hk0, hk1, _, hr4, hm4⟩
  have p4 := p3.grown hm4 (by simp; omega)
  have o4 := o3.grown hm4 (by simp)
  have q4 := OwR.movedR q3 hm4 (by simp [Value.ownBlock]; omega)
  have hbw4 := hbw3.trans (hm4.toBelow (by omega) (by have := o3.lt; omega))
  clear p3 o3 hr3 q3 hbw3 hm4 hk1
  have hcase : (k = 0) ∨ (k ≠ 0) := by omega
  rcases hcase with hk | hk
  · have t0 : (k == 0) = true := by simp [hk]
    clear hk hk0
    go_wp2_with fail
    refine (l1Bad_any (B0 + 1) u _ _ hr4 (by omega) (by omega)).mono ?_
    rintro e w5 ⟨u5, hu5, rfl, hr5, hm5⟩
    have p5 := p4.grown hm5 (by simp; omega)
    have o5 := o4.grown hm5 (by simp)
    have q5 := OwR.movedR q4 hm5 (by simp [Value.ownBlock]; omega)
    have hbw5 := hbw4.trans (hm5.toBelow (by omega) (by have := o4.lt; omega))
    clear p4 o4 hr4 q4 hbw4 hm5
    have f0 := p5.at_ (i := 0) rfl
    have f1 := p5.at_ (i := 1) rfl
    have f2 := p5.at_ (i := 2) rfl
    have f3 := p5.at_ (i := 3) rfl
    go_wp2_with fail
    refine (l8Bad_any (B0 + 1) g cp _ m v _ _ hr5 (by omega) hx hset q5 (by omega)).mono ?_
    rintro e w6 ⟨m6, a6, cap6, hm6, rfl, hrd6, hbl6, hr6, ht6⟩
    have o6 := o5.tu ht6 (by omega) (by omega)
    have z5 := o5.lt
    have z5b := hr5.lt
    have hbw6 := hbw5.trans (ht6.toBelow (by omega) (by omega) (by omega))
    have HM := Lib.hid hm6
    have HRD := Lib.hid hrd6
    have HBL := Lib.hid hbl6
    clear f0 f1 f2 f3 p5 o5 hr5 q5 hbw5 ht6 hm6 hrd6 hbl6
    go_wp2_with fail
    refine (l8Off_any (B0 + 1) v _ _ hr6 (by omega) hv1 (by omega)).mono ?_
    rintro e w7 ⟨v7, hv7, rfl, hr7, hm7⟩
    have o7 := o6.grown hm7 (by simp)
    have z6 := o6.lt
    have hbw7 := hbw6.trans (hm7.toBelow (by omega) (by omega))
    have hrd7 : Reads w7 w7.heap.size a6 (rvs m6.wheels.rotors) := by
      rcases HRD.out with h | ⟨b, off, ha, hb, hc⟩
      · exact .inl h
      · refine .inr ⟨b, off, ha, Nat.lt_of_lt_of_le hb hm7.size, fun i hi => ?_⟩
        rw [← hc i hi]
        exact World.cell?_of_block (w := w6) (hm7.block b hb (by
          have := HBL.out _ ha
          simp only at this
          simp; omega))
    have HRD7 := Lib.hid hrd7
    clear hrd7 hbw6 hm7 hr6 o6
    have c0 := o7.at_ (i := 0) rfl
    have c1 := o7.at_ (i := 1) rfl
    have c2 := o7.at_ (i := 2) rfl
    have c3 := o7.at_ (i := 3) rfl
    have b0 := o7.free 0 (by simp)
    have b1 := o7.free 1 (by simp)
    have b2 := o7.free 2 (by simp)
    have b3 := o7.free 3 (by simp)
    go_wp2
    have o8 := o7.set4 (.slice a6 m6.wheels.rotors.length cap6) (.string m6.wheels.refl) (.string m6.rings) (.string m6.plugs)
    have k0 := o8.at_ (i := 0) rfl
    have k1 := o8.at_ (i := 1) rfl
    have k2 := o8.at_ (i := 2) rfl
    have k3 := o8.at_ (i := 3) rfl
    refine bodyPost_ret (v := .tuple #[.agg #[.slice a6 m6.wheels.rotors.length cap6, .string m6.wheels.refl, .string m6.rings, .string m6.plugs], .string v7, .string u5]) (by unfold set4 at *; simp [results, Tryz.results18, go_sem, k0, k1, k2, k3]) rfl ?_
    refine ⟨m6, v7, u5, a6, cap6, ⟨HM.out, ?_, ?_, ?_⟩, hv7, hu5, rfl⟩
    · show Reads (set4 w7 B0 _ _ _ _) (set4 w7 B0 _ _ _ _).heap.size _ _
      rw [size_set4]
      exact HRD7.out.set4 (fun ad h => by have := HBL.out ad h; omega) _ _ _ _
    · intro ad h
      rw [HB0.out]
      have := HBL.out ad h; omega
    · rw [HB0.out]
      exact bel_set4 hbw7 (Nat.le_refl _) _ _ _ _
  · have t0 : (k == 0) = false := by simp [hk]
    clear hk hk0
    have hu5 : Sh 300 u := by unfold Sh; omega
    have hr5 := hr4
    have p5 := p4
    have o5 := o4
    have q5 := q4
    have hbw5 := hbw4
    clear p4 o4 hr4 q4 hbw4
    have f0 := p5.at_ (i := 0) rfl
    have f1 := p5.at_ (i := 1) rfl
    have f2 := p5.at_ (i := 2) rfl
    have f3 := p5.at_ (i := 3) rfl
    go_wp2_with fail
    refine (l8Bad_any (B0 + 1) g cp _ m v _ _ hr5 (by omega) hx hset q5 (by omega)).mono ?_
    rintro e w6 ⟨m6, a6, cap6, hm6, rfl, hrd6, hbl6, hr6, ht6⟩
    have o6 := o5.tu ht6 (by omega) (by omega)
    have z5 := o5.lt
    have z5b := hr5.lt
    have hbw6 := hbw5.trans (ht6.toBelow (by omega) (by omega) (by omega))
    have HM := Lib.hid hm6
    have HRD := Lib.hid hrd6
    have HBL := Lib.hid hbl6
    clear f0 f1 f2 f3 p5 o5 hr5 q5 hbw5 ht6 hm6 hrd6 hbl6
    go_wp2_with fail
    refine (l8Off_any (B0 + 1) v _ _ hr6 (by omega) hv1 (by omega)).mono ?_
    rintro e w7 ⟨v7, hv7, rfl, hr7, hm7⟩
    have o7 := o6.grown hm7 (by simp)
    have z6 := o6.lt
    have hbw7 := hbw6.trans (hm7.toBelow (by omega) (by omega))
    have hrd7 : Reads w7 w7.heap.size a6 (rvs m6.wheels.rotors) := by
      rcases HRD.out with h | ⟨b, off, ha, hb, hc⟩
      · exact .inl h
      · refine .inr ⟨b, off, ha, Nat.lt_of_lt_of_le hb hm7.size, fun i hi => ?_⟩
        rw [← hc i hi]
        exact World.cell?_of_block (w := w6) (hm7.block b hb (by
          have := HBL.out _ ha
          simp only at this
          simp; omega))
    have HRD7 := Lib.hid hrd7
    clear hrd7 hbw6 hm7 hr6 o6
    have c0 := o7.at_ (i := 0) rfl
    have c1 := o7.at_ (i := 1) rfl
    have c2 := o7.at_ (i := 2) rfl
    have c3 := o7.at_ (i := 3) rfl
    have b0 := o7.free 0 (by simp)
    have b1 := o7.free 1 (by simp)
    have b2 := o7.free 2 (by simp)
    have b3 := o7.free 3 (by simp)
    go_wp2
    have o8 := o7.set4 (.slice a6 m6.wheels.rotors.length cap6) (.string m6.wheels.refl) (.string m6.rings) (.string m6.plugs)
    have k0 := o8.at_ (i := 0) rfl
    have k1 := o8.at_ (i := 1) rfl
    have k2 := o8.at_ (i := 2) rfl
    have k3 := o8.at_ (i := 3) rfl
    refine bodyPost_ret (v := .tuple #[.agg #[.slice a6 m6.wheels.rotors.length cap6, .string m6.wheels.refl, .string m6.rings, .string m6.plugs], .string v7, .string u]) (by unfold set4 at *; simp [results, Tryz.results18, go_sem, k0, k1, k2, k3]) rfl ?_
    refine ⟨m6, v7, u, a6, cap6, ⟨HM.out, ?_, ?_, ?_⟩, hv7, hu5, rfl⟩
    · show Reads (set4 w7 B0 _ _ _ _) (set4 w7 B0 _ _ _ _).heap.size _ _
      rw [size_set4]
      exact HRD7.out.set4 (fun ad h => by have := HBL.out ad h; omega) _ _ _ _
    · intro ad h
      rw [HB0.out]
      have := HBL.out ad h; omega
    · rw [HB0.out]
      exact bel_set4 hbw7 (Nat.le_refl _) _ _ _ _
end Go.Proofs.YtbeohccbflhdiaaGreat

/- The walk of the law that no letter is enciphered to itself. -/
namespace Go.Proofs.YtbeohccbflhdiaaGreat
open Go.RowKit

theorem enc_at {m : Mach} (v : ByteArray) {u : ByteArray} {i : Nat} (hi : i < u.size) : (wd (encD m v (dg u)))[i]'(by rw [size_wd, len_encD, len_dg]; exact hi) = letr (pAt (keyN m v i) (pAt (dg u) i) : Int) := by
  rw [getElem_L]
  have hk : i < (encD m v (dg u)).length := by rw [len_encD, len_dg]; exact hi
  have h0 := at_enc m v hi
  rw [pAt_get hk] at h0
  simp only [wd, L_S, List.getElem_map, h0]
theorem enc_ne {m : Mach} (h : machB m = true) (v : ByteArray) {u : ByteArray} (hw : wordB u = true) {i : Nat} (hi : i < u.size) : (wd (encD m v (dg u)))[i]'(by rw [size_wd, len_encD, len_dg]; exact hi) ≠ u[i] := by
  rw [enc_at v hi]
  intro he
  have hd := wordB_at hw i hi
  have hu := dg_at hi
  obtain ⟨d, hdd⟩ := Int.eq_ofNat_of_zero_le hd.1
  have hx : pAt (dg u) i = d := by rw [hu]; omega
  have h1 := congrArg dig he
  rw [dig_letr, hx, hdd] at h1
  have h2 := (isP_keyN h v i).at_lt (i := d) (by omega)
  exact free_keyN h v i (d := d) (by omega) (by omega)
theorem enc_no {m : Mach} (h : machB m = true) (v : ByteArray) {u : ByteArray} (hw : wordB u = true) {c : UInt8} (hc : ∀ x ∈ L u, x = c) : ∀ x ∈ L (wd (encD m v (dg u))), x ≠ c := by
  intro x hx
  obtain ⟨j, hj, rfl⟩ := List.getElem_of_mem hx
  have hju : j < u.size := by rw [size_L, size_wd, len_encD, len_dg] at hj; exact hj
  have := enc_ne h v hw hju
  rw [getElem_L] at this
  rw [← hc u[j] (by rw [getElem_L]; exact List.getElem_mem _)]
  exact this
theorem word_rep (c : UInt8) (hc : isL c = true) (n : Nat) (hn : n ≤ 200) : wordB (S (List.replicate n (L (S [c]))).flatten) = true ∧ ∀ x ∈ L (S (List.replicate n (L (S [c]))).flatten), x = c := by
  have he : (List.replicate n (L (S [c]))).flatten = List.replicate n c := by
    rw [L_S]
    induction n with
    | zero => rfl
    | succ n ih => rw [List.replicate_succ, List.flatten_cons, ih (by omega), List.replicate_succ]; rfl
  rw [he]
  constructor
  · simp only [wordB, Bool.and_eq_true, decide_eq_true_eq]
    refine ⟨by rw [size_S]; simpa using hn, ?_⟩
    rw [L_S, List.all_eq_true]
    intro x hx
    rw [List.eq_of_mem_replicate hx]; exact hc
  · rw [L_S]
    exact fun x hx => List.eq_of_mem_replicate hx
theorem str_eq_self (s : ByteArray) : (s.toList == s.toList) = true := by simp

set_option maxRecDepth 100000 in
set_option maxHeartbeats 4000000 in
theorem encipherSelf_walk (a : Option Addr) (len cap : Nat) (zs : List Int) (w : World) (h : IsRow .u8 w a len cap zs) :
    Calls Tryz.prog 3 #[.slice a len cap] w fun e w' => e = .returned (.bool true) ∧ Below w.heap.size w w' := by
  have hlen : len ≤ 9223372036854775807 := by
    rcases h with ⟨_, rfl, _⟩ | ⟨x, _, hl, hm, _⟩
    · omega
    · unfold maxLen at hm; omega
  by_cases hl : 1048576 < len
  · go_enter Tryz.func3, Tryz.ntmps3
    go_wp2
    go_ret
    exact ⟨rfl, Below.refl _ _⟩
  · go_enter Tryz.func3, Tryz.ntmps3
    go_wp2_with fail
    refine (DrawEncipher_any a len cap zs _ h (by omega)).mono ?_
    rintro e w1 ⟨m, v, u, a1, cap1, ⟨hsm, hrd, -, hb1⟩, hv, hu, rfl⟩
    have o1 := Own.new w1 [.slice a1 m.wheels.rotors.length cap1, .string m.wheels.refl, .string m.rings, .string m.plugs] 27
    have hb1' := hb1.alloc hb1.size (.cells [.slice a1 m.wheels.rotors.length cap1, .string m.wheels.refl, .string m.rings, .string m.plugs].toArray 27)
    have hat := (hsm.at_ hrd).alloc_ (.cells [.slice a1 m.wheels.rotors.length cap1, .string m.wheels.refl, .string m.rings, .string m.plugs].toArray 27)
    clear hrd hb1 h
    go_wp2_with fail
    generalize (w1.alloc (.cells [.slice a1 m.wheels.rotors.length cap1, .string m.wheels.refl, .string m.rings, .string m.plugs].toArray 27)) = W1 at *
    generalize w1.heap.size = B1 at *
    refine (implEncipher_any a1 _ cap1 m v u _ hat (by omega) (by omega)).mono ?_
    rintro e w2 ⟨rfl, hb2⟩
    have o2 := o1.below hb2 o1.lt
    have hbw2 := bt hb1' hb2
    have hat2 := (hat.below hb2 (Nat.le_refl _)).more hb2.size
    clear o1 hb1' hat hb2
    have f0 := o2.at_ (i := 0) rfl
    have f1 := o2.at_ (i := 1) rfl
    have f2 := o2.at_ (i := 2) rfl
    have f3 := o2.at_ (i := 3) rfl
    unfold encV
    go_wp2_with fail
    refine (specEncipher_any a1 _ cap1 m v u _ hat2 (by omega) (by omega)).mono ?_
    rintro e w3 ⟨rfl, hb3⟩
    have o3 := o2.below hb3 o2.lt
    have hbw3 := bt hbw2 hb3
    have hat3 := (hat2.below hb3 (Nat.le_refl _)).more hb3.size
    clear o2 hbw2 hat2 hb3 f0 f1 f2 f3
    unfold encV
    by_cases hyes : setB m v = true ∧ wordB u = true
    · obtain ⟨hsb, hwu⟩ := hyes
      have HE := Lib.hid (encT_yes hsb hwu)
      rw [HE.out]
      simp only
      have hmb := setB_mach hsb
      have huw := wordB_size hwu
      have Hsz : Hid ((wd (encD m v (dg u))).size = u.size) := by
        show _ = _
        rw [size_wd, len_encD, len_dg]
      have hsz1 : (wd (encD m v (dg u))).size ≤ u.size := by rw [Hsz.out]; exact Nat.le_refl _
      have hsz2 : u.size ≤ (wd (encD m v (dg u))).size := by rw [Hsz.out]; exact Nat.le_refl _
      have HNE := Lib.hid (fun i (hi : i < u.size) => enc_ne hmb v hwu hi)
      go_wp2_with fail
      go_loopw [12] (fun i wr => ∃ k : Nat, k ≤ u.size ∧ i = .int .i64 k ∧ Own wr B1 [.slice a1 m.wheels.rotors.length cap1, .string m.wheels.refl, .string m.rings, .string m.plugs] ∧ MachAt wr wr.heap.size a1 m.wheels.rotors.length m ∧ Below w.heap.size w wr) (fun i _ => u.size - (intOf i).toNat)
      case atStart => exact ⟨0, Nat.zero_le _, rfl, o3, hat3, hbw3⟩
      case round =>
        clear o3 hat3 hbw3
        obtain ⟨k, hk, rfl, o3, hat3, hbw3⟩ := hrel
        by_cases hlt : k < u.size
        · have h0 := HNE.out k hlt
          have hlt2 : k < (wd (encD m v (dg u))).size := by omega
          have t0 : (((wd (encD m v (dg u)))[k].toNat : Int) == (u[k].toNat : Int)) = false := by
            rw [beq_eq_false_iff_ne]
            exact fun h => h0 (UInt8.toNat.inj (by omega))
          have q1 : (0 : Int) ≤ (k : Int) := by omega
          have q2 : (k : Int) < (u.size : Int) := by omega
          have q3 : (k : Int) < ((wd (encD m v (dg u))).size : Int) := by omega
          clear h0
          go_wp2_with fail
          go_quiet (fail)
          go_wp2
          go_roundw
          case rel => exact ⟨k + 1, by omega, by go_num, o3.drewN _, hat3.keep (fun _ _ => rfl), bel_drewN hbw3 _⟩
          case measure => simp [intOf]; omega
        · go_wp2_with fail
          go_loopw [13] (fun i wr => ∃ k : Nat, k ≤ 10 ∧ i = .int .i64 k ∧ Own wr B1 [.slice a1 m.wheels.rotors.length cap1, .string m.wheels.refl, .string m.rings, .string m.plugs] ∧ MachAt wr wr.heap.size a1 m.wheels.rotors.length m ∧ Below w.heap.size w wr) (fun i _ => 10 - (intOf i).toNat)
          case atStart => exact ⟨0, by omega, rfl, o3, hat3, hbw3⟩
          case round =>
            clear o3 hat3 hbw3
            obtain ⟨x, hx, rfl, o3, hat3, hbw3⟩ := hrel
            by_cases hlt : x < 10
            · obtain ⟨hrw, hra⟩ := word_rep (letr (x : Int)) (isL_letr _) u.size huw
              have hno := idx_no (letr (x : Int)) _ (enc_no hmb v hrw hra)
              have hE2 := encT_yes hsb hrw
              have lt3 := o3.lt
              have d0 := fun (cc : Cls wr.heap.size wr) => (cc.cell B1 0 lt3).trans (o3.at_ (i := 0) rfl)
              have d1 := fun (cc : Cls wr.heap.size wr) => (cc.cell B1 1 lt3).trans (o3.at_ (i := 1) rfl)
              have d2 := fun (cc : Cls wr.heap.size wr) => (cc.cell B1 2 lt3).trans (o3.at_ (i := 2) rfl)
              have d3 := fun (cc : Cls wr.heap.size wr) => (cc.cell B1 3 lt3).trans (o3.at_ (i := 3) rfl)
              have hl1 : (S [letr (x : Int)]).size ≤ 1 := by rw [size_S]; simp
              have hl2 : 1 ≤ (S [letr (x : Int)]).size := by rw [size_S]; simp
              have hl3 : (S [letr (x : Int)])[0]'(by omega) = letr (x : Int) := letr_one _
              have n1 := fun W => rcLetter_any x W (by omega)
              have n2 := fun W => rcAll_any (S [letr (x : Int)]) u.size W hl1 (by omega)
              have n3 := fun (cc : Cls wr.heap.size wr) => rcText_any a1 _ cap1 m v (S (List.replicate u.size (L (S [letr (x : Int)]))).flatten) cc.w ((hat3.below cc.bel (Nat.le_refl _)).more cc.bel.size) (by omega) (by have := wordB_size hrw; omega)
              have n4 := fun W => rcFind_any (wd (encD m v (dg (S (List.replicate u.size (L (S [letr (x : Int)]))).flatten)))) (letr (x : Int)) W (by rw [size_wd, len_encD, len_dg]; have := wordB_size hrw; omega)
              rw [hE2] at n3
              simp only at n3
              rw [hno] at n4
              clear hno hE2 hrw hra
              generalize wd (encD m v (dg (S (List.replicate u.size (L (S [letr (x : Int)]))).flatten))) = y1 at *
              generalize S (List.replicate u.size (L (S [letr (x : Int)]))).flatten = y2 at *
              go_wp2_with fail
              refine wp_region_cls (by kernel_rfl) (by kernel_rfl) ?_
              repeat (go_big_quiet_step (first | (go_at_call 24; with_reducible exact cls_of (Nat.le_refl _) (n1 _)) | (go_at_call 23; with_reducible exact cls_same (n2 _)) | (go_at_call 22; with_reducible exact cls_of (Nat.le_refl _) (n3 _)) | (go_at_call 21; with_reducible exact cls_same (n4 _))))
              refine wpQuiet_nil ?_
              intro wc hbc
              go_wp2
              go_roundw
              case rel => exact ⟨x + 1, by omega, by go_num, o3.below hbc o3.lt, (hat3.below hbc (Nat.le_refl _)).more hbc.size, bt hbw3 hbc⟩
              case measure => simp [intOf]; omega
            · go_wp2
              go_ret
              exact ⟨rfl, hbw3⟩
    · have HE := Lib.hid (encT_no hyes)
      rw [HE.out]
      simp only
      go_wp2
      go_ret
      exact ⟨rfl, hbw3⟩
end Go.Proofs.YtbeohccbflhdiaaGreat
