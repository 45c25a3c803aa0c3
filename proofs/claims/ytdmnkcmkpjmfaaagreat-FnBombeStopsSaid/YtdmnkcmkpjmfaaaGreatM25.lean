/- Several of my texts in one: Imply, Pairs2, Cen, HypI. -/
import Derived.Test.YtdmnkcmkpjmfaaaGreatM24
import Derived.Test.YtdmnkcmkpjmfaaaGreatM4
import Derived.Test.YtdmnkcmkpjmfaaaGreatM23
import Derived.Test.YtdmnkcmkpjmfaaaGreatM13
/- What follows from a pair, of the program. -/
namespace Go.Proofs.YtdmnkcmkpjmfaaaGreat
open Go.RowKit

/-- The cells of pairs that are to be followed. -/
def wks (l : List (Nat × Nat)) : List Value := l.flatMap fun q => [.int .i64 (q.1 : Int), .int .i64 (q.2 : Int)]
theorem len_wks (l : List (Nat × Nat)) : (wks l).length = l.length * 2 := by
  induction l with
  | nil => rfl
  | cons q l ih => simp only [wks, List.flatMap_cons, List.length_append, List.length_cons, List.length_nil] at ih ⊢; omega
theorem wks_append (a b : List (Nat × Nat)) : wks (a ++ b) = wks a ++ wks b := by simp [wks]
theorem wks_two (p q : Nat × Nat) : wks [p, q] = [.int .i64 (p.1 : Int), .int .i64 (p.2 : Int), .int .i64 (q.1 : Int), .int .i64 (q.2 : Int)] := rfl
theorem wks_last0 (l : List (Nat × Nat)) (q : Nat × Nat) : (wks (l ++ [q]))[l.length * 2]? = some (.int .i64 (q.1 : Int)) := by
  rw [wks_append, List.getElem?_append_right (by rw [len_wks]; exact Nat.le_refl _), len_wks, Nat.sub_self]; rfl
theorem wks_last1 (l : List (Nat × Nat)) (q : Nat × Nat) : (wks (l ++ [q]))[l.length * 2 + 1]? = some (.int .i64 (q.2 : Int)) := by
  rw [wks_append, List.getElem?_append_right (by rw [len_wks]; omega), len_wks, Nat.add_sub_cancel_left]; rfl
theorem OwR.pop {w : World} {base sz g n cap : Nat} {e : TypeId} {xs ys : List Value} (h : OwR w base e sz (.slice (some ⟨g, 0, none⟩) (n + 1) cap) (n + 1) (xs ++ ys)) (hx : xs.length = n * sz) : OwR w base e sz (.slice (some ⟨g, 0, none⟩) n cap) n xs := by
  refine ⟨hx, .inr ?_⟩
  rcases h.2 with ⟨h0, _⟩ | ⟨g', cap', cur, hv, hg, hh, hn, hm, hs, ht⟩
  · cases h0
  · cases hv
    refine ⟨g, cap, cur, rfl, hg, hh, by omega, hm, hs, ?_⟩
    have h1 := congrArg (List.take (n * sz)) ht
    rw [List.take_take, Nat.min_eq_left (Nat.mul_le_mul_right _ (Nat.le_succ n)), List.take_left' hx] at h1
    exact h1
section
variable {P : Program} {ops : Array Oper} {rest : List Oper} {dst : Option Tmp} {ty : TypeId} {pos : String} {after : Array Edge} {a : Act} {w0 : World} {Q : Exit → Act → World → Prop}
/-- 'x = append(x, us..)', x of the call's own, with several elements that lie somewhere. -/
theorem wl_pushm (t e : TypeId) {s x : Operand} {z : Value} {sz bytes : Nat} (hinfo : (P.info? e).map (fun i => (i.zero, i.size, i.bytes)) = some (some z, sz, bytes)) (ht : P.underlying t = some (.slice e)) (hzs : z.cells.size = sz) (hsz : 0 < sz)
    {base n m c : Nat} {ad : Addr} {v : Value} {xs us : List Value} (hown : OwR w0 base e sz v n xs) (hb : base ≤ w0.heap.size) (hus : us.length = m * sz) (hnews : ∀ j u, us[j]? = some u → w0.cell? (ad.add j) = some u) (h1 : ∀ u ∈ us, u.oneCell' = true) (hm : 0 < m) (hn : n + m ≤ 1048576) (hby : bytes ≤ 1000)
    (hs : a.eval s = v) (hx : a.eval x = .slice (some ad) m c)
    (h : ∀ g cap w', OwR w' base e sz (.slice (some ⟨g, 0, none⟩) (n + m) cap) (n + m) (xs ++ us) → w0.grownBy w' v.ownBlock → (v.ownBlock = some g ∨ w0.heap.size ≤ g) → wpList P ops Q rest (a.put dst (.slice (some ⟨g, 0, none⟩) (n + m) cap)) w') :
    wpList P ops Q (⟨dst, .call { callee := .builtin .append, args := #[s, x], argTypes := #[t, t] }, ty, pos, after, none⟩ :: rest) a w0 := by
  obtain ⟨i0, hi0, hz0, hz1, hz2⟩ := info_parts hinfo
  refine wpList_append_lies _ rfl s x t rfl base e i0 z sz bytes ht hi0 hz0 hz1 hz2 hzs hsz v n xs hs hown ad m c us hx hus hnews h1 hm (by unfold maxLen; omega) ?_ hb w0.heap.size rfl ?_
  · have : (n + m) * bytes ≤ 1048576 * 1000 := Nat.mul_le_mul (by omega) hby
    omega
  · intro g cap w' ho hg hat hlt
    refine h g cap w' ho hg ?_
    rcases hat with h1 | h1
    · exact .inl h1
    · exact .inr (Nat.le_of_eq h1.symm)
end
theorem miss_le (R : Nat → Nat → Bool) : miss R ≤ 100 := by
  unfold miss
  exact Nat.le_trans (List.length_filter_le _ _) (by simp)
theorem inf_two : (Tryz.prog.info? 140).map (fun i => (i.zero, i.size, i.bytes)) = some (some (.agg #[.int .i64 0, .int .i64 0]), 2, 16) := by kernel_rfl
/-- What imply leaves: the set of the pairs that follow. -/
def ImplyP (R : Nat → Nat → Bool) (w : World) (e : Ending) (w' : World) : Prop := ∃ g, e = .returned (.pointer (some ⟨g, 0, none⟩)) ∧ w.heap.size ≤ g ∧ Own w' g (psv R) ∧ Below w.heap.size w w'
theorem psv_none : (psv fun _ _ => false).toArray = #[.int .u64 0, .int .u64 0, .int .u64 0, .int .u64 0, .int .u64 0, .int .u64 0, .int .u64 0, .int .u64 0, .int .u64 0, .int .u64 0] := rfl
theorem psv_none2 : (psv fun _ _ => false) = [.int .u64 0, .int .u64 0, .int .u64 0, .int .u64 0, .int .u64 0, .int .u64 0, .int .u64 0, .int .u64 0, .int .u64 0, .int .u64 0] := rfl
set_option maxRecDepth 100000 in
set_option maxHeartbeats 4000000 in
theorem imply_any (g : Nat) (G : List Wire) (x y : Nat) (w : World) (hw : WiresAt w g G) (hG : GOk G) (hx : x < 10) (hy : y < 10) (hl : G.length ≤ 1000) :
    Calls Tryz.prog 77 #[.pointer (some ⟨g, 0, none⟩), .int .i64 (x : Int), .int .i64 (y : Int)] w (ImplyP (impB G x y) w) := by
  have z0 : Own (w.alloc (.cells (psv fun _ _ => false).toArray 127)) w.heap.size (psv fun _ _ => false) := Own.new w _ 127
  have hb0 := (Below.refl w.heap.size w).alloc (Nat.le_refl _) (.cells (psv fun _ _ => false).toArray 127)
  have l0 := z0.lt
  rw [psv_none] at z0 hb0
  have hw0 := hw.below ((Below.refl w.heap.size w).alloc (Nat.le_refl _) (.cells #[.int .u64 0, .int .u64 0, .int .u64 0, .int .u64 0, .int .u64 0, .int .u64 0, .int .u64 0, .int .u64 0, .int .u64 0, .int .u64 0] 127)) (Nat.le_refl _)
  have hg := hw.1
  go_enter Tryz.func77, Tryz.ntmps77
  go_wp2_with fail
  refine (pairAdd_any w.heap.size (fun _ _ => false) x y _ (by rw [psv_none2]; exact z0) hx hy (fun _ _ => rfl)).mono ?_
  rintro e w1 ⟨rfl, o1, hm1⟩
  have hbw1 : Below w.heap.size w w1 := hb0.trans (Moved.toBelow hm1 (Nat.le_refl _) (by simp))
  have hr1 := World.ownsRow_lit (base := w1.heap.size) (e := 140) (size := 2) w1 #[.int .i64 (x : Int), .int .i64 (y : Int), .int .i64 (y : Int), .int .i64 (x : Int)] 2 (by simp) (by unfold maxLen; omega) (by simp)
  have oA := o1.alloc (.cells #[.int .i64 (x : Int), .int .i64 (y : Int), .int .i64 (y : Int), .int .i64 (x : Int)] 140)
  have hbA := hbw1.alloc hbw1.size (.cells #[.int .i64 (x : Int), .int .i64 (y : Int), .int .i64 (y : Int), .int .i64 (x : Int)] 140)
  have l1 := o1.lt
  have hzA : w1.heap.size < (w1.alloc (.cells #[.int .i64 (x : Int), .int .i64 (y : Int), .int .i64 (y : Int), .int .i64 (x : Int)] 140)).heap.size := by simp
  have HST := Lib.hid (WInv.start (G := G) (x := x) (y := y))
  have hms := miss_le (addR (fun _ _ => false) x y)
  have HG := Lib.hid hG
  have HW := Lib.hid hw
  clear hw0 hw z0 o1 hm1 hb0 l0 hbw1
  go_wp2_with fail
  generalize hB0 : w.heap.size = B0 at *
  have HB0 := Lib.hid hB0
  clear hB0
  generalize (addR (fun _ _ => false) x y) = R0 at *
  generalize w1.heap.size = B1 at *
  go_loopg [8] (3 * miss R0 + 2) (fun gh s8 wr => ∃ (R : Nat → Nat → Bool) (work : List (Nat × Nat)) (gw cap : Nat), gh = 3 * miss R + work.length ∧ 3 * miss R + work.length ≤ 302 ∧ s8 = .slice (some ⟨gw, 0, none⟩) work.length cap ∧ OwR wr B1 140 2 (.slice (some ⟨gw, 0, none⟩) work.length cap) work.length (wks work) ∧ Own wr B0 (psv R) ∧ WInv G x y R work (fun _ _ => False) ∧ (∀ q ∈ work, q.1 < 10 ∧ q.2 < 10) ∧ Below B0 w wr ∧ B1 < wr.heap.size)
  case atStart => exact ⟨R0, [(x, y), (y, x)], B1, 2, rfl, by simp only [List.length_cons, List.length_nil]; omega, rfl, hr1, oA, HST.out, by simp [hx, hy], hbA, hzA⟩
  case round =>
    clear hr1 oA hbA hzA HST hms
    obtain ⟨R, work, gw, cap, hgh, hgb, rfl, hown, oR, hinv, hlt, hb, hz⟩ := hrel
    have HGH := Lib.hid hgh
    have HI := Lib.hid hinv
    have HLT := Lib.hid hlt
    clear hgh hinv hlt
    rcases List.eq_nil_or_concat work with rfl | ⟨u, q, rfl⟩
    · have HE := Lib.hid HI.out.end_
      go_wp2
      go_ret
      exact ⟨B0, rfl, by rw [HB0.out]; exact Nat.le_refl _, by rw [← HE.out]; exact oR, by rw [HB0.out]; exact hb⟩
    · rw [List.concat_eq_append] at *
      obtain ⟨a0, b0⟩ := q
      have hq := HLT.out (a0, b0) (by simp)
      have ha0 : a0 < 10 := hq.1
      have hb0 : b0 < 10 := hq.2
      have hlen : (u ++ [(a0, b0)]).length = u.length + 1 := by simp
      rw [hlen] at hown hgb
      have hcap : u.length + 1 ≤ cap := by
        obtain ⟨_, _, e, h, _⟩ := OwR.val hown
        cases e; exact h
      have oW := OwR.own hown
      have c0 := oW.at_ (wks_last0 u (a0, b0))
      have c1 := oW.at_ (wks_last1 u (a0, b0))
      have hpop := OwR.pop (xs := wks u) (ys := wks [(a0, b0)]) (by rw [← wks_append]; exact hown) (len_wks u)
      have HP := Lib.hid HI.out.pop
      have HPI := Lib.hid HI.out.pop_in
      have HLT2 : Hid (∀ q ∈ u, q.1 < 10 ∧ q.2 < 10) := Lib.hid (fun q hq => HLT.out q (by simp [hq]))
      have HGL : Hid ((u ++ [(a0, b0)]).length = u.length + 1) := Lib.hid hlen
      rw [hlen]
      have hwW := HW.out.below hb (by rw [HB0.out]; exact Nat.le_refl _)
      obtain ⟨ra, rc, hrc, hrr⟩ := HW.out.2 a0 ha0
      clear hlen hq hown HI HLT
      have hsub : IntKind.i64.wrap (((u.length + 1 : Nat) : Int) - 1) = (u.length : Int) := by rw [IntWalk.i64_in _ (by omega)]; omega
      have t0 : decide ((0 : Int) < ((u.length + 1 : Nat) : Int)) = true := decide_eq_true (by omega)
      go_wp2_with fail
      have xP := Own.new wr [.int .i64 (a0 : Int), .int .i64 (b0 : Int)] 140
      have hbP := hb.alloc (by omega) (.cells [.int .i64 (a0 : Int), .int .i64 (b0 : Int)].toArray 140)
      have oRP := oR.alloc (.cells [.int .i64 (a0 : Int), .int .i64 (b0 : Int)].toArray 140)
      have hpP : OwR (wr.alloc (.cells [.int .i64 (a0 : Int), .int .i64 (b0 : Int)].toArray 140)) B1 140 2 (.slice (some ⟨gw, 0, none⟩) u.length cap) u.length (wks u) := World.ownsRow.alloc hpop _
      have hgw : gw < wr.heap.size := oW.lt
      have hzP : wr.heap.size < (wr.alloc (.cells [.int .i64 (a0 : Int), .int .i64 (b0 : Int)].toArray 140)).heap.size := by simp
      have hzB := hb.size
      clear c0 c1 hpop oR hb oW hwW
      generalize hW5 : (wr.alloc (.cells [.int .i64 (a0 : Int), .int .i64 (b0 : Int)].toArray 140)) = W5 at *
      clear hW5
      generalize wr.heap.size = BP at *
      have lg : g < B0 := hg
      have lP := xP.lt
      have k0 := xP.at_ (i := 0) rfl
      have k1 := (hbP.cell (p := ⟨g, a0, none⟩) lg).trans hrc
      have qa0 : (0 : Int) ≤ (a0 : Int) := by omega
      have qa1 : (a0 : Int) < 10 := by omega
      go_quiet (fail)
      have xP6 := xP.drewN nq
      have hbP6 : Below B0 w (W5.drewN nq) := bel_drewN hbP _
      have oR6 := oRP.drewN nq
      have hp6 : OwR (W5.drewN nq) B1 140 2 (.slice (some ⟨gw, 0, none⟩) u.length cap) u.length (wks u) := OwR.drewN hpP nq
      have hz6 : BP < (W5.drewN nq).heap.size := hzP
      clear xP hbP oRP hpP hzP k0 k1 qa0 qa1
      generalize W5.drewN nq = W6 at *
      have hrl := wireF_len G a0
      have HROW := Lib.hid (fun (W : World) (hb : Below B0 w W) => hrr.below hb (Nat.le_of_eq HB0.out))
      go_wp2_with fail
      go_loopw [8, 11, 12, 47] (fun s8 _ _ i wr' => ∃ (k : Nat) (R' : Nat → Nat → Bool) (work' : List (Nat × Nat)) (gw' cap' : Nat), k ≤ (wireF G a0).length ∧ i = .int .i64 k ∧ s8 = .slice (some ⟨gw', 0, none⟩) work'.length cap' ∧ OwR wr' B1 140 2 (.slice (some ⟨gw', 0, none⟩) work'.length cap') work'.length (wks work') ∧ Own wr' B0 (psv R') ∧ WInv G x y R' work' (fun a b => a = a0 ∧ b = b0) ∧ R' a0 b0 = true ∧ (∀ q ∈ work', q.1 < 10 ∧ q.2 < 10) ∧ (∀ j (h : j < (wireF G a0).length), j < k → R' (wireF G a0)[j].t ((wireF G a0)[j].p b0) = true) ∧ 3 * miss R' + work'.length ≤ 3 * miss R + u.length ∧ Own wr' BP [.int .i64 (a0 : Int), .int .i64 (b0 : Int)] ∧ gw' ≠ BP ∧ Below B0 w wr') (fun _ _ _ i _ => (wireF G a0).length - (intOf i).toNat)
      case atStart => exact ⟨0, R, u, gw, cap, Nat.zero_le _, rfl, rfl, hp6, oR6, HP.out, HPI.out, HLT2.out, fun _ _ h => absurd h (by omega), Nat.le_refl _, xP6, by omega, hbP6⟩
      case round =>
        clear hp6 oR6 xP6 hbP6 hz6 hgw
        obtain ⟨k, R', work', gw', cap', hk, rfl, rfl, hown, oR, hinv, hRab, hlt, hdone, hms, xP, hgp, hb⟩ := hrel
        have HI := Lib.hid hinv
        have HLT := Lib.hid hlt
        have HD := Lib.hid hdone
        have HRAB := Lib.hid hRab
        clear hinv hlt hdone hRab
        by_cases hlk : k < (wireF G a0).length
        · obtain ⟨b, off, rfl, hbl, hcl⟩ := (HROW.out _ hb).open_ (by rw [len_wvs]; omega)
          have cW : Cells wr b (off + k * 11) (wv (wireF G a0)[k]) := by
            have h1 : Cells wr b off (wvs (wireF G a0)) := hcl
            have h2 := h1.sub (k * 11) 11 (by rw [len_wvs]; omega)
            rw [wvs_at _ _ hlk] at h2
            exact h2
          clear hcl
          have hrm := mem_wireF.1 (List.getElem_mem hlk)
          have hok := HG.out _ hrm.1
          have HRM := Lib.hid hrm
          have HDN := Lib.hid (fun (Q : Nat → Nat → Bool) (hQ : ∀ a b, R' a b = true → Q a b = true) (hz : Q (wireF G a0)[k].t ((wireF G a0)[k].p b0) = true) (j : Nat) (h : j < (wireF G a0).length) (h2 : j < k + 1) => show Q (wireF G a0)[j].t ((wireF G a0)[j].p b0) = true from by
            by_cases e : j = k
            · subst e; exact hz
            · exact hQ _ _ (HD.out j h (by omega)))
          have hpz := hok.2.2 b0 hb0
          have htl := hok.2.1
          clear hrm hok HD
          generalize (wireF G a0)[k] = r at *
          have hsz : (Tryz.prog.info? 139).map (·.size) = some (wv r).length := by rw [len_wv]; kernel_rfl
          have zB : Own (wr.alloc (.cells #[.int .i64 0, .int .u8 0, .int .u8 0, .int .u8 0, .int .u8 0, .int .u8 0, .int .u8 0, .int .u8 0, .int .u8 0, .int .u8 0, .int .u8 0] 139)) wr.heap.size [.int .i64 0, .int .u8 0, .int .u8 0, .int .u8 0, .int .u8 0, .int .u8 0, .int .u8 0, .int .u8 0, .int .u8 0, .int .u8 0, .int .u8 0] := Own.new wr _ 139
          have q1 : (0 : Int) ≤ (k : Int) := by omega
          have q2 : (k : Int) < ((wireF G a0).length : Int) := by omega
          have hzw : B1 < wr.heap.size := by have := xP.lt; omega
          have hz11 : 0 + (wv r).length ≤ ([.int .i64 0, .int .u8 0, .int .u8 0, .int .u8 0, .int .u8 0, .int .u8 0, .int .u8 0, .int .u8 0, .int .u8 0, .int .u8 0, .int .u8 0] : List Value).length := by rw [len_wv]; decide
          have lBP := xP.lt
          have hput := put_all (vs := wv r) (cs := ([.int .i64 0, .int .u8 0, .int .u8 0, .int .u8 0, .int .u8 0, .int .u8 0, .int .u8 0, .int .u8 0, .int .u8 0, .int .u8 0, .int .u8 0] : List Value)) (by rw [len_wv]; rfl)
          have HPUT := Lib.hid hput
          clear hput
          have qb0 : (0 : Int) ≤ (b0 : Int) := by omega
          have qb1 : (b0 : Int) < 10 := by omega
          go_wp2_with (first | ((with_reducible refine wl_load 139 cW hsz Tryz.underlying139 ?_ ?_ ?_ ?_); (· rfl); (· rfl); (· rfl)) | (((with_reducible refine wl_store 139 0 zB hsz (wv_one r) hz11 ?_ ?_ ?_ ?_); (· rfl); (· rfl); (· rfl); intro w5 o5 b5 s5); have xP5 := (xP.alloc (.cells #[.int .i64 0, .int .u8 0, .int .u8 0, .int .u8 0, .int .u8 0, .int .u8 0, .int .u8 0, .int .u8 0, .int .u8 0, .int .u8 0, .int .u8 0] 139)).grown b5 (by simp; omega); have p1 := xP5.at_ (i := 1) rfl; rw [HPUT.out] at o5; have r0 := o5.at_ (wv_zero r); have r1 := o5.at_ (wv_at r hb0); rw [Nat.add_comm] at r1))
          have hb5' : Below B0 w w5 := (hb.alloc (by omega) (.cells #[.int .i64 0, .int .u8 0, .int .u8 0, .int .u8 0, .int .u8 0, .int .u8 0, .int .u8 0, .int .u8 0, .int .u8 0, .int .u8 0, .int .u8 0] 139)).grown b5 (by simp; omega) (fun x e => by cases e; omega)
          have oR5 := (oR.alloc (.cells #[.int .i64 0, .int .u8 0, .int .u8 0, .int .u8 0, .int .u8 0, .int .u8 0, .int .u8 0, .int .u8 0, .int .u8 0, .int .u8 0, .int .u8 0] 139)).grown b5 (by simp; omega)
          have hgl := (World.ownsRow.lt hown gw' rfl)
          have hown5 : OwR w5 B1 140 2 (.slice (some ⟨gw', 0, none⟩) work'.length cap') work'.length (wks work') := World.ownsRow.kept (World.ownsRow.alloc hown _) b5 (.inr (by simp [Value.ownBlock]; omega))
          have lBX := o5.lt
          have hz5 : wr.heap.size < w5.heap.size := lBX
          have hadd := pairAdd_any B0 R' r.t (r.p b0) w5 oR5 htl hpz HI.out.sym
          clear r1 p1 oR oR5 zB s5 b5 cW hown hb
          generalize wr.heap.size = BX at *
          generalize hz0 : r.p b0 = z at *
          have HZ0 := Lib.hid hz0
          clear hz0
          cases hR : R' r.t z with
          | true =>
            have HSM := Lib.hid (addR_same HI.out.sym hR)
            have hdn := HDN.out R' (fun _ _ h => h) hR
            have HDN2 := Lib.hid hdn
            rw [hR] at hadd
            clear hR hdn
            refine hadd.mono ?_
            rintro e w6 ⟨rfl, oR6, hm6⟩
            rw [HSM.out] at oR6
            have hown6 := OwR.movedR hown5 hm6 (by simp [Value.ownBlock]; omega)
            have xP6 := xP5.grown hm6 (by simp; omega)
            have hb6 : Below B0 w w6 := hb5'.trans (Moved.toBelow hm6 (Nat.le_refl _) (by omega))
            go_wp2
            go_roundw
            case rel => exact ⟨k + 1, R', work', gw', cap', by omega, by go_num, rfl, hown6, oR6, HI.out, HRAB.out, HLT.out, HDN2.out, by omega, xP6, hgp, hb6⟩
            case measure => simp [intOf]; omega
          | false =>
            have hms2 := miss_add htl hpz hR
            have HI2 := Lib.hid (HI.out.add (r := r) (b := b0) HRM.out.1 (by rw [HRM.out.2]; exact HRAB.out))
            rw [HZ0.out] at HI2
            have HDN2 := Lib.hid (HDN.out (addR R' r.t z) (fun _ _ h => addR_old h) (addR_new _ _ _))
            have HRAB2 := Lib.hid (addR_old (x := r.t) (y := z) HRAB.out)
            rw [hR] at hadd
            clear hR
            refine hadd.mono ?_
            rintro e w6 ⟨rfl, oR6, hm6⟩
            have hown6 := OwR.movedR hown5 hm6 (by simp [Value.ownBlock]; omega)
            have xP6 := xP5.grown hm6 (by simp; omega)
            have o6 := o5.grown hm6 (by simp; omega)
            have r6 := o6.at_ (wv_zero r)
            have hb6 : Below B0 w w6 := hb5'.trans (Moved.toBelow hm6 (Nat.le_refl _) (by omega))
            have hz6 := hm6.size
            have hlen2 : work'.length + 2 ≤ 1048576 := by omega
            clear hown5 xP5 o5 hb5' hm6 HDN
            have oN : Own (w6.alloc (.cells #[.int .i64 (r.t : Int), .int .i64 (z : Int), .int .i64 (z : Int), .int .i64 (r.t : Int)] 140)) w6.heap.size (wks [(r.t, z), (z, r.t)]) := Own.new w6 _ 140
            have hnews : ∀ j u, (wks [(r.t, z), (z, r.t)])[j]? = some u → (w6.alloc (.cells #[.int .i64 (r.t : Int), .int .i64 (z : Int), .int .i64 (z : Int), .int .i64 (r.t : Int)] 140)).cell? ((⟨w6.heap.size, 0, none⟩ : Addr).add j) = some u := fun j u hu => by rw [add_none, Nat.zero_add]; exact oN.at_ hu
            have hownN := World.ownsRow.alloc hown6 (.cells #[.int .i64 (r.t : Int), .int .i64 (z : Int), .int .i64 (z : Int), .int .i64 (r.t : Int)] 140)
            have hbN : B1 ≤ (w6.alloc (.cells #[.int .i64 (r.t : Int), .int .i64 (z : Int), .int .i64 (z : Int), .int .i64 (r.t : Int)] 140)).heap.size := by rw [World.size_alloc]; omega
            have hone : ∀ u ∈ wks [(r.t, z), (z, r.t)], u.oneCell' = true := by simp [wks_two, Value.oneCell']
            have oR7 := oR6.alloc (.cells #[.int .i64 (r.t : Int), .int .i64 (z : Int), .int .i64 (z : Int), .int .i64 (r.t : Int)] 140)
            have xP7 := xP6.alloc (.cells #[.int .i64 (r.t : Int), .int .i64 (z : Int), .int .i64 (z : Int), .int .i64 (r.t : Int)] 140)
            have hb7 := hb6.alloc (show B0 ≤ w6.heap.size by omega) (.cells #[.int .i64 (r.t : Int), .int .i64 (z : Int), .int .i64 (z : Int), .int .i64 (r.t : Int)] 140)
            have HNEWS := Lib.hid hnews
            clear hnews
            go_wp2_with (at_builtin; ((with_reducible refine wl_pushm 141 140 inf_two Tryz.underlying141 rfl (by omega) hownN hbN rfl HNEWS.out hone (by omega) hlen2 (by omega) rfl rfl ?_); intro g7 cap7 w7 o7 gg7 hat7))
            have hgB : some BP ≠ (Value.slice (some ⟨gw', 0, none⟩) work'.length cap').ownBlock := by simp [Value.ownBlock]; omega
            have hgR : some B0 ≠ (Value.slice (some ⟨gw', 0, none⟩) work'.length cap').ownBlock := by simp [Value.ownBlock]; omega
            have lxP7 := xP7.lt
            have hL : (work' ++ [(r.t, z), (z, r.t)]).length = work'.length + 2 := by simp
            have HL := Lib.hid hL
            clear hL
            go_roundw
            case rel =>
              refine ⟨k + 1, addR R' r.t z, work' ++ [(r.t, z), (z, r.t)], g7, cap7, by omega, by go_num, by rw [HL.out], ?_, oR7.grown gg7 hgR, HI2.out, HRAB2.out, ?_, HDN2.out, by rw [HL.out]; omega, xP7.grown gg7 hgB, ?_, hb7.grown gg7 (by omega) (fun x e => by simp [Value.ownBlock] at e; omega)⟩
              · rw [HL.out, wks_append]; exact o7
              · intro q hq
                rcases List.mem_append.1 hq with h | h
                · exact HLT.out q h
                · simp only [List.mem_cons, List.not_mem_nil, or_false] at h
                  rcases h with rfl | rfl
                  · exact ⟨htl, hpz⟩
                  · exact ⟨hpz, htl⟩
              · rcases hat7 with h | h
                · simp [Value.ownBlock] at h; omega
                · omega
            case measure => simp [intOf]; omega
        · have hk' : k = (wireF G a0).length := by omega
          have HF := Lib.hid (HI.out.fin (fun r hr hf => by
            obtain ⟨j, hj, e⟩ := List.getElem_of_mem (mem_wireF.2 ⟨hr, hf⟩)
            have := HD.out j hj (by omega)
            rw [e] at this; exact this))
          go_wp2
          go_roundg (3 * miss R' + work'.length)
          case measure => rw [HGH.out, HGL.out]; omega
          case rel => exact ⟨R', work', gw', cap', rfl, by omega, rfl, hown, oR, HF.out, HLT.out, hb, by have := xP.lt; omega⟩
end Go.Proofs.YtdmnkcmkpjmfaaaGreat

/- The texts of a set of pairs, and the plugboard that it makes. -/
namespace Go.Proofs.YtdmnkcmkpjmfaaaGreat
open Go.RowKit

/-- The pairs of a letter with the letters from itself up to k, as texts. -/
def rowW (R : Nat → Nat → Bool) (a k : Nat) : List ByteArray := ((List.range k).filter fun b => decide (a ≤ b) && R a b).map fun b => wd [a, b]
theorem rowW_succ (R : Nat → Nat → Bool) (a k : Nat) : rowW R a (k + 1) = rowW R a k ++ (if (decide (a ≤ k) && R a k) = true then [wd [a, k]] else []) := by
  simp only [rowW, List.range_succ, List.filter_append, List.map_append]
  congr 1
  by_cases h : (decide (a ≤ k) && R a k) = true <;> simp [h]
theorem rowW_start (R : Nat → Nat → Bool) (a : Nat) : rowW R a a = [] := by
  simp only [rowW, List.map_eq_nil_iff, List.filter_eq_nil_iff, List.mem_range]
  intro b hb
  simp; omega
theorem rowW_len (R : Nat → Nat → Bool) (a k : Nat) : (rowW R a k).length ≤ k := by
  simp only [rowW, List.length_map]
  exact Nat.le_trans (List.length_filter_le _ _) (by simp)
/-- The pairs of the first k letters as texts. -/
def impW (R : Nat → Nat → Bool) : Nat → List ByteArray
  | 0 => []
  | k + 1 => impW R k ++ rowW R k 10
theorem impW_len (R : Nat → Nat → Bool) : ∀ k, (impW R k).length ≤ 10 * k
  | 0 => by simp [impW]
  | k + 1 => by
    have h1 := impW_len R k
    have h2 := rowW_len R k 10
    simp only [impW, List.length_append]; omega
theorem rowW_congr {R Q : Nat → Nat → Bool} {a : Nat} (h : ∀ b, b < 10 → R a b = Q a b) : rowW R a 10 = rowW Q a 10 := by
  unfold rowW
  congr 1
  refine List.filter_congr fun b hb => ?_
  rw [h b (by simpa using hb)]
theorem impW_congr {R Q : Nat → Nat → Bool} (h : ∀ a b, a < 10 → b < 10 → R a b = Q a b) : ∀ k, k ≤ 10 → impW R k = impW Q k
  | 0, _ => rfl
  | k + 1, hk => by
    rw [impW, impW, impW_congr h k (by omega), rowW_congr (fun b hb => h k b (by omega) hb)]
theorem wd2 (a b : Nat) : wd [a, b] = S [letr (a : Int), letr (b : Int)] := rfl

section
variable {P : Program} {ops : Array Oper} {rest : List Oper} {dst : Option Tmp} {t : TypeId} {pos : String} {after : Array Edge} {guard : Option (Nat × Bool)} {a : Act} {w : World} {Q : Exit → Act → World → Prop}
/-- A conversion by its run equation. -/
theorem wl_convert (src dty : TypeId) {x : Operand} {v u : Value} {w' : World} (hw : Region.wanted ⟨dst, .convert src dty x, t, pos, after, guard⟩ (yielded ops a.tmps) = true) (hx : a.eval x = v) (hr : (convert src dty v).run P w = .ok u w')
    (h : wpList P ops Q rest (a.put dst u) w') : wpList P ops Q (⟨dst, .convert src dty x, t, pos, after, guard⟩ :: rest) a w := by
  refine BigFrame.wpList_want hw fun _ hK => ?_
  unfold Oper.wp execOp
  simp only [hx, Sem.run_bind, Sem.run_pure, Result.andThen_ok, hr, Oper.upon]
  exact hK _ _ h
end
set_option maxRecDepth 100000 in
set_option maxHeartbeats 1000000 in
theorem pairWords_any (g : Nat) (R : Nat → Nat → Bool) (w : World) (h : Own w g (psv R)) :
    Calls Tryz.prog 79 #[.pointer (some ⟨g, 0, none⟩)] w (RowPost 9 1 (impW R 10).length (sv (impW R 10)) w) := by
  go_enter Tryz.func79, Tryz.ntmps79
  go_wp2
  go_loopw [3, 6] (fun l i wr => ∃ k : Nat, k ≤ 10 ∧ i = .int .i64 k ∧ OwR wr w.heap.size 9 1 l (impW R k).length (sv (impW R k)) ∧ Below w.heap.size w wr) (fun _ i _ => 10 - (intOf i).toNat)
  case atStart => exact ⟨0, by omega, rfl, World.ownsRow_nil _ _ _ _, Below.refl _ _⟩
  case round =>
    obtain ⟨k, hk, rfl, hown, hb⟩ := hrel
    by_cases hlt : k < 10
    · have hlw := impW_len R k
      have hI := Lib.hid (show impW R (k + 1) = impW R k ++ rowW R k 10 from rfl)
      generalize impW R k = A at *
      have c0 := h.at_ (psv_at R hlt)
      have gl := h.lt
      have hr := rowN_lt (P := R k) (k := 10) (by omega)
      have hbt := Lib.hid (fun y (hy : y < 10) => by
        have hbt := bit_testU (rowN (R k) 10) y (by omega)
        rw [rowN_test, decide_eq_true hy, Bool.true_and] at hbt
        exact hbt)
      generalize rowN (R k) 10 = r at *
      have HC := Lib.hid c0
      have tk : decide ((k : Int) < 10) = true := decide_eq_true (by omega)
      clear c0 h
      go_wp2
      go_loopw [3, 5] (fun l i wr' => ∃ y : Nat, k ≤ y ∧ y ≤ 10 ∧ i = .int .i64 y ∧ OwR wr' w.heap.size 9 1 l (A ++ rowW R k y).length (sv (A ++ rowW R k y)) ∧ Below w.heap.size w wr') (fun _ i _ => 10 - (intOf i).toNat)
      case atStart => exact ⟨k, Nat.le_refl _, by omega, rfl, by rw [rowW_start, List.append_nil]; exact hown, hb⟩
      case round =>
        clear hown hb
        obtain ⟨y, hy0, hy1, rfl, hown, hb⟩ := hrel
        by_cases hyl : y < 10
        · have c0 := (hb.cell (p := ⟨g, k, none⟩) gl).trans HC.out
          have hbt' := hbt.out y hyl
          have hS := Lib.hid (rowW_succ R k y)
          have hrl := rowW_len R k y
          have hd : decide (k ≤ y) = true := decide_eq_true hy0
          by_cases hR : R k y = true
          · rw [if_pos hR] at hbt'
            have t0 : (bits .and .u64 ((r : Int) / 2 ^ y) 1 == 1) = true := by rw [hbt']; rfl
            have hS2 : Hid (rowW R k (y + 1) = rowW R k y ++ [wd [k, y]]) := by
              show _ = _
              rw [hS.out, if_pos (by rw [hd, hR]; rfl)]
            have hln : (A ++ rowW R k y).length ≤ 200 := by rw [List.length_append]; omega
            have hcat : Hid (A ++ rowW R k (y + 1) = (A ++ rowW R k y) ++ [wd [k, y]]) := by
              show _ = _
              rw [hS2.out, List.append_assoc]
            clear hbt' hS hS2 hd hrl
            generalize A ++ rowW R k y = B at *
            have hc := fun W => run_conv_new (P := Tryz.prog) W 47 9 5 Tryz.underlying47 Tryz.underlying5 Tryz.underlying9 [((letr (k : Int)).toNat : Int), ((letr (y : Int)).toNat : Int)]
            simp only [List.map_cons, List.map_nil, List.length_cons, List.length_nil, Nat.zero_add, Int.toNat_natCast, UInt8.ofNat_toNat] at hc
            rw [← wd2 k y] at hc
            have hbs := hb.size
            obtain ⟨la, lc, rfl, hlc, -, -⟩ := OwR.val hown
            have hown5 := World.ownsRow.alloc hown (.cells #[.int .u8 ((letr (k : Int)).toNat : Int), .int .u8 ((letr (y : Int)).toNat : Int)] 5)
            have hbs5 : w.heap.size ≤ (wr.alloc (.cells #[.int .u8 ((letr (k : Int)).toNat : Int), .int .u8 ((letr (y : Int)).toNat : Int)] 5)).heap.size := by rw [World.size_alloc]; omega
            have HC2 := Lib.hid hc
            have hb5 := hb.alloc hbs (.cells #[.int .u8 ((letr (k : Int)).toNat : Int), .int .u8 ((letr (y : Int)).toNat : Int)] 5)
            clear hc
            go_wp2_with fail
            refine (implLetter_any (k : Int) _ (by omega) (by omega)).mono ?_
            rintro e w' ⟨rfl, rfl⟩
            go_wp2_with fail
            refine (implLetter_any (y : Int) _ (by omega) (by omega)).mono ?_
            rintro e w' ⟨rfl, rfl⟩
            go_wp2_with (first | ((with_reducible refine wl_convert 47 9 (v := .slice (some ⟨wr.heap.size, 0, none⟩) 2 2) (u := .string (wd [k, y])) (w' := wr.alloc (.cells #[.int .u8 ((letr (k : Int)).toNat : Int), .int .u8 ((letr (y : Int)).toNat : Int)] 5)) ?_ ?_ ?_ ?_); (· rfl); (· rfl); (· exact HC2.out _); generalize (wr.alloc (.cells #[.int .u8 ((letr (k : Int)).toNat : Int), .int .u8 ((letr (y : Int)).toNat : Int)] 5)) = W5 at *) | (at_builtin; ((with_reducible refine wl_push 30 9 info_str Tryz.underlying30 rfl (by omega) hown5 hbs5 rfl (by simp [Value.oneCell']) (by omega) (by omega) rfl rfl ?_); intro g5 cap w5 o5 b5 k5)))
            go_roundw
            case rel => exact ⟨y + 1, by omega, by omega, by go_num, by rw [hcat.out, List.length_append, sv_append]; exact o5, hb5.trans b5⟩
            case measure => simp [intOf]; omega
          · rw [if_neg hR] at hbt'
            have t0 : (bits .and .u64 ((r : Int) / 2 ^ y) 1 == 1) = false := by rw [hbt']; rfl
            have hS2 : Hid (rowW R k (y + 1) = rowW R k y) := by
              show _ = _
              rw [hS.out, if_neg (by rw [hd]; simpa using hR), List.append_nil]
            clear hbt' hS hd
            go_wp2
            go_roundw
            case rel => exact ⟨y + 1, by omega, by omega, by go_num, by rw [hS2.out]; exact hown, hb⟩
            case measure => simp [intOf]; omega
        · have hy' : y = 10 := by omega
          subst hy'
          go_wp2
          go_roundw
          case rel => exact ⟨k + 1, by omega, by go_num, by rw [hI.out]; exact hown, hb⟩
          case measure => simp [intOf]; omega
    · have hk' : k = 10 := by omega
      subst hk'
      go_wp2
      go_ret
      exact ⟨_, rfl, hown, hb⟩
end Go.Proofs.YtdmnkcmkpjmfaaaGreat

/- The central letter of a menu, of both sides. -/
namespace Go.Proofs.YtdmnkcmkpjmfaaaGreat
open Go.RowKit

/-- Zeros. -/
def zi10 : List Value := List.replicate 10 (.int .i64 0)
theorem len_zi10 : zi10.length = 10 := rfl
/-- The cells of the numbers of links. -/
def cnv (ms : List Lnk) : List Value := (List.range 10).map fun n => .int .i64 (degN ms n : Int)
theorem len_cnv (ms : List Lnk) : (cnv ms).length = 10 := by simp [cnv]
theorem cnv_at (ms : List Lnk) {n : Nat} (h : n < 10) : (cnv ms)[n]? = some (.int .i64 (degN ms n : Int)) := by simp [cnv, h]
theorem cnv_nil : cnv [] = zi10 := rfl
theorem cnv_one (ms : List Lnk) : ∀ u ∈ cnv ms, u.oneCell' = true := by
  intro u hu
  obtain ⟨n, -, rfl⟩ := List.mem_map.1 hu
  rfl
theorem degN_snoc (ms : List Lnk) (x : Lnk) (n : Nat) : degN (ms ++ [x]) n = degN ms n + if (lkA x.p == n || lkA x.c == n) = true then 1 else 0 := by
  unfold degN
  rw [List.countP_append, List.countP_singleton]
theorem cnv_snoc (ms : List Lnk) (x : Lnk) :
    ((cnv ms).set (lkA x.p) (.int .i64 ((degN ms (lkA x.p) : Int) + 1))).set (lkA x.c) (.int .i64 ((degN ms (lkA x.c) : Int) + 1)) = cnv (ms ++ [x]) := by
  refine List.ext_getElem (by simp [len_cnv]) fun i h1 h2 => ?_
  have hi : i < 10 := by simpa [len_cnv] using h2
  have e2 : (cnv (ms ++ [x]))[i]'h2 = .int .i64 (degN (ms ++ [x]) i : Int) := by simp [cnv]
  have e1 : ∀ h, (cnv ms)[i]'h = .int .i64 (degN ms i : Int) := fun h => by simp [cnv]
  rw [e2, degN_snoc, List.getElem_set]
  by_cases hc' : lkA x.c = i
  · subst hc'
    rw [if_pos rfl, if_pos (by simp)]; rfl
  · rw [if_neg hc', List.getElem_set]
    by_cases hp' : lkA x.p = i
    · subst hp'
      rw [if_pos rfl, if_pos (by simp)]; rfl
    · rw [if_neg hp', e1, if_neg (by simp [hc', hp'])]; rfl
theorem size_cnv (ms : List Lnk) : (Tryz.prog.info? 112).map (·.size) = some (cnv ms).length := by rw [len_cnv]; kernel_rfl
theorem agg_int : ∀ w, (isAgg 3).run Tryz.prog w = .ok false w := fun w => by simp [go_sem]
theorem size_int : (Tryz.prog.info? 3).map (·.size) = some 1 := by kernel_rfl
set_option maxRecDepth 100000 in
set_option maxHeartbeats 1000000 in
theorem linkCounts_any (am : Option Addr) (cm : Nat) (ms : List Lnk) (w : World) (hrm : Reads w w.heap.size am (lks ms)) (hm : menuB ms = true) :
    Calls Tryz.prog 103 #[.slice am ms.length cm] w fun e w' => e = .returned (.agg (cnv ms).toArray) ∧ Below w.heap.size w w' := by
  have hfew := (menuB_asc hm).few
  have HLK := Lib.hid (menuB_lnk hm)
  have HRM := Lib.hid (fun (wr : World) (hb : Below w.heap.size w wr) => hrm.below hb (Nat.le_refl _))
  clear hrm
  have o0 := (Own.new w zi10 112).alloc (.cells zi10.toArray 112)
  have o1 := Own.new (w.alloc (.cells zi10.toArray 112)) zi10 112
  have hb0 := ((Below.refl w.heap.size w).alloc (Nat.le_refl _) (.cells zi10.toArray 112)).alloc (by simp) (.cells zi10.toArray 112)
  simp only [World.size_alloc] at o1
  go_enter Tryz.func103, Tryz.ntmps103
  go_wp2_with fail
  go_loopw [8] (fun i wr => ∃ k : Nat, k ≤ ms.length ∧ i = .int .i64 k ∧ Own wr w.heap.size zi10 ∧ Own wr (w.heap.size + 1) (cnv (ms.take k)) ∧ Below w.heap.size w wr) (fun i _ => ms.length - (intOf i).toNat)
  case atStart => exact ⟨0, Nat.zero_le _, rfl, o0, o1, hb0⟩
  case round =>
    clear o0 o1 hb0
    obtain ⟨k, hk, rfl, o0, o1, hb⟩ := hrel
    by_cases hlt : k < ms.length
    · obtain ⟨b, off, rfl, hbl, hcl⟩ := (HRM.out _ hb).open_ (by rw [len_lks]; omega)
      have c0 := hcl (k * 3) (by rw [len_lks]; omega)
      have c1 := hcl (k * 3 + 1) (by rw [len_lks]; omega)
      have c2 := hcl (k * 3 + 2) (by rw [len_lks]; omega)
      rw [lks_at0 _ _ hlt] at c0
      rw [lks_at1 _ _ hlt, ← Nat.add_assoc] at c1
      rw [lks_at2 _ _ hlt, ← Nat.add_assoc] at c2
      clear hcl
      have hok := HLK.out ms[k] (List.getElem_mem hlt)
      have HS := Lib.hid (cnv_snoc (ms.take k) ms[k])
      rw [← List.take_succ_eq_append_getElem hlt] at HS
      generalize ms[k] = x at *
      have e1 := hok.p1
      have e2 := hok.c1
      have g1 := hok.pl
      have g2 := hok.cl
      have hnn := hok.nn
      have hw2 := word_two hok.wd
      obtain ⟨d1, -, d3⟩ := lk_letter e1 hw2.1
      obtain ⟨d4, -, d6⟩ := lk_letter e2 hw2.2
      have n1 := fun W => implNumber_any (x.p[0]'(by omega)) W d3
      have n2 := fun W => implNumber_any (x.c[0]'(by omega)) W d6
      rw [d1] at n1
      rw [d4] at n2
      have b1 := degN_le (ms.take k) (lkA x.p)
      have b2 := degN_le (ms.take k) (lkA x.c)
      rw [List.length_take] at b1 b2
      have x0 := Own.new wr [.string x.p, .string x.c, .int .i64 x.k] 72
      have o2 := o1.alloc (.cells [.string x.p, .string x.c, .int .i64 x.k].toArray 72)
      have oS := (o1.set_ (i := lkA x.p) (by rw [len_cnv]; exact g1) (.int .i64 ((degN (ms.take k) (lkA x.p) : Int) + 1))).alloc (.cells [.string x.p, .string x.c, .int .i64 x.k].toArray 72)
      have o3 := o0.alloc (.cells [.string x.p, .string x.c, .int .i64 x.k].toArray 72)
      have hz := hb.size
      have hb1 := hb.alloc hz (.cells [.string x.p, .string x.c, .int .i64 x.k].toArray 72)
      have hzz : w.heap.size + 1 < wr.heap.size := o1.lt
      have k0 := o2.at_ (cnv_at (ms.take k) g1)
      have k1 := oS.at_ (i := lkA x.c) (by rw [List.getElem?_set_ne hnn]; exact cnv_at (ms.take k) g2)
      have b0 := o2.free (lkA x.p) (by rw [len_cnv]; exact g1)
      have b3 := oS.free (lkA x.c) (by rw [List.length_set, len_cnv]; exact g2)
      have f0 := x0.at_ (i := 0) rfl
      have f1 := x0.at_ (i := 1) rfl
      have q1 : (0 : Int) ≤ (k : Int) := by omega
      have q2 : (k : Int) < (ms.length : Int) := by omega
      have s1 : 0 < x.p.size := by omega
      have s2 : 0 < x.c.size := by omega
      clear d1 d3 d4 d6 hw2 hok
      obtain ⟨xp, xc, xk⟩ := x
      simp only at *
      generalize hA : lkA xp = A at *
      generalize hC : lkA xc = C at *
      generalize hD : degN (ms.take k) A = D at *
      generalize hE : degN (ms.take k) C = E' at *
      clear hA hC hD hE
      go_wp2_with (first | (go_at_call 78; ((with_reducible refine (n1 _).mono ?_); rintro e w' ⟨rfl, rfl⟩)) | (go_at_call 78; ((with_reducible refine (n2 _).mono ?_); rintro e w' ⟨rfl, rfl⟩)))
      refine ⟨⟨k + 1, by omega, by go_num, ((o0.far (by simp) _).far (by simp) _).alloc _, ?_, ((hb.setCell (by simp) _).setCell (by simp) _).alloc (by simp [World.setCell]; exact hz) _⟩, by simp [intOf]; omega⟩
      rw [← HS.out]
      exact ((o1.set_ (by rw [len_cnv]; exact g1) _).set_ (by rw [List.length_set, len_cnv]; exact g2) _).alloc _
    · have hk' : k = ms.length := by omega
      subst hk'
      rw [List.take_length] at o1
      have hsz := o1.lt
      go_wp2_with (first | ((with_reducible refine wl_load 112 o1.cells (size_cnv ms) Tryz.underlying112 ?_ ?_ ?_ ?_); (· rfl); (· rfl); (· rfl)) | ((with_reducible refine wl_store 112 0 o0 (size_cnv ms) (cnv_one _) (by rw [len_cnv, len_zi10]; omega) ?_ ?_ ?_ ?_); (· rfl); (· rfl); (· rfl); intro w5 o5 b5 s5))
      rw [put_all (by rw [len_cnv, len_zi10])] at o5
      refine bodyPost_ret (results_cell_own Tryz.results103 _ _ _ _ _ (by rfl) o5.cells Tryz.underlying112 rfl (size_cnv ms)) rfl ?_
      exact ⟨rfl, bel_store hb b5 (by omega) (by omega)⟩
set_option maxRecDepth 100000 in
set_option maxHeartbeats 1000000 in
theorem implCentralLetter_yes (am : Option Addr) (cm : Nat) (ms : List Lnk) (w : World) (hrm : Reads w w.heap.size am (lks ms)) (hz : SmL ms) (hl : ms.length ≤ 4294967296) (hm : menuB ms = true) :
    Calls Tryz.prog 47 #[.slice am ms.length cm] w fun e w' => e = .returned (.string (wd [cenN ms])) ∧ Below w.heap.size w w' := by
  have hv := implMenuValid_any am cm ms w hrm hz hl
  rw [hm] at hv
  have HRM := Lib.hid (fun (wr : World) (hb : Below w.heap.size w wr) => (hrm.below hb (Nat.le_refl _)).more hb.size)
  clear hrm
  go_enter Tryz.func47, Tryz.ntmps47
  go_wp2_with fail
  refine hv.mono ?_
  rintro e w1 ⟨rfl, hb1⟩
  clear hv
  go_wp2_with fail
  refine (linkCounts_any am cm ms w1 (HRM.out _ hb1) hm).mono ?_
  rintro e w2 ⟨rfl, hb2⟩
  have hb := bt hb1 hb2
  have z2 : Own (w2.alloc (.cells #[.int .i64 0, .int .i64 0, .int .i64 0, .int .i64 0, .int .i64 0, .int .i64 0, .int .i64 0, .int .i64 0, .int .i64 0, .int .i64 0] 112)) w2.heap.size zi10 := Own.new w2 zi10 112
  have hbz := hb.size
  go_wp2_with (first | (((with_reducible refine wl_store 112 0 z2 (size_cnv ms) (cnv_one _) (by rw [len_cnv, len_zi10]; omega) ?_ ?_ ?_ ?_); (· rfl); (· rfl); (· rfl); intro w5 o5 b5 s5); rw [put_all (by rw [len_cnv, len_zi10])] at o5) | ((with_reducible refine wl_load 112 o5.cells (size_cnv ms) Tryz.underlying112 ?_ ?_ ?_ ?_); (· rfl); (· rfl); (· rfl)))
  have hz5 : w.heap.size ≤ w5.heap.size := by have := b5.size; rw [World.size_alloc] at this; omega
  clear s5
  have hbw5 : Below w.heap.size w w5 := bel_store (hb.alloc hbz _) b5 (by rw [World.size_alloc]; omega) hbz
  go_loop [3, 5, 6, 13] (fun b _ _ i => ∃ k : Nat, k ≤ 10 ∧ i = .int .i64 k ∧ b = .int .i64 (cenTo ms (k - 1) : Int)) (fun _ _ _ i => 10 - (intOf i).toNat)
  case atStart => exact ⟨0, by omega, rfl, rfl⟩
  case round =>
    obtain ⟨k, hk, rfl, rfl⟩ := hrel
    have hcl := cenTo_le ms (k - 1)
    by_cases hlt : k < 10
    · have HS : Hid (cenTo ms (k + 1 - 1) = if degN ms (cenTo ms (k - 1)) < degN ms k then k else cenTo ms (k - 1)) := by
        cases k with
        | zero => exact Lib.hid (by simp [cenTo])
        | succ k => exact Lib.hid rfl
      have e1 := cnv_at ms hlt
      have f1 := o5.at_ (cnv_at ms (n := cenTo ms (k - 1)) (by omega))
      generalize cenTo ms (k - 1) = B at *
      by_cases hd : degN ms B < degN ms k
      · rw [if_pos hd] at HS
        have t1 : decide (degN ms B < degN ms k) = true := decide_eq_true hd
        clear hd
        generalize degN ms k = D1 at *
        generalize degN ms B = D2 at *
        go_wp2_with ((with_reducible refine wl_index 112 e1 hlt Tryz.underlying112 agg_int size_int ?_ ?_ ?_ ?_); (· rfl); (· rfl); (· rfl))
        go_round
        case rel => exact ⟨k + 1, by omega, by go_num, by rw [HS.out]⟩
        case measure => simp [intOf]; omega
      · rw [if_neg hd] at HS
        have t1 : decide (degN ms B < degN ms k) = false := decide_eq_false hd
        clear hd
        generalize degN ms k = D1 at *
        generalize degN ms B = D2 at *
        go_wp2_with ((with_reducible refine wl_index 112 e1 hlt Tryz.underlying112 agg_int size_int ?_ ?_ ?_ ?_); (· rfl); (· rfl); (· rfl))
        go_round
        case rel => exact ⟨k + 1, by omega, by go_num, by rw [HS.out]⟩
        case measure => simp [intOf]; omega
    · have hk' : k = 10 := by omega
      subst hk'
      have hc9 := cenTo_le ms 9
      have nl := fun W => implLetter_any (cenTo ms 9 : Int) W (by omega) (by omega)
      have HC : Hid (S [letr (cenTo ms 9 : Int)] = wd [cenN ms]) := Lib.hid rfl
      have hcv := fun W => run_conv_new (P := Tryz.prog) W 47 9 5 Tryz.underlying47 Tryz.underlying5 Tryz.underlying9 [((letr (cenTo ms 9 : Int)).toNat : Int)]
      simp only [List.map_cons, List.map_nil, List.length_cons, List.length_nil, Nat.zero_add, Int.toNat_natCast, UInt8.ofNat_toNat] at hcv
      rw [HC.out] at hcv
      generalize letr (cenTo ms 9 : Int) = b at *
      go_wp2_with (go_at_call 92; ((with_reducible refine (nl _).mono ?_); rintro e w' ⟨rfl, rfl⟩))
      go_ret
      exact ⟨rfl, hbw5.alloc hz5 _⟩
theorem implCentralLetter_no (am : Option Addr) (cm : Nat) (ms : List Lnk) (w : World) (hrm : Reads w w.heap.size am (lks ms)) (hz : SmL ms) (hl : ms.length ≤ 4294967296) (hm : menuB ms = false) :
    Calls Tryz.prog 47 #[.slice am ms.length cm] w fun e w' => e = .returned (.string ⟨#[]⟩) ∧ Below w.heap.size w w' := by
  have hv := implMenuValid_any am cm ms w hrm hz hl
  rw [hm] at hv
  go_enter Tryz.func47, Tryz.ntmps47
  go_wp2_with fail
  refine hv.mono ?_
  rintro e w1 ⟨rfl, hb1⟩
  go_wp2
  go_ret
  exact ⟨rfl, hb1⟩
theorem l12Of_any (x : Lnk) (n : Nat) (w : World) (hp : x.p.size = 1) (hc : x.c.size = 1) (hw : wordB (x.p ++ x.c) = true) :
    Calls Tryz.prog 163 #[.agg #[.string x.p, .string x.c, .int .i64 x.k], .int .i64 (n : Int)] w fun e w' => e = .returned (.bool (lkA x.p == n || lkA x.c == n)) ∧ Below w.heap.size w w' := by
  have hw2 := word_two hw
  obtain ⟨d1, -, -⟩ := lk_letter hp hw2.1
  obtain ⟨d4, -, -⟩ := lk_letter hc hw2.2
  have n1 := fun W => l1Digit_any x.p 0 W (by omega) (by omega) (by omega)
  have n2 := fun W => l1Digit_any x.c 0 W (by omega) (by omega) (by omega)
  simp only [Int.toNat_zero] at n1 n2
  rw [d1] at n1
  rw [d4] at n2
  have o0 := Own.new w [.string x.p, .string x.c, .int .i64 x.k] 72
  have hb0 := (Below.refl w.heap.size w).alloc (Nat.le_refl _) (.cells [.string x.p, .string x.c, .int .i64 x.k].toArray 72)
  clear d1 d4 hw2
  obtain ⟨xp, xc, xk⟩ := x
  simp only at *
  generalize lkA xp = A at *
  generalize lkA xc = C at *
  by_cases h1 : A = n
  · have t1 : ((A : Int) == (n : Int)) = true := by rw [beq_iff_eq]; omega
    have HV : Hid ((A == n || C == n) = true) := Lib.hid (by rw [h1]; simp)
    clear h1
    go_enter Tryz.func163, Tryz.ntmps163
    go_wp2_with (first | (go_at_call 90; ((with_reducible refine (n1 _).mono ?_); rintro e w' ⟨rfl, rfl⟩)) | (go_at_call 90; ((with_reducible refine (n2 _).mono ?_); rintro e w' ⟨rfl, rfl⟩)))
    go_ret
    exact ⟨ret_bool HV.out.symm, hb0⟩
  · have t1 : ((A : Int) == (n : Int)) = false := by rw [beq_eq_false_iff_ne]; omega
    by_cases h2 : C = n
    · have t2 : ((C : Int) == (n : Int)) = true := by rw [beq_iff_eq]; omega
      have HV : Hid ((A == n || C == n) = true) := Lib.hid (by rw [h2]; simp)
      clear h1 h2
      go_enter Tryz.func163, Tryz.ntmps163
      go_wp2_with (first | (go_at_call 90; ((with_reducible refine (n1 _).mono ?_); rintro e w' ⟨rfl, rfl⟩)) | (go_at_call 90; ((with_reducible refine (n2 _).mono ?_); rintro e w' ⟨rfl, rfl⟩)))
      go_ret
      exact ⟨ret_bool HV.out.symm, hb0⟩
    · have t2 : ((C : Int) == (n : Int)) = false := by rw [beq_eq_false_iff_ne]; omega
      have HV : Hid ((A == n || C == n) = false) := Lib.hid (by simp [h1, h2])
      clear h1 h2
      go_enter Tryz.func163, Tryz.ntmps163
      go_wp2_with (first | (go_at_call 90; ((with_reducible refine (n1 _).mono ?_); rintro e w' ⟨rfl, rfl⟩)) | (go_at_call 90; ((with_reducible refine (n2 _).mono ?_); rintro e w' ⟨rfl, rfl⟩)))
      go_ret
      exact ⟨ret_bool HV.out.symm, hb0⟩
set_option maxRecDepth 100000 in
theorem l12Degree_any (am : Option Addr) (cm : Nat) (ms : List Lnk) (n : Nat) (w : World) (hrm : Reads w w.heap.size am (lks ms)) (hm : menuB ms = true) :
    Calls Tryz.prog 135 #[.slice am ms.length cm, .int .i64 (n : Int)] w fun e w' => e = .returned (.int .i64 (degN ms n : Int)) ∧ Below w.heap.size w w' := by
  have hfew := (menuB_asc hm).few
  have HLK := Lib.hid (menuB_lnk hm)
  have HRM := Lib.hid (fun (wr : World) (hb : Below w.heap.size w wr) => hrm.below hb (Nat.le_refl _))
  clear hrm
  go_enter Tryz.func135, Tryz.ntmps135
  go_wp2_with fail
  go_loopw [5, 6] (fun c i wr => ∃ k : Nat, k ≤ ms.length ∧ i = .int .i64 k ∧ c = .int .i64 (degN (ms.take k) n : Int) ∧ Below w.heap.size w wr) (fun _ i _ => ms.length - (intOf i).toNat)
  case atStart => exact ⟨0, Nat.zero_le _, rfl, rfl, Below.refl _ _⟩
  case round =>
    obtain ⟨k, hk, rfl, rfl, hb⟩ := hrel
    by_cases hlt : k < ms.length
    · obtain ⟨b, off, rfl, hbl, hcl⟩ := (HRM.out _ hb).open_ (by rw [len_lks]; omega)
      have c0 := hcl (k * 3) (by rw [len_lks]; omega)
      have c1 := hcl (k * 3 + 1) (by rw [len_lks]; omega)
      have c2 := hcl (k * 3 + 2) (by rw [len_lks]; omega)
      rw [lks_at0 _ _ hlt] at c0
      rw [lks_at1 _ _ hlt, ← Nat.add_assoc] at c1
      rw [lks_at2 _ _ hlt, ← Nat.add_assoc] at c2
      clear hcl
      have hok := HLK.out ms[k] (List.getElem_mem hlt)
      have HS := Lib.hid (degN_snoc (ms.take k) ms[k] n)
      rw [← List.take_succ_eq_append_getElem hlt] at HS
      have b1 := degN_le (ms.take k) n
      rw [List.length_take] at b1
      generalize ms[k] = x at *
      have n1 := fun W => l12Of_any x n W hok.p1 hok.c1 hok.wd
      have q1 : (0 : Int) ≤ (k : Int) := by omega
      have q2 : (k : Int) < (ms.length : Int) := by omega
      clear hok
      obtain ⟨xp, xc, xk⟩ := x
      simp only at *
      generalize degN (ms.take k) n = D at *
      cases hv : (lkA xp == n || lkA xc == n) with
      | true =>
        rw [hv] at n1
        rw [hv, if_pos rfl] at HS
        clear hv
        go_wp2_with (go_at_call 163; ((with_reducible refine (n1 _).mono ?_); rintro e w1 ⟨rfl, hb1⟩))
        go_roundw
        case rel => exact ⟨k + 1, by omega, by go_num, by rw [HS.out]; go_num, bt hb hb1⟩
        case measure => simp [intOf]; omega
      | false =>
        rw [hv] at n1
        rw [hv, if_neg (by simp)] at HS
        clear hv
        go_wp2_with (go_at_call 163; ((with_reducible refine (n1 _).mono ?_); rintro e w1 ⟨rfl, hb1⟩))
        go_roundw
        case rel => exact ⟨k + 1, by omega, by go_num, by rw [HS.out]; rfl, bt hb hb1⟩
        case measure => simp [intOf]; omega
    · have hk' : k = ms.length := by omega
      subst hk'
      rw [List.take_length]
      go_wp2
      go_ret
      exact ⟨rfl, hb⟩
set_option maxRecDepth 100000 in
theorem specCentralLetter_yes (am : Option Addr) (cm : Nat) (ms : List Lnk) (w : World) (hrm : Reads w w.heap.size am (lks ms)) (hl : ms.length ≤ 4294967296) (hm : menuB ms = true) :
    Calls Tryz.prog 94 #[.slice am ms.length cm] w fun e w' => e = .returned (.string (wd [cenN ms])) ∧ Below w.heap.size w w' := by
  have hv := specMenuValid_any am cm ms w hrm hl
  rw [hm] at hv
  have HRM := Lib.hid (fun (wr : World) (hb : Below w.heap.size w wr) => (hrm.below hb (Nat.le_refl _)).more hb.size)
  clear hrm
  go_enter Tryz.func94, Tryz.ntmps94
  go_wp2_with fail
  refine hv.mono ?_
  rintro e w1 ⟨rfl, hb1⟩
  clear hv
  go_wp2_with fail
  go_loopw [3, 4] (fun b i wr => ∃ k : Nat, k ≤ 9 ∧ i = .int .i64 ((k : Int) + 1) ∧ b = .int .i64 (cenTo ms k : Int) ∧ Below w.heap.size w wr) (fun _ i _ => 10 - (intOf i).toNat)
  case atStart => exact ⟨0, by omega, rfl, rfl, hb1⟩
  case round =>
    clear hb1
    obtain ⟨k, hk, rfl, rfl, hb⟩ := hrel
    have hcl := cenTo_le ms k
    have HS : Hid (cenTo ms (k + 1) = if degN ms (cenTo ms k) < degN ms (k + 1) then k + 1 else cenTo ms k) := Lib.hid rfl
    by_cases hlt : k < 9
    · have n1 := fun W h => l12Degree_any am cm ms (k + 1) W h hm
      have n2 := fun W h => l12Degree_any am cm ms (cenTo ms k) W h hm
      have b1 := degN_le ms (k + 1)
      have b2 := degN_le ms (cenTo ms k)
      generalize cenTo ms k = B at *
      by_cases hd : degN ms B < degN ms (k + 1)
      · rw [if_pos hd] at HS
        have t1 : decide (degN ms B < degN ms (k + 1)) = true := decide_eq_true hd
        clear hd
        generalize degN ms (k + 1) = D1 at *
        generalize degN ms B = D2 at *
        rw [show ((k + 1 : Nat) : Int) = (k : Int) + 1 by omega] at n1
        go_wp2_with fail
        refine (n1 _ (HRM.out _ hb)).mono ?_
        rintro e w2 ⟨rfl, hb2⟩
        have hbw2 := bt hb hb2
        go_wp2_with fail
        refine (n2 _ (HRM.out _ hbw2)).mono ?_
        rintro e w3 ⟨rfl, hb3⟩
        go_wp2_with fail
        go_roundw
        case rel => exact ⟨k + 1, by omega, by go_num, by rw [HS.out]; go_num, bt hbw2 hb3⟩
        case measure => simp [intOf]; omega
      · rw [if_neg hd] at HS
        have t1 : decide (degN ms B < degN ms (k + 1)) = false := decide_eq_false hd
        clear hd
        generalize degN ms (k + 1) = D1 at *
        generalize degN ms B = D2 at *
        rw [show ((k + 1 : Nat) : Int) = (k : Int) + 1 by omega] at n1
        go_wp2_with fail
        refine (n1 _ (HRM.out _ hb)).mono ?_
        rintro e w2 ⟨rfl, hb2⟩
        have hbw2 := bt hb hb2
        go_wp2_with fail
        refine (n2 _ (HRM.out _ hbw2)).mono ?_
        rintro e w3 ⟨rfl, hb3⟩
        go_wp2_with fail
        go_roundw
        case rel => exact ⟨k + 1, by omega, by go_num, by rw [HS.out], bt hbw2 hb3⟩
        case measure => simp [intOf]; omega
    · have hk' : k = 9 := by omega
      subst hk'
      have nl := fun W => l1Letter_any (cenTo ms 9 : Int) W
      have HC : Hid (S [letr (cenTo ms 9 : Int)] = wd [cenN ms]) := Lib.hid rfl
      generalize cenTo ms 9 = B at *
      go_wp2_with (go_at_call 95; ((with_reducible refine (nl _).mono ?_); rintro e w1 ⟨rfl, hb1⟩))
      go_ret
      exact ⟨ret_str HC.out, bt hb hb1⟩
theorem specCentralLetter_no (am : Option Addr) (cm : Nat) (ms : List Lnk) (w : World) (hrm : Reads w w.heap.size am (lks ms)) (hl : ms.length ≤ 4294967296) (hm : menuB ms = false) :
    Calls Tryz.prog 94 #[.slice am ms.length cm] w fun e w' => e = .returned (.string ⟨#[]⟩) ∧ Below w.heap.size w w' := by
  have hv := specMenuValid_any am cm ms w hrm hl
  rw [hm] at hv
  go_enter Tryz.func94, Tryz.ntmps94
  go_wp2_with fail
  refine hv.mono ?_
  rintro e w1 ⟨rfl, hb1⟩
  go_wp2
  go_ret
  exact ⟨rfl, hb1⟩
end Go.Proofs.YtdmnkcmkpjmfaaaGreat

/- ImpliedPairs, Hypotheses and MenuBoards of the program. -/
namespace Go.Proofs.YtdmnkcmkpjmfaaaGreat
open Go.RowKit
attribute [local go_sem] Oper.semAt_some

theorem rowW_P (R : Nat → Nat → Bool) (a k : Nat) : rowW R a k = (rowP R a k).map pw := by simp [rowW, rowP, pw]
theorem impW_P (R : Nat → Nat → Bool) : ∀ k, impW R k = (impP R k).map pw
  | 0 => rfl
  | k + 1 => by rw [impW, impP, List.map_append, impW_P R k, rowW_P]
theorem pv_set (p : List Nat) (i n : Nat) : (pv p).set i (.int .u8 (n : Int)) = pv (p.set i n) := by simp [pv, List.map_set]
theorem u64_pred (r : Nat) (hr : r < 1024) : bits .and .u64 (r : Int) (IntKind.u64.wrap ((r : Int) - 1)) = ((r &&& (r - 1) : Nat) : Int) := by
  cases r with
  | zero => rfl
  | succ r =>
    have h1 : IntKind.u64.wrap (((r + 1 : Nat) : Int) - 1) = ((r : Nat) : Int) := by rw [u64_wrap]; omega
    rw [h1, u64_and_nat _ _ (by omega) (by omega)]
    rfl
set_option maxRecDepth 100000 in
set_option maxHeartbeats 2000000 in
theorem pairBoard_any (g : Nat) (R : Nat → Nat → Bool) (w : World) (h : Own w g (psv R)) (hs : ∀ a b, R a b = R b a) :
    Calls Tryz.prog 96 #[.pointer (some ⟨g, 0, none⟩)] w fun e w' => e = .returned (.tuple #[.string (brdT R).1, .bool (brdT R).2]) ∧ Below w.heap.size w w' := by
  have lg := h.lt
  go_enter Tryz.func96, Tryz.ntmps96
  go_wp2_with fail
  refine (identity_any _).mono ?_
  rintro e w1 ⟨rfl, hb1⟩
  have h1 := h.below hb1 lg
  have z1 : Own (w1.alloc (.cells #[.int .u8 0, .int .u8 0, .int .u8 0, .int .u8 0, .int .u8 0, .int .u8 0, .int .u8 0, .int .u8 0, .int .u8 0, .int .u8 0] 102)) w1.heap.size z10 := Own.new w1 z10 102
  have hbz := hb1.size
  have hlp := size_pv10 isP_id
  go_wp2_with ((with_reducible refine wl_store 102 0 z1 (size_pv isP_id.len) (pv_one _) (by rw [hlp, len_z10]; omega) ?_ ?_ ?_ ?_); (· rfl); (· rfl); (· rfl); intro w2 o2 b2 s2)
  rw [put_all (by rw [hlp, len_z10])] at o2
  have h2 := (h1.alloc (.cells #[.int .u8 0, .int .u8 0, .int .u8 0, .int .u8 0, .int .u8 0, .int .u8 0, .int .u8 0, .int .u8 0, .int .u8 0, .int .u8 0] 102)).grown b2 (by simp; have := hb1.size; omega)
  have hbw : Below w.heap.size w w2 := bel_store (hb1.alloc hbz _) b2 (by rw [World.size_alloc]; omega) hbz
  have hgB : g ≠ w1.heap.size := by omega
  have HBZ := Lib.hid s2
  clear s2 z1 b2 h1 h hb1
  generalize w1.heap.size = B at *
  have HSY := Lib.hid hs
  clear hs
  go_loopw [5, 6, 7, 10, 21] (fun _ _ _ i _ wr => ∃ k : Nat, k ≤ 10 ∧ i = .int .i64 k ∧ oneTo R k = true ∧ Own wr B (pv (fillR R k 0)) ∧ Own wr g (psv R) ∧ Below w.heap.size w wr) (fun _ _ _ i _ _ => 10 - (intOf i).toNat)
  case atStart => exact ⟨0, by omega, rfl, rfl, by rw [fillR_zero]; exact o2, h2, hbw⟩
  case round =>
    clear o2 h2 hbw
    obtain ⟨k, hk, rfl, ho, oP, oS, hb⟩ := hrel
    have HO := Lib.hid ho
    clear ho
    by_cases hlt : k < 10
    · have hr := rowN_lt (P := R k) (k := 10) (by omega)
      have c0 := oS.at_ (psv_at R hlt)
      have hpr := u64_pred (rowN (R k) 10) hr
      have hb1 := Lib.hid (rowN_one (R := R) (k := k))
      have hb2 := Lib.hid (fun h => oneB_row (R := R) hlt h)
      have hsu := Lib.hid (oneTo_succ R k)
      have hbt := Lib.hid (fun y (hy : y < 10) => by
        have hbt := bit_testU (rowN (R k) 10) y (by omega)
        rw [rowN_test, decide_eq_true hy, Bool.true_and] at hbt
        exact hbt)
      have q0 : (0 : Int) ≤ (k : Int) := by omega
      have q1 : (k : Int) < 10 := by omega
      have tk : decide ((k : Int) < 10) = true := decide_eq_true (by omega)
      have lg2 := oS.lt
      have lB := oP.lt
      go_wp2_with fail
      go_quiet (fail)
      generalize rowN (R k) 10 = r at *
      have oP1 := oP.drewN nq
      have oS1 := oS.drewN nq
      have hbN : Below w.heap.size w (wr.drewN nq) := bel_drewN hb _
      clear oP oS hb c0
      generalize wr.drewN nq = W at *
      by_cases hz : (r &&& (r - 1)) = 0
      · have tz : (((r &&& (r - 1) : Nat) : Int) != 0) = false := by rw [hz]; rfl
        have hrow := hb1.out.1 hz
        have HO2 : Hid (oneTo R (k + 1) = true) := Lib.hid (by rw [hsu.out, HO.out, hrow]; rfl)
        have HROW : Hid (∀ b c, b < 10 → c < 10 → R k b = true → R k c = true → b = c) := Lib.hid (fun b c hb hc h1 h2 => by
          have := List.all_eq_true.1 (List.all_eq_true.1 hrow b (by simpa using hb)) c (by simpa using hc)
          rw [h1, h2] at this
          simpa using this)
        have HNX := Lib.hid (fillR_next R k)
        clear hz hrow hb1 hb2 hsu
        go_wp2_with fail
        go_loopw [7, 21] (fun _ i wr => ∃ y : Nat, y ≤ 10 ∧ i = .int .i64 y ∧ Own wr B (pv (fillR R k y)) ∧ Own wr g (psv R) ∧ Below w.heap.size w wr) (fun _ i _ => 10 - (intOf i).toNat)
        case atStart => exact ⟨0, by omega, rfl, oP1, oS1, hbN⟩
        case round =>
          clear oP1 oS1 hbN
          obtain ⟨y, hy, rfl, oP, oS, hb⟩ := hrel
          by_cases hyl : y < 10
          · have hbt' := hbt.out y hyl
            have lP := oP.lt
            have hl10 : (pv (fillR R k y)).length = 10 := by rw [length_pv, len_fillR]
            cases hR : R k y with
            | true =>
              rw [hR, if_pos rfl] at hbt'
              have t0 : (bits .and .u64 ((r : Int) / 2 ^ y) 1 == 1) = true := by rw [hbt']; rfl
              have HS := Lib.hid (fillR_yes (x := k) hyl hR (fun b hb h => HROW.out b y hb hyl h hR))
              obtain ⟨x0, f0⟩ := oP.some_ (i := k) (by omega)
              have g0 := oP.free k (by omega)
              have hcv : (y : Int) % 256 = (y : Int) := by omega
              clear hbt' hR
              go_wp2
              go_roundw
              case rel =>
                refine ⟨y + 1, by omega, by go_num, ?_, oS.far (by simp; omega) _, hb.setCell (by simp; omega) _⟩
                rw [HS.out]
                have := oP.set_ (i := k) (by omega) (.int .u8 (y : Int))
                rw [← pv_set]
                exact this
              case measure => simp [intOf]; omega
            | false =>
              rw [hR, if_neg (by simp)] at hbt'
              have t0 : (bits .and .u64 ((r : Int) / 2 ^ y) 1 == 1) = false := by rw [hbt']; rfl
              have HS := Lib.hid (fillR_no hR)
              clear hbt' hR
              go_wp2
              go_roundw
              case rel => exact ⟨y + 1, by omega, by go_num, by rw [HS.out]; exact oP, oS, hb⟩
              case measure => simp [intOf]; omega
          · have hy' : y = 10 := by omega
            subst hy'
            rw [HNX.out] at oP
            go_wp2
            go_roundw
            case rel => exact ⟨k + 1, by omega, by go_num, HO2.out, oP, oS, hb⟩
            case measure => simp [intOf]; omega
      · have tz : (((r &&& (r - 1) : Nat) : Int) != 0) = true := by rw [bne_iff_ne]; omega
        have hno := hb2.out hz
        have HT : Hid (brdT R = (S [], false)) := Lib.hid (by unfold brdT; rw [if_neg (by rw [hno]; simp)])
        clear hz hno hb1 hb2 hsu
        go_wp2
        go_ret2
        exact ⟨by rw [HT.out]; rfl, hbN⟩
    · have hk' : k = 10 := by omega
      subst hk'
      have h1 : oneB R = true := by rw [← oneTo_ten]; exact HO.out
      rw [fillR_ten] at oP
      have hp := isP_boardL HSY.out h1
      have hlpp := size_pv10 hp
      have HT : Hid (brdT R = (wd (boardL R), true)) := Lib.hid (by unfold brdT; rw [if_pos h1])
      clear h1
      go_wp2_with ((with_reducible refine wl_load 102 oP.cells (size_pv hp.len) Tryz.underlying102 ?_ ?_ ?_ ?_); (· rfl); (· rfl); (· rfl))
      refine (string_any (boardL R) wr hp).mono ?_
      rintro e w3 ⟨rfl, hb3⟩
      go_wp2
      go_ret2
      exact ⟨by rw [HT.out]; rfl, hb.trans (hb3.mono hb.size)⟩
theorem impT_no {m : Mach} {v : ByteArray} {ms : List Lnk} {s : ByteArray} (h : (setB m v && (menuB ms && pairB s)) = false) : impT m v ms s = [] := by
  unfold impT impL
  rw [if_neg (by rw [h]; simp)]; rfl
theorem impT_yes {m : Mach} {v : ByteArray} {ms : List Lnk} {s : ByteArray} (h1 : setB m v = true) (h2 : menuB ms = true) (h3 : pairB s = true) : impT m v ms s = impW (impG m v ms (pAt (dg s) 0) (pAt (dg s) 1)) 10 := by
  unfold impT impL
  rw [if_pos (by rw [h1, h2, h3]; rfl), impW_P]
set_option maxRecDepth 100000 in
set_option maxHeartbeats 2000000 in
theorem implImpliedPairs_any (a : Option Addr) (c : Nat) (m : Mach) (v : ByteArray) (am : Option Addr) (cm : Nat) (ms : List Lnk) (s : ByteArray) (w : World) (h : MachAt w w.heap.size a m.wheels.rotors.length m) (hv : v.size ≤ 4294967296) (hrm : Reads w w.heap.size am (lks ms)) (hz : SmL ms) (hl : ms.length ≤ 4294967296) (hs : s.size ≤ 4294967296) :
    Calls Tryz.prog 26 #[.agg #[.slice a m.wheels.rotors.length c, .string m.wheels.refl, .string m.rings, .string m.plugs], .string v, .slice am ms.length cm, .string s] w (RowPost 9 1 (impT m v ms s).length (sv (impT m v ms s)) w) := by
  have o0 := Own.new w [.slice a m.wheels.rotors.length c, .string m.wheels.refl, .string m.rings, .string m.plugs] 36
  have hb0 := (Below.refl w.heap.size w).alloc (Nat.le_refl _) (.cells [.slice a m.wheels.rotors.length c, .string m.wheels.refl, .string m.rings, .string m.plugs].toArray 36)
  have h' := h.alloc_ (.cells [.slice a m.wheels.rotors.length c, .string m.wheels.refl, .string m.rings, .string m.plugs].toArray 36)
  have HRM := Lib.hid (fun (wr : World) (hb : Below w.heap.size w wr) => (hrm.below hb (Nat.le_refl _)).more hb.size)
  have HM := Lib.hid (fun (wr : World) (hb : Below w.heap.size w wr) => (h.below hb (Nat.le_refl _)).more hb.size)
  clear hrm h
  have nil_ : ∀ (wr : World), Below w.heap.size w wr → (setB m v && (menuB ms && pairB s)) = false → RowPost 9 1 (impT m v ms s).length (sv (impT m v ms s)) w (.returned (.slice none 0 0)) wr := fun wr hb hf => by
    rw [impT_no hf]
    exact ⟨_, rfl, World.ownsRow_nil _ _ _ _, hb⟩
  have HNIL := Lib.hid nil_
  clear nil_
  go_enter Tryz.func26, Tryz.ntmps26
  go_wp2_with fail
  refine (settingValid_any _ _ _ _ _ _ h' hv).mono ?_
  rintro e w1 ⟨rfl, hb1⟩
  have o1 := o0.below hb1 o0.lt
  have hb := bt hb0 hb1
  clear o0 hb0 hb1 h'
  cases h1 : setB m v with
  | false =>
    have HE := Lib.hid (HNIL.out _ hb (by rw [h1]; rfl))
    clear h1
    go_wp2
    go_ret
    exact HE.out
  | true =>
    have H1 := Lib.hid h1
    clear h1
    go_wp2_with fail
    refine (implMenuValid_any am cm ms _ (HRM.out _ hb) hz hl).mono ?_
    rintro e w2 ⟨rfl, hb2⟩
    have o2 := o1.below hb2 o1.lt
    have hbw2 := bt hb hb2
    clear o1 hb hb2
    cases h2 : menuB ms with
    | false =>
      have HE := Lib.hid (HNIL.out _ hbw2 (by rw [h2]; simp))
      clear h2
      go_wp2
      go_ret
      exact HE.out
    | true =>
      have H2 := Lib.hid h2
      clear h2
      by_cases hs2 : s.size = 2
      · have t2 : ((s.size : Int) != 2) = false := by rw [bne_eq_false_iff_eq]; omega
        have n3 := fun W => implWordValid_any s W hs
        cases h3 : wordB s with
        | false =>
          rw [h3] at n3
          have HE := Lib.hid (HNIL.out _ hbw2 (by simp [pairB, h3]))
          clear h3
          go_wp2_with (go_at_call 55; ((with_reducible refine (n3 _).mono ?_); rintro e w' ⟨rfl, rfl⟩))
          go_ret
          exact HE.out
        | true =>
          rw [h3] at n3
          have hp : pairB s = true := by simp [pairB, h3, hs2]
          obtain ⟨hx, hy⟩ := pairB_lt hp
          have HT := Lib.hid (impT_yes H1.out H2.out hp)
          have hd := wordB_at h3
          have e1 : dig (s[0]'(by omega)) = (pAt (dg s) 0 : Int) := by
            have := dg_at (s := s) (i := 0) (by omega)
            have := (hd 0 (by omega)).1
            omega
          have e2 : dig (s[1]'(by omega)) = (pAt (dg s) 1 : Int) := by
            have := dg_at (s := s) (i := 1) (by omega)
            have := (hd 1 (by omega)).1
            omega
          have e3 := (hd 0 (by omega)).1
          have e4 := (hd 1 (by omega)).1
          have n1 := fun W => implNumber_any (s[0]'(by omega)) W (by unfold dig at e3; omega)
          have n2 := fun W => implNumber_any (s[1]'(by omega)) W (by unfold dig at e4; omega)
          rw [e1] at n1
          rw [e2] at n2
          clear h3 hd e1 e2 e3 e4 hp
          generalize pAt (dg s) 0 = x at *
          generalize pAt (dg s) 1 = y at *
          go_wp2_with (go_at_call 55; ((with_reducible refine (n3 _).mono ?_); rintro e w' ⟨rfl, rfl⟩))
          have hbd : Below w2.heap.size w2 w2.drew := (Below.refl _ _).drew
          refine wp_onlyN ?_
          refine wp_region_any (by kernel_rfl) ?_
          refine wpAny_of_K (S := fun w' => w'.rangeAt w.heap.size 0 [.slice a m.wheels.rotors.length c, .string m.wheels.refl, .string m.rings, .string m.plugs]) (kp := fun _ => true) _ _ _ _ ?_
          have HS := Lib.hid (fun (W' : World) (hb : Below w2.heap.size w2 W') => (o2.below hb o2.lt).cells.range)
          have hS := HS.out w2.drew hbd
          have q1 : (1 : Int) < (s.size : Int) := by omega
          have s0 : 0 < s.size := by omega
          refine kr_take 0 28 (v := .agg #[.slice a m.wheels.rotors.length c, .string m.wheels.refl, .string m.rings, .string m.plugs]) rfl (by kernel_rfl) (by kernel_rfl) (by kernel_rfl) (by kernel_rfl) (fun _ _ _ h => by cases h.1) rfl hS (yieldsIf_load_mid (by rfl) _ _ rfl _ _ rfl _ _ (fun _ h => h) Tryz.underlying36 rfl (by kernel_rfl)) ?_; simp only [Act.put, List.setIfInBounds_toArray, List.set_cons_succ, List.set_cons_zero]
          refine kr_take 1 29 (v := .string v) rfl (by kernel_rfl) (by kernel_rfl) (by kernel_rfl) (by kernel_rfl) (fun _ _ _ h => by cases h.1) rfl hS (Or.inl ⟨by rfl, fun _ _ => rfl⟩) ?_; simp only [Act.put, List.setIfInBounds_toArray, List.set_cons_succ, List.set_cons_zero]
          refine kr_take 2 30 (v := .slice am ms.length cm) rfl (by kernel_rfl) (by kernel_rfl) (by kernel_rfl) (by kernel_rfl) (fun _ _ _ h => by cases h.1) rfl hS (Or.inl ⟨by rfl, fun _ _ => rfl⟩) ?_; simp only [Act.put, List.setIfInBounds_toArray, List.set_cons_succ, List.set_cons_zero]
          refine kr_take 4 32 (v := .string s) rfl (by kernel_rfl) (by kernel_rfl) (by kernel_rfl) (by kernel_rfl) (fun _ _ _ h => by cases h.1) rfl hS (Or.inl ⟨by rfl, fun _ _ => rfl⟩) ?_; simp only [Act.put, List.setIfInBounds_toArray, List.set_cons_succ, List.set_cons_zero]
          refine kr_take 5 33 (v := .int .u8 ((s[0]'(by omega)).toNat : Int)) rfl (by kernel_rfl) (by kernel_rfl) (by kernel_rfl) (by kernel_rfl) (fun _ _ _ h => by cases h.1) rfl hS (Or.inl ⟨by rfl, fun w' hw' => by simp [go_sem, s0]⟩) ?_; simp only [Act.put, List.setIfInBounds_toArray, List.set_cons_succ, List.set_cons_zero]
          refine kr_take 7 35 (v := .string s) rfl (by kernel_rfl) (by kernel_rfl) (by kernel_rfl) (by kernel_rfl) (fun _ _ _ h => by cases h.1) rfl hS (Or.inl ⟨by rfl, fun _ _ => rfl⟩) ?_; simp only [Act.put, List.setIfInBounds_toArray, List.set_cons_succ, List.set_cons_zero]
          refine kr_take 8 36 (v := .int .u8 ((s[1]'(by omega)).toNat : Int)) rfl (by kernel_rfl) (by kernel_rfl) (by kernel_rfl) (by kernel_rfl) (fun _ _ _ h => by cases h.1) rfl hS (Or.inl ⟨by rfl, fun w' hw' => by simp [go_sem, q1]⟩) ?_; simp only [Act.put, List.setIfInBounds_toArray, List.set_cons_succ, List.set_cons_zero]
          refine kr_callM 3 31 (by kernel_rfl) rfl (by rfl) rfl (fun w => by simp [go_sem]) (newBombe_any a c m v am cm ms w2.drew ((HM.out _ hbw2.drew)) H1.out (HRM.out _ hbw2.drew) H2.out) (fun e w3 hT => ?_)
          obtain ⟨g, rfl, hg, hwG, hb3⟩ := hT
          have hbw3 : Below w2.heap.size w2 w3 := hbd.trans hb3
          refine ⟨_, rfl, HS.out _ hbw3, ?_⟩
          simp only [Act.put, List.setIfInBounds_toArray, List.set_cons_succ, List.set_cons_zero]
          refine kr_callM 6 34 (by kernel_rfl) rfl (by rfl) rfl (fun w => by simp [go_sem]) (n1 w3) (fun e w' hT => ?_)
          obtain ⟨rfl, rfl⟩ := hT
          refine ⟨_, rfl, HS.out _ hbw3, ?_⟩
          simp only [Act.put, List.setIfInBounds_toArray, List.set_cons_succ, List.set_cons_zero]
          refine kr_callM 9 37 (by kernel_rfl) rfl (by rfl) rfl (fun w => by simp [go_sem]) (n2 w3) (fun e w' hT => ?_)
          obtain ⟨rfl, rfl⟩ := hT
          refine ⟨_, rfl, HS.out _ hbw3, ?_⟩
          simp only [Act.put, List.setIfInBounds_toArray, List.set_cons_succ, List.set_cons_zero]
          refine kr_callM 10 38 (by kernel_rfl) rfl (by rfl) rfl (fun w => by simp [go_sem]) (imply_any g (menG m v ms) x y w3 hwG (menG_ok (setB_mach H1.out) H2.out) hx hy (by rw [len_menG]; have := (menuB_asc H2.out).few; omega)) (fun e w4 hT => ?_)
          obtain ⟨g4, rfl, hg4, oS, hb4⟩ := hT
          have hbw4 : Below w2.heap.size w2 w4 := hbw3.trans (hb4.mono hbw3.size)
          refine ⟨_, rfl, HS.out _ hbw4, ?_⟩
          simp only [Act.put, List.setIfInBounds_toArray, List.set_cons_succ, List.set_cons_zero]
          refine kr_callM 11 39 (by kernel_rfl) rfl (by rfl) rfl (fun w => by simp [go_sem]) (pairWords_any g4 _ w4 oS) (fun e w5 hT => ?_)
          obtain ⟨lv, rfl, o5, hb5⟩ := hT
          have hbw5 : Below w2.heap.size w2 w5 := hbw4.trans (hb5.mono hbw4.size)
          have hS5 := HS.out _ hbw5
          refine ⟨_, rfl, hS5, ?_⟩
          simp only [Act.put, List.setIfInBounds_toArray, List.set_cons_succ, List.set_cons_zero]
          have hS := hS5
          refine kr_take 12 8 (v := lv) rfl (by kernel_rfl) (by kernel_rfl) (by kernel_rfl) (by kernel_rfl) (fun _ _ _ h => by cases h.1) rfl hS (Or.inl ⟨by rfl, fun _ _ => rfl⟩) ?_; simp only [Act.put, List.setIfInBounds_toArray, List.set_cons_succ, List.set_cons_zero]
          refine ⟨by kernel_rfl, onlyN_mk ?_⟩
          go_wp2
          go_ret
          refine ⟨lv, rfl, ?_, hbw2.trans (hbw5.mono hbw2.size)⟩
          rw [HT.out]
          exact World.ownsRow.mono o5 (Nat.le_trans hbw2.size hbw4.size)
      · have t2 : ((s.size : Int) != 2) = true := by rw [bne_iff_ne]; omega
        have HE := Lib.hid (HNIL.out _ hbw2 (by simp [pairB, hs2]))
        clear hs2
        go_wp2
        go_ret
        exact HE.out
end Go.Proofs.YtdmnkcmkpjmfaaaGreat
