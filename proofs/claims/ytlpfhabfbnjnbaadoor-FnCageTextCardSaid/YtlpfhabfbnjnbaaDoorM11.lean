/- Several of my texts in one: CgD4, CgD5, CgY. -/
import Derived.Test.YtlpfhabfbnjnbaaDoorM10
import Derived.Test.YtlpfhabfbnjnbaaDoorM8
/- The draws of cages: l15Open, DrawCageValid, DrawFormatCage. -/
namespace Go.Proofs.YtlpfhabfbnjnbaaDoor
open Go.RowKit

theorem IsRow.below_ {k : IntKind} {w w' : World} {a : Option Addr} {len cap : Nat} {zs : List Int} (h : IsRow k w a len cap zs) (hb : Below w.heap.size w w') : IsRow k w' a len cap zs := by
  rcases h with h | ⟨x, h1, h2, h3, h4, h5, h6⟩
  · exact .inl h
  · exact .inr ⟨x, h1, h2, h3, h4, fun i hi => by
      have := h5 i hi
      rw [hb.cell (World.block_lt_of_cell? w _ this)]
      exact this, h6⟩
theorem IsRow.alloc_ {k : IntKind} {w : World} {a : Option Addr} {len cap : Nat} {zs : List Int} (h : IsRow k w a len cap zs) (o : Obj) : IsRow k (w.alloc o) a len cap zs := h.below_ ((Below.refl _ _).alloc (Nat.le_refl _) o)
/-- Some cage, of memory of the call's own. -/
def CageOwn (w' : World) (B : Nat) (v1 v2 : Value) (ws : List ByteArray) (bs : List Int) : Prop :=
  ∃ (g1 c1 g2 c2 : Nat), v1 = .slice (some ⟨g1, 0, none⟩) ws.length c1 ∧ v2 = .slice (some ⟨g2, 0, none⟩) bs.length c2 ∧ ws.length ≤ 4 ∧ ws.length ≤ c1 ∧ bs.length ≤ 9 ∧ (∀ s ∈ ws, s.size ≤ 10) ∧ B ≤ g1 ∧ B ≤ g2 ∧ Own w' g1 (sv ws) ∧ Own w' g2 (iv bs)
def OpenPost (R : Nat) (w : World) (e : Ending) (w' : World) : Prop :=
  Below R w w' ∧ ∃ (v1 v2 v3 : Value) (ws : List ByteArray) (bs : List Int), e = .returned (.tuple #[.agg #[v1, v2], v3]) ∧ CageOwn w' w.heap.size v1 v2 ws bs
set_option maxRecDepth 100000 in
set_option maxHeartbeats 1000000 in
theorem l15Open_any (R c : Nat) (w : World) (h : Rd w R c) (hc : c ≤ 1000) :
    Calls Tryd.prog 49 #[.pointer (some ⟨R, 0, none⟩)] w (OpenPost R w) := by
  have hRw := h.lt
  have or0 := Own.new w [.slice none 0 0, .slice none 0 0] 25
  have hb0 := (Below.refl R w).alloc (by omega) (.cells [.slice none 0 0, .slice none 0 0].toArray 25)
  have hr0 := h.alloc (.cells [.slice none 0 0, .slice none 0 0].toArray 25)
  go_enter Tryd.func49, Tryd.ntmps49
  go_wp2_with fail
  generalize hW0 : (w.alloc (.cells [.slice none 0 0, .slice none 0 0].toArray 25)) = W0 at *
  have hz0 : W0.heap.size = w.heap.size + 1 := by rw [← hW0]; simp
  clear hW0
  refine (l15Some_any R c W0 hr0 (by omega)).mono ?_
  rintro e w1 ⟨v1, v2, v3, ws, bs, ps, rfl, hl, hcg, cw⟩
  have hsz : ∀ s ∈ ws, s.size ≤ 9 := fun s hs => (bitsB_size ((cage_iff.1 hcg).2.1 s hs)).2
  have or1 := or0.grown cw.mv (by simp; omega)
  have hb1 := hb0.trans (cw.mv.toBelow (Nat.le_refl R) (by omega))
  obtain ⟨a1, c1, rfl, -, -, -⟩ := OwR.val cw.o1
  obtain ⟨a2, c2, rfl, -, -, -⟩ := OwR.val cw.o2
  have cw2 := cw.alloc (.cells [.slice a1 ws.length c1, .slice a2 bs.length c2].toArray 25)
  have or2 := or1.alloc (.cells [.slice a1 ws.length c1, .slice a2 bs.length c2].toArray 25)
  have hb2 := hb1.alloc (by have := or1.lt; omega) (.cells [.slice a1 ws.length c1, .slice a2 bs.length c2].toArray 25)
  clear or0 hb0 hr0 or1 hb1 cw
  go_wp2_with fail
  generalize (w1.alloc (.cells [.slice a1 ws.length c1, .slice a2 bs.length c2].toArray 25)) = w2 at *
  refine (l15Bad_any R W0.heap.size (c + 100) W0 w2 _ _ v3 ws bs ps cw2 hl hsz (by omega)).mono ?_
  rintro e w3 ⟨hbx, g1, d1, g2, d2, v3', ws', bs', rfl, n1, n2, n3, n4, n5, n6, oW, oB⟩
  have or3 := hbx.own or2 (by omega) (by omega)
  have hb3 := hb2.trans (hbx.toBelow (by omega))
  have u0 := or3.at_ (i := 0) rfl
  have u1 := or3.at_ (i := 1) rfl
  have z0 := or3.free 0 (by simp)
  have z1 := or3.free 1 (by simp)
  clear or2 hb2 cw2 hbx
  go_wp2_with fail
  have o2 := (or3.set_ (i := 0) (by simp) (.slice (some ⟨g1, 0, none⟩) ws'.length d1)).set_ (i := 1) (by simp) (.slice (some ⟨g2, 0, none⟩) bs'.length d2)
  have hb9 := (hb3.setCell (p := ⟨w.heap.size, 0, none⟩) (by simp; omega) (.slice (some ⟨g1, 0, none⟩) ws'.length d1)).setCell (p := ⟨w.heap.size, 1, none⟩) (by simp; omega) (.slice (some ⟨g2, 0, none⟩) bs'.length d2)
  refine bodyPost_ret (results_cell_tmp_own Tryd.results49 _ _ _ _ _ _ (by rfl) (by rfl) o2.cells Tryd.underlying25 rfl (by kernel_rfl)) rfl ?_
  exact ⟨hb9, _, _, _, ws', bs', rfl, g1, d1, g2, d2, rfl, rfl, n1, n2, n3, n4, by omega, by omega, (oW.far (p := ⟨w.heap.size, 0, none⟩) (by simp; omega) _).far (p := ⟨w.heap.size, 1, none⟩) (by simp; omega) _, (oB.far (p := ⟨w.heap.size, 0, none⟩) (by simp; omega) _).far (p := ⟨w.heap.size, 1, none⟩) (by simp; omega) _⟩
/-- What a draw of a cage leaves. -/
def DrawnC (w : World) (e : Ending) (w' : World) : Prop :=
  Below w.heap.size w w' ∧ ∃ (v1 v2 : Value) (ws : List ByteArray) (bs : List Int), e = .returned (.agg #[v1, v2]) ∧ CageOwn w' w.heap.size v1 v2 ws bs
set_option maxRecDepth 100000 in
set_option maxHeartbeats 1000000 in
theorem DrawCageValid_any (a : Option Addr) (len cap : Nat) (zs : List Int) (w : World) (h : IsRow .u8 w a len cap zs) (hl : len ≤ 1048576) :
    Calls Tryd.prog 29 #[.slice a len cap] w (DrawnC w) := by
  have or0 := Own.new w [.slice none 0 0, .slice none 0 0] 25
  have hb0 := (Below.refl w.heap.size w).alloc (Nat.le_refl _) (.cells [.slice none 0 0, .slice none 0 0].toArray 25)
  have h0 := h.alloc_ (.cells [.slice none 0 0, .slice none 0 0].toArray 25)
  go_enter Tryd.func29, Tryd.ntmps29
  go_wp2_with fail
  generalize hW0 : (w.alloc (.cells [.slice none 0 0, .slice none 0 0].toArray 25)) = W0 at *
  have hz0 : W0.heap.size = w.heap.size + 1 := by rw [← hW0]; simp
  clear hW0
  refine (l21Open_any a len cap zs W0 h0 hl).mono ?_
  rintro e w1 ⟨rfl, hr1, hb1⟩
  have or1 := or0.below hb1 or0.lt
  have hbw1 := hb0.trans (hb1.mono (by omega))
  have hlt1 := hr1.lt
  clear or0 hb0 h0 hb1
  go_wp2_with fail
  rw [hz0] at hr1
  refine (l15Open_any (w.heap.size + 1) 0 w1 hr1 (by omega)).mono ?_
  rintro e w2 ⟨hb2, v1, v2, v3, ws, bs, rfl, g1, d1, g2, d2, rfl, rfl, n1, n2, n3, n4, n5, n6, oW, oB⟩
  have or2 := (or1.below hb2 (by omega)).alloc (.cells [.slice (some ⟨g1, 0, none⟩) ws.length d1, .slice (some ⟨g2, 0, none⟩) bs.length d2].toArray 25)
  have hbw2 := (hbw1.trans (hb2.mono (by omega))).alloc (by have := hb2.size; omega) (.cells [.slice (some ⟨g1, 0, none⟩) ws.length d1, .slice (some ⟨g2, 0, none⟩) bs.length d2].toArray 25)
  have oW2 := oW.alloc (.cells [.slice (some ⟨g1, 0, none⟩) ws.length d1, .slice (some ⟨g2, 0, none⟩) bs.length d2].toArray 25)
  have oB2 := oB.alloc (.cells [.slice (some ⟨g1, 0, none⟩) ws.length d1, .slice (some ⟨g2, 0, none⟩) bs.length d2].toArray 25)
  have u0 := or2.at_ (i := 0) rfl
  have u1 := or2.at_ (i := 1) rfl
  have z0 := or2.free 0 (by simp)
  have z1 := or2.free 1 (by simp)
  clear or1 hbw1 hb2 oW oB hr1
  go_wp2_with fail
  have o2 := (or2.set_ (i := 0) (by simp) (.slice (some ⟨g1, 0, none⟩) ws.length d1)).set_ (i := 1) (by simp) (.slice (some ⟨g2, 0, none⟩) bs.length d2)
  have hb9 := (hbw2.setCell (p := ⟨w.heap.size, 0, none⟩) (by simp) (.slice (some ⟨g1, 0, none⟩) ws.length d1)).setCell (p := ⟨w.heap.size, 1, none⟩) (by simp) (.slice (some ⟨g2, 0, none⟩) bs.length d2)
  refine bodyPost_ret (results_cell_own Tryd.results29 _ _ _ _ _ (by rfl) o2.cells Tryd.underlying25 rfl (by kernel_rfl)) rfl ?_
  exact ⟨hb9, _, _, ws, bs, rfl, g1, d1, g2, d2, rfl, rfl, n1, n2, n3, n4, by omega, by omega, (oW2.far (p := ⟨w.heap.size, 0, none⟩) (by simp; omega) _).far (p := ⟨w.heap.size, 1, none⟩) (by simp; omega) _, (oB2.far (p := ⟨w.heap.size, 0, none⟩) (by simp; omega) _).far (p := ⟨w.heap.size, 1, none⟩) (by simp; omega) _⟩
set_option maxRecDepth 100000 in
set_option maxHeartbeats 1000000 in
theorem DrawFormatCage_any (a : Option Addr) (len cap : Nat) (zs : List Int) (w : World) (h : IsRow .u8 w a len cap zs) (hl : len ≤ 1048576) :
    Calls Tryd.prog 10 #[.slice a len cap] w (DrawnC w) := by
  have or0 := Own.new w [.slice none 0 0, .slice none 0 0] 25
  have hb0 := (Below.refl w.heap.size w).alloc (Nat.le_refl _) (.cells [.slice none 0 0, .slice none 0 0].toArray 25)
  have h0 := h.alloc_ (.cells [.slice none 0 0, .slice none 0 0].toArray 25)
  go_enter Tryd.func10, Tryd.ntmps10
  go_wp2_with fail
  generalize hW0 : (w.alloc (.cells [.slice none 0 0, .slice none 0 0].toArray 25)) = W0 at *
  have hz0 : W0.heap.size = w.heap.size + 1 := by rw [← hW0]; simp
  clear hW0
  refine (DrawCageValid_any a len cap zs W0 h0 hl).mono ?_
  rintro e w2 ⟨hb2, v1, v2, ws, bs, rfl, g1, d1, g2, d2, rfl, rfl, n1, n2, n3, n4, n5, n6, oW, oB⟩
  have or2 := or0.below hb2 or0.lt
  have hbw2 := hb0.trans (hb2.mono (by omega))
  have u0 := or2.at_ (i := 0) rfl
  have u1 := or2.at_ (i := 1) rfl
  have z0 := or2.free 0 (by simp)
  have z1 := or2.free 1 (by simp)
  clear or0 hb0 h0 hb2
  go_wp2_with fail
  have o2 := (or2.set_ (i := 0) (by simp) (.slice (some ⟨g1, 0, none⟩) ws.length d1)).set_ (i := 1) (by simp) (.slice (some ⟨g2, 0, none⟩) bs.length d2)
  have hb9 := (hbw2.setCell (p := ⟨w.heap.size, 0, none⟩) (by simp) (.slice (some ⟨g1, 0, none⟩) ws.length d1)).setCell (p := ⟨w.heap.size, 1, none⟩) (by simp) (.slice (some ⟨g2, 0, none⟩) bs.length d2)
  refine bodyPost_ret (results_cell_own Tryd.results10 _ _ _ _ _ (by rfl) o2.cells Tryd.underlying25 rfl (by kernel_rfl)) rfl ?_
  exact ⟨hb9, _, _, ws, bs, rfl, g1, d1, g2, d2, rfl, rfl, n1, n2, n3, n4, by omega, by omega, (oW.far (p := ⟨w.heap.size, 0, none⟩) (by simp; omega) _).far (p := ⟨w.heap.size, 1, none⟩) (by simp; omega) _, (oB.far (p := ⟨w.heap.size, 0, none⟩) (by simp; omega) _).far (p := ⟨w.heap.size, 1, none⟩) (by simp; omega) _⟩
end Go.Proofs.YtlpfhabfbnjnbaaDoor

/- A text of a cage is drawn, and perhaps spoilt. -/
namespace Go.Proofs.YtlpfhabfbnjnbaaDoor
open Go.RowKit

theorem fmt_size {ws : List ByteArray} {bs : List Int} (h : cageB ws bs = true) : 1 ≤ (fmtC ws bs).size ∧ (fmtC ws bs).size ≤ 100 := by
  have h1 := join_len (d := 32) (whl_len h)
  have h2 := join_len (d := 32) (bar_len h)
  obtain ⟨⟨l1, l2, l3, l4⟩, -, -⟩ := cage_iff.1 h
  rw [List.length_map] at h1 h2
  unfold fmtC
  rw [if_pos h, size_S]
  simp only [fmtL, List.length_append, List.length_cons]
  omega
set_option maxRecDepth 100000 in
set_option maxHeartbeats 1000000 in
theorem DrawParseCage_any (a : Option Addr) (len cap : Nat) (zs : List Int) (w : World) (h : IsRow .u8 w a len cap zs) (hl : len ≤ 1048576) :
    Calls Tryd.prog 15 #[.slice a len cap] w fun e w' => ∃ s : ByteArray, s.size ≤ 1000 ∧ e = .returned (.string s) ∧ Below w.heap.size w w' := by
  go_enter Tryd.func15, Tryd.ntmps15
  go_wp2_with fail
  refine (l21Open_any a len cap zs w h hl).mono ?_
  rintro e w1 ⟨rfl, hr1, hb1⟩
  go_wp2_with fail
  refine (l15Some_any w.heap.size 0 w1 hr1 (by omega)).mono ?_
  rintro e w2 ⟨v1, v2, v3, ws, bs, ps, rfl, hln, hcg, cw⟩
  obtain ⟨a1, c1, rfl, -, -, hga1⟩ := OwR.val cw.o1
  obtain ⟨g1, rfl, hg1, oW⟩ := hga1.resolve_left (by omega)
  obtain ⟨a2, c2, rfl, -, -, hga2⟩ := OwR.val cw.o2
  obtain ⟨g2, rfl, hg2, oB⟩ := hga2.resolve_left (by omega)
  have cw2 := cw.alloc (.cells [.slice (some ⟨g1, 0, none⟩) ws.length c1, .slice (some ⟨g2, 0, none⟩) bs.length c2].toArray 25)
  have oW2 := oW.alloc (.cells [.slice (some ⟨g1, 0, none⟩) ws.length c1, .slice (some ⟨g2, 0, none⟩) bs.length c2].toArray 25)
  have oB2 := oB.alloc (.cells [.slice (some ⟨g1, 0, none⟩) ws.length c1, .slice (some ⟨g2, 0, none⟩) bs.length c2].toArray 25)
  have hbw := (hb1.trans (cw.mv.toBelow (Nat.le_refl _) hb1.size)).alloc (by have := cw.mv.size; have := hb1.size; omega) (.cells [.slice (some ⟨g1, 0, none⟩) ws.length c1, .slice (some ⟨g2, 0, none⟩) bs.length c2].toArray 25)
  have nf := fun W r1 r2 => specFormatCage_any (some ⟨g1, 0, none⟩) (some ⟨g2, 0, none⟩) c1 c2 ws bs W r1 r2 (fun s hs => by have := (bitsB_size ((cage_iff.1 hcg).2.1 s hs)).2; omega) (by omega) (by omega)
  obtain ⟨hf1, hf2⟩ := fmt_size hcg
  generalize fmtC ws bs = s at *
  clear oW oB cw hb1 hr1 hcg hga1 hga2
  go_wp2_with fail
  generalize (w2.alloc (.cells [.slice (some ⟨g1, 0, none⟩) ws.length c1, .slice (some ⟨g2, 0, none⟩) bs.length c2].toArray 25)) = w3 at *
  refine (nf w3 (Reads.of_own oW2 oW2.lt) (Reads.of_own oB2 oB2.lt)).mono ?_
  rintro e w4 ⟨rfl, hb4⟩
  have hr4 := cw2.rd.below hb4 cw2.rd.lt
  have hbw4 := hbw.trans (hb4.mono hbw.size)
  clear nf oW2 oB2 cw2 hbw hb4
  go_wp2_with fail
  refine (pick_any w.heap.size _ _ w4 hr4 (by omega) (by omega) (by omega)).mono ?_
  rintro e w5 ⟨y, rfl, hy0, hy1, _, hr5, hm5⟩
  have hbw5 := hbw4.trans (hm5.toBelow (Nat.le_refl _) hbw4.size)
  clear hr4 hm5 hbw4 hy1
  by_cases j0 : y = 0
  · have t0 : (y == 0) = true := by simp [j0]
    clear j0
    go_wp2_with fail
    go_ret
    exact ⟨s, by omega, rfl, hbw5⟩
  · have t0 : (y == 0) = false := by simp [j0]
    clear j0
    go_wp2_with fail
    refine (pick_any w.heap.size _ _ w5 hr5 (by omega) (by omega) (by omega)).mono ?_
    rintro e w6 ⟨x, rfl, hx0, hx1, _, hr6, hm6⟩
    obtain ⟨k, rfl⟩ := Int.eq_ofNat_of_zero_le hx0
    have hk : k < s.size := by have := hx1 (by omega); omega
    have hbw6 := hbw5.trans (hm6.toBelow (Nat.le_refl _) hbw5.size)
    have hz6 := hbw6.size
    have q1 : (0 : Int) ≤ (k : Int) := by omega
    have q2 : (k : Int) ≤ (s.size : Int) := by omega
    clear hr5 hm6 hbw5 hx1
    obtain ⟨A, hA⟩ : ∃ A, s.extract 0 k = A := ⟨_, rfl⟩
    have hA1 : A.size ≤ 100 := by rw [← hA, ByteArray.size_extract]; omega
    have HK := Lib.hid hk
    go_wp2_with fail
    go_region_law (first | (go_simp; go_at_call 40; refine (of_any w.heap.size _ _ _ [⟨#[]⟩, ⟨#[49]⟩, ⟨#[48]⟩, ⟨#[32]⟩, ⟨#[47]⟩, ⟨#[57]⟩] _ _ rfl (by first | exact Own.new _ _ _ | exact (Own.new _ _ _).drew) (by simp) (by have := hr6.lt; simp; omega) (by first | exact hr6.drew.alloc _ | exact (hr6.alloc _).drew) (by omega) (by simp)).mono ?_; rintro e w7 ⟨t, ht, rfl, hr7, hm7⟩; have hm7' : Moved w.heap.size w6 w7 := (by first | exact ((Moved.refl _ w6).drew.alloc _).trans hm7 | exact (((Moved.refl _ w6).alloc _).drew).trans hm7); have ht1 : t.size ≤ 1 := (by simp at ht; rcases ht with rfl | rfl | rfl | rfl | rfl | rfl <;> decide); have n1 : ¬ 9223372036854775807 < A.size + t.size := (by omega); clear ht) | (go_simp; go_at_call 39; refine (pick_any w.heap.size _ _ _ (by first | exact hr7 | exact hr7.drew) (by omega) (by omega) (by omega)).mono ?_; rintro e w8 ⟨p, rfl, hp0, hp1, _, hr8, hm8⟩; obtain ⟨p, rfl⟩ := Int.eq_ofNat_of_zero_le hp0; have hp2 : p < 2 := (by have := hp1 (by omega); omega); obtain ⟨q, hq⟩ : ∃ q, k + p = q := ⟨_, rfl⟩; have hkp : q ≤ s.size := (by have := HK.out; omega); have hwq : IntKind.i64.wrap ((k : Int) + (p : Int)) = (q : Int) := (by rw [← hq, IntWalk.i64_in _ (by omega)]; omega); have hkp1 : (0 : Int) ≤ (q : Int) := (by omega); have hkp2 : (q : Int) ≤ (s.size : Int) := (by omega); clear hq; obtain ⟨C, hC⟩ : ∃ C, s.extract q s.size = C := ⟨_, rfl⟩; have hC1 : C.size ≤ 100 := (by rw [← hC, ByteArray.size_extract]; omega); have n2 : ¬ 9223372036854775807 < A.size + t.size + C.size := (by omega); clear hp1))
    all_goals
      have hbw7 := hbw6.trans (hm7'.toBelow (Nat.le_refl _) hbw6.size)
      have hbw8 := hbw7.trans ((show Moved w.heap.size w7 w8 from hm8).toBelow (Nat.le_refl _) hbw7.size)
      have hsz : (A ++ t ++ C).size ≤ 1000 := by rw [ByteArray.size_append, ByteArray.size_append]; omega
      go_wp2
      go_ret
      exact ⟨_, hsz, rfl, hbw8⟩
end Go.Proofs.YtlpfhabfbnjnbaaDoor

/- The walk of the law that a cage is parsed from its text. -/
namespace Go.Proofs.YtlpfhabfbnjnbaaDoor
open Go.RowKit

theorem bxw {a b c : World} (h : Below a.heap.size a b) (k : Below b.heap.size b c) : Below a.heap.size a c := h.trans (k.mono h.size)
set_option maxRecDepth 100000 in
set_option maxHeartbeats 4000000 in
theorem cageText_walk (a1 : Option Addr) (len1 cap1 : Nat) (zs1 : List Int) (a2 : Option Addr) (len2 cap2 : Nat) (zs2 : List Int) (w : World) (h1 : IsRow .u8 w a1 len1 cap1 zs1) (h2 : IsRow .u8 w a2 len2 cap2 zs2) (hG : GlB w) :
    Calls Tryd.prog 4 #[.slice a1 len1 cap1, .slice a2 len2 cap2] w fun e w' => e = .returned (.bool true) ∧ Below w.heap.size w w' := by
  have hlen1 : len1 ≤ 9223372036854775807 := by
    rcases h1 with ⟨_, rfl, _⟩ | ⟨x, _, hl, hm, _⟩
    · omega
    · unfold maxLen at hm; omega
  have hlen2 : len2 ≤ 9223372036854775807 := by
    rcases h2 with ⟨_, rfl, _⟩ | ⟨x, _, hl, hm, _⟩
    · omega
    · unfold maxLen at hm; omega
  by_cases hl1 : 1048576 < len1
  · go_enter Tryd.func4, Tryd.ntmps4
    go_wp2
    go_ret
    exact ⟨rfl, Below.refl _ _⟩
  by_cases hl2 : 1048576 < len2
  · go_enter Tryd.func4, Tryd.ntmps4
    go_wp2
    go_ret
    exact ⟨rfl, Below.refl _ _⟩
  go_enter Tryd.func4, Tryd.ntmps4
  go_wp2_with fail
  refine (DrawFormatCage_any a1 len1 cap1 zs1 w h1 (by omega)).mono ?_
  rintro e w1 ⟨hb1, v1, v2, ws, bs, rfl, g1, d1, g2, d2, rfl, rfl, n1, n2, n3, n4, n5, n6, oW, oB⟩
  have B5 := Own.new w1 [.slice (some ⟨g1, 0, none⟩) ws.length d1, .slice (some ⟨g2, 0, none⟩) bs.length d2] 25
  have oW1 := oW.alloc (.cells [.slice (some ⟨g1, 0, none⟩) ws.length d1, .slice (some ⟨g2, 0, none⟩) bs.length d2].toArray 25)
  have oB1 := oB.alloc (.cells [.slice (some ⟨g1, 0, none⟩) ws.length d1, .slice (some ⟨g2, 0, none⟩) bs.length d2].toArray 25)
  have hbw := hb1.alloc hb1.size (.cells [.slice (some ⟨g1, 0, none⟩) ws.length d1, .slice (some ⟨g2, 0, none⟩) bs.length d2].toArray 25)
  clear oW oB hb1
  go_wp2_with fail
  generalize (w1.alloc (.cells [.slice (some ⟨g1, 0, none⟩) ws.length d1, .slice (some ⟨g2, 0, none⟩) bs.length d2].toArray 25)) = W1 at *
  generalize w1.heap.size = b5 at *
  have hz : ∀ s ∈ ws, s.size ≤ 4294967296 := fun s hs => by have := n4 s hs; omega
  refine (implFormatCage_any (some ⟨g1, 0, none⟩) (some ⟨g2, 0, none⟩) d1 d2 ws bs W1 (Reads.of_own oW1 oW1.lt) (Reads.of_own oB1 oB1.lt) hz (by omega) (by omega) n2).mono ?_
  rintro e w2 ⟨rfl, hb2⟩
  have B5a := B5.below hb2 B5.lt
  have oW2 := oW1.below hb2 oW1.lt
  have oB2 := oB1.below hb2 oB1.lt
  have hbw2 := bxw hbw hb2
  have e0 := B5a.at_ (i := 0) rfl
  have e1 := B5a.at_ (i := 1) rfl
  clear B5 oW1 oB1 hbw hb2
  have HT : Hid ((cageB ws bs = true → ansIs (fmtC ws bs) ws bs) ∧ (cageB ws bs = true → 0 < (fmtC ws bs).size ∧ (fmtC ws bs).size ≤ 100) ∧ (¬ cageB ws bs = true → (fmtC ws bs).size = 0)) := Lib.hid ⟨fun hc => ⟨hc, rfl⟩, fun hc => by have := fmt_size hc; omega, fun hc => by unfold fmtC; rw [if_neg hc, size_S]; rfl⟩
  have nsf := fun W r1 r2 => specFormatCage_any (some ⟨g1, 0, none⟩) (some ⟨g2, 0, none⟩) d1 d2 ws bs W r1 r2 hz (by omega) (by omega)
  have nva := fun W r1 r2 => implCageValid_any (some ⟨g1, 0, none⟩) (some ⟨g2, 0, none⟩) d1 d2 ws bs W r1 r2 hz (by omega) (by omega)
  generalize fmtC ws bs = t at *
  have tt : (t.toList == t.toList) = true := by simp
  go_wp2_with fail
  refine (nsf w2 (Reads.of_own oW2 oW2.lt) (Reads.of_own oB2 oB2.lt)).mono ?_
  rintro e w3 ⟨rfl, hb3⟩
  have B5b := B5a.below hb3 B5a.lt
  have oW3 := oW2.below hb3 oW2.lt
  have oB3 := oB2.below hb3 oB2.lt
  have hbw3 := bxw hbw2 hb3
  have e0 := B5b.at_ (i := 0) rfl
  have e1 := B5b.at_ (i := 1) rfl
  clear B5a oW2 oB2 hbw2 hb3 nsf
  have nv := nva w3 (Reads.of_own oW3 oW3.lt) (Reads.of_own oB3 oB3.lt)
  by_cases hc : cageB ws bs = true
  · obtain ⟨ht1, ht2, -⟩ := HT.out
    have hans0 := ht1 hc
    obtain ⟨hp0, hp1⟩ := ht2 hc
    obtain ⟨E1, E2⟩ := ne_empty (s := t) (by omega)
    rw [hc] at nv
    clear ht1 ht2 hc
    go_wp2_with fail
    refine nv.mono ?_
    rintro e w4 ⟨rfl, hb4⟩
    have B5c := B5b.below hb4 B5b.lt
    have oW4 := oW3.below hb4 oW3.lt
    have oB4 := oB3.below hb4 oB3.lt
    have hbw4 := bxw hbw3 hb4
    have hG4 := hG.below hbw4
    clear B5b oW3 oB3 hbw3 hb4 nva e0 e1
    go_wp2_with fail
    refine (implParseCage_any t w4 hG4 (by omega)).mono ?_
    rintro e w5 ⟨hb5, ⟨ws', bs', s1, k1, s2, k2, hans', rfl, hs1, hs2, hs12, hk1, oS1, oS2⟩ | ⟨hno, rfl⟩⟩
    case inr => exact absurd hans0 (hno ws bs)
    obtain ⟨rfl, rfl⟩ := ans_one hans0 hans'
    have hbw5 := (bxw hbw4 hb5).alloc (bxw hbw4 hb5).size (.cells [.slice (some ⟨s1, 0, none⟩) ws.length k1, .slice (some ⟨s2, 0, none⟩) bs.length k2].toArray 25)
    have B5d := (B5c.below hb5 B5c.lt).alloc (.cells [.slice (some ⟨s1, 0, none⟩) ws.length k1, .slice (some ⟨s2, 0, none⟩) bs.length k2].toArray 25)
    have oW5 := (oW4.below hb5 oW4.lt).alloc (.cells [.slice (some ⟨s1, 0, none⟩) ws.length k1, .slice (some ⟨s2, 0, none⟩) bs.length k2].toArray 25)
    have oB5 := (oB4.below hb5 oB4.lt).alloc (.cells [.slice (some ⟨s1, 0, none⟩) ws.length k1, .slice (some ⟨s2, 0, none⟩) bs.length k2].toArray 25)
    have oS1a := oS1.alloc (.cells [.slice (some ⟨s1, 0, none⟩) ws.length k1, .slice (some ⟨s2, 0, none⟩) bs.length k2].toArray 25)
    have oS2a := oS2.alloc (.cells [.slice (some ⟨s1, 0, none⟩) ws.length k1, .slice (some ⟨s2, 0, none⟩) bs.length k2].toArray 25)
    have e0 := B5d.at_ (i := 0) rfl
    have e1 := B5d.at_ (i := 1) rfl
    clear B5c oW4 oB4 hbw4 hb5 hG4 oS1 oS2 hans' hans0
    go_wp2_with fail
    generalize (w5.alloc (.cells [.slice (some ⟨s1, 0, none⟩) ws.length k1, .slice (some ⟨s2, 0, none⟩) bs.length k2].toArray 25)) = W5 at *
    refine (rcCages_any (some ⟨s1, 0, none⟩) (some ⟨s2, 0, none⟩) (some ⟨g1, 0, none⟩) (some ⟨g2, 0, none⟩) k1 k2 d1 d2 ws ws bs bs W5 (Reads.of_own oS1a oS1a.lt) (Reads.of_own oS2a oS2a.lt) (Reads.of_own oW5 oW5.lt) (Reads.of_own oB5 oB5.lt) (by omega) (by omega)).mono ?_
    rintro e w6 ⟨rfl, hb6⟩
    rw [show (decide (ws = ws) && decide (bs = bs)) = true by simp]
    have hbw6 := bxw hbw5 hb6
    clear B5d oW5 oB5 oS1a oS2a hbw5 hb6 e0 e1 nv tt E1 E2 HT
    go_wp2_with fail
    have h2z := h2.below_ hbw6
    have hGz := hG.below hbw6
    refine (DrawParseCage_any a2 len2 cap2 zs2 w6 h2z (by omega)).mono ?_
    rintro e x1 ⟨u, hu, rfl, hx1⟩
    have hbx1 := bxw hbw6 hx1
    have hGx1 := hGz.below hx1
    have tu : (u.toList == u.toList) = true := by simp
    go_wp2_with fail
    refine (implParseCage_any u x1 hGx1 (by omega)).mono ?_
    rintro e x2 ⟨hx2, ⟨us, cs, p1, k1, p2, k2, hans, rfl, hp1, hp2, hp12, hk1, oP1, oP2⟩ | ⟨hno, rfl⟩⟩
    · obtain ⟨y1, y2, y3, y4⟩ := (show us.length ≤ 1048576 ∧ cs.length ≤ 1048576 ∧ us.length ≤ 4 ∧ cs.length ≤ 9 by have := (cage_iff.1 hans.1).1; omega)
      have hbx2 := (bxw hbx1 hx2).alloc (bxw hbx1 hx2).size (.cells [.slice (some ⟨p1, 0, none⟩) us.length k1, .slice (some ⟨p2, 0, none⟩) cs.length k2].toArray 25)
      have B10 := Own.new x2 [.slice (some ⟨p1, 0, none⟩) us.length k1, .slice (some ⟨p2, 0, none⟩) cs.length k2] 25
      have q1 := oP1.alloc (.cells [.slice (some ⟨p1, 0, none⟩) us.length k1, .slice (some ⟨p2, 0, none⟩) cs.length k2].toArray 25)
      have q2 := oP2.alloc (.cells [.slice (some ⟨p1, 0, none⟩) us.length k1, .slice (some ⟨p2, 0, none⟩) cs.length k2].toArray 25)
      clear oP1 oP2 hx1 hx2 hbx1 hGz
      go_wp2_with fail
      generalize (x2.alloc (.cells [.slice (some ⟨p1, 0, none⟩) us.length k1, .slice (some ⟨p2, 0, none⟩) cs.length k2].toArray 25)) = X2 at *
      generalize x2.heap.size = b10 at *
      refine (specParseCage_any u X2 (by omega)).mono ?_
      rintro e x3 ⟨hx3, ⟨us', cs', r1, m1, r2, m2, hans', rfl, hr1, hr2, hr12, hm1, oR1, oR2⟩ | ⟨hno, rfl⟩⟩
      case inr => exact absurd hans (hno us cs)
      obtain ⟨rfl, rfl⟩ := ans_one hans hans'
      have hbx3 := (bxw hbx2 hx3).alloc (bxw hbx2 hx3).size (.cells [.slice (some ⟨r1, 0, none⟩) us.length m1, .slice (some ⟨r2, 0, none⟩) cs.length m2].toArray 25)
      have B10a := (B10.below hx3 B10.lt).alloc (.cells [.slice (some ⟨r1, 0, none⟩) us.length m1, .slice (some ⟨r2, 0, none⟩) cs.length m2].toArray 25)
      have q1a := (q1.below hx3 q1.lt).alloc (.cells [.slice (some ⟨r1, 0, none⟩) us.length m1, .slice (some ⟨r2, 0, none⟩) cs.length m2].toArray 25)
      have q2a := (q2.below hx3 q2.lt).alloc (.cells [.slice (some ⟨r1, 0, none⟩) us.length m1, .slice (some ⟨r2, 0, none⟩) cs.length m2].toArray 25)
      have o1a := oR1.alloc (.cells [.slice (some ⟨r1, 0, none⟩) us.length m1, .slice (some ⟨r2, 0, none⟩) cs.length m2].toArray 25)
      have o2a := oR2.alloc (.cells [.slice (some ⟨r1, 0, none⟩) us.length m1, .slice (some ⟨r2, 0, none⟩) cs.length m2].toArray 25)
      have f0 := B10a.at_ (i := 0) rfl
      have f1 := B10a.at_ (i := 1) rfl
      have hfu : fmtC us cs = u := hans.2
      have huz : ∀ s ∈ us, s.size ≤ 4294967296 := fun s hs => by have := (bitsB_size ((cage_iff.1 hans.1).2.1 s hs)).2; omega
      clear B10 q1 q2 oR1 oR2 hbx2 hx3
      go_wp2_with fail
      generalize (x3.alloc (.cells [.slice (some ⟨r1, 0, none⟩) us.length m1, .slice (some ⟨r2, 0, none⟩) cs.length m2].toArray 25)) = X3 at *
      refine (rcCages_any (some ⟨p1, 0, none⟩) (some ⟨p2, 0, none⟩) (some ⟨r1, 0, none⟩) (some ⟨r2, 0, none⟩) k1 k2 m1 m2 us us cs cs X3 (Reads.of_own q1a q1a.lt) (Reads.of_own q2a q2a.lt) (Reads.of_own o1a o1a.lt) (Reads.of_own o2a o2a.lt) y1 y2).mono ?_
      rintro e x4 ⟨rfl, hx4⟩
      rw [show (decide (us = us) && decide (cs = cs)) = true by simp]
      have hbx4 := bxw hbx3 hx4
      have B10b := B10a.below hx4 B10a.lt
      have q1b := q1a.below hx4 q1a.lt
      have q2b := q2a.below hx4 q2a.lt
      have f0 := B10b.at_ (i := 0) rfl
      have f1 := B10b.at_ (i := 1) rfl
      have nff := implFormatCage_any (some ⟨p1, 0, none⟩) (some ⟨p2, 0, none⟩) k1 k2 us cs x4 (Reads.of_own q1b q1b.lt) (Reads.of_own q2b q2b.lt) huz (by omega) (by omega) hk1
      rw [hfu] at nff
      clear B10a q1a q2a o1a o2a hbx3 hx4 hans hans' hfu
      go_wp2_with fail
      refine nff.mono ?_
      rintro e x5 ⟨rfl, hx5⟩
      go_wp2
      go_ret
      exact ⟨rfl, bxw hbx4 hx5⟩
    · have hbx2 := (bxw hbx1 hx2).alloc (bxw hbx1 hx2).size (.cells [.slice none 0 0, .slice none 0 0].toArray 25)
      have B10 := Own.new x2 [.slice none 0 0, .slice none 0 0] 25
      clear hx1 hx2 hbx1 hGz
      go_wp2_with fail
      generalize (x2.alloc (.cells [.slice none 0 0, .slice none 0 0].toArray 25)) = X2 at *
      generalize x2.heap.size = b10 at *
      refine (specParseCage_any u X2 (by omega)).mono ?_
      rintro e x3 ⟨hx3, ⟨us', cs', r1, m1, r2, m2, hans', rfl, hr1, hr2, hr12, hm1, oR1, oR2⟩ | ⟨-, rfl⟩⟩
      case inl => exact absurd hans' (hno us' cs')
      have hbx3 := (bxw hbx2 hx3).alloc (bxw hbx2 hx3).size (.cells [.slice none 0 0, .slice none 0 0].toArray 25)
      have B10a := (B10.below hx3 B10.lt).alloc (.cells [.slice none 0 0, .slice none 0 0].toArray 25)
      have f0 := B10a.at_ (i := 0) rfl
      have f1 := B10a.at_ (i := 1) rfl
      have nrc := fun W => rcCages_any none none none none 0 0 0 0 [] [] [] [] W .nil_ .nil_ .nil_ .nil_ (by simp) (by simp)
      rw [show (decide (([] : List ByteArray) = []) && decide (([] : List Int) = [])) = true by simp] at nrc
      simp only [List.length_nil] at nrc
      clear B10 hbx2 hx3
      go_wp2_with fail
      generalize (x3.alloc (.cells [.slice none 0 0, .slice none 0 0].toArray 25)) = X3 at *
      refine (nrc X3).mono ?_
      rintro e x4 ⟨rfl, hx4⟩
      go_wp2
      go_ret
      exact ⟨rfl, bxw hbx3 hx4⟩
  · obtain ⟨-, -, ht3⟩ := HT.out
    obtain ⟨E1, E2⟩ := is_empty (ht3 hc)
    have hcf : cageB ws bs = false := by rw [Bool.eq_false_iff]; exact hc
    rw [hcf] at nv
    clear ht3 hc
    go_wp2_with fail
    refine nv.mono ?_
    rintro e w4 ⟨rfl, hb4⟩
    have hbw4 := bxw hbw3 hb4
    clear B5b oW3 oB3 hbw3 hb4 nva e0 e1
    go_wp2_with fail
    have h2z := h2.below_ hbw4
    have hGz := hG.below hbw4
    refine (DrawParseCage_any a2 len2 cap2 zs2 w4 h2z (by omega)).mono ?_
    rintro e x1 ⟨u, hu, rfl, hx1⟩
    have hbx1 := bxw hbw4 hx1
    have hGx1 := hGz.below hx1
    have tu : (u.toList == u.toList) = true := by simp
    go_wp2_with fail
    refine (implParseCage_any u x1 hGx1 (by omega)).mono ?_
    rintro e x2 ⟨hx2, ⟨us, cs, p1, k1, p2, k2, hans, rfl, hp1, hp2, hp12, hk1, oP1, oP2⟩ | ⟨hno, rfl⟩⟩
    · obtain ⟨y1, y2, y3, y4⟩ := (show us.length ≤ 1048576 ∧ cs.length ≤ 1048576 ∧ us.length ≤ 4 ∧ cs.length ≤ 9 by have := (cage_iff.1 hans.1).1; omega)
      have hbx2 := (bxw hbx1 hx2).alloc (bxw hbx1 hx2).size (.cells [.slice (some ⟨p1, 0, none⟩) us.length k1, .slice (some ⟨p2, 0, none⟩) cs.length k2].toArray 25)
      have B10 := Own.new x2 [.slice (some ⟨p1, 0, none⟩) us.length k1, .slice (some ⟨p2, 0, none⟩) cs.length k2] 25
      have q1 := oP1.alloc (.cells [.slice (some ⟨p1, 0, none⟩) us.length k1, .slice (some ⟨p2, 0, none⟩) cs.length k2].toArray 25)
      have q2 := oP2.alloc (.cells [.slice (some ⟨p1, 0, none⟩) us.length k1, .slice (some ⟨p2, 0, none⟩) cs.length k2].toArray 25)
      clear oP1 oP2 hx1 hx2 hbx1 hGz
      go_wp2_with fail
      generalize (x2.alloc (.cells [.slice (some ⟨p1, 0, none⟩) us.length k1, .slice (some ⟨p2, 0, none⟩) cs.length k2].toArray 25)) = X2 at *
      generalize x2.heap.size = b10 at *
      refine (specParseCage_any u X2 (by omega)).mono ?_
      rintro e x3 ⟨hx3, ⟨us', cs', r1, m1, r2, m2, hans', rfl, hr1, hr2, hr12, hm1, oR1, oR2⟩ | ⟨hno, rfl⟩⟩
      case inr => exact absurd hans (hno us cs)
      obtain ⟨rfl, rfl⟩ := ans_one hans hans'
      have hbx3 := (bxw hbx2 hx3).alloc (bxw hbx2 hx3).size (.cells [.slice (some ⟨r1, 0, none⟩) us.length m1, .slice (some ⟨r2, 0, none⟩) cs.length m2].toArray 25)
      have B10a := (B10.below hx3 B10.lt).alloc (.cells [.slice (some ⟨r1, 0, none⟩) us.length m1, .slice (some ⟨r2, 0, none⟩) cs.length m2].toArray 25)
      have q1a := (q1.below hx3 q1.lt).alloc (.cells [.slice (some ⟨r1, 0, none⟩) us.length m1, .slice (some ⟨r2, 0, none⟩) cs.length m2].toArray 25)
      have q2a := (q2.below hx3 q2.lt).alloc (.cells [.slice (some ⟨r1, 0, none⟩) us.length m1, .slice (some ⟨r2, 0, none⟩) cs.length m2].toArray 25)
      have o1a := oR1.alloc (.cells [.slice (some ⟨r1, 0, none⟩) us.length m1, .slice (some ⟨r2, 0, none⟩) cs.length m2].toArray 25)
      have o2a := oR2.alloc (.cells [.slice (some ⟨r1, 0, none⟩) us.length m1, .slice (some ⟨r2, 0, none⟩) cs.length m2].toArray 25)
      have f0 := B10a.at_ (i := 0) rfl
      have f1 := B10a.at_ (i := 1) rfl
      have hfu : fmtC us cs = u := hans.2
      have huz : ∀ s ∈ us, s.size ≤ 4294967296 := fun s hs => by have := (bitsB_size ((cage_iff.1 hans.1).2.1 s hs)).2; omega
      clear B10 q1 q2 oR1 oR2 hbx2 hx3
      go_wp2_with fail
      generalize (x3.alloc (.cells [.slice (some ⟨r1, 0, none⟩) us.length m1, .slice (some ⟨r2, 0, none⟩) cs.length m2].toArray 25)) = X3 at *
      refine (rcCages_any (some ⟨p1, 0, none⟩) (some ⟨p2, 0, none⟩) (some ⟨r1, 0, none⟩) (some ⟨r2, 0, none⟩) k1 k2 m1 m2 us us cs cs X3 (Reads.of_own q1a q1a.lt) (Reads.of_own q2a q2a.lt) (Reads.of_own o1a o1a.lt) (Reads.of_own o2a o2a.lt) y1 y2).mono ?_
      rintro e x4 ⟨rfl, hx4⟩
      rw [show (decide (us = us) && decide (cs = cs)) = true by simp]
      have hbx4 := bxw hbx3 hx4
      have B10b := B10a.below hx4 B10a.lt
      have q1b := q1a.below hx4 q1a.lt
      have q2b := q2a.below hx4 q2a.lt
      have f0 := B10b.at_ (i := 0) rfl
      have f1 := B10b.at_ (i := 1) rfl
      have nff := implFormatCage_any (some ⟨p1, 0, none⟩) (some ⟨p2, 0, none⟩) k1 k2 us cs x4 (Reads.of_own q1b q1b.lt) (Reads.of_own q2b q2b.lt) huz (by omega) (by omega) hk1
      rw [hfu] at nff
      clear B10a q1a q2a o1a o2a hbx3 hx4 hans hans' hfu
      go_wp2_with fail
      refine nff.mono ?_
      rintro e x5 ⟨rfl, hx5⟩
      go_wp2
      go_ret
      exact ⟨rfl, bxw hbx4 hx5⟩
    · have hbx2 := (bxw hbx1 hx2).alloc (bxw hbx1 hx2).size (.cells [.slice none 0 0, .slice none 0 0].toArray 25)
      have B10 := Own.new x2 [.slice none 0 0, .slice none 0 0] 25
      clear hx1 hx2 hbx1 hGz
      go_wp2_with fail
      generalize (x2.alloc (.cells [.slice none 0 0, .slice none 0 0].toArray 25)) = X2 at *
      generalize x2.heap.size = b10 at *
      refine (specParseCage_any u X2 (by omega)).mono ?_
      rintro e x3 ⟨hx3, ⟨us', cs', r1, m1, r2, m2, hans', rfl, hr1, hr2, hr12, hm1, oR1, oR2⟩ | ⟨-, rfl⟩⟩
      case inl => exact absurd hans' (hno us' cs')
      have hbx3 := (bxw hbx2 hx3).alloc (bxw hbx2 hx3).size (.cells [.slice none 0 0, .slice none 0 0].toArray 25)
      have B10a := (B10.below hx3 B10.lt).alloc (.cells [.slice none 0 0, .slice none 0 0].toArray 25)
      have f0 := B10a.at_ (i := 0) rfl
      have f1 := B10a.at_ (i := 1) rfl
      have nrc := fun W => rcCages_any none none none none 0 0 0 0 [] [] [] [] W .nil_ .nil_ .nil_ .nil_ (by simp) (by simp)
      rw [show (decide (([] : List ByteArray) = []) && decide (([] : List Int) = [])) = true by simp] at nrc
      simp only [List.length_nil] at nrc
      clear B10 hbx2 hx3
      go_wp2_with fail
      generalize (x3.alloc (.cells [.slice none 0 0, .slice none 0 0].toArray 25)) = X3 at *
      refine (nrc X3).mono ?_
      rintro e x4 ⟨rfl, hx4⟩
      go_wp2
      go_ret
      exact ⟨rfl, bxw hbx3 hx4⟩
end Go.Proofs.YtlpfhabfbnjnbaaDoor
