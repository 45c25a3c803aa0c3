/- Contracts of the functions that draw teleprinter machines that are sometimes not valid. -/
import Derived.Test.YtegbmjdaohnlaaaDrawTele
namespace Go.Proofs.Ytegbmjdaohnlaaa
open Go.RowKit

/-- What the drawing of a machine leaves. -/
def OpenTele (R c : Nat) (w : World) (e : Ending) (w' : World) : Prop :=
  ∃ v1 v2 chi psi m, e = .returned (.agg #[v1, v2, .string m]) ∧ chi.length ≤ 10 ∧ psi.length ≤ 10 ∧ m.size ≤ 1000 ∧ TeleOwn w' (R + 1) v1 v2 chi psi ∧ Rd w' R c ∧ Moved R w w'

/-- The end of the drawing: the struct is copied into the result's cell. -/
theorem TeleOwn.low {w : World} {base : Nat} {v1 v2 : Value} {chi psi : List ByteArray} (h : TeleOwn w base v1 v2 chi psi) {a : Addr} (ha : a.block < base) (u : Value) : TeleOwn (w.setCell a u) base v1 v2 chi psi :=
  ⟨h.own1.low ha u, h.own2.low ha u, h.apart, h.small1, h.small2⟩
theorem TeleOwn.keep {w w' : World} {base R : Nat} {v1 v2 : Value} {chi psi : List ByteArray} (h : TeleOwn w base v1 v2 chi psi) (hm : Moved R w w') (hR : R < base) : TeleOwn w' base v1 v2 chi psi :=
  ⟨h.own1.keep hm (ne_own h.own1 hR), h.own2.keep hm (ne_own h.own2 hR), h.apart, h.small1, h.small2⟩
theorem TeleOwn.alloc {w : World} {base : Nat} {v1 v2 : Value} {chi psi : List ByteArray} (h : TeleOwn w base v1 v2 chi psi) (o : Obj) : TeleOwn (w.alloc o) base v1 v2 chi psi :=
  ⟨World.ownsRow.alloc h.own1 o, World.ownsRow.alloc h.own2 o, h.apart, h.small1, h.small2⟩

theorem grown_set (w : World) (a : Addr) (u : Value) : w.grownBy (w.setCell a u) (some a.block) :=
  ⟨rfl, rfl, rfl, by simp [World.setCell], fun i _ hne => Below.heap_setCell w a u i (by rintro rfl; exact hne rfl)⟩
theorem OwnS.off {w : World} {base : Nat} {v : Value} {ss : List ByteArray} (h : OwnS w base v ss) {a : Addr} (ha : v.ownBlock ≠ some a.block) (u : Value) : OwnS (w.setCell a u) base v ss :=
  h.keep (grown_set w a u) (.inr ha)
theorem OwnS.lt {w : World} {base g : Nat} {v : Value} {ss : List ByteArray} (h : OwnS w base v ss) (e : v.ownBlock = some g) : base ≤ g ∧ g < w.heap.size := World.ownsRow.lt h g e
theorem TeleOwn.off {w : World} {base : Nat} {v1 v2 : Value} {chi psi : List ByteArray} (h : TeleOwn w base v1 v2 chi psi) {a : Addr} (h1 : v1.ownBlock ≠ some a.block) (h2 : v2.ownBlock ≠ some a.block) (u : Value) : TeleOwn (w.setCell a u) base v1 v2 chi psi :=
  ⟨h.own1.off h1 u, h.own2.off h2 u, h.apart, h.small1, h.small2⟩

theorem moved_grown {R : Nat} {w a b : World} {row : Option Nat} (h : Moved R w a) (hg : a.grownBy b row) (hr : ∀ g, row = some g → w.heap.size ≤ g) : Moved R w b :=
  ⟨hg.os.trans h.os, hg.tape.trans h.tape, hg.output.trans h.output, Nat.le_trans h.size hg.size, fun k hk hne => by
    rw [hg.block k (Nat.lt_of_lt_of_le hk h.size) (fun e => by have := hr k e.symm; omega)]
    exact h.block k hk hne⟩
/-- The end of the drawing: the struct is copied into the result's cell at block B0. -/
theorem tele_fin {w W : World} {R c c' B0 base : Nat} {v1 v2 x y : Value} {chi psi : List ByteArray} {m : ByteArray} {z : Value} (ht : TeleOwn W base v1 v2 chi psi) (hr : Rd W R c') (hmv : Moved R w W) (l1 : chi.length ≤ 10) (l2 : psi.length ≤ 10) (hm : m.size ≤ 1000)
    (hR : R < B0) (hB : B0 < base) (hw : w.heap.size ≤ B0) (hc : c' ≤ c) :
    OpenTele R c w (.returned (.agg #[v1, v2, .string m])) (((W.setCell ⟨B0, 0, none⟩ x).setCell ⟨B0, 1, none⟩ y).setCell ⟨B0, 2, none⟩ z) := by
  have h := ((ht.low (a := ⟨B0, 0, none⟩) hB x).low (a := ⟨B0, 1, none⟩) hB y).low (a := ⟨B0, 2, none⟩) hB z
  exact ⟨v1, v2, chi, psi, m, rfl, l1, l2, hm, ⟨ownS_base h.own1 (by omega), ownS_base h.own2 (by omega), h.apart, h.small1, h.small2⟩, (((hr.far (p := ⟨B0, 0, none⟩) hR _).far (p := ⟨B0, 1, none⟩) hR _).far (p := ⟨B0, 2, none⟩) hR _).more hc, ((hmv.set_ (.inr hw) _).set_ (.inr hw) _).set_ (.inr hw) _⟩

set_option maxRecDepth 100000 in
set_option maxHeartbeats 2000000 in
theorem l16Open_any (R : Nat) (c : Nat) (w : World) (h : Rd w R c) (hc : c ≤ 100000) :
    Calls Try.prog 43 #[.pointer (some ⟨R, 0, none⟩)] w (OpenTele R (c + 300) w) := by
  obtain ⟨i0, hi0, hz0, hz1, hz2⟩ := info_parts info_str'
  go_enter Try.func43, Try.ntmps43
  go_wp2_with fail
  refine (l16Some_any R c _ (h.alloc _) (by omega)).mono ?_
  rintro e w1 ⟨v1, v2, chi, psi, m, rfl, l1, l2, hm, ht, hr1, hm1⟩
  have hRw := h.lt
  have b0 : Own w1 w.heap.size [Value.slice none 0 0, Value.slice none 0 0, .string ⟨#[]⟩] := (Own.new w [Value.slice none 0 0, Value.slice none 0 0, .string ⟨#[]⟩] 30).grown hm1 (by simp; omega)
  have b0lt := b0.lt
  have hmv : Moved R w w1 := ((Moved.refl R w).alloc _).trans hm1
  have hs0 : (w.alloc (.cells #[Value.slice none 0 0, Value.slice none 0 0, .string ⟨#[]⟩] 30)).heap.size = w.heap.size + 1 := by simp
  rw [hs0] at ht
  clear hm1 hs0
  obtain ⟨g1, cp1, rfl, hg1, hg1'⟩ := World.ownsRow.form ht.own1 (by omega)
  obtain ⟨g2, cp2, rfl, hg2, hg2'⟩ := World.ownsRow.form ht.own2 (by omega)
  have hg12 : g1 ≠ g2 := fun e => ht.apart g1 rfl (by rw [e]; rfl)
  have L1 := Lib.hid l1
  have L2 := Lib.hid l2
  have hc3 : chi.length ≤ 3 := by omega
  have hc3' : 3 ≤ chi.length := by omega
  have hp3 : psi.length ≤ 3 := by omega
  clear l1 l2
  go_wp2_with fail
  have o1 := Own.new w1 [Value.slice (some ⟨g1, 0, none⟩) chi.length cp1, Value.slice (some ⟨g2, 0, none⟩) psi.length cp2, .string m] 30
  have o0 := b0.alloc (.cells #[Value.slice (some ⟨g1, 0, none⟩) chi.length cp1, Value.slice (some ⟨g2, 0, none⟩) psi.length cp2, .string m] 30)
  have hr := hr1.alloc (.cells #[Value.slice (some ⟨g1, 0, none⟩) chi.length cp1, Value.slice (some ⟨g2, 0, none⟩) psi.length cp2, .string m] 30)
  have hmv' := hmv.alloc (.cells #[Value.slice (some ⟨g1, 0, none⟩) chi.length cp1, Value.slice (some ⟨g2, 0, none⟩) psi.length cp2, .string m] 30)
  have ht' := ht.alloc (.cells #[Value.slice (some ⟨g1, 0, none⟩) chi.length cp1, Value.slice (some ⟨g2, 0, none⟩) psi.length cp2, .string m] 30)
  clear hr1 hmv ht b0
  generalize (w1.alloc (.cells #[Value.slice (some ⟨g1, 0, none⟩) chi.length cp1, Value.slice (some ⟨g2, 0, none⟩) psi.length cp2, .string m] 30)) = W1 at *
  generalize hB1 : w1.heap.size = B1 at *
  generalize hB0 : w.heap.size = B0 at *
  have HB0 := Lib.hid hB0
  clear hB1 hB0
  refine (pick_any R _ _ W1 hr (by omega) (by omega) (by omega)).mono ?_
  rintro e w2 ⟨u, rfl, hu0, hu1, _, hr2, hm2⟩
  have hmv2 := hmv'.trans hm2
  have ht2 := ht'.keep hm2 (by omega)
  have p0 := o0.grown hm2 (by simp; omega)
  have p1 := o1.grown hm2 (by simp; omega)
  clear hu1 hmv' ht' o0 o1 hr hm2
  by_cases e0 : u = 0
  · have t0 : (u == 0) = true := by simp [e0]
    clear e0
    have f0 := p1.at_ (i := 0) rfl
    have lt1 := p1.lt
    have lt0 := p0.lt
    have lg1 := (OwnS.lt ht2.own1 (g := g1) rfl).2
    have nB : ¬ g1 = B1 := by omega
    go_upto_region 4 with fail
    go_region_held3 (fun w' => w'.cell? ⟨B1, 0, none⟩ = some (.slice (some ⟨g1, 0, none⟩) chi.length cp1))
      (first | go_keep | exact x4 | exact x3)
      (first
        | (go_at_call 53; refine (pick_any R _ _ _ (by first | exact hr2.drew | exact hr2.drew.alloc _) (by omega) (by omega) (by omega)).mono ?_; rintro e w3 ⟨x, rfl, hx0, hx1, _, hr3, hm3⟩; obtain ⟨q, rfl⟩ := Int.eq_ofNat_of_zero_le hx0; have hq : q < 3 := (by have := hx1 (by omega); omega); clear hx1; have hq1 : (0 : Int) ≤ (q : Int) := (by omega); have hq2 : (q : Int) < (chi.length : Int) := (by omega); have hm3' : Moved R w2 w3 := (by first | exact ((Moved.refl R w2).drew).trans hm3 | exact (((Moved.refl R w2).drew).alloc _).trans hm3); have x3 : w3.cell? ⟨B1, 0, none⟩ = some (.slice (some ⟨g1, 0, none⟩) chi.length cp1) := (p1.grown hm3' (by simp; omega)).at_ (i := 0) rfl)
        | (go_at_call 66; refine (of_any R _ _ _ [⟨#[]⟩, ⟨#[49]⟩, ⟨#[48, 49, 50, 51]⟩, ⟨#[48, 49, 48, 49, 48, 49, 48, 49, 48, 49]⟩] _ _ rfl (by first | exact Own.new _ _ _ | exact ((Own.new _ _ _).drew).grown hm3 (by simp; have := hr2.lt; omega)) (by simp) (by have := hr2.lt; have := hr3.lt; simp; omega) (by first | exact hr3.alloc _ | exact hr3) (by omega) (by simp)).mono ?_; rintro e w4 ⟨s, hs, rfl, hr4, hm4⟩; have hm4' : Moved R w2 w4 := (by first | exact hm3'.trans (((Moved.refl R w3).alloc _).trans hm4) | exact hm3'.trans hm4); have x4 : w4.cell? ⟨B1, 0, none⟩ = some (.slice (some ⟨g1, 0, none⟩) chi.length cp1) := (p1.grown hm4' (by simp; omega)).at_ (i := 0) rfl; have ht4 := ht2.keep hm4' (by omega); have c4 : w4.cell? ⟨g1, q, none⟩ = some _ := (World.ownsRow.cellAt ht4.own1 q (by omega)).trans (sv_at (by omega)); have fr4 := World.ownsRow.frozenAt ht4.own1 q))
    all_goals
      have hs1 : s.size ≤ 10 := by
        simp at hs
        rcases hs with rfl | rfl | rfl | rfl <;> decide
      clear hs
      have hmv4 := hmv2.trans hm4'
      have st := World.ownsRow.stored ht4.own1 q (.string s)
      have x1 : Own (w4.setCell ⟨g1, q, none⟩ (.string s)) B1 _ := (p1.grown hm4' (by simp; omega)).far (by simp; omega) _
      have x0 : Own (w4.setCell ⟨g1, q, none⟩ (.string s)) B0 _ := (p0.grown hm4' (by simp; omega)).far (by simp; omega) _
      have hr5 : Rd (w4.setCell ⟨g1, q, none⟩ (.string s)) R _ := hr4.far (by simp; omega) _
      have hmv5 : Moved R w (w4.setCell ⟨g1, q, none⟩ (.string s)) := hmv4.set_ (.inr (by rw [HB0.out]; simp; omega)) _
      have ht5 : TeleOwn (w4.setCell ⟨g1, q, none⟩ (.string s)) (B0 + 1) (.slice (some ⟨g1, 0, none⟩) chi.length cp1) (.slice (some ⟨g2, 0, none⟩) psi.length cp2) (chi.set q s) psi := by
        refine ⟨?_, ht4.own2.off (by simp [Value.ownBlock]; omega) _, ht4.apart, fun t hmem => ?_, ht4.small2⟩
        · have := st.1
          unfold OwnS
          rw [List.length_set]
          simpa [sv, List.map_set] using this
        · rcases List.mem_or_eq_of_mem_set hmem with hmem | rfl
          · exact ht4.small1 t hmem
          · omega
      clear st c4 fr4 x4 x3 hm3 hm3' hm4 hm4' ht4 hr4 hmv4
      generalize w4.setCell ⟨g1, q, none⟩ (.string s) = W5 at *
      have y0 := x1.at_ (i := 0) rfl
      have y1 := x1.at_ (i := 1) rfl
      have y2 := x1.at_ (i := 2) rfl
      have d0 := x0.at_ (i := 0) rfl
      have d1 := x0.at_ (i := 1) rfl
      have d2 := x0.at_ (i := 2) rfl
      have r0 := x0.free 0 (by simp)
      have r1 := x0.free 1 (by simp)
      have r2 := x0.free 2 (by simp)
      go_wp2
      refine bodyPost_ret (v := .agg #[.slice (some ⟨g1, 0, none⟩) chi.length cp1, .slice (some ⟨g2, 0, none⟩) psi.length cp2, .string m]) (by simp [results, Try.results43, go_sem, d0, d1, d2]) rfl ?_
      exact tele_fin (chi := chi.set q s) ht5 hr5 hmv5 (by simp; omega) (by omega) (by omega) hRw (by omega) (by rw [HB0.out]; omega) (by omega)
  · have t0 : (u == 0) = false := by simp [e0]
    by_cases e1 : u = 1
    · have t1 : (u == 1) = true := by simp [e1]
      clear e1 e0
      have f0 := p1.at_ (i := 0) rfl
      have f1 := p1.at_ (i := 1) rfl
      have f2 := p1.at_ (i := 2) rfl
      have lt1 := p1.lt
      have lt0 := p0.lt
      go_wp2_with (at_builtin; refine wpList_append_lies _ (by rfl) _ _ _ (by rfl) (B0 + 1) 9 i0 _ 1 16 Try.underlying28 hi0 hz0 hz1 hz2 rfl (by omega) (.slice (some ⟨g2, 0, none⟩) psi.length cp2) psi.length (sv psi) (by rfl) (World.ownsRow.alloc ht2.own2 _) ⟨w2.heap.size, 0, none⟩ 1 1 [.string ⟨#[48, 49]⟩] (by rfl) (by rfl) (World.news_of_block (cs := #[.string ⟨#[48, 49]⟩]) (t := 9) (fr := (0, 0)) (heap_alloc_new w2 _)) (by simp [Value.oneCell']) (by omega) (by unfold maxLen; omega) (by omega) (by simp; omega) (w2.heap.size + 1) (by simp) ?_; intro gg cap w3 hown3 hg3 hat3 hlt3; have x1 : Own w3 B1 _ := ((p1.alloc _).grown hg3 (by simp [Value.ownBlock]; omega)); have x0 : Own w3 B0 _ := ((p0.alloc _).grown hg3 (by simp [Value.ownBlock]; omega)); have y0 := x1.at_ (i := 0) rfl; have y1 := x1.at_ (i := 1) rfl; have y2 := x1.at_ (i := 2) rfl; have y3 := x1.free 1 (by simp); have d0 := x0.at_ (i := 0) rfl; have d1 := x0.at_ (i := 1) rfl; have d2 := x0.at_ (i := 2) rfl; have r0 := x0.free 0 (by simp); have r1 := x0.free 1 (by simp); have r2 := x0.free 2 (by simp); have hne : ¬ B1 = B0 := by omega)
      refine bodyPost_ret (v := .agg #[.slice (some ⟨g1, 0, none⟩) chi.length cp1, .slice (some ⟨gg, 0, none⟩) (psi.length + 1) cap, .string m]) (by simp [results, Try.results43, go_sem, d0, d1, d2]) rfl ?_
      have hgg : gg = g2 ∨ gg = w2.heap.size + 1 := by
        rcases hat3 with e | e
        · left; simpa [Value.ownBlock] using e.symm
        · exact .inr e
      have lg1 := (OwnS.lt ht2.own1 (g := g1) rfl).2
      have lg2 := (OwnS.lt ht2.own2 (g := g2) rfl).2
      have ht3 : TeleOwn w3 (B0 + 1) (.slice (some ⟨g1, 0, none⟩) chi.length cp1) (.slice (some ⟨gg, 0, none⟩) (psi.length + 1) cap) chi (psi ++ [⟨#[48, 49]⟩]) :=
        ⟨OwnS.keep (World.ownsRow.alloc ht2.own1 _) hg3 (.inr (by simp [Value.ownBlock]; exact hg12)), OwnS.snoc hown3, by
          intro g hg hg'
          simp [Value.ownBlock] at hg hg'
          omega, ht2.small1, by
          intro t ht'
          simp at ht'
          rcases ht' with ht' | rfl
          · exact ht2.small2 t ht'
          · decide⟩
      have hr3 : Rd w3 R (c + 200 + 1) := (hr2.alloc _).grown hg3 (fun g hg => by simp [Value.ownBlock] at hg; omega)
      have hmv3 : Moved R w w3 := moved_grown (hmv2.alloc _) hg3 (fun g hg => by simp [Value.ownBlock] at hg; rw [HB0.out]; omega)
      exact tele_fin (ht3.off (a := ⟨B1, 1, none⟩) (by simp [Value.ownBlock]; omega) (by simp [Value.ownBlock]; omega) _) (hr3.far (p := ⟨B1, 1, none⟩) (by simp; omega) _) (hmv3.set_ (.inr (by rw [HB0.out]; simp; omega)) _) (by omega) (by simp; omega) (by omega) hRw (by omega) (by rw [HB0.out]; omega) (by omega)
    · have t1 : (u == 1) = false := by simp [e1]
      by_cases e2 : u = 2
      · have t2 : (u == 2) = true := by simp [e2]
        clear e2 e1 e0
        go_wp2_with fail
        refine (of_any R _ _ _ [⟨#[]⟩, ⟨#[48]⟩, ⟨#[48, 49, 32]⟩] _ _ rfl (Own.new _ _ _) (by simp) (by have := hr2.lt; simp; omega) (hr2.alloc _) (by omega) (by simp)).mono ?_
        rintro e w3 ⟨s, hs, rfl, hr3, hm3⟩
        have hs1 : s.size ≤ 3 := by
          simp at hs
          rcases hs with rfl | rfl | rfl <;> decide
        clear hs
        have hm3' : Moved R w2 w3 := ((Moved.refl R w2).alloc _).trans hm3
        have hmv3 := hmv2.trans hm3'
        have ht3 := ht2.keep hm3' (by omega)
        have q0 := p0.grown hm3' (by simp; omega)
        have q1 := p1.grown hm3' (by simp; omega)
        have f0 := q1.at_ (i := 0) rfl
        have f1 := q1.at_ (i := 1) rfl
        have f2 := q1.at_ (i := 2) rfl
        have f3 := q1.free 2 (by simp)
        have d0 := q0.at_ (i := 0) rfl
        have d1 := q0.at_ (i := 1) rfl
        have d2 := q0.at_ (i := 2) rfl
        have r0 := q0.free 0 (by simp)
        have r1 := q0.free 1 (by simp)
        have r2 := q0.free 2 (by simp)
        go_wp2
        refine bodyPost_ret (v := .agg #[.slice (some ⟨g1, 0, none⟩) chi.length cp1, .slice (some ⟨g2, 0, none⟩) psi.length cp2, .string s]) (by simp [results, Try.results43, go_sem, d0, d1, d2]) rfl ?_
        exact tele_fin (ht3.off (a := ⟨B1, 2, none⟩) (by simp [Value.ownBlock]; omega) (by simp [Value.ownBlock]; omega) _) (hr3.far (p := ⟨B1, 2, none⟩) (by simp; omega) _) (hmv3.set_ (.inr (by rw [HB0.out]; simp; omega)) _) (by omega) (by omega) (by omega) hRw (by omega) (by rw [HB0.out]; omega) (by omega)
      · have t2 : (u == 2) = false := by simp [e2]
        clear e2 e1 e0
        have f0 := p1.at_ (i := 0) rfl
        have f1 := p1.at_ (i := 1) rfl
        have f2 := p1.at_ (i := 2) rfl
        have d0 := p0.at_ (i := 0) rfl
        have d1 := p0.at_ (i := 1) rfl
        have d2 := p0.at_ (i := 2) rfl
        have r0 := p0.free 0 (by simp)
        have r1 := p0.free 1 (by simp)
        have r2 := p0.free 2 (by simp)
        go_wp2
        refine bodyPost_ret (v := .agg #[.slice (some ⟨g1, 0, none⟩) chi.length cp1, .slice (some ⟨g2, 0, none⟩) psi.length cp2, .string m]) (by simp [results, Try.results43, go_sem, d0, d1, d2]) rfl ?_
        exact tele_fin ht2 hr2 hmv2 (by omega) (by omega) (by omega) hRw (by omega) (by rw [HB0.out]; omega) (by omega)

/-- What the drawing of a machine from an input leaves: both lists and the string of a machine, small. -/
def DrawnTele (w : World) (v : Value) (w' : World) : Prop :=
  ∃ a1 a2 c1 c2 chi psi m, v = .agg #[.slice a1 chi.length c1, .slice a2 psi.length c2, .string m] ∧ Reads w' w'.heap.size a1 (sv chi) ∧ Reads w' w'.heap.size a2 (sv psi) ∧ (∀ x, a1 = some x ∨ a2 = some x → w.heap.size ≤ x.block) ∧ (∀ s ∈ chi, s.size ≤ 1000) ∧ (∀ s ∈ psi, s.size ≤ 1000) ∧ m.size ≤ 1000 ∧ chi.length ≤ 10 ∧ psi.length ≤ 10 ∧ Below w.heap.size w w'
def OneTele (w : World) (e : Ending) (w' : World) : Prop := ∃ v, e = .returned v ∧ DrawnTele w v w'

theorem IsRow.alloc {k : IntKind} {w : World} {a : Option Addr} {len cap : Nat} {zs : List Int} (h : IsRow k w a len cap zs) (o : Obj) : IsRow k (w.alloc o) a len cap zs := by
  rcases h with h | ⟨x, h1, h2, h3, h4, h5, h6⟩
  · exact .inl h
  · exact .inr ⟨x, h1, h2, h3, h4, fun i hi => by
      have := h5 i hi
      rw [World.cell?_alloc_lt w o _ (World.block_lt_of_cell? w _ this)]
      exact this, h6⟩

/-- The struct that was drawn is copied into the result's cell at block B0, below all that was drawn. -/
theorem drawn_fin {w W : World} {R B0 : Nat} {v1 v2 x y z : Value} {chi psi : List ByteArray} {m : ByteArray} (ht : TeleOwn W (R + 1) v1 v2 chi psi) (hb : Below B0 w W) (hR : B0 ≤ R) (hw : w.heap.size = B0) (l1 : chi.length ≤ 10) (l2 : psi.length ≤ 10) (hm : m.size ≤ 1000) :
    DrawnTele w (.agg #[v1, v2, .string m]) (((W.setCell ⟨B0, 0, none⟩ x).setCell ⟨B0, 1, none⟩ y).setCell ⟨B0, 2, none⟩ z) := by
  have h := ((ht.low (a := ⟨B0, 0, none⟩) (by simp; omega) x).low (a := ⟨B0, 1, none⟩) (by simp; omega) y).low (a := ⟨B0, 2, none⟩) (by simp; omega) z
  obtain ⟨a1, c1, e1, r1⟩ := h.own1.val
  obtain ⟨a2, c2, e2, r2⟩ := h.own2.val
  refine ⟨a1, a2, c1, c2, chi, psi, m, by rw [e1, e2], r1, r2, fun x hx => ?_, ht.small1, ht.small2, hm, l1, l2, ?_⟩
  · rcases hx with hx | hx
    · have := (OwnS.lt h.own1 (g := x.block) (by rw [e1, hx]; rfl)).1
      omega
    · have := (OwnS.lt h.own2 (g := x.block) (by rw [e2, hx]; rfl)).1
      omega
  rw [hw]
  exact ((hb.setCell (Nat.le_refl _) _).setCell (Nat.le_refl _) _).setCell (Nat.le_refl _) _

theorem DrawTeleValid_any (a : Option Addr) (len cap : Nat) (zs : List Int) (w : World) (h : IsRow .u8 w a len cap zs) (hl : len ≤ 1048576) :
    Calls Try.prog 20 #[.slice a len cap] w (OneTele w) := by
  go_enter Try.func20, Try.ntmps20
  go_wp2_with fail
  have b0 := Own.new w [Value.slice none 0 0, Value.slice none 0 0, .string ⟨#[]⟩] 30
  refine (l21Open_any a len cap zs _ (h.alloc _) hl).mono ?_
  rintro e w1 ⟨rfl, hr1, hb1⟩
  have b1 := b0.below hb1 b0.lt
  have hbw1 : Below w.heap.size w w1 := bt ((Below.refl _ _).alloc (Nat.le_refl _) _) hb1
  have hsz : (w.alloc (.cells #[Value.slice none 0 0, Value.slice none 0 0, .string ⟨#[]⟩] 30)).heap.size = w.heap.size + 1 := by simp
  rw [hsz] at hr1
  go_wp2_with fail
  refine (l16Open_any _ 0 _ hr1 (by omega)).mono ?_
  rintro e w2 ⟨v1, v2, chi, psi, m, rfl, l1, l2, hm, ht, hr2, hm2⟩
  have b2 := b1.grown hm2 (by simp)
  have hbw2 : Below w.heap.size w w2 := hbw1.trans (hm2.toBelow (by omega) hbw1.size)
  have d0 := b2.at_ (i := 0) rfl
  have d1 := b2.at_ (i := 1) rfl
  have d2 := b2.at_ (i := 2) rfl
  have r0 := b2.free 0 (by simp)
  have r1 := b2.free 1 (by simp)
  have r2 := b2.free 2 (by simp)
  obtain ⟨a1, q1, rfl, -⟩ := ht.own1.val
  obtain ⟨a2, q2, rfl, -⟩ := ht.own2.val
  clear hsz
  generalize hB0 : w.heap.size = B0 at *
  have HB0 := Lib.hid hB0
  clear hB0
  go_wp2
  refine bodyPost_ret (v := .agg #[.slice a1 chi.length q1, .slice a2 psi.length q2, .string m]) (by simp [results, Try.results20, go_sem, d0, d1, d2]) rfl ?_
  exact ⟨_, rfl, drawn_fin (R := B0 + 1) ht hbw2 (by omega) HB0.out l1 l2 hm⟩

/-- What the drawing of a machine and a number leaves. -/
def TeleNum (w : World) (e : Ending) (w' : World) : Prop := ∃ v n, e = .returned (.tuple #[v, .int .i64 n]) ∧ Is64 n ∧ DrawnTele w v w'
set_option maxRecDepth 100000 in
set_option maxHeartbeats 1000000 in
theorem DrawChiTape_any (a : Option Addr) (len cap : Nat) (zs : List Int) (w : World) (h : IsRow .u8 w a len cap zs) (hl : len ≤ 1048576) :
    Calls Try.prog 36 #[.slice a len cap] w (TeleNum w) := by
  go_enter Try.func36, Try.ntmps36
  go_wp2_with fail
  have b0 := Own.new w [Value.slice none 0 0, Value.slice none 0 0, .string ⟨#[]⟩] 30
  refine (l21Open_any a len cap zs _ (h.alloc _) hl).mono ?_
  rintro e w1 ⟨rfl, hr1, hb1⟩
  have b1 := b0.below hb1 b0.lt
  have hbw1 : Below w.heap.size w w1 := bt ((Below.refl _ _).alloc (Nat.le_refl _) _) hb1
  have hsz : (w.alloc (.cells #[Value.slice none 0 0, Value.slice none 0 0, .string ⟨#[]⟩] 30)).heap.size = w.heap.size + 1 := by simp
  rw [hsz] at hr1
  go_wp2_with fail
  refine (l16Open_any _ 0 _ hr1 (by omega)).mono ?_
  rintro e w2 ⟨v1, v2, chi, psi, m, rfl, l1, l2, hm, ht, hr2, hm2⟩
  have b2 := b1.grown hm2 (by simp)
  have hbw2 : Below w.heap.size w w2 := hbw1.trans (hm2.toBelow (by omega) hbw1.size)
  obtain ⟨a1, q1, rfl, -⟩ := ht.own1.val
  obtain ⟨a2, q2, rfl, -⟩ := ht.own2.val
  clear hsz
  generalize hB0 : w.heap.size = B0 at *
  have HB0 := Lib.hid hB0
  clear hB0
  go_wp2_with fail
  have lt2 := b2.lt
  have lR := hr2.lt
  have o1 := Own.new w2 [.slice a1 chi.length q1, .slice a2 psi.length q2, .string m] 30
  have b3 := b2.alloc (.cells #[.slice a1 chi.length q1, .slice a2 psi.length q2, .string m] 30)
  have hr3 := hr2.alloc (.cells #[.slice a1 chi.length q1, .slice a2 psi.length q2, .string m] 30)
  have ht3 := ht.alloc (.cells #[.slice a1 chi.length q1, .slice a2 psi.length q2, .string m] 30)
  have hb3 := hbw2.alloc (by omega) (.cells #[.slice a1 chi.length q1, .slice a2 psi.length q2, .string m] 30)
  clear b2 hr2 ht hbw2
  generalize (w2.alloc (.cells #[.slice a1 chi.length q1, .slice a2 psi.length q2, .string m] 30)) = W3 at *
  generalize w2.heap.size = B1 at *
  have f0 := o1.at_ (i := 0) rfl
  have f1 := o1.at_ (i := 1) rfl
  have f2 := o1.at_ (i := 2) rfl
  have lt1 := o1.lt
  go_region_held3 (fun w' => w'.cell? ⟨B1, 0, none⟩ = some (.slice a1 chi.length q1) ∧ w'.cell? ⟨B1, 1, none⟩ = some (.slice a2 psi.length q2) ∧ w'.cell? ⟨B1, 2, none⟩ = some (.string m))
    (first | go_keep | exact ⟨y0, y1, y2⟩)
    (first | (go_at_call 60; refine (l16Number_any _ _ _ hr3.drew (by omega)).mono ?_; rintro e w4 ⟨n, hn, rfl, hr4, hm4⟩; have hm4' : Moved (B0 + 1) W3 w4 := ((Moved.refl _ W3).drew).trans hm4; have z1 : Own w4 B1 _ := o1.grown hm4' (by simp; omega); have z0 : Own w4 B0 _ := b3.grown hm4' (by simp); have y0 := z1.at_ (i := 0) rfl; have y1 := z1.at_ (i := 1) rfl; have y2 := z1.at_ (i := 2) rfl; have d0 := z0.at_ (i := 0) rfl; have d1 := z0.at_ (i := 1) rfl; have d2 := z0.at_ (i := 2) rfl; have r0 := z0.free 0 (by simp); have r1 := z0.free 1 (by simp); have r2 := z0.free 2 (by simp); have hn1 : ¬ B1 = B0 := (by omega); have hn2 : ¬ B0 = B1 := (by omega)))
  have ht4 := ht3.keep hm4' (by omega)
  have hb4 : Below B0 w w4 := hb3.trans (hm4'.toBelow (by omega) (by omega))
  go_wp2
  refine bodyPost_ret (v := .tuple #[.agg #[.slice a1 chi.length q1, .slice a2 psi.length q2, .string m], .int .i64 n]) (by simp [results, Try.results36, go_sem, d0, d1, d2]) rfl ?_
  exact ⟨_, n, rfl, hn, drawn_fin (R := B0 + 1) ht4 hb4 (by omega) HB0.out l1 l2 hm⟩

theorem Reads.far_ {w : World} {B : Nat} {a : Option Addr} {xs : List Value} (h : Reads w B a xs) {p : Addr} (hp : ∀ x, a = some x → x.block ≠ p.block) (u : Value) : Reads (w.setCell p u) B a xs := by
  rcases h with h | ⟨b, off, ha, hb, hc⟩
  · exact .inl h
  · exact .inr ⟨b, off, ha, hb, fun i hi => by
      rw [World.cell?_setCell_other w p _ u (fun e => hp _ ha (by rw [e]))]
      exact hc i hi⟩

theorem DrawMotorStops_any (a : Option Addr) (len cap : Nat) (zs : List Int) (w : World) (h : IsRow .u8 w a len cap zs) (hl : len ≤ 1048576) :
    Calls Try.prog 32 #[.slice a len cap] w (TeleNum w) := by
  go_enter Try.func32, Try.ntmps32
  go_wp2_with fail
  have b0 := Own.new w [Value.slice none 0 0, Value.slice none 0 0, .string ⟨#[]⟩] 30
  refine (DrawChiTape_any a len cap zs _ (h.alloc _) hl).mono ?_
  rintro e w1 ⟨v, n, rfl, hn, a1, a2, c1, c2, chi, psi, m, rfl, r1, r2, hfar, s1, s2, hm, l1, l2, hb1⟩
  have b1 := b0.below hb1 b0.lt
  have hbw1 : Below w.heap.size w w1 := bt ((Below.refl _ _).alloc (Nat.le_refl _) _) hb1
  have hF : Hid (∀ x, a1 = some x ∨ a2 = some x → w.heap.size + 1 ≤ x.block) := by
    intro x hx; have := hfar x hx; simpa using this
  have Hn := Lib.hid hn
  have S1 := Lib.hid s1
  have S2 := Lib.hid s2
  clear hfar hb1 b0 hn s1 s2
  have d0 := b1.at_ (i := 0) rfl
  have d1 := b1.at_ (i := 1) rfl
  have d2 := b1.at_ (i := 2) rfl
  have q0 := b1.free 0 (by simp)
  have q1 := b1.free 1 (by simp)
  have q2 := b1.free 2 (by simp)
  generalize hB0 : w.heap.size = B0 at *
  have HB0 := Lib.hid hB0
  clear hB0
  go_wp2
  refine bodyPost_ret (v := .tuple #[.agg #[.slice a1 chi.length c1, .slice a2 psi.length c2, .string m], .int .i64 n]) (by simp [results, Try.results32, go_sem, d0, d1, d2]) rfl ?_
  have x1 : ∀ x, a1 = some x → x.block ≠ B0 := fun x hx => by have := hF.out x (.inl hx); omega
  have x2 : ∀ x, a2 = some x → x.block ≠ B0 := fun x hx => by have := hF.out x (.inr hx); omega
  refine ⟨_, n, rfl, Hn.out, a1, a2, c1, c2, chi, psi, m, rfl, ?_, ?_, fun x hx => ?_, S1.out, S2.out, hm, l1, l2, ?_⟩
  · exact (((r1.far_ (p := ⟨B0, 0, none⟩) x1 _).far_ (p := ⟨B0, 1, none⟩) x1 _).far_ (p := ⟨B0, 2, none⟩) x1 _).more (by simp [World.setCell])
  · exact (((r2.far_ (p := ⟨B0, 0, none⟩) x2 _).far_ (p := ⟨B0, 1, none⟩) x2 _).far_ (p := ⟨B0, 2, none⟩) x2 _).more (by simp [World.setCell])
  · have := hF.out x hx; rw [HB0.out]; omega
  · rw [HB0.out]
    exact ((hbw1.setCell (Nat.le_refl _) _).setCell (Nat.le_refl _) _).setCell (Nat.le_refl _) _
end Go.Proofs.Ytegbmjdaohnlaaa
