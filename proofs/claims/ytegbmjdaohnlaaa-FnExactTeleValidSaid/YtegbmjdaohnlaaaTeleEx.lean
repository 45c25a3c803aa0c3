/- The walk of the law that both look at a teleprinter machine alike. -/
import Derived.Test.YtegbmjdaohnlaaaWheels
import Derived.Test.YtegbmjdaohnlaaaStrs
import Derived.Deep.RegionHeld3
namespace Go.Proofs.Ytegbmjdaohnlaaa
open Go.RowKit

/-- The two lists and the string of a machine are read at a1, a2. -/
def TeleAt (w : World) (a1 a2 : Option Addr) (chi psi : List ByteArray) : Prop := Reads w w.heap.size a1 (sv chi) ∧ Reads w w.heap.size a2 (sv psi)
theorem TeleAt.below {w w' : World} {a1 a2 : Option Addr} {chi psi : List ByteArray} (h : TeleAt w a1 a2 chi psi) (hb : Below w.heap.size w w') : TeleAt w' a1 a2 chi psi :=
  ⟨(h.1.below hb (Nat.le_refl _)).more hb.size, (h.2.below hb (Nat.le_refl _)).more hb.size⟩
/-- All strings and both lists are small. -/
def TeleSmall (chi psi : List ByteArray) (m : ByteArray) : Prop := (∀ s ∈ chi, s.size ≤ 1048576) ∧ (∀ s ∈ psi, s.size ≤ 1048576) ∧ m.size ≤ 1048576 ∧ chi.length ≤ 1048576 ∧ psi.length ≤ 1048576

def SzTele (chi psi : List ByteArray) (m : ByteArray) (w : World) (e : Ending) (w' : World) : Prop :=
  ∃ r : Int, e = .returned (.int .i64 r) ∧ Below w.heap.size w w' ∧ (r = -1 ∨ (0 ≤ r ∧ TeleSmall chi psi m))
theorem szTele_any (a1 a2 : Option Addr) (c1 c2 : Nat) (chi psi : List ByteArray) (m : ByteArray) (w : World) (h : TeleAt w a1 a2 chi psi)
    (z1 : ∀ s ∈ chi, s.size ≤ 9223372036854775807) (z2 : ∀ s ∈ psi, s.size ≤ 9223372036854775807) (z3 : m.size ≤ 9223372036854775807) (l1 : chi.length ≤ 9223372036854775807) (l2 : psi.length ≤ 9223372036854775807) :
    Calls Try.prog 23 #[.agg #[.slice a1 chi.length c1, .slice a2 psi.length c2, .string m], .int .i64 1048576] w (SzTele chi psi m w) := by
  have r1 := Lib.hid (fun o => h.1.alloc_ o)
  have r2 := Lib.hid (fun o => h.2.alloc_ o)
  have Z1 := Lib.hid z1
  have Z2 := Lib.hid z2
  clear h z1 z2
  go_enter Try.func23, Try.ntmps23
  go_wp2_with fail
  refine (szStringS_any a1 c1 chi _ _ (r1.out _) Z1.out l1 (by omega) (by omega)).mono ?_
  rintro e w1 ⟨r, rfl, rfl, hr⟩
  rcases hr with rfl | ⟨q0, q1, q2, q3⟩
  · go_wp2
    go_ret
    exact ⟨-1, rfl, (Below.refl _ _).alloc (Nat.le_refl _) _, .inl rfl⟩
  · have Q3 := Lib.hid q3
    clear q3
    go_wp2_with fail
    refine (szStringS_any a2 c2 psi _ _ (r2.out _) Z2.out l2 (by omega) (by omega)).mono ?_
    rintro e w1 ⟨r', rfl, rfl, hr⟩
    rcases hr with rfl | ⟨p0, p1, p2, p3⟩
    · go_wp2
      go_ret
      exact ⟨-1, rfl, (Below.refl _ _).alloc (Nat.le_refl _) _, .inl rfl⟩
    · have P3 := Lib.hid p3
      clear p3
      by_cases hm : r' < m.size
      · go_wp2
        go_ret
        exact ⟨-1, rfl, (Below.refl _ _).alloc (Nat.le_refl _) _, .inl rfl⟩
      · go_wp2
        go_ret
        exact ⟨r' - m.size, rfl, (Below.refl _ _).alloc (Nat.le_refl _) _, .inr ⟨by omega, fun s hs => by have := Q3.out s hs; omega, fun s hs => by have := P3.out s hs; omega, by omega, by omega, by omega⟩⟩

def ToTele (chi psi : List ByteArray) (m : ByteArray) (w : World) (e : Ending) (w' : World) : Prop :=
  ∃ a1 a2, e = .returned (.agg #[.slice a1 chi.length chi.length, .slice a2 psi.length psi.length, .string m]) ∧ TeleAt w' a1 a2 chi psi ∧ Below w.heap.size w w'
theorem toTele_any (a1 a2 : Option Addr) (c1 c2 : Nat) (chi psi : List ByteArray) (m : ByteArray) (w : World) (h : TeleAt w a1 a2 chi psi) (hs : TeleSmall chi psi m) :
    Calls Try.prog 24 #[.agg #[.slice a1 chi.length c1, .slice a2 psi.length c2, .string m]] w (ToTele chi psi m w) := by
  obtain ⟨_, _, _, l1, l2⟩ := hs
  have h' := Lib.hid h
  clear h
  go_enter Try.func24, Try.ntmps24
  go_wp2_with fail
  obtain ⟨W, hW⟩ : ∃ W, W = (((w.alloc (Obj.cells #[Value.slice a1 chi.length c1, Value.slice a2 psi.length c2, .string m] 34)).alloc (Obj.cells #[Value.slice none 0 0, Value.slice none 0 0, .string ⟨#[]⟩] 30)).alloc (Obj.cells #[Value.slice none 0 0, Value.slice none 0 0, .string ⟨#[]⟩] 30)) := ⟨_, rfl⟩
  have o0 : Own W w.heap.size [Value.slice a1 chi.length c1, Value.slice a2 psi.length c2, .string m] := by
    rw [hW]; exact ((Own.new w _ _).alloc _).alloc _
  have o1 : Own W (w.heap.size + 1) [Value.slice none 0 0, Value.slice none 0 0, .string ⟨#[]⟩] := by
    rw [hW]; have := (Own.new (w.alloc (Obj.cells #[Value.slice a1 chi.length c1, Value.slice a2 psi.length c2, .string m] 34)) [Value.slice none 0 0, Value.slice none 0 0, .string ⟨#[]⟩] 30).alloc (Obj.cells #[Value.slice none 0 0, Value.slice none 0 0, .string ⟨#[]⟩] 30); simpa using this
  have o2 : Own W (w.heap.size + 1 + 1) [Value.slice none 0 0, Value.slice none 0 0, .string ⟨#[]⟩] := by
    rw [hW]; have := Own.new ((w.alloc (Obj.cells #[Value.slice a1 chi.length c1, Value.slice a2 psi.length c2, .string m] 34)).alloc (Obj.cells #[Value.slice none 0 0, Value.slice none 0 0, .string ⟨#[]⟩] 30)) [Value.slice none 0 0, Value.slice none 0 0, .string ⟨#[]⟩] 30; simpa using this
  have hb : Below w.heap.size w W := by
    rw [hW]; exact (((Below.refl _ _).alloc (Nat.le_refl _) _).alloc (by simp) _).alloc (by simp; omega) _
  rw [← hW]
  clear hW
  generalize hB2 : w.heap.size + 1 + 1 = B2 at *
  generalize hB1 : w.heap.size + 1 = B1 at *
  generalize hB0 : w.heap.size = B0 at *
  have g1 : B0 < B1 := by omega
  have g2 : B1 < B2 := by omega
  have HB0 := Lib.hid hB0
  clear hB0 hB1 hB2
  have hT := h'.out.below (HB0.out ▸ hb)
  refine (toStringS_any a1 c1 chi W hT.1 l1).mono ?_
  rintro e w1 ⟨p1, hp1, rfl, hp, hb1⟩
  have o0' := o0.below hb1 o0.lt
  have o1' := o1.below hb1 o1.lt
  have o2' := o2.below hb1 o2.lt
  have hT1 := hT.below hb1
  have f1 := o2'.at_ (i := 0) rfl
  have f2 := o2'.free 0 (by simp)
  have f3 := o0'.at_ (i := 1) rfl
  have f4 := o0'.at_ (i := 2) rfl
  have k0 := o0'.far (p := ⟨B2, 0, none⟩) (by simp; omega) (.slice (some ⟨p1, 0, none⟩) chi.length chi.length)
  have k1 := o1'.far (p := ⟨B2, 0, none⟩) (by simp; omega) (.slice (some ⟨p1, 0, none⟩) chi.length chi.length)
  have k2 := o2'.set_ (i := 0) (by simp) (.slice (some ⟨p1, 0, none⟩) chi.length chi.length)
  have hB2 := o2.lt
  have kp := hp.far (p := ⟨B2, 0, none⟩) (by simp; omega) (.slice (some ⟨p1, 0, none⟩) chi.length chi.length)
  have kb : Below B0 w (w1.setCell ⟨B2, 0, none⟩ (.slice (some ⟨p1, 0, none⟩) chi.length chi.length)) := (hb.trans (hb1.mono (by omega))).setCell (by simp; omega) _
  clear o0' o1' o2' hp hT1
  go_wp2_with fail
  clear f1 f2 f3 f4
  generalize w1.setCell ⟨B2, 0, none⟩ (.slice (some ⟨p1, 0, none⟩) chi.length chi.length) = W1 at *
  have hT2 := h'.out.below (HB0.out ▸ kb)
  refine (toStringS_any a2 c2 psi W1 hT2.2 l2).mono ?_
  rintro e w2 ⟨p2, hp2, rfl, hq, hb2⟩
  have o0' := k0.below hb2 k0.lt
  have o1' := k1.below hb2 k1.lt
  have o2' := k2.below hb2 k2.lt
  have op' := kp.below hb2 kp.lt
  have f1 := o2'.at_ (i := 1) rfl
  have f2 := o2'.free 1 (by simp)
  have f3 := o0'.at_ (i := 2) rfl
  have f5 := o2'.at_ (i := 2) rfl
  have f6 := o2'.free 2 (by simp)
  have f7 := o2'.at_ (i := 0) rfl
  have e0 := o1'.at_ (i := 0) rfl
  have e1 := o1'.at_ (i := 1) rfl
  have e2 := o1'.at_ (i := 2) rfl
  have r0 := o1'.free 0 (by simp)
  have r1 := o1'.free 1 (by simp)
  have r2 := o1'.free 2 (by simp)
  have n1 : ¬ B1 = B2 := by omega
  have n2 : ¬ B2 = B1 := by omega
  have n3 : ¬ B2 = B0 := by omega
  go_wp2
  refine bodyPost_ret (v := .agg #[.slice (some ⟨p1, 0, none⟩) chi.length chi.length, .slice (some ⟨p2, 0, none⟩) psi.length psi.length, .string m]) (by simp [results, Try.results24, go_sem, e0, e1, e2]) rfl ?_
  have q1 := op'.lt
  have q2 := hq.lt
  have hsz := hb2.size
  have kk := k2.lt
  have x1 := ((((op'.far (p := ⟨B2, 1, none⟩) (by simp; omega) (.slice (some ⟨p2, 0, none⟩) psi.length psi.length)).far (p := ⟨B2, 2, none⟩) (by simp; omega) (.string m)).far (p := ⟨B1, 0, none⟩) (by simp; omega) (.slice (some ⟨p1, 0, none⟩) chi.length chi.length)).far (p := ⟨B1, 1, none⟩) (by simp; omega) (.slice (some ⟨p2, 0, none⟩) psi.length psi.length)).far (p := ⟨B1, 2, none⟩) (by simp; omega) (.string m)
  have x2 := ((((hq.far (p := ⟨B2, 1, none⟩) (by simp; omega) (.slice (some ⟨p2, 0, none⟩) psi.length psi.length)).far (p := ⟨B2, 2, none⟩) (by simp; omega) (.string m)).far (p := ⟨B1, 0, none⟩) (by simp; omega) (.slice (some ⟨p1, 0, none⟩) chi.length chi.length)).far (p := ⟨B1, 1, none⟩) (by simp; omega) (.slice (some ⟨p2, 0, none⟩) psi.length psi.length)).far (p := ⟨B1, 2, none⟩) (by simp; omega) (.string m)
  refine ⟨_, _, rfl, ⟨Reads.of_own x1 x1.lt, Reads.of_own x2 x2.lt⟩, ?_⟩
  rw [HB0.out]
  exact (((((kb.trans (hb2.mono (by omega))).setCell (by simp; omega) _).setCell (by simp; omega) _).setCell (by simp; omega) _).setCell (by simp; omega) _).setCell (by simp; omega) _

theorem Reads.drewN_ {w : World} {a : Option Addr} {xs : List Value} (h : Reads w w.heap.size a xs) (n : Nat) : Reads (w.drewN n) (w.drewN n).heap.size a xs := h

theorem eqTele_any (a1 a2 b1 b2 : Option Addr) (c1 c2 d1 d2 : Nat) (chi psi : List ByteArray) (m : ByteArray) (w : World) (h : TeleAt w a1 a2 chi psi) (k : TeleAt w b1 b2 chi psi) (hs : TeleSmall chi psi m) :
    Calls Try.prog 25 #[.agg #[.slice a1 chi.length c1, .slice a2 psi.length c2, .string m], .agg #[.slice b1 chi.length d1, .slice b2 psi.length d2, .string m]] w fun e w' => e = .returned (.bool true) ∧ Below w.heap.size w w' := by
  obtain ⟨_, _, _, l1, l2⟩ := hs
  have r1 := Lib.hid (fun o o' => (h.1.alloc_ o).alloc_ o')
  have r2 := Lib.hid (fun o o' => (h.2.alloc_ o).alloc_ o')
  have s1 := Lib.hid (fun o o' => (k.1.alloc_ o).alloc_ o')
  have s2 := Lib.hid (fun o o' => (k.2.alloc_ o).alloc_ o')
  clear h k
  go_enter Try.func25, Try.ntmps25
  go_wp2_with fail
  refine (eqStringS_any a1 b1 c1 d1 chi chi _ (r1.out _ _) (s1.out _ _) l1).mono ?_
  rintro e w1 ⟨rfl, n1, rfl⟩
  simp only [decide_true]
  go_wp2_with fail
  refine (eqStringS_any a2 b2 c2 d2 psi psi _ (Reads.drewN_ (r2.out _ _) _) (Reads.drewN_ (s2.out _ _) _) l2).mono ?_
  rintro e w1 ⟨rfl, n2, rfl⟩
  simp only [decide_true]
  go_wp2
  go_ret
  refine ⟨rfl, ?_⟩
  have hb : Below w.heap.size w ((w.alloc (Obj.cells #[Value.slice a1 chi.length c1, Value.slice a2 psi.length c2, .string m] 30)).alloc (Obj.cells #[Value.slice b1 chi.length d1, Value.slice b2 psi.length d2, .string m] 30)) := ((Below.refl _ _).alloc (Nat.le_refl _) _).alloc (by simp) _
  exact ⟨hb.os, hb.tape, hb.output, hb.size, hb.block⟩

theorem keep6 {w6 w7 : World} {B0 B5 : Nat} {x0 x1 x2 y0 y1 y2 : Value} (f0 : w6.cell? ⟨B0, 0, none⟩ = some x0) (f1 : w6.cell? ⟨B0, 1, none⟩ = some x1) (f2 : w6.cell? ⟨B0, 2, none⟩ = some x2) (g0 : w6.cell? ⟨B5, 0, none⟩ = some y0) (g1 : w6.cell? ⟨B5, 1, none⟩ = some y1) (g2 : w6.cell? ⟨B5, 2, none⟩ = some y2)
    (lt0 : B0 < w6.heap.size) (lt5 : B5 < w6.heap.size) (hb : Below w6.drew.heap.size w6.drew w7) :
    w7.cell? ⟨B0, 0, none⟩ = some x0 ∧ w7.cell? ⟨B0, 1, none⟩ = some x1 ∧ w7.cell? ⟨B0, 2, none⟩ = some x2 ∧ w7.cell? ⟨B5, 0, none⟩ = some y0 ∧ w7.cell? ⟨B5, 1, none⟩ = some y1 ∧ w7.cell? ⟨B5, 2, none⟩ = some y2 :=
  ⟨(hb.cell (p := ⟨B0, 0, none⟩) lt0).trans f0, (hb.cell (p := ⟨B0, 1, none⟩) lt0).trans f1, (hb.cell (p := ⟨B0, 2, none⟩) lt0).trans f2, (hb.cell (p := ⟨B5, 0, none⟩) lt5).trans g0, (hb.cell (p := ⟨B5, 1, none⟩) lt5).trans g1, (hb.cell (p := ⟨B5, 2, none⟩) lt5).trans g2⟩
theorem exactTeleValid_walk (a1 a2 : Option Addr) (c1 c2 : Nat) (chi psi : List ByteArray) (m : ByteArray) (w : World) (h : TeleAt w a1 a2 chi psi)
    (z1 : ∀ s ∈ chi, s.size ≤ 9223372036854775807) (z2 : ∀ s ∈ psi, s.size ≤ 9223372036854775807) (z3 : m.size ≤ 9223372036854775807) (l1 : chi.length ≤ 9223372036854775807) (l2 : psi.length ≤ 9223372036854775807) :
    Calls Try.prog 7 #[.agg #[.slice a1 chi.length c1, .slice a2 psi.length c2, .string m]] w fun e w' => e = .returned (.bool true) ∧ Below w.heap.size w w' := by
  have H := Lib.hid h
  have Z1 := Lib.hid z1
  have Z2 := Lib.hid z2
  clear h z1 z2
  go_enter Try.func7, Try.ntmps7
  go_wp2_with fail
  have o0 : Own (w.alloc (Obj.cells #[Value.slice a1 chi.length c1, Value.slice a2 psi.length c2, .string m] 34)) w.heap.size [Value.slice a1 chi.length c1, Value.slice a2 psi.length c2, .string m] := Own.new w _ _
  have hb : Below w.heap.size w (w.alloc (Obj.cells #[Value.slice a1 chi.length c1, Value.slice a2 psi.length c2, .string m] 34)) := (Below.refl _ _).alloc (Nat.le_refl _) _
  generalize (w.alloc (Obj.cells #[Value.slice a1 chi.length c1, Value.slice a2 psi.length c2, .string m] 34)) = W at *
  generalize hB0 : w.heap.size = B0 at *
  have HB0 := Lib.hid hB0
  clear hB0
  refine (szTele_any a1 a2 c1 c2 chi psi m _ (H.out.below (HB0.out ▸ hb)) Z1.out Z2.out z3 l1 l2).mono ?_
  rintro e w1 ⟨r, rfl, hb1, hr⟩
  have hbw1 := hb.trans (hb1.mono (Nat.le_of_lt o0.lt))
  have o1 := o0.below hb1 o0.lt
  clear o0 hb hb1
  rcases hr with rfl | ⟨hr0, hsm⟩
  · go_wp2
    go_ret
    exact ⟨rfl, HB0.out.symm ▸ hbw1⟩
  · have f0 := o1.at_ (i := 0) rfl
    have f1 := o1.at_ (i := 1) rfl
    have f2 := o1.at_ (i := 2) rfl
    have HS := Lib.hid hsm
    clear hsm
    go_wp2_with fail
    refine (toTele_any a1 a2 c1 c2 chi psi m _ (H.out.below (HB0.out ▸ hbw1)) HS.out).mono ?_
    rintro e w2 ⟨x1, x2, rfl, ht2, hb2⟩
    have hbw2 := hbw1.trans (hb2.mono (Nat.le_of_lt o1.lt))
    have o2 := o1.below hb2 o1.lt
    clear o1 hb2 hbw1 f0 f1 f2
    go_wp2_with fail
    refine (specTeleValid_any x1 x2 _ _ chi psi m _ ht2.1 ht2.2 (fun s hs => by have := HS.out.1 s hs; omega) (fun s hs => by have := HS.out.2.1 s hs; omega) (by have := HS.out.2.2.1; omega) (by have := HS.out.2.2.2.1; omega) (by have := HS.out.2.2.2.2; omega)).mono ?_
    rintro e w3 ⟨rfl, hb3⟩
    have hbw3 := hbw2.trans (hb3.mono (Nat.le_of_lt o2.lt))
    have o3 := o2.below hb3 o2.lt
    clear o2 hb3 hbw2 ht2
    have f0 := o3.at_ (i := 0) rfl
    have f1 := o3.at_ (i := 1) rfl
    have f2 := o3.at_ (i := 2) rfl
    go_wp2_with fail
    refine (toTele_any a1 a2 c1 c2 chi psi m _ (H.out.below (HB0.out ▸ hbw3)) HS.out).mono ?_
    rintro e w4 ⟨y1, y2, rfl, ht4, hb4⟩
    have hbw4 := hbw3.trans (hb4.mono (Nat.le_of_lt o3.lt))
    have o4 := o3.below hb4 o3.lt
    clear o3 hb4 hbw3 f0 f1 f2
    go_wp2_with fail
    have o5 := o4.alloc (Obj.cells #[.slice y1 chi.length chi.length, .slice y2 psi.length psi.length, .string m] 30)
    have n5 := Own.new w4 [.slice y1 chi.length chi.length, .slice y2 psi.length psi.length, .string m] 30
    have ht5 := ht4.below ((Below.refl _ _).alloc (Nat.le_refl _) (Obj.cells #[.slice y1 chi.length chi.length, .slice y2 psi.length psi.length, .string m] 30))
    have hbw5 := hbw4.trans ((Below.refl B0 w4).alloc (Nat.le_of_lt o4.lt) (Obj.cells #[.slice y1 chi.length chi.length, .slice y2 psi.length psi.length, .string m] 30))
    have hne : B0 < w4.heap.size := o4.lt
    clear o4 ht4 hbw4
    generalize (w4.alloc (Obj.cells #[.slice y1 chi.length chi.length, .slice y2 psi.length psi.length, .string m] 30)) = W5 at *
    generalize w4.heap.size = B5 at *
    refine (implTeleValid_any y1 y2 _ _ chi psi m _ ht5.1 ht5.2 (fun s hs => by have := HS.out.1 s hs; omega) (fun s hs => by have := HS.out.2.1 s hs; omega) (by have := HS.out.2.2.1; omega) (by have := HS.out.2.2.2.1; omega) (by have := HS.out.2.2.2.2; omega)).mono ?_
    rintro e w6 ⟨rfl, hb6⟩
    have hbw6 := hbw5.trans (hb6.mono (Nat.le_of_lt o5.lt))
    have o6 := o5.below hb6 o5.lt
    have n6 := n5.below hb6 n5.lt
    have ht6 := ht5.below hb6
    clear o5 n5 hb6 hbw5 ht5
    have f0 := o6.at_ (i := 0) rfl
    have f1 := o6.at_ (i := 1) rfl
    have f2 := o6.at_ (i := 2) rfl
    have g0 := n6.at_ (i := 0) rfl
    have g1 := n6.at_ (i := 1) rfl
    have g2 := n6.at_ (i := 2) rfl
    go_wp2_with fail
    have hTd : TeleAt w6.drew a1 a2 chi psi := H.out.below (HB0.out ▸ hbw6.drew)
    have hTy : TeleAt w6.drew y1 y2 chi psi := ht6
    have lt0 := o6.lt
    have lt5 := n6.lt
    go_region_held3 (fun w' => w'.cell? ⟨B0, 0, none⟩ = some (Value.slice a1 chi.length c1) ∧ w'.cell? ⟨B0, 1, none⟩ = some (Value.slice a2 psi.length c2) ∧ w'.cell? ⟨B0, 2, none⟩ = some (Value.string m) ∧ w'.cell? ⟨B5, 0, none⟩ = some (Value.slice y1 chi.length chi.length) ∧ w'.cell? ⟨B5, 1, none⟩ = some (Value.slice y2 psi.length psi.length) ∧ w'.cell? ⟨B5, 2, none⟩ = some (Value.string m))
      (first | go_keep | exact keep6 f0 f1 f2 g0 g1 g2 lt0 lt5 (bt hb7 hb8) | exact keep6 f0 f1 f2 g0 g1 g2 lt0 lt5 hb7)
      (first | (go_at_call 24; refine (toTele_any a1 a2 c1 c2 chi psi m _ hTd HS.out).mono ?_; rintro e w7 ⟨u1, u2, rfl, ht7, hb7⟩) | (go_at_call 25; refine (eqTele_any y1 y2 u1 u2 _ _ _ _ chi psi m _ (hTy.below hb7) ht7 HS.out).mono ?_; rintro e w8 ⟨rfl, hb8⟩))
    have hb9 : Below B0 w6 w8 := ⟨hb8.os.trans hb7.os, hb8.tape.trans hb7.tape, hb8.output.trans hb7.output, Nat.le_trans hb7.size hb8.size, fun k hk => (hb8.block k (Nat.lt_of_lt_of_le (Nat.lt_trans hk lt0) hb7.size)).trans (hb7.block k (Nat.lt_trans hk lt0))⟩
    go_wp2
    go_ret
    exact ⟨rfl, HB0.out.symm ▸ hbw6.trans hb9⟩
end Go.Proofs.Ytegbmjdaohnlaaa
