/- Contracts of the laws' own functions on wheels as a whole. -/
import Derived.Test.YtaplndmgbinhcaaExU
namespace Go.Proofs.Ytaplndmgbinhcaa
open Go.RowKit

/-- New wheels: their rotors lie in a block of their own. -/
def NewW (x : Whl) (w : World) (e : Ending) (w' : World) : Prop :=
  ∃ g, w.heap.size ≤ g ∧ e = .returned (.agg #[.slice (some ⟨g, 0, none⟩) x.rotors.length x.rotors.length, .string x.refl]) ∧ Own w' g (rvs x.rotors) ∧ Below w.heap.size w w'
theorem toWheels_any (a : Option Addr) (c : Nat) (x : Whl) (w : World) (h : Reads w w.heap.size a (rvs x.rotors)) (hs : SmW x) :
    Calls Try.prog 8 #[.agg #[.slice a x.rotors.length c, .string x.refl]] w (NewW x w) := by
  have hl := hs.few
  have H := Lib.hid h
  clear h hs
  go_enter Try.func8, Try.ntmps8
  go_wp2_with fail
  obtain ⟨W, hW⟩ : ∃ W, W = (((w.alloc (Obj.cells #[Value.slice a x.rotors.length c, .string x.refl] 24)).alloc (Obj.cells #[Value.slice none 0 0, .string ⟨#[]⟩] 30)).alloc (Obj.cells #[Value.slice none 0 0, .string ⟨#[]⟩] 30)) := ⟨_, rfl⟩
  have o0 : Own W w.heap.size [Value.slice a x.rotors.length c, .string x.refl] := by
    rw [hW]; exact ((Own.new w _ _).alloc _).alloc _
  have o1 : Own W (w.heap.size + 1) [Value.slice none 0 0, .string ⟨#[]⟩] := by
    rw [hW]; have := (Own.new (w.alloc (Obj.cells #[Value.slice a x.rotors.length c, .string x.refl] 24)) [Value.slice none 0 0, .string ⟨#[]⟩] 30).alloc (Obj.cells #[Value.slice none 0 0, .string ⟨#[]⟩] 30); simpa using this
  have o2 : Own W (w.heap.size + 1 + 1) [Value.slice none 0 0, .string ⟨#[]⟩] := by
    rw [hW]; have := Own.new ((w.alloc (Obj.cells #[Value.slice a x.rotors.length c, .string x.refl] 24)).alloc (Obj.cells #[Value.slice none 0 0, .string ⟨#[]⟩] 30)) [Value.slice none 0 0, .string ⟨#[]⟩] 30; simpa using this
  have hb : Below w.heap.size w W := by
    rw [hW]; exact (((Below.refl _ _).alloc (Nat.le_refl _) _).alloc (by simp) _).alloc (by simp; omega) _
  rw [← hW]
  clear hW
  have hR : Reads W W.heap.size a (rvs x.rotors) := (H.out.below hb (Nat.le_refl _)).more hb.size
  refine (toRotorS_any a c x.rotors W hR hl).mono ?_
  rintro e w1 ⟨g, hg, rfl, og, hb1⟩
  have l2 := o2.lt
  have k0 := o0.below hb1 o0.lt
  have k1 := o1.below hb1 o1.lt
  have k2 := o2.below hb1 o2.lt
  have kb := bt hb hb1
  clear o0 o1 o2 hb hb1 hR
  have f1 := k2.at_ (i := 0) rfl
  have f2 := k2.free 0 (by simp)
  have f3 := k0.at_ (i := 1) rfl
  have f4 := k2.at_ (i := 1) rfl
  have f5 := k2.free 1 (by simp)
  have f6 := k1.at_ (i := 0) rfl
  have f7 := k1.at_ (i := 1) rfl
  have f8 := k1.free 0 (by simp)
  have f9 := k1.free 1 (by simp)
  go_wp2
  refine bodyPost_ret (v := .agg #[.slice (some ⟨g, 0, none⟩) x.rotors.length x.rotors.length, .string x.refl]) (by simp [results, Try.results8, go_sem, f6, f7]) rfl ?_
  refine ⟨g, by omega, rfl, ?_, ?_⟩
  · exact (((og.far (p := ⟨w.heap.size + 1 + 1, 0, none⟩) (by simp; omega) _).far (p := ⟨w.heap.size + 1 + 1, 1, none⟩) (by simp; omega) _).far (p := ⟨w.heap.size + 1, 0, none⟩) (by simp; omega) _).far (p := ⟨w.heap.size + 1, 1, none⟩) (by simp; omega) _
  · exact (((kb.setCell (by simp; omega) _).setCell (by simp; omega) _).setCell (by simp) _).setCell (by simp) _

theorem eqRotor_any (r : Rot) (w : World) :
    Calls Try.prog 56 #[.agg #[.string r.wiring, .string r.notches], .agg #[.string r.wiring, .string r.notches]] w fun e w' => e = .returned (.bool true) ∧ Below w.heap.size w w' := by
  go_enter Try.func56, Try.ntmps56
  go_wp2
  go_ret
  exact ⟨rfl, ((Below.refl w.heap.size w).alloc (Nat.le_refl _) _).alloc (by simp) _⟩
theorem eqRotorS_any (a b : Option Addr) (c d : Nat) (rs : List Rot) (w : World) (h1 : Reads w w.heap.size a (rvs rs)) (h2 : Reads w w.heap.size b (rvs rs)) (hl : rs.length ≤ 1048576) :
    Calls Try.prog 31 #[.slice a rs.length c, .slice b rs.length d] w fun e w' => e = .returned (.bool true) ∧ Below w.heap.size w w' := by
  have R1 := Lib.hid h1
  have R2 := Lib.hid h2
  clear h1 h2
  go_enter Try.func31, Try.ntmps31
  go_wp2
  go_loopw [5] (fun i wr => ∃ k : Nat, k ≤ rs.length ∧ i = .int .i64 k ∧ Below w.heap.size w wr) (fun i _ => rs.length - (intOf i).toNat)
  case atStart => exact ⟨0, Nat.zero_le _, rfl, Below.refl _ _⟩
  case round =>
    obtain ⟨k, hk, rfl, hb⟩ := hrel
    by_cases hlt : k < rs.length
    · obtain ⟨b1, off1, rfl, hb1, hc1⟩ := R1.out.cells (by rw [len_rvs]; omega)
      obtain ⟨b2, off2, rfl, hb2, hc2⟩ := R2.out.cells (by rw [len_rvs]; omega)
      obtain ⟨f0, f1⟩ := rot_cells (hc1.below hb hb1) hlt
      obtain ⟨g0, g1⟩ := rot_cells (hc2.below hb hb2) hlt
      clear hc1 hc2
      have hz := hb.size
      have q1 : (k : Int) < (rs.length : Int) := by omega
      have l1 : b1 < wr.heap.size := by omega
      have l2 : b2 < wr.heap.size := by omega
      have d0 := fun (cc : Cls wr.heap.size wr) => (cc.cell b1 (off1 + k * 2) l1).trans f0
      have d1 := fun (cc : Cls wr.heap.size wr) => (cc.cell b1 (off1 + k * 2 + 1) l1).trans f1
      have e0 := fun (cc : Cls wr.heap.size wr) => (cc.cell b2 (off2 + k * 2) l2).trans g0
      have e1 := fun (cc : Cls wr.heap.size wr) => (cc.cell b2 (off2 + k * 2 + 1) l2).trans g1
      go_wp2_with fail
      refine wp_region_cls (by kernel_rfl) (by kernel_rfl) ?_
      repeat (go_big_quiet_step (first | (go_at_call 56; with_reducible exact cls_of (Nat.le_refl _) (eqRotor_any _ _))))
      refine wpQuiet_nil ?_
      intro wc hbc
      go_wp2
      go_roundw
      case rel => exact ⟨k + 1, by omega, by go_num, bt hb hbc⟩
      case measure => simp [intOf]; omega
    · go_wp2
      go_ret
      exact ⟨rfl, hb⟩
theorem eqWheels_any (a b : Option Addr) (c d : Nat) (x : Whl) (w : World) (h1 : Reads w w.heap.size a (rvs x.rotors)) (h2 : Reads w w.heap.size b (rvs x.rotors)) (hl : x.rotors.length ≤ 1048576) :
    Calls Try.prog 11 #[.agg #[.slice a x.rotors.length c, .string x.refl], .agg #[.slice b x.rotors.length d, .string x.refl]] w fun e w' => e = .returned (.bool true) ∧ Below w.heap.size w w' := by
  have o0 := fun o => (Own.new w [.slice a x.rotors.length c, .string x.refl] 30).alloc o
  have o1 := fun A => Own.new (w.alloc A) [.slice b x.rotors.length d, .string x.refl] 30
  have hb0 := fun A B => ((Below.refl w.heap.size w).alloc (Nat.le_refl _) A).alloc (by simp) B
  have R1 := Lib.hid (fun A B => (h1.below (hb0 A B) (Nat.le_refl _)).more (hb0 A B).size)
  have R2 := Lib.hid (fun A B => (h2.below (hb0 A B) (Nat.le_refl _)).more (hb0 A B).size)
  simp only [World.size_alloc] at o1
  clear h1 h2
  go_enter Try.func11, Try.ntmps11
  go_wp2_with fail
  refine (eqRotorS_any a b c d x.rotors _ (R1.out _ _) (R2.out _ _) hl).mono ?_
  rintro e w1 ⟨rfl, hb1⟩
  have k0 := (o0 _).below hb1 (o0 _).lt
  have k1 := (o1 _).below hb1 (o1 _).lt
  have f0 := k0.at_ (i := 1) rfl
  have f1 := k1.at_ (i := 1) rfl
  have kb := bt (hb0 _ _) hb1
  clear o0 o1 hb0 hb1 R1 R2
  go_wp2
  go_ret
  exact ⟨rfl, kb⟩

theorem markWheels_any (g c : Nat) (x : Whl) (k : Nat) (w : World) (h : Own w g (rvs x.rotors)) (hl : x.rotors.length ≤ 1048576) (h1 : 1 ≤ k) (hk : k ≤ 1000000) :
    Calls Try.prog 12 #[.agg #[.slice (some ⟨g, 0, none⟩) x.rotors.length c, .string x.refl], .int .i64 (k : Int)] w (MarkPost g w) := by
  have h' := fun o => h.alloc o
  have hb0 := fun A => (Below.refl w.heap.size w).alloc (Nat.le_refl _) A
  go_enter Try.func12, Try.ntmps12
  go_wp2_with fail
  refine (markRotorS_any g x.rotors.length c k _ _ (h' _) (len_rvs _) hl h1 (by omega)).mono ?_
  rintro e w1 ⟨r, rfl, hg⟩
  have hb := hb0 (.cells #[.slice (some ⟨g, 0, none⟩) x.rotors.length c, .string x.refl] 30)
  clear h' hb0
  go_wp2
  go_ret
  exact ⟨r, rfl, grown_trans ⟨hb.os, hb.tape, hb.output, hb.size, fun i hi _ => hb.block i hi⟩ hg⟩
end Go.Proofs.Ytaplndmgbinhcaa
