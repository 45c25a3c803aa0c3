/- The walk of the law on exchanged wheels. -/
import Derived.Test.YtegbmjdaohnlaaaDrawTele2
namespace Go.Proofs.Ytegbmjdaohnlaaa
open Go.RowKit

theorem teleB_comm (chi psi : List ByteArray) (m : ByteArray) : teleB psi chi m = teleB chi psi m := by
  unfold teleB
  rw [Bool.and_comm (psi.length == 3 && psi.all bitsB)]
theorem teleB_len {chi psi : List ByteArray} {m : ByteArray} (h : teleB chi psi m = true) : chi.length = 3 ∧ psi.length = 3 := by
  simp [teleB] at h; exact ⟨h.1.1.1, h.1.2.1⟩

set_option maxRecDepth 100000 in
set_option maxHeartbeats 1000000 in
theorem teleValid_walk (a : Option Addr) (len cap : Nat) (zs : List Int) (w : World) (h : IsRow .u8 w a len cap zs) :
    Calls Try.prog 6 #[.slice a len cap] w fun e w' => e = .returned (.bool true) ∧ Below w.heap.size w w' := by
  by_cases hl : 1048576 < len
  · go_enter Try.func6, Try.ntmps6
    go_wp2
    go_ret
    exact ⟨rfl, Below.refl _ _⟩
  · go_enter Try.func6, Try.ntmps6
    go_wp2_with fail
    refine (DrawTeleValid_any a len cap zs w h (by omega)).mono ?_
    rintro e w1 ⟨v, rfl, a1, a2, c1, c2, chi, psi, m, rfl, r1, r2, -, s1, s2, hm, l1, l2, hb1⟩
    have S1 : Hid (∀ s ∈ chi, s.size ≤ 4294967296) := fun s hs => by have := s1 s hs; omega
    have S2 : Hid (∀ s ∈ psi, s.size ≤ 4294967296) := fun s hs => by have := s2 s hs; omega
    clear s1 s2
    go_wp2_with fail
    have o1 := Own.new w1 [.slice a1 chi.length c1, .slice a2 psi.length c2, .string m] 30
    have r1' := r1.alloc_ (.cells #[.slice a1 chi.length c1, .slice a2 psi.length c2, .string m] 30)
    have r2' := r2.alloc_ (.cells #[.slice a1 chi.length c1, .slice a2 psi.length c2, .string m] 30)
    have hb2 : Below w.heap.size w (w1.alloc (.cells #[.slice a1 chi.length c1, .slice a2 psi.length c2, .string m] 30)) := bt hb1 ((Below.refl _ _).alloc (Nat.le_refl _) _)
    clear r1 r2 hb1
    generalize (w1.alloc (.cells #[.slice a1 chi.length c1, .slice a2 psi.length c2, .string m] 30)) = W at *
    generalize w1.heap.size = B1 at *
    refine (implTeleValid_any a1 a2 c1 c2 chi psi m W r1' r2' S1.out S2.out (by omega) (by omega) (by omega)).mono ?_
    rintro e w3 ⟨rfl, hb3⟩
    have o3 := o1.below hb3 o1.lt
    have q1 := (r1'.below hb3 (Nat.le_refl _)).more hb3.size
    have q2 := (r2'.below hb3 (Nat.le_refl _)).more hb3.size
    have hbw3 := bt hb2 hb3
    have f0 := o3.at_ (i := 0) rfl
    have f1 := o3.at_ (i := 1) rfl
    have f2 := o3.at_ (i := 2) rfl
    clear hb3 hb2 r1' r2' o1
    go_wp2_with fail
    refine (specTeleValid_any a1 a2 c1 c2 chi psi m w3 q1 q2 S1.out S2.out (by omega) (by omega) (by omega)).mono ?_
    rintro e w4 ⟨rfl, hb4⟩
    have o4 := o3.below hb4 o3.lt
    have p1 := (q1.below hb4 (Nat.le_refl _)).more hb4.size
    have p2 := (q2.below hb4 (Nat.le_refl _)).more hb4.size
    have hbw4 := bt hbw3 hb4
    clear f0 f1 f2 hb4 hbw3 q1 q2 o3
    have f0 := o4.at_ (i := 0) rfl
    have f1 := o4.at_ (i := 1) rfl
    have f2 := o4.at_ (i := 2) rfl
    cases ht : teleB chi psi m
    · go_wp2_with fail
      refine (implTeleValid_any a2 a1 c2 c1 psi chi m w4 p2 p1 S2.out S1.out (by omega) (by omega) (by omega)).mono ?_
      rintro e w5 ⟨rfl, hb5⟩
      rw [teleB_comm, ht]
      go_wp2
      go_ret
      exact ⟨rfl, bt hbw4 hb5⟩
    · have hlen := teleB_len ht
      have k1 : ((chi.length : Int) == 3) = true := by simp [hlen.1]
      have k2 : ((psi.length : Int) == 3) = true := by simp [hlen.2]
      clear hlen
      go_wp2_with fail
      refine (implTeleValid_any a2 a1 c2 c1 psi chi m w4 p2 p1 S2.out S1.out (by omega) (by omega) (by omega)).mono ?_
      rintro e w5 ⟨rfl, hb5⟩
      have o5 := o4.below hb5 o4.lt
      have g0 := o5.at_ (i := 0) rfl
      have g1 := o5.at_ (i := 1) rfl
      rw [teleB_comm, ht]
      go_wp2
      go_ret
      exact ⟨rfl, bt hbw4 hb5⟩
end Go.Proofs.Ytegbmjdaohnlaaa
