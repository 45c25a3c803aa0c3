/- Several of my texts in one: Then. -/
import Derived.Test.YtbeohccbflhdiaaGreatM13
/- ComposePerms of two permutations. -/
namespace Go.Proofs.YtbeohccbflhdiaaGreat
open Go.RowKit
set_option maxRecDepth 100000 in
theorem implComposePerms_yes (p q : List Nat) (w : World) (hp : IsP p) (hq : IsP q) :
    Calls Tryz.prog 86 #[.string (wd p), .string (wd q)] w fun e w' => e = .returned (.tuple #[.string (wd (thenP p q)), .bool true]) ∧ Below w.heap.size w w' := by
  have hpb := permB_wd hp
  have hqb := permB_wd hq
  have hps : (wd p).size ≤ 4294967296 := by rw [size_wd, hp.len]; omega
  have hqs : (wd q).size ≤ 4294967296 := by rw [size_wd, hq.len]; omega
  have hpl := size_pv10 hp
  have hql := size_pv10 hq
  have n1 := fun W => permOf_any (wd p) W hps
  have n2 := fun W => permOf_any (wd q) W hqs
  rw [hpb, permC_yes, dg_wd hp.lt] at n1
  rw [hqb, permC_yes, dg_wd hq.lt] at n2
  clear hpb hqb
  go_enter Tryz.func86, Tryz.ntmps86
  go_wp2_with fail
  refine (n1 _).mono ?_
  rintro e w1 ⟨rfl, hb1⟩
  have o1 : Own (w1.alloc (.cells #[.int .u8 0, .int .u8 0, .int .u8 0, .int .u8 0, .int .u8 0, .int .u8 0, .int .u8 0, .int .u8 0, .int .u8 0, .int .u8 0] 95)) w1.heap.size z10 := Own.new w1 z10 95
  have hz1 := hb1.size
  have hbw := hb1.alloc (by omega) (.cells #[.int .u8 0, .int .u8 0, .int .u8 0, .int .u8 0, .int .u8 0, .int .u8 0, .int .u8 0, .int .u8 0, .int .u8 0, .int .u8 0] 95)
  go_wp2_with ((with_reducible refine wl_store 95 0 o1 (size_pv hp.len) (pv_one _) (by rw [hpl, len_z10]; omega) ?_ ?_ ?_ ?_); (· rfl); (· rfl); (· rfl); intro w2 o2 b2 s2)
  rw [put_z10 hpl] at o2
  simp only [World.size_alloc] at s2
  have hbw2 := bel_store hbw b2 (by simp; omega) (by omega)
  clear o1 hbw b2 hb1
  refine (n2 _).mono ?_
  rintro e w3 ⟨rfl, hb3⟩
  have o3 : Own (w3.alloc (.cells #[.int .u8 0, .int .u8 0, .int .u8 0, .int .u8 0, .int .u8 0, .int .u8 0, .int .u8 0, .int .u8 0, .int .u8 0, .int .u8 0] 95)) w3.heap.size z10 := Own.new w3 z10 95
  have hz3 := hb3.size
  have p3 := (o2.below hb3 o2.lt).alloc (.cells #[.int .u8 0, .int .u8 0, .int .u8 0, .int .u8 0, .int .u8 0, .int .u8 0, .int .u8 0, .int .u8 0, .int .u8 0, .int .u8 0] 95)
  have hbw3 := (bt hbw2 hb3).alloc (bt hbw2 hb3).size (.cells #[.int .u8 0, .int .u8 0, .int .u8 0, .int .u8 0, .int .u8 0, .int .u8 0, .int .u8 0, .int .u8 0, .int .u8 0, .int .u8 0] 95)
  have l3 := (o2.below hb3 o2.lt).lt
  clear o2 hbw2 hb3
  go_wp2_with (first | ((with_reducible refine wl_store 95 0 o3 (size_pv hq.len) (pv_one _) (by rw [hql, len_z10]; omega) ?_ ?_ ?_ ?_); (· rfl); (· rfl); (· rfl); intro w4 o4 b4 s4; have p4 := p3.grown b4 (by simp; omega); rw [put_z10 hql] at o4; have hbw4 := bel_store hbw3 b4 (by simp; omega) (by omega)) | ((with_reducible refine wl_load 95 p4.cells (size_pv hp.len) Tryz.underlying95 ?_ ?_ ?_ ?_); (· rfl); (· rfl); (· rfl)) | ((with_reducible refine wl_load 95 o4.cells (size_pv hq.len) Tryz.underlying95 ?_ ?_ ?_ ?_); (· rfl); (· rfl); (· rfl)) | (go_at_call 134; ((with_reducible refine (then_any _ _ _ hp hq).mono ?_); rintro e w5 ⟨rfl, hb5⟩)) | (go_at_call 83; ((with_reducible refine (string_any _ _ (hp.then hq)).mono ?_); rintro e w6 ⟨rfl, hb6⟩)))
  go_ret2
  exact ⟨rfl, bt (bt hbw4 hb5) hb6⟩
theorem rcThen_yes (p q : List Nat) (w : World) (hp : IsP p) (hq : IsP q) :
    Calls Tryz.prog 31 #[.string (wd p), .string (wd q)] w fun e w' => e = .returned (.string (wd (thenP p q))) ∧ Below w.heap.size w w' := by
  go_enter Tryz.func31, Tryz.ntmps31
  go_wp2_with fail
  refine (implComposePerms_yes p q _ hp hq).mono ?_
  rintro e w1 ⟨rfl, hb1⟩
  go_wp2
  go_ret
  exact ⟨rfl, hb1⟩
end Go.Proofs.YtbeohccbflhdiaaGreat
