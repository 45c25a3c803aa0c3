/- Several of my texts in one: KeyPerms, SpecM, Enc, SpecN. -/
import Derived.Test.YtdmnkcmkpjmfaaaGreatM8
import Derived.Test.YtdmnkcmkpjmfaaaGreatM3
import Derived.Test.YtdmnkcmkpjmfaaaGreatM7
/- KeyPerms: the permutations of the next keys. -/
namespace Go.Proofs.YtdmnkcmkpjmfaaaGreat
open Go.RowKit
attribute [local go_sem] Oper.semAt_some

/-- The words of the first keys. -/
def keyS (m : Mach) (v : ByteArray) (n : Nat) : List ByteArray := (List.range n).map fun k => wd (keyN m v k)
theorem len_keyS (m : Mach) (v : ByteArray) (n : Nat) : (keyS m v n).length = n := by simp [keyS]
theorem keyS_take {m : Mach} {v : ByteArray} {n k : Nat} (h : k < n) : (keyS m v n).take (k + 1) = (keyS m v n).take k ++ [wd (keyN m v k)] := by
  rw [List.take_succ_eq_append_getElem (by rw [len_keyS]; exact h)]; simp [keyS]
/-- What KeyPerms answers. -/
def keyT (m : Mach) (v : ByteArray) (n : Int) : List ByteArray := if setB m v = true ∧ 0 ≤ n ∧ n ≤ 60 then keyS m v n.toNat else []
theorem keyT_no {m : Mach} {v : ByteArray} {n : Int} (h : ¬ (setB m v = true ∧ 0 ≤ n ∧ n ≤ 60)) : keyT m v n = [] := by simp only [keyT, if_neg h]
theorem keyT_yes {m : Mach} {v : ByteArray} {n : Nat} (h : setB m v = true) (hn : n ≤ 60) : keyT m v (n : Int) = keyS m v n := by
  have : setB m v = true ∧ (0 : Int) ≤ (n : Int) ∧ (n : Int) ≤ 60 := ⟨h, by omega, by omega⟩
  simp only [keyT, if_pos this, Int.toNat_natCast]
theorem row_nil {w w' : World} (hb : Below w.heap.size w w') : RowPost 9 1 (0 : Nat) [] w (.returned (.slice none 0 0)) w' := ⟨_, rfl, World.ownsRow_nil _ _ _ _, hb⟩

set_option maxRecDepth 100000 in
set_option maxHeartbeats 1000000 in
theorem implKeyPerms_any (a : Option Addr) (n c : Nat) (m : Mach) (v : ByteArray) (N : Int) (w : World) (h : MachAt w w.heap.size a n m) (hv : v.size ≤ 4294967296) :
    Calls Tryz.prog 58 #[.agg #[.slice a n c, .string m.wheels.refl, .string m.rings, .string m.plugs], .string v, .int .i64 N] w (RowPost 9 1 (keyT m v N).length (sv (keyT m v N)) w) := by
  have o0 := (Own.new w [.slice a n c, .string m.wheels.refl, .string m.rings, .string m.plugs] 36).alloc (.cells [.int .i64 N].toArray 3)
  have o1 := Own.new (w.alloc (.cells [.slice a n c, .string m.wheels.refl, .string m.rings, .string m.plugs].toArray 36)) [.int .i64 N] 3
  have hb0 := ((Below.refl w.heap.size w).alloc (Nat.le_refl _) (.cells [.slice a n c, .string m.wheels.refl, .string m.rings, .string m.plugs].toArray 36)).alloc (by simp) (.cells [.int .i64 N].toArray 3)
  have h' := (h.alloc_ (.cells [.slice a n c, .string m.wheels.refl, .string m.rings, .string m.plugs].toArray 36)).alloc_ (.cells [.int .i64 N].toArray 3)
  rw [World.size_alloc] at o1
  by_cases hyes : setB m v = true ∧ 0 ≤ N ∧ N ≤ 60
  · obtain ⟨hsb, hN0, hN60⟩ := hyes
    obtain ⟨q, rfl⟩ := Int.eq_ofNat_of_zero_le hN0
    have hq60 : q ≤ 60 := by omega
    rw [keyT_yes hsb hq60]
    rcases Nat.eq_zero_or_pos q with hq0 | hq0
    · subst hq0
      have hmk : ∀ W : World, (Instr.makeSlice 30 (.int .i64 0) (.int .i64 0)).run Tryz.prog W = .ok (.slice (some ⟨W.heap.size, 0, none⟩) 0 0) (W.alloc (.cells #[] 9)) :=
        fun W => by have := run_make1 (P := Tryz.prog) Tryz.underlying30 info_str rfl 0 0 (Nat.zero_le _) (by omega) (by omega) W; simpa using this
      go_enter Tryz.func58, Tryz.ntmps58
      go_wp2_with fail
      refine (settingValid_any _ _ _ _ _ _ h' hv).mono ?_
      rintro e w1 ⟨rfl, hb1⟩
      rw [hsb]
      have f1 := (o1.below hb1 o1.lt).at_ (i := 0) rfl
      have hb := bt hb0 hb1
      have hz := hb.size
      have f2 := (((o1.below hb1 o1.lt).alloc (.cells #[] 9)).alloc (.cells [.slice (some ⟨w1.heap.size, 0, none⟩) 0 0].toArray 30)).at_ (i := 0) rfl
      clear o0 o1 hb0 hb1 h'
      go_wp2
      go_ret
      refine ⟨_, rfl, World.ownsRow.alloc (World.ownsRow_made w1 _ 0 hz (by unfold maxLen; omega) (by simp)) _, (hb.alloc hz _).alloc (by simp; omega) _⟩
    · have hmk : ∀ W : World, (Instr.makeSlice 30 (.int .i64 0) (.int .i64 (q : Int))).run Tryz.prog W = .ok (.slice (some ⟨W.heap.size, 0, none⟩) 0 q) (W.alloc (.cells (Array.replicate q (Value.string ⟨#[]⟩)) 9)) :=
        fun W => by have := run_make1 (P := Tryz.prog) Tryz.underlying30 info_str rfl 0 q (Nat.zero_le _) (by omega) (by omega) W; simpa using this
      refine (callsIn_wide (n := 3)).1 ?_
      refine callsIn_of_wp_marks Tryz.func58 rfl trivial ?_ rfl
      simp only [Tryz.ntmps58, List.size_toArray, List.length_cons, List.length_nil, Nat.reduceAdd, Nat.reduceSub, Array.replicate_succ, Array.replicate_zero, List.push_toArray, List.append_toArray, List.nil_append, List.cons_append]
      gi_wp2_with fail
      refine ⟨trivial, (calls_in (ro := none) (settingValid_any _ _ _ _ _ _ h' hv)).mono ?_⟩
      rintro e w1 ⟨rfl, hb1⟩
      rw [hsb]
      have p0 := o0.below hb1 o0.lt
      have p1 := o1.below hb1 o1.lt
      have hM1 := (h'.below hb1 (Nat.le_refl _)).more hb1.size
      have hb := bt hb0 hb1
      have hz := hb.size
      clear o0 o1 hb0 hb1 h'
      have f1 := p1.at_ (i := 0) rfl
      have p02 := (p0.alloc (.cells (Array.replicate q (Value.string ⟨#[]⟩)) 9)).alloc (.cells [.slice (some ⟨w1.heap.size, 0, none⟩) 0 q].toArray 30)
      have f2 := p02.at_ (i := 0) rfl
      have f3 := p02.at_ (i := 1) rfl
      have f4 := p02.at_ (i := 2) rfl
      have f5 := p02.at_ (i := 3) rfl
      have t0 : ((q : Int) == 0) = false := by rw [beq_eq_false_iff_ne]; omega
      have t1 : decide ((q : Int) < 0) = false := decide_eq_false (by omega)
      have t2 : decide (60 < (q : Int)) = false := decide_eq_false (by omega)
      have z1 := p1.lt
      have r0 := World.ownsRow.alloc (World.ownsRow_made (base := w.heap.size) (e := 9) (size := 1) w1 (Array.replicate q (Value.string ⟨#[]⟩)) q hz (by unfold maxLen; omega) (by simp)) (.cells [.slice (some ⟨w1.heap.size, 0, none⟩) 0 q].toArray 30)
      have l0 := Own.new (w1.alloc (.cells (Array.replicate q (Value.string ⟨#[]⟩)) 9)) [.slice (some ⟨w1.heap.size, 0, none⟩) 0 q] 30
      rw [World.size_alloc] at l0
      have p2 := (p1.alloc (.cells (Array.replicate q (Value.string ⟨#[]⟩)) 9)).alloc (.cells [.slice (some ⟨w1.heap.size, 0, none⟩) 0 q].toArray 30)
      have f6 := p2.at_ (i := 0) rfl
      have hM2 := (hM1.alloc_ (.cells (Array.replicate q (Value.string ⟨#[]⟩)) 9)).alloc_ (.cells [.slice (some ⟨w1.heap.size, 0, none⟩) 0 q].toArray 30)
      have hb2 := (hb.alloc hz (.cells (Array.replicate q (Value.string ⟨#[]⟩)) 9)).alloc (by simp; omega) (.cells [.slice (some ⟨w1.heap.size, 0, none⟩) 0 q].toArray 30)
      gi_wp2_with fail
      generalize hW2 : ((w1.alloc (.cells (Array.replicate q (Value.string ⟨#[]⟩)) 9)).alloc (.cells #[.slice (some ⟨w1.heap.size, 0, none⟩) 0 q] 30)) = W2 at *
      have HS2 : Hid (W2.heap.size = w1.heap.size + 1 + 1) := by
        show _ = _
        rw [← hW2]; simp
      refine ⟨trivial, (calls_in (ro := none) (newAssembly_any _ _ _ _ _ hM2 (setB_mach hsb))).mono ?_⟩
      rintro e w3 ⟨rfl, hA3, hb3⟩
      have l3 := l0.below hb3 l0.lt
      have p3 := p2.below hb3 p2.lt
      have r3 := OwR.below r0 hb3 (Nat.le_refl _)
      have hM3 := (hM2.below hb3 (Nat.le_refl _)).more hb3.size
      have hbw3 := bt hb2 hb3
      have hz3 := hA3.lt
      clear f1 f2 f3 f4 f5 f6 hW2 l0 p2 r0 hM2 hb2 hb3 p02 p0 p1 hb hM1
      gi_wp2_with fail
      refine ⟨trivial, (calls_in (ro := none) (keys_any _ _ _)).mono ?_⟩
      rintro e w4 ⟨rfl, k0, k1, hb4⟩
      have l4 := l3.below hb4 l3.lt
      have p4 := p3.below hb4 p3.lt
      have r4 := OwR.below r3 hb4 (Nat.le_refl _)
      have hM4 := (hM3.below hb4 (Nat.le_refl _)).more hb4.size
      have hA4 := hA3.below hb4 hz3
      have hbw4 := bt hbw3 hb4
      have hz4 := k1.lt
      clear l3 p3 r3 hM3 hA3 hbw3 hb4
      gi_wp2_with fail
      obtain ⟨b, off, rfl, hbl, -⟩ := h.whl.cells (setB_fit hsb).one
      have hlen := len_keyS m v q
      have hs2 := HS2.out
      generalize hG : W2.heap.size + 1 = G at *
      generalize hB3 : w3.heap.size = B3 at *
      have HK : Hid (∀ x, (KA G (some ⟨b, off, none⟩) B3 x ∨ x = B3 + 1) → x < w4.heap.size ∧ x ≠ w1.heap.size ∧ x ≠ w1.heap.size + 1 ∧ x ≠ w.heap.size + 1) := by
        rintro x ((rfl | rfl | ⟨ad, ha, rfl⟩) | rfl)
        · omega
        · omega
        · cases ha; simp only; omega
        · omega
      refine wpIn_rangeFunc_keysT rfl (by omega) (gf := 143) (lb := #[.pointer (some ⟨B3, 0, none⟩), .pointer (some ⟨B3 + 1, 0, none⟩)]) rfl trivial (enters_of Tryz.func143 (by kernel_rfl) rfl)
        (keys_seq _ G B3 (B3 + 1) _ _ c m v w4 hsb hA4 hM4 k0 k1 (by omega) (by omega) (fun ad e => by cases e; simp only; omega))
        (fun x hx => (HK.out x (.inl hx)).1) (by omega) q hq0
        (fun k W => Coll 9 1 w.heap.size w1.heap.size (w1.heap.size + 1) w4.heap.size k (sv ((keyS m v q).take k)) W ∧ Own W (w.heap.size + 1) [.int .i64 (q : Int)] ∧ Below w.heap.size w W ∧ w4.heap.size ≤ W.heap.size)
        (fun co W => co = .exit 0 ∧ Coll 9 1 w.heap.size w1.heap.size (w1.heap.size + 1) w4.heap.size q (sv (keyS m v q)) W ∧ Below w.heap.size w W)
        ?hI ?hIx ?h0
        (AxBox m v w4.heap.size 31 32 9) ?hAx ?assign ?body ?stop
      case hI =>
        rintro k A B r ⟨h1, h2, h3, h4⟩ hg hr
        exact ⟨h1.grown hg (by omega) (by omega) (by omega), h2.grown hg (by simp; omega), h3.grown hg (by omega) (fun x e => by cases e; omega), Nat.le_trans h4 hg.size⟩
      case hIx =>
        rintro co A B r ⟨h0, h1, h3⟩ hg hr
        exact ⟨h0, h1.grown hg (by omega) (by omega) (by omega), h3.grown hg (by have := h3.size; omega) (fun x e => by cases e; omega)⟩
      case h0 => exact ⟨Coll.start l4 r4 (fun x e => by simp only [Value.ownBlock, Option.some.injEq] at e; exact e.symm), p4, hbw4, Nat.le_refl _⟩
      case hAx => exact fun k a' A B h hg => h.grown hg
      case assign =>
        rintro l k W Kn ⟨h1, h2, h3, h4⟩ hk hlt hKn
        have hp := isP_keyN (setB_mach hsb) v k
        have hlp := size_pv10 hp
        have z9 : Own (W.alloc (.cells #[.int .u8 0, .int .u8 0, .int .u8 0, .int .u8 0, .int .u8 0, .int .u8 0, .int .u8 0, .int .u8 0, .int .u8 0, .int .u8 0] 102)) W.heap.size z10 := Own.new W z10 102
        refine wpIn_lit_plain (ro := some l) (by kernel_rfl) ?_
        simp only [List.setIfInBounds_toArray, List.set_cons_succ, List.set_cons_zero]
        go_wp2_with ((with_reducible refine wl_store 102 0 z9 (size_pv hp.len) (pv_one _) (by rw [hlp, len_z10]; omega) ?_ ?_ ?_ ?_); (· rfl); (· rfl); (· rfl); intro w5 q5 b5 s5)
        rw [put_z10 hlp] at q5
        simp only [World.size_alloc] at s5
        have hg : W.grownBy w5 (some W.heap.size) := ⟨b5.os, b5.tape, b5.output, by omega, fun x hx hne => (b5.block x (by simp; omega) hne).trans (Below.heap_alloc W _ x hx)⟩
        have hbel : Below W.heap.size W w5 := ⟨hg.os, hg.tape, hg.output, hg.size, fun x hx => hg.block x hx (by simp; omega)⟩
        refine onlyN_mk ?_
        refine hKn _ _ (hg.block _ hlt (by simp; omega)) (hg.block _ (by omega) (by simp; omega)) (Holds.grown hg (fun x hx => by have := (HK.out x hx).1; omega) (fun x hx => by have := (HK.out x hx).1; simp; omega)) ⟨h1.below hbel, h2.below hbel h2.lt, h3.trans (hbel.mono h3.size), by omega⟩ ⟨W.heap.size, hlt, q5, rfl⟩
      case body =>
        rintro l k a' W ⟨⟨val, hl, hr, hvb⟩, h2, h3, h4⟩ ⟨Bx, hBx, ox, rfl⟩ hk hlt
        have hp := isP_keyN (setB_mach hsb) v k
        have hlp := size_pv10 hp
        have lw := hl.lt
        have lx := ox.lt
        have f0 := hl.at_ (i := 0) rfl
        simp only [List.setIfInBounds_toArray, List.set_cons_succ, List.set_cons_zero]
        gi_wp2
        refine wpIn_draw_plain (ro := some l) (by kernel_rfl) (by kernel_rfl) ?_
        refine wpAny_of_K (S := fun w' => w'.cell? ⟨w1.heap.size + 1, 0, none⟩ = some val) (kp := fun i => decide (i ≤ 3)) _ _ _ _ ?_
        have hS : (fun w' : World => w'.cell? ⟨w1.heap.size + 1, 0, none⟩ = some val) W.drew := f0
        have hzs := size_pv hp.len
        refine kr_take 0 33 (v := val) rfl (by kernel_rfl) (by kernel_rfl) (by kernel_rfl) (by kernel_rfl) (fun _ _ _ h => by cases h.1) rfl hS (Or.inl ⟨by rfl, fun w' hw' => ?_⟩) ?_
        · have hw1 := hw'
          simp [go_sem, hw1]
        simp only [Act.put, List.setIfInBounds_toArray, List.set_cons_succ, List.set_cons_zero]
        refine kr_load 1 34 102 (by kernel_rfl) rfl (by rfl) rfl rfl rfl ox.cells hzs Tryz.underlying102 rfl ⟨hS, ?_⟩
        simp only [Act.put, List.setIfInBounds_toArray, List.set_cons_succ, List.set_cons_zero]
        refine kr_call 2 35 (by kernel_rfl) rfl (by rfl) rfl (fun w => by simp [go_sem]) (string_any (keyN m v k) W.drew hp) (fun wc hbc0 => ?_)
        have hbc : Below W.heap.size W wc := (Below.refl W.heap.size W).drew.trans hbc0
        have hl2 := hl.below hbc lw
        refine ⟨hl2.at_ (i := 0) rfl, ?_⟩
        simp only [Act.put, List.setIfInBounds_toArray, List.set_cons_succ, List.set_cons_zero]
        refine kr_value 3 36 (v := .slice (some ⟨wc.heap.size, 0, none⟩) 1 1) (w' := wc.alloc (.cells #[.string (wd (keyN m v k))] 9)) (by kernel_rfl) rfl (by rfl) rfl (by simp [go_sem]) ⟨(hl2.alloc _).at_ (i := 0) rfl, ?_⟩
        simp only [Act.put, List.setIfInBounds_toArray, List.set_cons_succ, List.set_cons_zero]
        refine kr_drop 4 rfl (by kernel_rfl) (by kernel_rfl) ?_
        simp only [List.drop_succ_cons, List.drop_zero]
        have hr2 := OwR.below hr hbc (Nat.le_refl _)
        have hzc := hbc.size
        go_wp2_with (at_builtin; ((with_reducible refine wl_pushG 30 9 info_str Tryz.underlying30 rfl (by omega) hr2 (by omega) rfl (by simp [Value.oneCell']) (by omega) (by omega) rfl rfl ?_); intro g cap w6 hr6 hg6 hat6 hz6 hk6; have hl6 := hl2.grown hg6 (fun e => by have := hvb _ e.symm; omega); have f6 := hl6.at_ (i := 0) rfl; have e6 := hl6.free 0 (by simp)))
        refine onlyN_mk ?_
        have hC := Coll.push (e := 9) (sz := 1) (base := w.heap.size) (R0 := w1.heap.size) (L := w4.heap.size) (by omega) (by omega) (by omega) hl2 hvb hr6 hg6 hat6
        have hko : KeepsOthers W (w6.setCell ⟨w1.heap.size + 1, 0, none⟩ (.slice (some ⟨g, 0, none⟩) (k + 1) cap)) := ((keeps_below hbc).trans hk6).trans (KeepsOthers.setCell _ _ _)
        have hho : Holds (fun x => KA G (some ⟨b, off, none⟩) B3 x ∨ x = B3 + 1) W (w6.setCell ⟨w1.heap.size + 1, 0, none⟩ (.slice (some ⟨g, 0, none⟩) (k + 1) cap)) := by
          refine (Holds.below hbc (fun x hx => by have := (HK.out x hx).1; omega)).trans ((Holds.grown hg6 (fun x hx => by have := (HK.out x hx).1; omega) (fun x hx e => ?_)).trans (Holds.grown (grown_setCell _ _ _ _) (fun x hx => by have := (HK.out x hx).1; omega) (fun x hx => by have := (HK.out x hx).2.2.1; simp; omega)))
          have h7 := HK.out x hx
          have := hvb x e.symm
          omega
        have hb7 : Below w.heap.size w (w6.setCell ⟨w1.heap.size + 1, 0, none⟩ (.slice (some ⟨g, 0, none⟩) (k + 1) cap)) :=
          ((h3.trans (hbc.mono h3.size)).grown hg6 (by omega) (fun x e => by have := hvb x e; omega)).setCell (by simp; omega) _
        have h27 : Own (w6.setCell ⟨w1.heap.size + 1, 0, none⟩ (.slice (some ⟨g, 0, none⟩) (k + 1) cap)) (w.heap.size + 1) [.int .i64 (q : Int)] :=
          ((h2.below hbc h2.lt).grown hg6 (fun e => by have := hvb _ e.symm; have := h2.lt; omega)).far (by simp; omega) _
        have f8 : (w6.setCell ⟨w1.heap.size + 1, 0, none⟩ (.slice (some ⟨g, 0, none⟩) (k + 1) cap)).cell? ⟨w1.heap.size + 1, 0, none⟩ = some (.slice (some ⟨g, 0, none⟩) (k + 1) cap) := (hl6.set_ (by simp) _).at_ (i := 0) rfl
        have hz8 : w4.heap.size ≤ (w6.setCell ⟨w1.heap.size + 1, 0, none⟩ (.slice (some ⟨g, 0, none⟩) (k + 1) cap)).heap.size := by
          have : (w6.setCell ⟨w1.heap.size + 1, 0, none⟩ (.slice (some ⟨g, 0, none⟩) (k + 1) cap)).heap.size = w6.heap.size := by simp [World.setCell]
          omega
        generalize (w6.setCell ⟨w1.heap.size + 1, 0, none⟩ (.slice (some ⟨g, 0, none⟩) (k + 1) cap)) = w7 at *
        have f9 := h27.at_ (i := 0) rfl
        rw [show sv ((keyS m v q).take k) ++ [Value.string (wd (keyN m v k))] = sv ((keyS m v q).take (k + 1)) by rw [keyS_take hk, sv_append]; rfl] at hC
        by_cases hend : k + 1 = q
        · have te : (((k : Int) + 1 == (q : Int))) = true := by rw [beq_iff_eq]; omega
          have HE : Hid (Coll 9 1 w.heap.size w1.heap.size (w1.heap.size + 1) w4.heap.size q (sv (keyS m v q)) w7) := by
            show Coll _ _ _ _ _ _ _ _ _
            rw [List.take_of_length_le (by rw [len_keyS]; omega)] at hC
            rwa [hend] at hC
          clear hend hC
          gi_wp2
          exact ⟨hko, rfl, HE.out, hb7⟩
        · have te : (((k : Int) + 1 == (q : Int))) = false := by rw [beq_eq_false_iff_ne]; omega
          have hend' : k + 1 < q := by omega
          clear hend
          gi_wp2
          exact ⟨hko, hho, hend', hC, h27, hb7, hz8⟩
      case stop =>
        rintro co W ⟨rfl, ⟨val, hl, hr, -⟩, hB⟩ hKd
        have f0 := hl.at_ (i := 0) rfl
        gi_wp2
        refine ⟨by simp, .inl ⟨_, _, rfl, run_takeDeferred hKd, ?_⟩⟩
        refine ⟨_, results_tmp rfl _ _ _, val, rfl, ?_, hB.trans (belowK_b (w := w4) hbw4.size W _ _ _ (Nat.le_refl _) hKd rfl rfl)⟩
        rw [hlen]
        exact ownsRow_putObj hr _ hKd rfl
  · have hk := keyT_no hyes
    rw [hk]
    cases hsb : setB m v with
    | false =>
      go_enter Tryz.func58, Tryz.ntmps58
      go_wp2_with fail
      refine (settingValid_any _ _ _ _ _ _ h' hv).mono ?_
      rintro e w1 ⟨rfl, hb1⟩
      rw [hsb]
      have hb := bt hb0 hb1
      clear o0 o1 hb0 hb1 h'
      go_wp2
      go_ret
      exact row_nil hb
    | true =>
      by_cases h0 : N < 0
      · go_enter Tryz.func58, Tryz.ntmps58
        go_wp2_with fail
        refine (settingValid_any _ _ _ _ _ _ h' hv).mono ?_
        rintro e w1 ⟨rfl, hb1⟩
        rw [hsb]
        have f1 := (o1.below hb1 o1.lt).at_ (i := 0) rfl
        have hb := bt hb0 hb1
        clear o0 o1 hb0 hb1 h'
        go_wp2
        go_ret
        exact row_nil hb
      · have h60 : 60 < N := by
          rcases Int.lt_or_le 60 N with h | h
          · exact h
          · exact absurd ⟨hsb, by omega, h⟩ hyes
        go_enter Tryz.func58, Tryz.ntmps58
        go_wp2_with fail
        refine (settingValid_any _ _ _ _ _ _ h' hv).mono ?_
        rintro e w1 ⟨rfl, hb1⟩
        rw [hsb]
        have f1 := (o1.below hb1 o1.lt).at_ (i := 0) rfl
        have hb := bt hb0 hb1
        clear o0 o1 hb0 hb1 h'
        go_wp2
        go_ret
        exact row_nil hb
end Go.Proofs.YtdmnkcmkpjmfaaaGreat

/- The specification's keys of a machine. -/
namespace Go.Proofs.YtdmnkcmkpjmfaaaGreat
open Go.RowKit

set_option maxRecDepth 100000 in
theorem l6Through_any (a : Option Addr) (n c : Nat) (x : Whl) (v : ByteArray) (ob : Option Addr) (cb : Nat) (os : List Nat) (w : World) (h : WhlAt w w.heap.size a n x) (hf : FitB x v) (ho : Reads w w.heap.size ob (ov os)) (hlo : os.length = x.rotors.length) (h10 : ∀ o ∈ os, o < 10) :
    Calls Tryz.prog 186 #[.agg #[.slice a n c, .string x.refl], .slice ob os.length cb] w fun e w' => e = .returned (.string (wd (wayP idP x.rotors os))) ∧ Below w.heap.size w w' := by
  have h3 := hf.three
  have h1 := hf.one
  obtain ⟨b, off, rfl, hbl, hc⟩ := h.cells h1
  have hn := h.len
  subst hn
  obtain ⟨bo, oo, rfl, hbo, hco⟩ := ho.cells (by rw [length_ov]; omega)
  have o0 := Own.new w [.slice (some ⟨b, off, none⟩) x.rotors.length c, .string x.refl] 34
  have hb0 := (Below.refl w.heap.size w).alloc (Nat.le_refl _) (.cells [.slice (some ⟨b, off, none⟩) x.rotors.length c, .string x.refl].toArray 34)
  have HP := Lib.hid (fun k => isP_way isP_id (x.rotors.drop k) (os.drop k) (fun r hr => hf.perms r (List.mem_of_mem_drop hr)))
  have HWE := Lib.hid (way_end (p := idP) (rs := x.rotors) (os := os) (k := x.rotors.length) (Nat.le_refl _))
  have H10 := Lib.hid h10
  have hle : os.length ≤ x.rotors.length := by omega
  have hle' : x.rotors.length ≤ os.length := by omega
  clear h10 hlo
  go_enter Tryz.func186, Tryz.ntmps186
  go_wp2_with (go_at_call 124; ((with_reducible refine (specIdentityPerm_any _).mono ?_); rintro e w1 ⟨rfl, hb1⟩))
  have o1 := o0.below hb1 o0.lt
  have hb := bt hb0 hb1
  clear o0 hb0 hb1
  go_loopw [5, 6] (fun s i wr => ∃ k : Nat, k ≤ x.rotors.length ∧ i = .int .i64 ((k : Int) - 1) ∧ s = .string (wd (wayP idP (x.rotors.drop k) (os.drop k))) ∧ Own wr w.heap.size [.slice (some ⟨b, off, none⟩) x.rotors.length c, .string x.refl] ∧ Below w.heap.size w wr) (fun _ i _ => (intOf i + 1).toNat)
  case atStart => exact ⟨x.rotors.length, Nat.le_refl _, by congr 1; omega, by rw [HWE.out], o1, hb⟩
  case round =>
    clear o1 hb
    obtain ⟨k, hk, rfl, rfl, o1, hb⟩ := hrel
    rcases Nat.eq_zero_or_pos k with h0 | h0
    · subst h0
      go_wp2
      go_ret
      exact ⟨rfl, hb⟩
    · obtain ⟨j, rfl⟩ : ∃ j, k = j + 1 := ⟨k - 1, by omega⟩
      have hjr : j < x.rotors.length := by omega
      have hjo : j < os.length := by omega
      have HS := Lib.hid (way_drop (p := idP) hjr hjo)
      have hw := HP.out (j + 1)
      have hw' := HP.out j
      obtain ⟨o, ho'⟩ : ∃ o, o = os[j] := ⟨_, rfl⟩
      have ho10 : o < 10 := by rw [ho']; exact H10.out _ (List.getElem_mem _)
      have hpr := hf.perms _ (List.getElem_mem hjr)
      have hT := (permB_isP hpr).turn o
      have t1 := fun W => l5At_any x.rotors[j].wiring o W hpr ho10
      have t2 := fun W => l2Then_any (wayP idP (x.rotors.drop (j + 1)) (os.drop (j + 1))) (turnP (dg x.rotors[j].wiring) o) W hw hT
      obtain ⟨f0, -⟩ := rot_cells (hc.below hb hbl) hjr
      have f1 := (hco.below hb hbo).at_ (ov_at hjo)
      have f2 := o1.at_ (i := 0) rfl
      have hzz := hb.size
      have e0 : b < wr.heap.size := by omega
      have e1 : bo < wr.heap.size := by omega
      have e2 := o1.lt
      rw [← ho'] at f1 HS
      have KEY : Hid (wd (thenP (wayP idP (x.rotors.drop (j + 1)) (os.drop (j + 1))) (turnP (dg x.rotors[j].wiring) o)) = wd (wayP idP (x.rotors.drop j) (os.drop j))) := by
        show _ = _
        rw [HS.out]
      clear ho' HS hw'
      generalize wayP idP (x.rotors.drop (j + 1)) (os.drop (j + 1)) = wp at *
      generalize turnP (dg x.rotors[j].wiring) o = tp at *
      generalize thenP wp tp = x4 at *
      have d0 := fun (cc : Cls wr.heap.size wr) => (cc.cell b (off + j * 2) e0).trans f0
      have d1 := fun (cc : Cls wr.heap.size wr) => (cc.cell bo (oo + j) e1).trans f1
      have d2 := fun (cc : Cls wr.heap.size wr) => (cc.cell w.heap.size 0 e2).trans f2
      have q1 : (0 : Int) ≤ (j : Int) := by omega
      have q2 : (j : Int) < (x.rotors.length : Int) := by omega
      have q3 : (j : Int) < (os.length : Int) := by omega
      rw [show (((j + 1 : Nat)) : Int) - 1 = (j : Int) by omega]
      clear f0 f1 f2
      go_wp2_with fail
      refine wp_region_cls (by kernel_rfl) (by kernel_rfl) ?_
      repeat (go_big_quiet_step (first | (go_at_call 194; with_reducible exact cls_of (Nat.le_refl _) (t1 _)) | (go_at_call 185; with_reducible exact cls_of (Nat.le_refl _) (t2 _))))
      refine wpQuiet_nil ?_
      intro wc hbc
      go_wp2
      go_roundw
      case rel => exact ⟨j, by omega, by go_num, by rw [KEY.out], o1.below hbc o1.lt, bt hb hbc⟩
      case measure => simp [intOf]

theorem l6Scramble_any (a : Option Addr) (n c : Nat) (x : Whl) (v : ByteArray) (ob : Option Addr) (cb : Nat) (os : List Nat) (w : World) (h : WhlAt w w.heap.size a n x) (hf : FitB x v) (ho : Reads w w.heap.size ob (ov os)) (hlo : os.length = x.rotors.length) (h10 : ∀ o ∈ os, o < 10) :
    Calls Tryz.prog 176 #[.agg #[.slice a n c, .string x.refl], .slice ob os.length cb] w fun e w' => e = .returned (.string (wd (scrP x os))) ∧ Below w.heap.size w w' := by
  have o0 := Own.new w [.slice a n c, .string x.refl] 34
  have hb0 := (Below.refl w.heap.size w).alloc (Nat.le_refl _) (.cells [.slice a n c, .string x.refl].toArray 34)
  have h' := h.alloc_ (.cells [.slice a n c, .string x.refl].toArray 34)
  have ho' : Reads (w.alloc (.cells [.slice a n c, .string x.refl].toArray 34)) (w.alloc (.cells [.slice a n c, .string x.refl].toArray 34)).heap.size ob (ov os) := (ho.below hb0 (Nat.le_refl _)).more (by simp)
  have hpr := permB_isP (plugB_perm (reflB_plug hf.refl))
  have hpw := isP_way isP_id x.rotors os hf.perms
  have f0 := o0.at_ (i := 0) rfl
  have f1 := o0.at_ (i := 1) rfl
  have l0 := o0.lt
  have t1 := fun (cc : Cls (w.alloc (.cells [.slice a n c, .string x.refl].toArray 34)).heap.size (w.alloc (.cells [.slice a n c, .string x.refl].toArray 34))) => l6Through_any a n c x v ob cb os cc.w ((h'.below cc.bel (Nat.le_refl _)).more cc.bel.size) hf ((ho'.below cc.bel (Nat.le_refl _)).more cc.bel.size) hlo h10
  have t2 := fun W => l2Back_wd (wayP idP x.rotors os) W hpw
  have t3 := fun W => l2Renamed_any (dg x.refl) (backP (wayP idP x.rotors os)) W hpr hpw.back
  rw [wd_dg (permB_word (plugB_perm (reflB_plug hf.refl)))] at t3
  have HS : Hid (scrP x os = conjP (dg x.refl) (backP (wayP idP x.rotors os))) := rfl
  rw [HS.out]
  generalize conjP (dg x.refl) (backP (wayP idP x.rotors os)) = y1 at *
  generalize backP (wayP idP x.rotors os) = y2 at *
  generalize wayP idP x.rotors os = y3 at *
  clear hlo h10
  go_enter Tryz.func176, Tryz.ntmps176
  go_wp2_with fail
  generalize (w.alloc (.cells [.slice a n c, .string x.refl].toArray 34)) = W at *
  have d0 := fun (cc : Cls W.heap.size W) => (cc.cell w.heap.size 0 l0).trans f0
  have d1 := fun (cc : Cls W.heap.size W) => (cc.cell w.heap.size 1 l0).trans f1
  clear f0 f1
  refine wp_region_cls (by kernel_rfl) (by kernel_rfl) ?_
  repeat (go_big_quiet_step (first | (go_at_call 186; with_reducible exact cls_of (Nat.le_refl _) (t1 _)) | (go_at_call 139; with_reducible exact cls_of (Nat.le_refl _) (t2 _)) | (go_at_call 175; with_reducible exact cls_of (Nat.le_refl _) (t3 _))))
  refine wpQuiet_nil ?_
  intro wc hbc
  go_wp2
  go_ret
  exact ⟨rfl, bt hb0 hbc⟩

theorem ov_append (a b : List Nat) : ov (a ++ b) = ov a ++ ov b := by simp [ov]
set_option maxRecDepth 100000 in
set_option maxHeartbeats 1000000 in
theorem l8Offsets_any (a : Option Addr) (n c : Nat) (m : Mach) (v : ByteArray) (w : World) (hv : wordB v = true) (hr : wordB m.rings = true) (hs : v.size = m.rings.size) :
    Calls Tryz.prog 177 #[.agg #[.slice a n c, .string m.wheels.refl, .string m.rings, .string m.plugs], .string v] w (RowPost 3 1 (offs m.rings v).length (ov (offs m.rings v)) w) := by
  have hb : v.size ≤ 200 := wordB_size hv
  have hle : v.size ≤ m.rings.size := by omega
  have hle2 : m.rings.size ≤ 200 := by omega
  have Hlo := Lib.hid (len_offs m.rings v)
  have o0 := Own.new w [.slice a n c, .string m.wheels.refl, .string m.rings, .string m.plugs] 36
  have hb0 := (Below.refl w.heap.size w).alloc (Nat.le_refl _) (.cells [.slice a n c, .string m.wheels.refl, .string m.rings, .string m.plugs].toArray 36)
  clear hs
  go_enter Tryz.func177, Tryz.ntmps177
  go_wp2
  go_loopw [5, 6] (fun u i wr => ∃ k : Nat, k ≤ v.size ∧ i = .int .i64 k ∧ OwR wr (w.heap.size + 1) 3 1 u k (ov ((offs m.rings v).take k)) ∧ Own wr w.heap.size [.slice a n c, .string m.wheels.refl, .string m.rings, .string m.plugs] ∧ Below w.heap.size w wr) (fun _ i _ => v.size - (intOf i).toNat)
  case atStart =>
    refine ⟨0, Nat.zero_le _, rfl, ?_, o0.alloc _, hb0.alloc (by simp) _⟩
    have := World.ownsRow_lit (base := w.heap.size + 1) (e := 3) (size := 1) (w.alloc (.cells [.slice a n c, .string m.wheels.refl, .string m.rings, .string m.plugs].toArray 36)) #[] 0 (by simp) (by unfold maxLen; omega) (by simp)
    simpa [ov] using this
  case round =>
    clear o0 hb0
    obtain ⟨k, hk, rfl, hown, o0, hbel⟩ := hrel
    by_cases hlt : k < v.size
    · have hlt2 : k < m.rings.size := by omega
      have hd1 := wordB_at hv k hlt
      have hd2 := wordB_at hr k hlt2
      have n1 := fun W => l1Digit_any v k W (by omega) (by omega) (by omega)
      have n2 := fun W => l1Digit_any m.rings k W (by omega) (by omega) (by omega)
      rw [show v[(k : Int).toNat]'(by omega) = v[k] by simp] at n1
      rw [show m.rings[(k : Int).toNat]'(by omega) = m.rings[k] by simp] at n2
      obtain ⟨z, hz⟩ : ∃ z : Nat, (z : Int) = (dig v[k] - dig m.rings[k] + 10) % 10 := ⟨((dig v[k] - dig m.rings[k] + 10) % 10).toNat, by omega⟩
      have HZ : Hid ((offs m.rings v).take (k + 1) = (offs m.rings v).take k ++ [z]) := by
        show _ = _
        rw [List.take_succ_eq_append_getElem (by rw [Hlo.out]; exact hlt), offs_at hlt hlt2]
        congr 2; omega
      have f2 := o0.at_ (i := 2) rfl
      have hzz := hbel.size
      have lt0 := o0.lt
      generalize hD1 : dig v[k] = D1 at *
      generalize hD2 : dig m.rings[k] = D2 at *
      obtain ⟨a1, a2⟩ := hd1
      obtain ⟨b1, b2⟩ := hd2
      have hm1 : IntKind.i64.wrap (D1 - D2) = D1 - D2 := IntWalk.i64_in _ (by omega)
      have hm2 : IntKind.i64.wrap (D1 - D2 + 10) = D1 - D2 + 10 := IntWalk.i64_in _ (by omega)
      have hm3 : (D1 - D2 + 10).tmod 10 = (z : Int) := by rw [Int.tmod_eq_emod_of_nonneg (by omega)]; omega
      have Hz := Lib.hid hz
      clear hD1 hD2 hz
      go_wp2_with fail
      have hown' : OwR wr.drew (w.heap.size + 1) 3 1 u5 k (ov ((offs m.rings v).take k)) := hown
      go_region_held3 (fun w' => w'.cell? ⟨w.heap.size, 2, none⟩ = some (.string m.rings)) (first | go_keep | exact k2)
        (first | (go_at_call 90; ((with_reducible refine (n1 _).mono ?_); rintro e w' ⟨rfl, rfl⟩)) | (go_at_call 90; ((with_reducible refine (n2 _).mono ?_); rintro e w' ⟨rfl, rfl⟩)) | (refine st_push 178 3 info_int Tryz.underlying178 rfl (by omega) (by rfl) (by rfl) hown' (by simp; omega) rfl (by simp [Value.oneCell']) (by omega) (by omega) (by rfl) (by rfl) ?_; intro g cap w4 o4 b4 s4; have o5 := o0.drew.below b4 (by omega); have k2 := o5.at_ (i := 2) rfl))
      all_goals
        clear hm1 hm2 hm3
        go_wp2
        go_roundw
        case rel =>
          refine ⟨k + 1, by omega, by go_num, ?_, o5, (hbel.drew.trans (b4.mono (by omega)))⟩
          rw [HZ.out, ov_append]
          exact o4
        case measure => simp [intOf]; omega
    · have hk' : k = v.size := by omega
      subst hk'
      go_wp2
      go_ret
      rw [List.take_of_length_le (by rw [Hlo.out]; omega)] at hown
      refine ⟨_, rfl, ?_, hbel⟩
      rw [Hlo.out]
      exact World.ownsRow.mono hown (by omega)
end Go.Proofs.YtdmnkcmkpjmfaaaGreat

/- The program's Encipher. -/
namespace Go.Proofs.YtdmnkcmkpjmfaaaGreat
open Go.RowKit
attribute [local go_sem] Oper.semAt_some

theorem encT_no {m : Mach} {v u : ByteArray} (h : ¬ (setB m v = true ∧ wordB u = true)) : encT m v u = (S [], S [], false) := by simp only [encT, if_neg h]
theorem encT_yes {m : Mach} {v u : ByteArray} (h : setB m v = true) (h2 : wordB u = true) : encT m v u = (wd (encD m v (dg u)), stepN m.wheels u.size v, true) := by
  have : setB m v = true ∧ wordB u = true := ⟨h, h2⟩
  simp only [encT, if_pos this]
/-- Three results. -/
def encV (m : Mach) (v u : ByteArray) : Value := .tuple #[.string (encT m v u).1, .string (encT m v u).2.1, .bool (encT m v u).2.2]

/-- How far the word has been enciphered. -/
structure EncI (m : Mach) (v u : ByteArray) (w : World) (BM OB cap L k : Nat) (W : World) : Prop where
  row : Own W OB (bv ((Go.Proofs.YtdmnkcmkpjmfaaaGreat.L (wd (encD m v (dg u)))).take k ++ (Go.Proofs.YtdmnkcmkpjmfaaaGreat.L u).drop k))
  out : Own W (OB + 1) [.slice (some ⟨OB, 0, none⟩) u.size cap]
  i : Own W (OB + 1 + 1) [.int .i64 (k : Int)]
  win : Own W (BM + 1) [.string (stepN m.wheels k v)]
  bel : Below BM w W
  size : L ≤ W.heap.size
theorem EncI.grown {m : Mach} {v u : ByteArray} {w : World} {BM OB cap L k r : Nat} {A B : World} (h : EncI m v u w BM OB cap L k A) (hg : A.grownBy B (some r)) (hB : BM + 1 < OB) (h1 : OB + 1 + 1 < r) (hA : BM ≤ A.heap.size) : EncI m v u w BM OB cap L k B :=
  ⟨h.row.grown hg (by simp; omega), h.out.grown hg (by simp; omega), h.i.grown hg (by simp; omega), h.win.grown hg (by simp; omega), h.bel.grown hg hA (fun x e => by cases e; omega), Nat.le_trans h.size hg.size⟩

end Go.Proofs.YtdmnkcmkpjmfaaaGreat

/- The specification's permutation of a key, keys, and Encipher. -/
namespace Go.Proofs.YtdmnkcmkpjmfaaaGreat
open Go.RowKit

set_option maxRecDepth 100000 in
set_option maxHeartbeats 1000000 in
theorem l8Perm_any (a : Option Addr) (n c : Nat) (m : Mach) (v : ByteArray) (w : World) (h : MachAt w w.heap.size a n m) (hs : setB m v = true) :
    Calls Tryz.prog 153 #[.agg #[.slice a n c, .string m.wheels.refl, .string m.rings, .string m.plugs], .string v] w fun e w' => e = .returned (.string (wd (keyP m v))) ∧ Below w.heap.size w w' := by
  have hm := setB_mach hs
  have hf := setB_fit hs
  have hp := machB_plugP hm
  have hw := isP_way isP_id m.wheels.rotors (offs m.rings v) hf.perms
  have hsc : IsP (scrP m.wheels (offs m.rings v)) := (machB_reflP hm).conj hw.back
  have HLO : Hid ((offs m.rings v).length = m.wheels.rotors.length) := by
    show _ = _
    rw [len_offs, setB_len hs]
  have o0 := Own.new w [.slice a n c, .string m.wheels.refl, .string m.rings, .string m.plugs] 36
  have hb0 := (Below.refl w.heap.size w).alloc (Nat.le_refl _) (.cells [.slice a n c, .string m.wheels.refl, .string m.rings, .string m.plugs].toArray 36)
  have h' := h.alloc_ (.cells [.slice a n c, .string m.wheels.refl, .string m.rings, .string m.plugs].toArray 36)
  have f0 := o0.at_ (i := 0) rfl
  have f1 := o0.at_ (i := 1) rfl
  have f2 := o0.at_ (i := 2) rfl
  have f3 := o0.at_ (i := 3) rfl
  have l0 := o0.lt
  have t3 := fun W => l2Renamed_any (scrP m.wheels (offs m.rings v)) (dg m.plugs) W hsc hp
  rw [wd_dg (permB_word (plugB_perm (machB_plug hm)))] at t3
  have HK := Lib.hid (key_conj hm v)
  rw [HK.out]
  generalize conjP (scrP m.wheels (offs m.rings v)) (dg m.plugs) = y1 at *
  go_enter Tryz.func153, Tryz.ntmps153
  go_wp2_with fail
  generalize hW : (w.alloc (.cells [.slice a n c, .string m.wheels.refl, .string m.rings, .string m.plugs].toArray 36)) = W at *
  have hM : MachAt W.drew W.drew.heap.size a n m := h'.keep (fun _ _ => rfl)
  go_region_held3 (fun w' => w'.cell? ⟨w.heap.size, 0, none⟩ = some (.slice a n c) ∧ w'.cell? ⟨w.heap.size, 1, none⟩ = some (.string m.wheels.refl) ∧ w'.cell? ⟨w.heap.size, 2, none⟩ = some (.string m.rings) ∧ w'.cell? ⟨w.heap.size, 3, none⟩ = some (.string m.plugs)) (first | go_keep | exact ⟨k0, k1, k2, k3⟩ | exact ⟨j0, j1, j2, j3⟩ | exact ⟨i0, i1, i2, i3⟩)
    (first | (go_at_call 177; refine (l8Offsets_any a n c m v _ (setB_word hs) (machB_fit hm).word (setB_size hs)).mono ?_; rintro e w1 ⟨vv, rfl, hown, hb1⟩; obtain ⟨oa, oc, rfl, hoc, hrd, -⟩ := OwR.val hown; have o1 := o0.drew.below hb1 l0; have k0 := o1.at_ (i := 0) rfl; have k1 := o1.at_ (i := 1) rfl; have k2 := o1.at_ (i := 2) rfl; have k3 := o1.at_ (i := 3) rfl; have hM1 := (hM.below hb1 (Nat.le_refl _)).more hb1.size) | (go_at_call 176; refine (l6Scramble_any a n c m.wheels v _ _ _ _ hM1.whl hf hrd HLO.out (offs_lt _ _)).mono ?_; rintro e w2 ⟨rfl, hb2⟩; have o2 := o1.below hb2 o1.lt; have j0 := o2.at_ (i := 0) rfl; have j1 := o2.at_ (i := 1) rfl; have j2 := o2.at_ (i := 2) rfl; have j3 := o2.at_ (i := 3) rfl) | (go_at_call 175; refine (t3 _).mono ?_; rintro e w3 ⟨rfl, hb3⟩; have o3 := o2.below hb3 o2.lt; have i0 := o3.at_ (i := 0) rfl; have i1 := o3.at_ (i := 1) rfl; have i2 := o3.at_ (i := 2) rfl; have i3 := o3.at_ (i := 3) rfl))
  go_wp2
  go_ret
  subst hW
  exact ⟨rfl, ((hb0.drew.trans (hb1.mono (by simp))).trans (hb2.mono (by have := hb1.size; simp at this; omega))).trans (hb3.mono (by have := hb1.size; have := hb2.size; simp at *; omega))⟩

theorem keyS_snoc (m : Mach) (v : ByteArray) (k : Nat) : keyS m v (k + 1) = keyS m v k ++ [wd (keyN m v k)] := by simp [keyS, List.range_succ]
set_option maxRecDepth 100000 in
set_option maxHeartbeats 1000000 in
theorem l8Perms_any (a : Option Addr) (n c : Nat) (m : Mach) (v : ByteArray) (N : Nat) (w : World) (h : MachAt w w.heap.size a n m) (hs : setB m v = true) (hN : N ≤ 1000) :
    Calls Tryz.prog 123 #[.agg #[.slice a n c, .string m.wheels.refl, .string m.rings, .string m.plugs], .string v, .int .i64 (N : Int)] w (RowPost 9 1 (keyS m v N).length (sv (keyS m v N)) w) := by
  have o0 := Own.new w [.slice a n c, .string m.wheels.refl, .string m.rings, .string m.plugs] 36
  have hb0 := (Below.refl w.heap.size w).alloc (Nat.le_refl _) (.cells [.slice a n c, .string m.wheels.refl, .string m.rings, .string m.plugs].toArray 36)
  go_enter Tryz.func123, Tryz.ntmps123
  go_wp2
  go_loopw [1, 7, 8] (fun x u i wr => ∃ k : Nat, k ≤ N ∧ i = .int .i64 k ∧ x = .string (stepN m.wheels k v) ∧ OwR wr (w.heap.size + 1) 9 1 u k (sv (keyS m v k)) ∧ Own wr w.heap.size [.slice a n c, .string m.wheels.refl, .string m.rings, .string m.plugs] ∧ Below w.heap.size w wr) (fun _ _ i _ => N - (intOf i).toNat)
  case atStart =>
    refine ⟨0, Nat.zero_le _, rfl, rfl, ?_, o0.alloc _, hb0.alloc (by simp) _⟩
    have := World.ownsRow_lit (base := w.heap.size + 1) (e := 9) (size := 1) (w.alloc (.cells [.slice a n c, .string m.wheels.refl, .string m.rings, .string m.plugs].toArray 36)) #[] 0 (by simp) (by unfold maxLen; omega) (by simp)
    simpa [sv, keyS] using this
  case round =>
    clear o0 hb0
    obtain ⟨k, hk, rfl, rfl, hown, o0, hb⟩ := hrel
    by_cases hlt : k < N
    · have hx := setB_stepN k hs
      have hx1 := setB_stepN (k + 1) hs
      have hfit := setB_fit hx
      have HS := Lib.hid (stepN_succ m.wheels k v)
      have f0 := o0.at_ (i := 0) rfl
      have f1 := o0.at_ (i := 1) rfl
      have lt0 := o0.lt
      have hM : MachAt wr wr.heap.size a n m := (h.below hb (Nat.le_refl _)).more hb.size
      go_wp2_with fail
      refine (l7Step_any a n c m.wheels (stepN m.wheels k v) _ hM.whl hfit).mono ?_
      rintro e w1 ⟨rfl, hb1⟩
      rw [← HS.out]
      have o1 := o0.below hb1 lt0
      have q1 := OwR.below hown hb1 (Nat.le_refl _)
      have hM1 := (hM.below hb1 (Nat.le_refl _)).more hb1.size
      have hbw1 := bt hb hb1
      have lt1 := o1.lt
      clear f0 f1 o0 hown hM hb hb1
      have f0 := o1.at_ (i := 0) rfl
      have f1 := o1.at_ (i := 1) rfl
      have f2 := o1.at_ (i := 2) rfl
      have f3 := o1.at_ (i := 3) rfl
      go_wp2_with fail
      refine (l8Perm_any a n c m (stepN m.wheels (k + 1) v) _ hM1 hx1).mono ?_
      rintro e w2 ⟨rfl, hb2⟩
      have o2 := o1.below hb2 lt1
      have q2 := OwR.below q1 hb2 (Nat.le_refl _)
      have hbw2 := bt hbw1 hb2
      have hz2 := o2.lt
      clear f0 f1 f2 f3 o1 q1 hM1 hbw1 hb2
      go_wp2_with (at_builtin; ((with_reducible refine wl_push 30 9 inf_str Tryz.underlying30 rfl (by omega) q2 (by omega) rfl (by simp [Value.oneCell']) (by omega) (by omega) rfl rfl ?_); intro g cap w4 o4 b4 s4))
      go_roundw
      case rel =>
        refine ⟨k + 1, by omega, by go_num, rfl, ?_, o2.below b4 (by omega), hbw2.trans (b4.mono (by omega))⟩
        rw [keyS_snoc, sv_append]
        exact o4
      case measure => simp [intOf]; omega
    · have hk' : k = N := by omega
      subst hk'
      go_wp2
      go_ret
      refine ⟨_, rfl, ?_, hb⟩
      rw [len_keyS]
      exact World.ownsRow.mono hown (by omega)
end Go.Proofs.YtdmnkcmkpjmfaaaGreat
