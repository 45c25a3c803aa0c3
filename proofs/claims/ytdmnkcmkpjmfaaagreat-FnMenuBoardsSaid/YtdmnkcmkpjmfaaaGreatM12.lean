/- Several of my texts in one: MenuI, MenuK, MenuV, MenuC. -/
import Derived.Test.YtdmnkcmkpjmfaaaGreatM11
/- CribFits and MenuOf of the program, where a word stands in its own place. -/
namespace Go.Proofs.YtdmnkcmkpjmfaaaGreat
open Go.RowKit

theorem inf_lnk : (Tryz.prog.info? 72).map (fun i => (i.zero, i.size, i.bytes)) = some (some (.agg #[.string ⟨#[]⟩, .string ⟨#[]⟩, .int .i64 0]), 3, 40) := by kernel_rfl
theorem make_lnk (c : Nat) (hc : c ≤ 1048576) : ∃ X : Array Value, X.size = c * 3 ∧ ∀ w : World, (Instr.makeSlice 38 (.int .i64 0) (.int .i64 (c : Int))).run Tryz.prog w = .ok (.slice (some ⟨w.heap.size, 0, none⟩) 0 c) (w.alloc (.cells X 72)) := by
  obtain ⟨i, hi, h1, h2, h3⟩ := info_parts inf_lnk
  refine ⟨madeCells #[.string ⟨#[]⟩, .string ⟨#[]⟩, .int .i64 0] (c * 3), size_madeCells _ _, fun w => ?_⟩
  have hr := run_make (P := Tryz.prog) w 38 72 i _ Tryz.underlying38 hi h1 .i64 .i64 0 c (by omega) (by omega) (by rw [h3]; omega) (by omega)
  simp only [Int.toNat_natCast, h2] at hr
  exact hr
theorem one_lnk (a b : ByteArray) (k : Int) : ∀ v ∈ [Value.string a, .string b, .int .i64 k], v.oneCell' = true := by
  intro v hv
  simp only [List.mem_cons, List.not_mem_nil, or_false] at hv
  rcases hv with rfl | rfl | rfl <;> rfl
end Go.Proofs.YtdmnkcmkpjmfaaaGreat

/- The keys of a menu's links. -/
namespace Go.Proofs.YtdmnkcmkpjmfaaaGreat
open Go.RowKit
attribute [local go_sem] Oper.semAt_some

/-- The number of a link's key. -/
def kat (ms : List Lnk) (i : Nat) : Nat := ((ms[i]?.map Lnk.k).getD 0).toNat
/-- The cells of the keys of links, in a row. -/
def kvm (m : Mach) (v : ByteArray) (ms : List Lnk) : List Value := (ms.map fun x => pv (keyN m v (x.k.toNat - 1))).flatten
/-- The keys of a menu ascend, from 1 to 60. -/
structure Asc (ms : List Lnk) : Prop where
  one : 1 ≤ ms.length
  few : ms.length ≤ 12
  lo : ∀ i, i < ms.length → 1 ≤ kat ms i
  hi : ∀ i, i < ms.length → kat ms i ≤ 60
  asc : ∀ i, i + 1 < ms.length → kat ms i < kat ms (i + 1)
  pos : ∀ i (h : i < ms.length), ms[i].k = (kat ms i : Int)
theorem Asc.le_last {ms : List Lnk} (h : Asc ms) : ∀ (d i : Nat), i + d + 1 = ms.length → kat ms i ≤ kat ms (ms.length - 1)
  | 0, i, e => by rw [show ms.length - 1 = i by omega]; exact Nat.le_refl _
  | d + 1, i, e => Nat.le_trans (Nat.le_of_lt (h.asc i (by omega))) (h.le_last d (i + 1) (by omega))
theorem kvm_take {m : Mach} {v : ByteArray} {ms : List Lnk} {c : Nat} (h : c < ms.length) : kvm m v (ms.take (c + 1)) = kvm m v (ms.take c) ++ pv (keyN m v (kat ms c - 1)) := by
  unfold kvm kat
  rw [List.take_succ_eq_append_getElem h, List.map_append, List.flatten_append, List.getElem?_eq_getElem h]
  simp
theorem make_perm (c : Nat) (hc : c ≤ 1048576) : ∃ X : Array Value, X.size = c * 10 ∧ ∀ w : World, (Instr.makeSlice 99 (.int .i64 0) (.int .i64 (c : Int))).run Tryz.prog w = .ok (.slice (some ⟨w.heap.size, 0, none⟩) 0 c) (w.alloc (.cells X 102)) := by
  obtain ⟨i, hi, h1, h2, h3⟩ := info_parts inf_perm
  refine ⟨madeCells #[.int .u8 0, .int .u8 0, .int .u8 0, .int .u8 0, .int .u8 0, .int .u8 0, .int .u8 0, .int .u8 0, .int .u8 0, .int .u8 0] (c * 10), size_madeCells _ _, fun w => ?_⟩
  have hr := run_make (P := Tryz.prog) w 99 102 i _ Tryz.underlying99 hi h1 .i64 .i64 0 c (by omega) (by omega) (by rw [h3]; omega) (by omega)
  simp only [Int.toNat_natCast, h2] at hr
  exact hr
set_option maxRecDepth 100000 in
set_option maxHeartbeats 2000000 in
theorem menuKeys_any (a : Option Addr) (n c : Nat) (m : Mach) (v : ByteArray) (am : Option Addr) (cm : Nat) (ms : List Lnk) (w : World) (h : MachAt w w.heap.size a n m) (hsb : setB m v = true) (hrm : Reads w w.heap.size am (lks ms)) (hA : Asc ms) :
    Calls Tryz.prog 88 #[.agg #[.slice a n c, .string m.wheels.refl, .string m.rings, .string m.plugs], .string v, .slice am ms.length cm] w (RowPost 102 10 ms.length (kvm m v ms) w) := by
  have hmb := setB_mach hsb
  have h1 := hA.one
  have h12 := hA.few
  obtain ⟨X, hX, hmk⟩ := make_perm ms.length (by omega)
  refine (callsIn_wide (n := 3)).1 ?_
  refine callsIn_of_wp_marks Tryz.func88 rfl trivial ?_ rfl
  simp only [Tryz.ntmps88, List.size_toArray, List.length_cons, List.length_nil, Nat.reduceAdd, Nat.reduceSub, Array.replicate_succ, Array.replicate_zero, List.push_toArray, List.append_toArray, List.nil_append, List.cons_append]
  have HK1 := Lib.hid hA
  have HRM := Lib.hid (fun (wr : World) (hb : Below w.heap.size w wr) => hrm.below hb (Nat.le_refl _))
  obtain ⟨N, hN⟩ : ∃ N, N = kat ms (ms.length - 1) := ⟨_, rfl⟩
  have hN1 : 1 ≤ N := by rw [hN]; exact hA.lo _ (by omega)
  have hN60 : N ≤ 60 := by rw [hN]; exact hA.hi _ (by omega)
  have HN := Lib.hid hN
  clear hN hrm hA
  have p0 := ((((Own.new w [.slice a n c, .string m.wheels.refl, .string m.rings, .string m.plugs] 36).alloc (.cells [.slice am ms.length cm].toArray 38)).alloc (.cells X 102)).alloc (.cells [.slice (some ⟨w.heap.size + 1 + 1, 0, none⟩) 0 ms.length].toArray 99)).alloc (.cells [.int .i64 0].toArray 3)
  have pm := (((Own.new (w.alloc (.cells [.slice a n c, .string m.wheels.refl, .string m.rings, .string m.plugs].toArray 36)) [.slice am ms.length cm] 38).alloc (.cells X 102)).alloc (.cells [.slice (some ⟨w.heap.size + 1 + 1, 0, none⟩) 0 ms.length].toArray 99)).alloc (.cells [.int .i64 0].toArray 3)
  have rk := World.ownsRow.alloc (World.ownsRow.alloc (World.ownsRow_made (base := w.heap.size) (e := 102) (size := 10) ((w.alloc (.cells [.slice a n c, .string m.wheels.refl, .string m.rings, .string m.plugs].toArray 36)).alloc (.cells [.slice am ms.length cm].toArray 38)) X ms.length (by simp; omega) (by unfold maxLen; omega) hX) (.cells [.slice (some ⟨w.heap.size + 1 + 1, 0, none⟩) 0 ms.length].toArray 99)) (.cells [.int .i64 0].toArray 3)
  have l0 := (Own.new (((w.alloc (.cells [.slice a n c, .string m.wheels.refl, .string m.rings, .string m.plugs].toArray 36)).alloc (.cells [.slice am ms.length cm].toArray 38)).alloc (.cells X 102)) [.slice (some ⟨w.heap.size + 1 + 1, 0, none⟩) 0 ms.length] 99).alloc (.cells [.int .i64 0].toArray 3)
  have pn := Own.new ((((w.alloc (.cells [.slice a n c, .string m.wheels.refl, .string m.rings, .string m.plugs].toArray 36)).alloc (.cells [.slice am ms.length cm].toArray 38)).alloc (.cells X 102)).alloc (.cells [.slice (some ⟨w.heap.size + 1 + 1, 0, none⟩) 0 ms.length].toArray 99)) [.int .i64 0] 3
  have hb0 := (((((Below.refl w.heap.size w).alloc (Nat.le_refl _) (.cells [.slice a n c, .string m.wheels.refl, .string m.rings, .string m.plugs].toArray 36)).alloc (by simp) (.cells [.slice am ms.length cm].toArray 38)).alloc (by simp; omega) (.cells X 102)).alloc (by simp; omega) (.cells [.slice (some ⟨w.heap.size + 1 + 1, 0, none⟩) 0 ms.length].toArray 99)).alloc (by simp; omega) (.cells [.int .i64 0].toArray 3)
  have h' := h.below hb0 (Nat.le_refl _)
  simp only [World.size_alloc] at pm rk l0 pn
  have f0 := p0.at_ (i := 0) rfl
  have f1 := p0.at_ (i := 1) rfl
  have f2 := p0.at_ (i := 2) rfl
  have f3 := p0.at_ (i := 3) rfl
  have g0 := pm.at_ (i := 0) rfl
  gi_wp2_with fail
  generalize hW2 : ((((w.alloc (.cells [.slice a n c, .string m.wheels.refl, .string m.rings, .string m.plugs].toArray 36)).alloc (.cells [.slice am ms.length cm].toArray 38)).alloc (.cells X 102)).alloc (.cells [.slice (some ⟨w.heap.size + 1 + 1, 0, none⟩) 0 ms.length].toArray 99)).alloc (.cells [.int .i64 0].toArray 3) = W2 at *
  have hz2 : W2.heap.size = w.heap.size + 1 + 1 + 1 + 1 + 1 := by rw [← hW2]; simp
  have HZ2 := Lib.hid hz2
  clear hW2
  refine ⟨trivial, (calls_in (ro := none) (newAssembly_any _ _ _ _ _ (h'.more (by omega)) hmb)).mono ?_⟩
  rintro e w3 ⟨rfl, hA3, hb3⟩
  have pm3 := pm.below hb3 pm.lt
  have l3 := l0.below hb3 l0.lt
  have pn3 := pn.below hb3 pn.lt
  have rk3 := OwR.below (w := W2) rk hb3 (Nat.le_refl _)
  have hbw3 := bt hb0 hb3
  have hz3 := hA3.lt
  have hz3b := hb3.size
  clear f0 f1 f2 f3 g0 p0 pm l0 pn rk hb0 hb3 hmk h'
  gi_wp2_with fail
  refine ⟨trivial, (calls_in (ro := none) (keys_any _ _ _)).mono ?_⟩
  rintro e w4 ⟨rfl, k0, k1, hb4⟩
  have pm4 := pm3.below hb4 pm3.lt
  have l4 := l3.below hb4 l3.lt
  have pn4 := pn3.below hb4 pn3.lt
  have rk4 := OwR.below (w := w3) rk3 hb4 (Nat.le_refl _)
  have hA4 := hA3.below hb4 hz3
  have hbw4 := bt hbw3 hb4
  have hM4 := (h.below hbw4 (Nat.le_refl _)).more hbw4.size
  have hz4 := k1.lt
  clear pm3 l3 pn3 rk3 hA3 hbw3 hb4
  gi_wp2_with fail
  obtain ⟨b, off, rfl, hbl, -⟩ := h.whl.cells (setB_fit hsb).one
  rw [hz2] at hA4 hz3
  clear hz2 HZ2 hz3b h
  generalize hG : w.heap.size + 1 + 1 + 1 + 1 + 1 + 1 = G at *
  generalize hB3 : w3.heap.size = B3 at *
  generalize hBM : w.heap.size = BM at *
  have HK : Hid (∀ x, (KA G (some ⟨b, off, none⟩) B3 x ∨ x = B3 + 1) → x < w4.heap.size ∧ (x < BM ∨ BM + 5 < x)) := by
    rintro x ((rfl | rfl | ⟨ad, ha, rfl⟩) | rfl)
    · omega
    · omega
    · cases ha; simp only; omega
    · omega
  have hbm4 : BM + 5 < B3 := by omega
  have HBM := Lib.hid hBM
  have HG := Lib.hid hG
  clear hBM hG hB3
  refine wpIn_rangeFunc_keysT rfl (by omega) (gf := 143) (lb := #[.pointer (some ⟨B3, 0, none⟩), .pointer (some ⟨B3 + 1, 0, none⟩)]) rfl trivial (enters_of Tryz.func143 (by kernel_rfl) rfl)
    (keys_seq _ G B3 (B3 + 1) _ _ c m v w4 hsb hA4 hM4 k0 k1 (by have := HG.out; omega) (by omega) (fun ad e => by cases e; simp only; omega))
    (fun x hx => (HK.out x (.inl hx)).1) (by omega) N (by omega)
    (fun k W => ∃ c, c < ms.length ∧ k < kat ms c ∧ Coll 102 10 BM (BM + 1 + 1) (BM + 1 + 1 + 1) w4.heap.size c (kvm m v (ms.take c)) W ∧ Own W (BM + 1 + 1 + 1 + 1) [.int .i64 (k : Int)] ∧ Own W (BM + 1) [.slice am ms.length cm] ∧ Below BM w W ∧ w4.heap.size ≤ W.heap.size)
    (fun co W => co = .exit 0 ∧ Coll 102 10 BM (BM + 1 + 1) (BM + 1 + 1 + 1) w4.heap.size ms.length (kvm m v ms) W ∧ Below BM w W ∧ w4.heap.size ≤ W.heap.size)
    ?hI ?hIx ?h0
    (AxBox m v w4.heap.size 18 19 10) ?hAx ?assign ?body ?stop
  case hI =>
    rintro k A B r ⟨c, e1, e2, h1, hn, hm, h3, h4⟩ hg hr
    exact ⟨c, e1, e2, h1.grown hg (by omega) (by omega) (by omega), hn.grown hg (by simp; omega), hm.grown hg (by simp; omega), h3.grown hg (by omega) (fun x e => by cases e; omega), Nat.le_trans h4 hg.size⟩
  case hIx =>
    rintro co A B r ⟨h0, h1, h3, h4⟩ hg hr
    exact ⟨h0, h1.grown hg (by omega) (by omega) (by omega), h3.grown hg (by omega) (fun x e => by cases e; omega), Nat.le_trans h4 hg.size⟩
  case h0 => exact ⟨0, by omega, HK1.out.lo 0 (by omega), Coll.start l4 rk4 (fun x e => by simpa [Value.ownBlock] using e.symm), pn4, pm4, hbw4, Nat.le_refl _⟩
  case hAx => exact fun k a' A B h hg => h.grown hg
  case assign =>
    rintro l k W Kn ⟨c, e1, e2, h1, hn, hm, h3, h4⟩ hk hlt hKn
    have hp := isP_keyN hmb v k
    have hlp := size_pv10 hp
    have z9 : Own (W.alloc (.cells #[.int .u8 0, .int .u8 0, .int .u8 0, .int .u8 0, .int .u8 0, .int .u8 0, .int .u8 0, .int .u8 0, .int .u8 0, .int .u8 0] 102)) W.heap.size z10 := Own.new W z10 102
    refine wpIn_lit_plain (ro := some l) (by kernel_rfl) ?_
    simp only [List.setIfInBounds_toArray, List.set_cons_succ, List.set_cons_zero]
    go_wp2_with ((with_reducible refine wl_store 102 0 z9 (size_pv hp.len) (pv_one _) (by rw [hlp, len_z10]; omega) ?_ ?_ ?_ ?_); (· rfl); (· rfl); (· rfl); intro w5 q5 b5 s5)
    rw [put_z10 hlp] at q5
    simp only [World.size_alloc] at s5
    have hg : W.grownBy w5 (some W.heap.size) := ⟨b5.os, b5.tape, b5.output, by omega, fun x hx hne => (b5.block x (by simp; omega) hne).trans (Below.heap_alloc W _ x hx)⟩
    have hbel : Below W.heap.size W w5 := ⟨hg.os, hg.tape, hg.output, hg.size, fun x hx => hg.block x hx (by simp; omega)⟩
    refine onlyN_mk ?_
    refine hKn _ _ (hg.block _ hlt (by simp; omega)) (hg.block _ (by omega) (by simp; omega)) (Holds.grown hg (fun x hx => by have := (HK.out x hx).1; omega) (fun x hx => by have := (HK.out x hx).1; simp; omega)) ⟨c, e1, e2, h1.below hbel, hn.below hbel hn.lt, hm.below hbel hm.lt, h3.trans (hbel.mono (by have := h3.size; rw [HBM.out] at this; exact this)), by omega⟩ ⟨W.heap.size, hlt, q5, rfl⟩
  case body =>
    rintro l k a' W ⟨c, e1, e2, ⟨val, hl, hr, hvb⟩, hn, hm, h3, h4⟩ ⟨Bx, hBx, ox, rfl⟩ hk hlt
    have f0 := hn.at_ (i := 0) rfl
    have f1 := hn.free 0 (by simp)
    have hbm := h3.size
    have hbm2 : BM ≤ W.heap.size := by rw [HBM.out] at hbm; exact hbm
    clear hbm
    have lx := ox.lt
    simp only [List.setIfInBounds_toArray, List.set_cons_succ, List.set_cons_zero]
    have hk1 : IntKind.i64.wrap ((k : Int) + 1) = (k : Int) + 1 := IntWalk.i64_in _ (by omega)
    refine wpIn_block ?_
    refine wpIn_seq ?_
    refine wpIn_lit_plain (ro := some l) (by kernel_rfl) ?_
    go_wp2_with fail
    refine onlyN_mk ?_
    have hko5 : KeepsOthers W (W.setCell ⟨BM + 1 + 1 + 1 + 1, 0, none⟩ (.int .i64 ((k : Int) + 1))) := KeepsOthers.setCell _ _ _
    have hho5 : Holds (fun x => KA G (some ⟨b, off, none⟩) B3 x ∨ x = B3 + 1) W (W.setCell ⟨BM + 1 + 1 + 1 + 1, 0, none⟩ (.int .i64 ((k : Int) + 1))) := Holds.grown (grown_setCell _ _ _ _) (fun x hx => by have := (HK.out x hx).1; omega) (fun x hx => by have := (HK.out x hx).2; simp; omega)
    have hn5 := hn.set_ (i := 0) (by simp) (.int .i64 ((k : Int) + 1))
    have hm5 := hm.far (p := ⟨BM + 1 + 1 + 1 + 1, 0, none⟩) (by simp) (.int .i64 ((k : Int) + 1))
    have hl5 := hl.far (p := ⟨BM + 1 + 1 + 1 + 1, 0, none⟩) (by simp) (.int .i64 ((k : Int) + 1))
    have ox5 := ox.far (p := ⟨BM + 1 + 1 + 1 + 1, 0, none⟩) (by simp; omega) (.int .i64 ((k : Int) + 1))
    have hr5 := OwR.off hr (p := ⟨BM + 1 + 1 + 1 + 1, 0, none⟩) (fun e => by have := hvb _ e; simp only at this; omega) (.int .i64 ((k : Int) + 1))
    have hb5 := h3.setCell (p := ⟨BM + 1 + 1 + 1 + 1, 0, none⟩) (by simp; omega) (.int .i64 ((k : Int) + 1))
    have hz5 : (W.setCell ⟨BM + 1 + 1 + 1 + 1, 0, none⟩ (.int .i64 ((k : Int) + 1))).heap.size = W.heap.size := by simp [World.setCell]
    simp only [List.set_cons_zero] at hn5
    generalize (W.setCell ⟨BM + 1 + 1 + 1 + 1, 0, none⟩ (.int .i64 ((k : Int) + 1))) = w5 at *
    clear hn hm hl ox hr h3 f0 f1
    obtain ⟨ac, cc, rfl, hcc, hrk, hgk⟩ := hr5.val
    have hrm5 := HRM.out _ hb5
    obtain ⟨bm, offm, rfl, hbml, hcm⟩ := hrm5.open_ (by rw [len_lks]; omega)
    have cm2 := hcm (c * 3 + 2) (by rw [len_lks]; omega)
    rw [lks_at2 _ _ e1, ← Nat.add_assoc, HK1.out.pos c e1] at cm2
    have ln := hn5.lt
    have lm := hm5.lt
    have ll := hl5.lt
    have d0 := fun (ccl : Cls w5.heap.size w5) => (ccl.cell (BM + 1 + 1 + 1 + 1) 0 ln).trans (hn5.at_ (i := 0) rfl)
    have d1 := fun (ccl : Cls w5.heap.size w5) => (ccl.cell (BM + 1) 0 lm).trans (hm5.at_ (i := 0) rfl)
    have d2 := fun (ccl : Cls w5.heap.size w5) => (ccl.cell (BM + 1 + 1 + 1) 0 ll).trans (hl5.at_ (i := 0) rfl)
    have d3 := fun (ccl : Cls w5.heap.size w5) => (ccl.cell bm (offm + c * 3 + 2) (by omega)).trans cm2
    have q1 : (0 : Int) ≤ (c : Int) := by omega
    have q2 : (c : Int) < (ms.length : Int) := by omega
    have hasc := HK1.out.asc c
    have hlast := HK1.out.le_last (ms.length - 1 - c) c (by omega)
    rw [← HN.out] at hlast
    clear hcm hrm5 cm2 hrk
    refine wpIn_seq ?_
    refine wpIn_region_cls (ro := some l) (by kernel_rfl) (by kernel_rfl) (by kernel_rfl) ?_
    repeat (go_big_quiet_step (fail))
    refine wpQuiet_nil ?_
    intro wd hbd
    have hn6 := hn5.below hbd ln
    have hm6 := hm5.below hbd lm
    have hl6 := hl5.below hbd ll
    have ox6 := ox5.below hbd ox5.lt
    have hr6 := OwR.below hr5 hbd (Nat.le_refl _)
    have hb6 := hb5.trans (hbd.mono (show BM ≤ w5.heap.size by omega))
    have hz6 := hbd.size
    have hko6 := hko5.trans (keeps_below hbd)
    have hho6 := hho5.trans (Holds.below hbd (fun x hx => by have := (HK.out x hx).1; omega))
    clear d0 d1 d2 d3 hn5 hm5 hl5 ox5 hr5 hb5 hko5 hho5 hbd hgk
    have hbm6 : BM + 5 < wd.heap.size := by omega
    by_cases hkey : k + 1 = kat ms c
    · have te : (((k : Int) + 1 == (kat ms c : Int))) = true := by rw [beq_iff_eq]; omega
      have hp := isP_keyN hmb v k
      have hlp := size_pv10 hp
      have hzs := size_pv hp.len
      have f0 := hl6.at_ (i := 0) rfl
      have hkz : c ≤ 1048576 := by omega
      have hbuild := build_pv (pv (keyN m v k)) hlp
      refine wpIn_cond_true (congrArg Value.bool te) ?_
      refine wpIn_seq ?_
      refine wpIn_lit_plain (ro := some l) (by kernel_rfl) ?_
      go_wp2_with (first | ((with_reducible refine wl_load 102 ox6.cells hzs Tryz.underlying102 ?_ ?_ ?_ ?_); (· rfl); (· rfl); (· rfl)) | (at_builtin; ((with_reducible refine wl_pushG 99 102 inf_perm Tryz.underlying99 rfl (by omega) hr6 (by omega) hlp (pv_one _) (by omega) (by omega) rfl rfl ?_); intro g cap w6 hr7 hg7 hat7 hz7 hk7; have hl7 := hl6.grown hg7 (fun e => by have := hvb _ e.symm; omega); have f6 := hl7.at_ (i := 0) rfl; have e6 := hl7.free 0 (by simp))))
      refine onlyN_mk ?_
      have hC := Coll.push (e := 102) (sz := 10) (base := BM) (R0 := BM + 1 + 1) (L := w4.heap.size) (by omega) (by omega) (by omega) hl6 hvb hr7 hg7 hat7
      have hko7 := hko6.trans (hk7.trans (KeepsOthers.setCell w6 ⟨BM + 1 + 1 + 1, 0, none⟩ (.slice (some ⟨g, 0, none⟩) (c + 1) cap)))
      have hho7 : Holds (fun x => KA G (some ⟨b, off, none⟩) B3 x ∨ x = B3 + 1) W (w6.setCell ⟨BM + 1 + 1 + 1, 0, none⟩ (.slice (some ⟨g, 0, none⟩) (c + 1) cap)) := by
        refine (hho6.trans (Holds.grown hg7 (fun x hx => by have := (HK.out x hx).1; omega) (fun x hx e => ?_))).trans (Holds.grown (grown_setCell _ _ _ _) (fun x hx => by have := (HK.out x hx).1; omega) (fun x hx => by have := (HK.out x hx).2; simp; omega))
        have h7 := HK.out x hx
        have := hvb x e.symm
        omega
      have hb7 : Below BM w (w6.setCell ⟨BM + 1 + 1 + 1, 0, none⟩ (.slice (some ⟨g, 0, none⟩) (c + 1) cap)) :=
        (hb6.grown hg7 (by omega) (fun x e => by have := hvb x e; omega)).setCell (by simp; omega) _
      have hn7 := (hn6.grown hg7 (fun e => by have := hvb _ e.symm; omega)).far (p := ⟨BM + 1 + 1 + 1, 0, none⟩) (by simp) (.slice (some ⟨g, 0, none⟩) (c + 1) cap)
      have hm7 := (hm6.grown hg7 (fun e => by have := hvb _ e.symm; omega)).far (p := ⟨BM + 1 + 1 + 1, 0, none⟩) (by simp) (.slice (some ⟨g, 0, none⟩) (c + 1) cap)
      have f8 : (w6.setCell ⟨BM + 1 + 1 + 1, 0, none⟩ (.slice (some ⟨g, 0, none⟩) (c + 1) cap)).cell? ⟨BM + 1 + 1 + 1, 0, none⟩ = some (.slice (some ⟨g, 0, none⟩) (c + 1) cap) := (hl7.set_ (by simp) _).at_ (i := 0) rfl
      have hz8 : w4.heap.size ≤ (w6.setCell ⟨BM + 1 + 1 + 1, 0, none⟩ (.slice (some ⟨g, 0, none⟩) (c + 1) cap)).heap.size := by
        have : (w6.setCell ⟨BM + 1 + 1 + 1, 0, none⟩ (.slice (some ⟨g, 0, none⟩) (c + 1) cap)).heap.size = w6.heap.size := by simp [World.setCell]
        omega
      rw [show pv (keyN m v k) = pv (keyN m v (kat ms c - 1)) by rw [← hkey]; rfl, ← kvm_take e1] at hC
      generalize (w6.setCell ⟨BM + 1 + 1 + 1, 0, none⟩ (.slice (some ⟨g, 0, none⟩) (c + 1) cap)) = w7 at *
      have f9 := hm7.at_ (i := 0) rfl
      by_cases hend : c + 1 = ms.length
      · have te2 : (((c : Int) + 1 == (ms.length : Int))) = true := by rw [beq_iff_eq]; omega
        have HE : Hid (Coll 102 10 BM (BM + 1 + 1) (BM + 1 + 1 + 1) w4.heap.size ms.length (kvm m v ms) w7) := by
          show Coll _ _ _ _ _ _ _ _ _
          rwa [hend, List.take_length] at hC
        clear hend hC
        gi_wp2
        exact ⟨hko7, rfl, HE.out, hb7, hz8⟩
      · have te2 : (((c : Int) + 1 == (ms.length : Int))) = false := by rw [beq_eq_false_iff_ne]; omega
        have hend' : c + 1 < ms.length := by omega
        have hasc' := hasc hend'
        have hlast' := HK1.out.le_last (ms.length - 1 - (c + 1)) (c + 1) (by omega)
        rw [← HN.out] at hlast'
        clear hend hasc
        gi_wp2
        exact ⟨hko7, hho7, by omega, c + 1, hend', by omega, hC, hn7, hm7, hb7, hz8⟩
    · have te : (((k : Int) + 1 == (kat ms c : Int))) = false := by rw [beq_eq_false_iff_ne]; omega
      refine wpIn_cond_false (congrArg Value.bool te) ?_
      gi_wp2
      exact ⟨hko6, hho6, by omega, c, e1, by omega, ⟨_, hl6, hr6, hvb⟩, hn6, hm6, hb6, by omega⟩
  case stop =>
    rintro co W ⟨rfl, ⟨val, hl, hr, hvb⟩, h3, h4⟩ hKd
    have hbm := h3.size
    rw [HBM.out] at hbm
    have hlK := (Array.getElem?_eq_some_iff.1 hKd).1
    have f0 := hl.at_ (i := 0) rfl
    have hbz := hbw4.size
    rw [HBM.out] at hbz
    gi_wp2_with fail
    refine ⟨by simp, .inl ⟨_, _, rfl, run_takeDeferred hKd, ?_⟩⟩
    refine ⟨_, results_tmp rfl _ _ _, ?_⟩
    refine ⟨_, rfl, ?_, ?_⟩
    · rw [HBM.out]
      exact ownsRow_putObj hr _ hKd rfl
    · rw [HBM.out]
      exact h3.trans (belowK_b (w := w4) hbz W _ _ _ (Nat.le_refl _) hKd rfl rfl)
end Go.Proofs.YtdmnkcmkpjmfaaaGreat

/- Valid menus. -/
namespace Go.Proofs.YtdmnkcmkpjmfaaaGreat
open Go.RowKit

/-- Whether a link is valid behind a key. -/
def okLnk (x : Lnk) (b : Int) : Bool := decide (x.p.size = 1) && (decide (x.c.size = 1) && (wordB (x.p ++ x.c) && (!(decide (x.p = x.c)) && (decide (b < x.k) && decide (x.k ≤ 60)))))
def okFrom : Int → List Lnk → Bool
  | _, [] => true
  | b, x :: xs => okLnk x b && okFrom x.k xs
/-- Whether a menu is valid. -/
def menuB (ms : List Lnk) : Bool := decide (1 ≤ ms.length) && (decide (ms.length ≤ 12) && okFrom 0 ms)
theorem okFrom_drop {ms : List Lnk} {b : Int} {k : Nat} (h : k < ms.length) : okFrom b (ms.drop k) = (okLnk ms[k] b && okFrom ms[k].k (ms.drop (k + 1))) := by
  rw [List.drop_eq_getElem_cons h]; rfl
theorem okFrom_asc : ∀ (ms : List Lnk) (b : Int), okFrom b ms = true → ∀ i (h : i < ms.length), okLnk ms[i] (if i = 0 then b else (ms[i - 1]'(by omega)).k) = true
  | [], _, _, i, h => absurd h (by simp)
  | x :: xs, b, ho, i, h => by
    simp only [okFrom, Bool.and_eq_true] at ho
    match i, h with
    | 0, _ => simpa using ho.1
    | 1, h =>
      have := okFrom_asc xs x.k ho.2 0 (by simpa using h)
      simpa using this
    | i + 2, h =>
      have := okFrom_asc xs x.k ho.2 (i + 1) (by simp only [List.length_cons] at h; omega)
      simpa using this
theorem okLnk_iff {x : Lnk} {b : Int} : okLnk x b = true ↔ x.p.size = 1 ∧ x.c.size = 1 ∧ wordB (x.p ++ x.c) = true ∧ x.p ≠ x.c ∧ b < x.k ∧ x.k ≤ 60 := by
  simp only [okLnk, Bool.and_eq_true, decide_eq_true_eq, Bool.not_eq_true', decide_eq_false_iff_not]
theorem menuB_ok {ms : List Lnk} (h : menuB ms = true) : 1 ≤ ms.length ∧ ms.length ≤ 12 ∧ okFrom 0 ms = true := by
  simp only [menuB, Bool.and_eq_true, decide_eq_true_eq] at h
  exact h
theorem menuB_pos {ms : List Lnk} (h : okFrom 0 ms = true) : ∀ i (hi : i < ms.length), 0 < ms[i].k := by
  intro i
  induction i with
  | zero =>
    intro hi
    have := (okLnk_iff.1 (okFrom_asc ms 0 h 0 hi)).2.2.2.2.1
    simpa using this
  | succ i ih =>
    intro hi
    have h1 := (okLnk_iff.1 (okFrom_asc ms 0 h (i + 1) hi)).2.2.2.2.1
    have h2 := ih (by omega)
    simp only [Nat.add_eq_zero_iff, Nat.succ_ne_self, and_false, if_false, Nat.add_sub_cancel] at h1
    omega
theorem menuB_asc {ms : List Lnk} (h : menuB ms = true) : Asc ms := by
  obtain ⟨h1, h12, ho⟩ := menuB_ok h
  have hp := menuB_pos ho
  have hk : ∀ i (hi : i < ms.length), ms[i].k = (kat ms i : Int) := by
    intro i hi
    unfold kat
    rw [List.getElem?_eq_getElem hi]
    have := hp i hi
    simp only [Option.map_some, Option.getD_some]
    omega
  refine ⟨h1, h12, fun i hi => ?_, fun i hi => ?_, fun i hi => ?_, hk⟩
  · have h1 := hp i hi
    have h2 := hk i hi
    omega
  · have h1 := (okLnk_iff.1 (okFrom_asc ms 0 ho i hi)).2.2.2.2.2
    have h2 := hk i hi
    omega
  · have h1 := (okLnk_iff.1 (okFrom_asc ms 0 ho (i + 1) hi)).2.2.2.2.1
    simp only [Nat.add_eq_zero_iff, Nat.succ_ne_self, and_false, if_false, Nat.add_sub_cancel] at h1
    have h2 := hk i (by omega)
    have h3 := hk (i + 1) hi
    omega
/-- Links whose letters are no great strings. -/
def SmL (ms : List Lnk) : Prop := ∀ x ∈ ms, x.p.size ≤ 4194304 ∧ x.c.size ≤ 4194304
set_option maxRecDepth 100000 in
set_option maxHeartbeats 1000000 in
theorem implMenuValid_any (am : Option Addr) (cm : Nat) (ms : List Lnk) (w : World) (hr : Reads w w.heap.size am (lks ms)) (hz : SmL ms) (hl : ms.length ≤ 4294967296) :
    Calls Tryz.prog 54 #[.slice am ms.length cm] w fun e w' => e = .returned (.bool (menuB ms)) ∧ Below w.heap.size w w' := by
  by_cases h0 : ms.length < 1
  · have t0 : decide ((ms.length : Int) < 1) = true := decide_eq_true (by omega)
    have HM : Hid (menuB ms = false) := by show _ = _; simp [menuB]; intro h; omega
    clear h0
    go_enter Tryz.func54, Tryz.ntmps54
    go_wp2
    go_ret
    exact ⟨ret_bool HM.out.symm, Below.refl _ _⟩
  have t0 : decide ((ms.length : Int) < 1) = false := decide_eq_false (by omega)
  by_cases h12 : 12 < ms.length
  · have t1 : decide ((12 : Int) < (ms.length : Int)) = true := decide_eq_true (by omega)
    have HM : Hid (menuB ms = false) := by show _ = _; simp [menuB]; intro h h2; omega
    clear h0 h12
    go_enter Tryz.func54, Tryz.ntmps54
    go_wp2
    go_ret
    exact ⟨ret_bool HM.out.symm, Below.refl _ _⟩
  have t1 : decide ((12 : Int) < (ms.length : Int)) = false := decide_eq_false (by omega)
  have HB : Hid (menuB ms = okFrom 0 (ms.drop 0)) := by
    show _ = _
    rw [menuB, decide_eq_true (by omega), decide_eq_true (by omega)]; simp
  have HZ := Lib.hid hz
  have HR := Lib.hid (fun (wr : World) (hb : Below w.heap.size w wr) => hr.below hb (Nat.le_refl _))
  clear hz hr
  go_enter Tryz.func54, Tryz.ntmps54
  go_wp2
  go_loopw [3, 5, 16] (fun b _ i wr => ∃ (k : Nat) (y : Int), k ≤ ms.length ∧ i = .int .i64 k ∧ b = .int .i64 y ∧ menuB ms = okFrom y (ms.drop k) ∧ Below w.heap.size w wr) (fun _ _ i _ => ms.length - (intOf i).toNat)
  case atStart => exact ⟨0, 0, Nat.zero_le _, rfl, rfl, HB.out, Below.refl _ _⟩
  case round =>
    obtain ⟨k, y, hk, rfl, rfl, hy, hb⟩ := hrel
    have HY := Lib.hid hy
    clear hy
    by_cases hlt : k < ms.length
    · have hr := HR.out wr hb
      obtain ⟨b, off, rfl, hbl, hcl⟩ := hr.open_ (by rw [len_lks]; omega)
      have c0 := hcl (k * 3) (by rw [len_lks]; omega)
      have c1 := hcl (k * 3 + 1) (by rw [len_lks]; omega)
      have c2 := hcl (k * 3 + 2) (by rw [len_lks]; omega)
      rw [lks_at0 _ _ hlt] at c0
      rw [lks_at1 _ _ hlt, ← Nat.add_assoc] at c1
      rw [lks_at2 _ _ hlt, ← Nat.add_assoc] at c2
      have q1 : (0 : Int) ≤ (k : Int) := by omega
      have q2 : (k : Int) < (ms.length : Int) := by omega
      have hyk := HY.out
      rw [okFrom_drop hlt] at hyk
      have HYK := Lib.hid hyk
      have hsz := HZ.out ms[k] (List.getElem_mem hlt)
      generalize ms[k] = x at *
      obtain ⟨xp, xc, xk⟩ := x
      simp only at c0 c1 c2 hsz
      have hz := hb.size
      have HN : Hid (∀ h : okLnk ⟨xp, xc, xk⟩ y = false, menuB ms = false) := Lib.hid (fun h => by rw [HYK.out, h]; rfl)
      have HO : Hid (∀ h : okLnk ⟨xp, xc, xk⟩ y = true, menuB ms = okFrom xk (ms.drop (k + 1))) := Lib.hid (fun h => by rw [HYK.out, h]; rfl)
      clear hyk hcl hr
      have x0 := Own.new wr [.string xp, .string xc, .int .i64 xk] 72
      have hb1 := hb.alloc hz (.cells [.string xp, .string xc, .int .i64 xk].toArray 72)
      have f0 := x0.at_ (i := 0) rfl
      have f1 := x0.at_ (i := 1) rfl
      have f2 := x0.at_ (i := 2) rfl
      by_cases hp1 : xp.size = 1
      · have tp : ((xp.size : Int) != 1) = false := by rw [bne_eq_false_iff_eq]; omega
        by_cases hc1 : xc.size = 1
        · have tc : ((xc.size : Int) != 1) = false := by rw [bne_eq_false_iff_eq]; omega
          have n1 := fun W => implWordValid_any (xp ++ xc) W (by rw [ByteArray.size_append]; omega)
          cases hw : wordB (xp ++ xc) with
          | true =>
            rw [hw] at n1
            have HW := Lib.hid hw
            clear hw
            by_cases hq : xp = xc
            · have tq : (xp.toList == xc.toList) = true := by rw [hq]; simp
              have HQ := Lib.hid hq
              clear hq
              have HM := Lib.hid (HN.out (by rw [Bool.eq_false_iff]; intro e; have e1 := okLnk_iff.1 e; simp only at e1; exact e1.2.2.2.1 HQ.out))
              clear HN HO
              go_wp2_with (go_at_call 55; ((with_reducible refine (n1 _).mono ?_); rintro e w' ⟨rfl, rfl⟩))
              go_ret
              exact ⟨ret_bool HM.out.symm, hb1⟩
            · have tq : (xp.toList == xc.toList) = false := by
                rw [beq_eq_false_iff_ne]; intro e; exact hq (L_inj (by rw [← toList_L, ← toList_L, e]))
              have HQ := Lib.hid hq
              clear hq
              by_cases hy1 : y < xk
              · have t3 : decide (xk ≤ y) = false := decide_eq_false (by omega)
                by_cases h60 : xk ≤ 60
                · have t4 : decide ((60 : Int) < xk) = false := decide_eq_false (by omega)
                  have HM := Lib.hid (HO.out (okLnk_iff.2 ⟨hp1, hc1, HW.out, HQ.out, hy1, h60⟩))
                  clear HN HO
                  go_wp2_with (go_at_call 55; ((with_reducible refine (n1 _).mono ?_); rintro e w' ⟨rfl, rfl⟩))
                  go_roundw
                  case rel => exact ⟨k + 1, xk, by omega, by go_num, rfl, HM.out, hb1⟩
                  case measure => simp [intOf]; omega
                · have t4 : decide ((60 : Int) < xk) = true := decide_eq_true (by omega)
                  have HM := Lib.hid (HN.out (by rw [Bool.eq_false_iff]; intro e; have e1 := okLnk_iff.1 e; simp only at e1; exact absurd e1.2.2.2.2.2 h60))
                  clear HN HO
                  go_wp2_with (go_at_call 55; ((with_reducible refine (n1 _).mono ?_); rintro e w' ⟨rfl, rfl⟩))
                  go_ret
                  exact ⟨ret_bool HM.out.symm, hb1⟩
              · have t3 : decide (xk ≤ y) = true := decide_eq_true (by omega)
                have HM := Lib.hid (HN.out (by rw [Bool.eq_false_iff]; intro e; have e1 := okLnk_iff.1 e; simp only at e1; exact absurd e1.2.2.2.2.1 hy1))
                clear HN HO
                go_wp2_with (go_at_call 55; ((with_reducible refine (n1 _).mono ?_); rintro e w' ⟨rfl, rfl⟩))
                go_ret
                exact ⟨ret_bool HM.out.symm, hb1⟩
          | false =>
            rw [hw] at n1
            have HW := Lib.hid hw
            clear hw
            have HM := Lib.hid (HN.out (by rw [Bool.eq_false_iff]; intro e; have e1 := okLnk_iff.1 e; simp only at e1; (have h1 := e1.2.2.1; rw [HW.out] at h1; cases h1)))
            clear HN HO
            go_wp2_with (go_at_call 55; ((with_reducible refine (n1 _).mono ?_); rintro e w' ⟨rfl, rfl⟩))
            go_ret
            exact ⟨ret_bool HM.out.symm, hb1⟩
        · have tc : ((xc.size : Int) != 1) = true := by rw [bne_iff_ne]; omega
          have HM := Lib.hid (HN.out (by rw [Bool.eq_false_iff]; intro e; have e1 := okLnk_iff.1 e; simp only at e1; exact absurd e1.2.1 hc1))
          clear HN HO
          go_wp2
          go_ret
          exact ⟨ret_bool HM.out.symm, hb1⟩
      · have tp : ((xp.size : Int) != 1) = true := by rw [bne_iff_ne]; omega
        have HM := Lib.hid (HN.out (by rw [Bool.eq_false_iff]; intro e; have e1 := okLnk_iff.1 e; simp only at e1; exact absurd e1.1 hp1))
        clear HN HO
        go_wp2
        go_ret
        exact ⟨ret_bool HM.out.symm, hb1⟩
    · have hk' : k = ms.length := by omega
      subst hk'
      have HM : Hid (menuB ms = true) := Lib.hid (by rw [HY.out, List.drop_length]; rfl)
      go_wp2
      go_ret
      exact ⟨ret_bool HM.out.symm, hb⟩
end Go.Proofs.YtdmnkcmkpjmfaaaGreat

/- CheckMenu of the program. -/
namespace Go.Proofs.YtdmnkcmkpjmfaaaGreat
open Go.RowKit

/-- The number of the letter of a word of one letter. -/
def lkA (s : ByteArray) : Nat := pAt (dg s) 0
/-- Whether the key of a link makes its second letter of its first one. -/
def chk1 (m : Mach) (v : ByteArray) (x : Lnk) : Bool := pAt (keyN m v (x.k.toNat - 1)) (lkA x.p) == lkA x.c
/-- What CheckMenu answers. -/
def chkT (m : Mach) (v : ByteArray) (ms : List Lnk) : Bool := setB m v && (menuB ms && ms.all (chk1 m v))
theorem kvm_cells {m : Mach} {v : ByteArray} {w : World} {g k : Nat} {ms : List Lnk} (hm : machB m = true) (h : Cells w g 0 (kvm m v ms)) (hk : k < ms.length) : Cells w g (k * 10) (pv (keyN m v (kat ms k - 1))) := by
  have hL : ∀ x ∈ ms.map (fun x => pv (keyN m v (x.k.toNat - 1))), x.length = 10 := by
    intro x hx
    obtain ⟨i, -, rfl⟩ := List.mem_map.1 hx
    rw [length_pv, (isP_keyN hm v _).len]
  have hf := flat_at _ k hL (by simpa using hk)
  have h1 := h.sub (k * 10) 10 (by
    have : (kvm m v ms).length = ms.length * 10 := by
      unfold kvm
      rw [List.length_flatten, List.map_map]
      have : ms.map (List.length ∘ fun x => pv (keyN m v (x.k.toNat - 1))) = List.replicate ms.length 10 := by
        rw [List.eq_replicate_iff]
        refine ⟨by simp, fun x hx => ?_⟩
        obtain ⟨y, -, rfl⟩ := List.mem_map.1 hx
        simp [length_pv, (isP_keyN hm v _).len]
      rw [this, List.sum_replicate_nat]
    omega)
  rw [Nat.zero_add] at h1
  unfold kvm at h1
  rw [hf] at h1
  simp only [List.getElem_map] at h1
  unfold kat
  rw [List.getElem?_eq_getElem hk]
  exact h1
theorem word_two {a b : ByteArray} (h : wordB (a ++ b) = true) : (∀ c ∈ L a, isL c = true) ∧ (∀ c ∈ L b, isL c = true) := by
  simp only [wordB, Bool.and_eq_true, List.all_eq_true, L_append, List.mem_append] at h
  exact ⟨fun c hc => h.2 c (.inl hc), fun c hc => h.2 c (.inr hc)⟩
/-- The letter of a word of one letter. -/
theorem lk_letter {s : ByteArray} (h1 : s.size = 1) (hl : ∀ c ∈ L s, isL c = true) : dig (s[0]'(by omega)) = (lkA s : Int) ∧ lkA s < 10 ∧ 97 ≤ (s[0]'(by omega)).toNat := by
  have h0 : 0 < s.size := by omega
  have hm : isL s[0] = true := hl _ (by rw [getElem_L]; exact List.getElem_mem _)
  have hd := (isL_iff _).1 hm
  have ha := dg_at h0
  unfold lkA
  rw [ha]
  refine ⟨by omega, by omega, ?_⟩
  have := hd.1
  unfold dig at this
  omega
set_option maxRecDepth 100000 in
set_option maxHeartbeats 1000000 in
theorem implCheckMenu_any (a : Option Addr) (n c : Nat) (m : Mach) (v : ByteArray) (am : Option Addr) (cm : Nat) (ms : List Lnk) (w : World) (h : MachAt w w.heap.size a n m) (hv : v.size ≤ 4294967296) (hrm : Reads w w.heap.size am (lks ms)) (hz : SmL ms) (hl : ms.length ≤ 4294967296) :
    Calls Tryz.prog 35 #[.agg #[.slice a n c, .string m.wheels.refl, .string m.rings, .string m.plugs], .string v, .slice am ms.length cm] w fun e w' => e = .returned (.bool (chkT m v ms)) ∧ Below w.heap.size w w' := by
  have o0 := Own.new w [.slice a n c, .string m.wheels.refl, .string m.rings, .string m.plugs] 36
  have hb0 := (Below.refl w.heap.size w).alloc (Nat.le_refl _) (.cells [.slice a n c, .string m.wheels.refl, .string m.rings, .string m.plugs].toArray 36)
  have h' := h.alloc_ (.cells [.slice a n c, .string m.wheels.refl, .string m.rings, .string m.plugs].toArray 36)
  have HRM := Lib.hid (fun (wr : World) (hb : Below w.heap.size w wr) => hrm.below hb (Nat.le_refl _))
  have HM := Lib.hid (fun (wr : World) (hb : Below w.heap.size w wr) => h.below hb (Nat.le_refl _))
  clear hrm h
  go_enter Tryz.func35, Tryz.ntmps35
  go_wp2_with fail
  refine (settingValid_any _ _ _ _ _ _ h' hv).mono ?_
  rintro e w1 ⟨rfl, hb1⟩
  have o1 := o0.below hb1 o0.lt
  have hb := bt hb0 hb1
  clear o0 hb0 hb1 h'
  cases h1 : setB m v with
  | false =>
    have HT : Hid (chkT m v ms = false) := by show _ = _; simp [chkT, h1]
    clear h1
    go_wp2
    go_ret
    exact ⟨ret_bool HT.out.symm, hb⟩
  | true =>
    have hmb := setB_mach h1
    go_wp2_with fail
    refine (implMenuValid_any am cm ms _ ((HRM.out _ hb).more hb.size) hz hl).mono ?_
    rintro e w2 ⟨rfl, hb2⟩
    have o2 := o1.below hb2 o1.lt
    have hbw2 := bt hb hb2
    clear o1 hb hb2
    cases h2 : menuB ms with
    | false =>
      have HT : Hid (chkT m v ms = false) := by show _ = _; simp [chkT, h2]
      clear h1 h2
      go_wp2
      go_ret
      exact ⟨ret_bool HT.out.symm, hbw2⟩
    | true =>
      have hasc := menuB_asc h2
      have hone := hasc.one
      have hfew := hasc.few
      have HOK := Lib.hid (fun i (hi : i < ms.length) => okLnk_iff.1 (okFrom_asc ms 0 (menuB_ok h2).2.2 i hi))
      have HT : Hid (chkT m v ms = ms.all (chk1 m v)) := by show _ = _; simp [chkT, h1, h2]
      have HKAT := Lib.hid hasc.pos
      have f0 := o2.at_ (i := 0) rfl
      have f1 := o2.at_ (i := 1) rfl
      have f2 := o2.at_ (i := 2) rfl
      have f3 := o2.at_ (i := 3) rfl
      go_wp2_with fail
      refine (menuKeys_any a n c m v am cm ms _ ((HM.out _ hbw2).more hbw2.size) h1 ((HRM.out _ hbw2).more hbw2.size) hasc).mono ?_
      rintro e w3 ⟨lv, rfl, hol, hb3⟩
      obtain ⟨al, cl, rfl, hlc, -, hgl⟩ := hol.val
      obtain ⟨gK, rfl, -, ok⟩ := hgl.resolve_left (by omega)
      have hbw3 := bt hbw2 hb3
      clear o2 hbw2 hb3 f0 f1 f2 f3 hol hgl h1 h2 hasc
      go_wp2_with fail
      go_loopw [8, 9, 25] (fun _ _ i wr => ∃ k : Nat, k ≤ ms.length ∧ i = .int .i64 k ∧ (∀ j (hj : j < ms.length), j < k → chk1 m v ms[j] = true) ∧ Own wr gK (kvm m v ms) ∧ Below w.heap.size w wr) (fun _ _ i _ => ms.length - (intOf i).toNat)
      case atStart => exact ⟨0, Nat.zero_le _, rfl, fun _ _ h => absurd h (by omega), ok, hbw3⟩
      case round =>
        clear ok hbw3
        obtain ⟨k, hk, rfl, ha, ok, hb⟩ := hrel
        have HA := Lib.hid ha
        clear ha
        by_cases hlt : k < ms.length
        · obtain ⟨b, off, rfl, hbl, hcl⟩ := (HRM.out _ hb).open_ (by rw [len_lks]; omega)
          have c0 := hcl (k * 3) (by rw [len_lks]; omega)
          have c1 := hcl (k * 3 + 1) (by rw [len_lks]; omega)
          have c2 := hcl (k * 3 + 2) (by rw [len_lks]; omega)
          rw [lks_at0 _ _ hlt] at c0
          rw [lks_at1 _ _ hlt, ← Nat.add_assoc] at c1
          rw [lks_at2 _ _ hlt, ← Nat.add_assoc] at c2
          clear hcl
          have q1 : (0 : Int) ≤ (k : Int) := by omega
          have q2 : (k : Int) < (ms.length : Int) := by omega
          have hok := HOK.out k hlt
          have hkat := HKAT.out k hlt
          have hcell := kvm_cells hmb ok.cells hlt
          have HN : Hid (chk1 m v ms[k] = false → ms.all (chk1 m v) = false) := Lib.hid (fun e => by
            rw [Bool.eq_false_iff]
            intro e2
            rw [List.all_eq_true] at e2
            rw [e2 _ (List.getElem_mem hlt)] at e
            cases e)
          have HK := Lib.hid (fun (h : chk1 m v ms[k] = true) j (hj : j < ms.length) (hj2 : j < k + 1) => show chk1 m v ms[j] = true from by
            by_cases e : j = k
            · subst e; exact h
            · exact HA.out j hj (by omega))
          generalize ms[k] = x at *
          obtain ⟨xp, xc, xk⟩ := x
          simp only at c0 c1 c2 hok hkat
          have hwt := word_two hok.2.2.1
          have hs1 := hok.1
          have hs2 := hok.2.1
          clear hok
          obtain ⟨e1, e2, e3⟩ := lk_letter hs1 hwt.1
          obtain ⟨e4, e5, e6⟩ := lk_letter hs2 hwt.2
          have n1 := fun W => implNumber_any (xp[0]'(by omega)) W e3
          have n2 := fun W => implNumber_any (xc[0]'(by omega)) W e6
          rw [e1] at n1
          rw [e4] at n2
          have hchk : chk1 m v ⟨xp, xc, xk⟩ = (pAt (keyN m v (kat ms k - 1)) (lkA xp) == lkA xc) := by
            unfold chk1
            simp only
            rw [hkat, Int.toNat_natCast]
          rw [hchk] at HN HK
          have hpk := isP_keyN hmb v (kat ms k - 1)
          have hd2 := hpk.at_lt e2
          have hpd := hcell (lkA xp) (by rw [length_pv, hpk.len]; exact e2)
          rw [pv_at (by rw [hpk.len]; exact e2)] at hpd
          have hlk := ok.lt
          have hz := hb.size
          have hb1 := hb.alloc hz (.cells [.string xp, .string xc, .int .i64 xk].toArray 72)
          have x0 := Own.new wr [.string xp, .string xc, .int .i64 xk] 72
          have ok1 := ok.alloc (.cells [.string xp, .string xc, .int .i64 xk].toArray 72)
          have hpd2 : (wr.alloc (.cells [.string xp, .string xc, .int .i64 xk].toArray 72)).cell? ⟨gK, k * 10 + lkA xp, none⟩ = some (.int .u8 (pAt (keyN m v (kat ms k - 1)) (lkA xp) : Int)) := by
            rw [← hpd]
            exact World.cell?_of_block (w := wr) (Below.heap_alloc wr _ gK hlk)
          clear hpd hcell hwt e1 e4 hchk hkat
          generalize pAt (keyN m v (kat ms k - 1)) (lkA xp) = d3 at *
          generalize lkA xp = d1 at *
          generalize lkA xc = d2 at *
          have lx := x0.lt
          have lk := ok1.lt
          have q3 : (0 : Int) ≤ (d1 : Int) := by omega
          have q4 : (d1 : Int) < 10 := by omega
          have q5 : (0 : Int) < (xp.size : Int) := by omega
          have q6 : (0 : Int) < (xc.size : Int) := by omega
          go_wp2_with fail
          generalize hW5 : (wr.alloc (.cells [.string xp, .string xc, .int .i64 xk].toArray 72)) = W5 at *
          clear hW5
          generalize wr.heap.size = BX at *
          have d0 := fun (cc : Cls W5.heap.size W5) => (cc.cell BX 0 lx).trans (x0.at_ (i := 0) rfl)
          have d1' := fun (cc : Cls W5.heap.size W5) => (cc.cell BX 1 lx).trans (x0.at_ (i := 1) rfl)
          have d3' := fun (cc : Cls W5.heap.size W5) => (cc.cell gK (k * 10 + d1) lk).trans hpd2
          by_cases hq : d3 = d2
          · have te : ((d3 : Int) != (d2 : Int)) = false := by rw [bne_eq_false_iff_eq]; omega
            have HQ := Lib.hid (HK.out (by rw [hq]; simp))
            clear hq HN HK
            refine wp_region_cls (by kernel_rfl) (by kernel_rfl) ?_
            repeat (go_big_quiet_step (first | (go_at_call 78; with_reducible exact cls_same (n1 _)) | (go_at_call 78; with_reducible exact cls_same (n2 _))))
            refine wpQuiet_nil ?_
            intro wc hbc
            go_wp2
            go_roundw
            case rel => exact ⟨k + 1, by omega, by go_num, HQ.out, ok1.below hbc lk, hb1.trans (hbc.mono (by omega))⟩
            case measure => simp [intOf]; omega
          · have te : ((d3 : Int) != (d2 : Int)) = true := by rw [bne_iff_ne]; omega
            have HQ := Lib.hid (HN.out (by rw [beq_eq_false_iff_ne]; exact hq))
            clear hq HN HK
            refine wp_region_cls (by kernel_rfl) (by kernel_rfl) ?_
            repeat (go_big_quiet_step (first | (go_at_call 78; with_reducible exact cls_same (n1 _)) | (go_at_call 78; with_reducible exact cls_same (n2 _))))
            refine wpQuiet_nil ?_
            intro wc hbc
            go_wp2
            go_ret
            exact ⟨ret_bool (by rw [HT.out, HQ.out]), hb1.trans (hbc.mono (by omega))⟩
        · have HE : Hid (ms.all (chk1 m v) = true) := Lib.hid (by
            rw [List.all_eq_true]
            intro x hx
            obtain ⟨j, hj, rfl⟩ := List.getElem_of_mem hx
            exact HA.out j hj (by omega))
          go_wp2
          go_ret
          exact ⟨ret_bool (by rw [HT.out, HE.out]), hb⟩
end Go.Proofs.YtdmnkcmkpjmfaaaGreat
