/- Several of my texts in one: DayP, DayQ. -/
import Derived.Test.YtbeohccbflhdiaaM9
import Derived.Test.YtbeohccbflhdiaaM22
/- The day products of the program. -/
namespace Go.Proofs.Ytbeohccbflhdiaa
open Go.RowKit
attribute [local go_sem] Oper.semAt_some

/-- The cells of the first keys, in a row. -/
def kv (m : Mach) (v : ByteArray) (n : Nat) : List Value := ((List.range n).map fun k => pv (keyN m v k)).flatten
theorem kv_zero (m : Mach) (v : ByteArray) : kv m v 0 = [] := rfl
theorem kv_snoc (m : Mach) (v : ByteArray) (n : Nat) : kv m v (n + 1) = kv m v n ++ pv (keyN m v n) := by simp [kv, List.range_succ]
/-- The cells of the first products, in a row. -/
def pvs (m : Mach) (v : ByteArray) (n : Nat) : List Value := ((List.range n).map fun k => pv (prodP m v k)).flatten
theorem pvs_zero (m : Mach) (v : ByteArray) : pvs m v 0 = [] := rfl
theorem pvs_snoc (m : Mach) (v : ByteArray) (n : Nat) : pvs m v (n + 1) = pvs m v n ++ pv (prodP m v n) := by simp [pvs, List.range_succ]
theorem inf_perm : (Try.prog.info? 68).map (fun i => (i.zero, i.size, i.bytes)) = some (some (.agg #[.int .u8 0, .int .u8 0, .int .u8 0, .int .u8 0, .int .u8 0, .int .u8 0, .int .u8 0, .int .u8 0, .int .u8 0, .int .u8 0]), 10, 10) := by kernel_rfl

section
variable {P : Program} {Q : Exit → Act → World → Prop} {a : Act} {w : World}
theorem wp_onlyN {c : Code} (h : c.wp P (onlyN Q) a w) : c.wp P Q a w := wp_mono h (fun e a w h => by obtain ⟨rfl, h⟩ := h; exact h)
variable {o : Oper} {w0 : World} {K : Act → World → Prop}
theorem kr_push (t e : TypeId) {s x : Operand} {z : Value} {sz bytes : Nat} (hinfo : (P.info? e).map (fun i => (i.zero, i.size, i.bytes)) = some (some z, sz, bytes)) (ht : P.underlying t = some (.slice e)) (hzs : z.cells.size = sz) (hsz : 0 < sz)
    {base n : Nat} {v : Value} {xs us : List Value} (hgd : o.guard = none) (ho : o.op = .call { callee := .builtin .append, args := #[s, x], argTypes := #[t, t] }) (hown : OwR w0 base e sz v n xs) (hb : base ≤ w0.heap.size) (hus : us.length = sz) (h1 : ∀ u ∈ us, u.oneCell' = true) (hn : n ≤ 1048576) (hby : bytes ≤ 1000)
    (hs : a.eval s = v) (hx : a.eval x = .slice (some ⟨w0.heap.size, 0, none⟩) 1 1)
    (h : ∀ g cap w', OwR w' base e sz (.slice (some ⟨g, 0, none⟩) (n + 1) cap) (n + 1) (xs ++ us) → Below base w0 w' → w0.heap.size < w'.heap.size → K (a.put o.dst (.slice (some ⟨g, 0, none⟩) (n + 1) cap)) w') :
    Oper.wp P o a (w0.alloc (.cells us.toArray e)) K Q := by
  have hst := st_push (ops := #[]) (E := False) (Q := Q) (K := K) t e hinfo ht hzs hsz hgd ho hown hb hus h1 hn hby hs hx h
  split at hst
  · exact hst
  · exact hst.elim
end
theorem flat_at : ∀ (L : List (List Value)) (k : Nat) (_ : ∀ x ∈ L, x.length = 10) (h : k < L.length), (L.flatten.drop (k * 10)).take 10 = L[k]
  | [], _, _, h => absurd h (by simp)
  | x :: L, 0, h1, _ => by
    have hx := h1 x (by simp)
    simp only [List.flatten_cons, Nat.zero_mul, List.drop_zero, List.getElem_cons_zero]
    rw [List.take_append_of_le_length (by omega), List.take_of_length_le (by omega)]
  | x :: L, k + 1, h1, h => by
    have hx := h1 x (by simp)
    have ih := flat_at L k (fun y hy => h1 y (by simp [hy])) (by simpa using h)
    simp only [List.flatten_cons, List.getElem_cons_succ]
    rw [show (k + 1) * 10 = x.length + k * 10 by omega, List.drop_append, List.drop_eq_nil_of_le (by omega), List.nil_append, show x.length + k * 10 - x.length = k * 10 by omega]
    exact ih
theorem kv_cells {m : Mach} {v : ByteArray} {w : World} {g q k : Nat} (hm : machB m = true) (h : Cells w g 0 (kv m v q)) (hk : k < q) : Cells w g (k * 10) (pv (keyN m v k)) := by
  have hL : ∀ x ∈ (List.range q).map (fun k => pv (keyN m v k)), x.length = 10 := by
    intro x hx
    obtain ⟨i, -, rfl⟩ := List.mem_map.1 hx
    rw [length_pv, (isP_keyN hm v i).len]
  have hf := flat_at _ k hL (by simpa using hk)
  have h1 := h.sub (k * 10) 10 (by
    have : (kv m v q).length = q * 10 := by
      unfold kv
      rw [List.length_flatten, List.map_map]
      have : (List.range q).map (List.length ∘ fun k => pv (keyN m v k)) = List.replicate q 10 := by
        rw [List.eq_replicate_iff]
        refine ⟨by simp, fun x hx => ?_⟩
        obtain ⟨y, -, rfl⟩ := List.mem_map.1 hx
        simp [length_pv, (isP_keyN hm v y).len]
      rw [this, List.sum_replicate_nat]
    omega)
  rw [Nat.zero_add] at h1
  unfold kv at h1
  rw [hf] at h1
  simpa using h1
theorem build_pv (cs : List Value) (h : cs.length = 10) : List.foldl (fun (cs : Array Value) (x : Value × Nat) => cs.setIfInBounds x.snd x.fst) #[.int .u8 0, .int .u8 0, .int .u8 0, .int .u8 0, .int .u8 0, .int .u8 0, .int .u8 0, .int .u8 0, .int .u8 0, .int .u8 0] cs.zipIdx = cs.toArray := by
  match cs, h with
  | [_, _, _, _, _, _, _, _, _, _], _ => simp only [List.zipIdx_cons, List.zipIdx_nil, List.foldl_cons, List.foldl_nil, Nat.reduceAdd, List.setIfInBounds_toArray, List.set_cons_zero, List.set_cons_succ]
set_option maxRecDepth 100000 in
set_option maxHeartbeats 2000000 in
theorem dayProducts_any (a : Option Addr) (n c : Nat) (m : Mach) (v : ByteArray) (w : World) (h : MachAt w w.heap.size a n m) (hsb : setB m v = true) :
    Calls Try.prog 73 #[.agg #[.slice a n c, .string m.wheels.refl, .string m.rings, .string m.plugs], .string v] w (RowPost 68 10 v.size (pvs m v v.size) w) := by
  have hmb := setB_mach hsb
  have hv3 : v.size ≤ 3 := by rw [setB_len hsb]; exact (machB_fit hmb).three
  have hv1 : 1 ≤ v.size := by rw [setB_len hsb]; exact (machB_fit hmb).one
  have p0 := ((Own.new w [.slice a n c, .string m.wheels.refl, .string m.rings, .string m.plugs] 27).alloc (.cells [.int .i64 (v.size : Int)].toArray 3)).alloc (.cells [.slice none 0 0].toArray 111)
  have p1 := (Own.new (w.alloc (.cells [.slice a n c, .string m.wheels.refl, .string m.rings, .string m.plugs].toArray 27)) [.int .i64 (v.size : Int)] 3).alloc (.cells [.slice none 0 0].toArray 111)
  have l0 := Own.new ((w.alloc (.cells [.slice a n c, .string m.wheels.refl, .string m.rings, .string m.plugs].toArray 27)).alloc (.cells [.int .i64 (v.size : Int)].toArray 3)) [.slice none 0 0] 111
  have hb0 := (((Below.refl w.heap.size w).alloc (Nat.le_refl _) (.cells [.slice a n c, .string m.wheels.refl, .string m.rings, .string m.plugs].toArray 27)).alloc (by simp) (.cells [.int .i64 (v.size : Int)].toArray 3)).alloc (by simp; omega) (.cells [.slice none 0 0].toArray 111)
  have h' := ((h.alloc_ (.cells [.slice a n c, .string m.wheels.refl, .string m.rings, .string m.plugs].toArray 27)).alloc_ (.cells [.int .i64 (v.size : Int)].toArray 3)).alloc_ (.cells [.slice none 0 0].toArray 111)
  rw [World.size_alloc] at p1
  rw [World.size_alloc, World.size_alloc] at l0
  obtain ⟨q, hq⟩ : ∃ q : Nat, q = 2 * v.size := ⟨_, rfl⟩
  have hmul : IntKind.i64.wrap (2 * (v.size : Int)) = (q : Int) := by rw [hq]; rw [IntWalk.i64_in _ (by omega)]; omega
  have HQ := Lib.hid hq
  have hq0 : 0 < q := by omega
  have hq6 : q ≤ 6 := by omega
  clear hq
  refine (callsIn_wide (n := 3)).1 ?_
  refine callsIn_of_wp_marks Try.func73 rfl trivial ?_ rfl
  simp only [Try.ntmps73, List.size_toArray, List.length_cons, List.length_nil, Nat.reduceAdd, Nat.reduceSub, Array.replicate_succ, Array.replicate_zero, List.push_toArray, List.append_toArray, List.nil_append, List.cons_append]
  have f0 := p0.at_ (i := 0) rfl
  have f1 := p0.at_ (i := 1) rfl
  have f2 := p0.at_ (i := 2) rfl
  have f3 := p0.at_ (i := 3) rfl
  gi_wp2_with fail
  generalize hW2 : ((w.alloc (.cells [.slice a n c, .string m.wheels.refl, .string m.rings, .string m.plugs].toArray 27)).alloc (.cells [.int .i64 (v.size : Int)].toArray 3)).alloc (.cells [.slice none 0 0].toArray 111) = W2 at *
  have HS2 : Hid (W2.heap.size = w.heap.size + 1 + 1 + 1) := by
    show _ = _
    rw [← hW2]; simp
  clear hW2
  refine ⟨trivial, (calls_in (ro := none) (newAssembly_any _ _ _ _ _ h' hmb)).mono ?_⟩
  rintro e w3 ⟨rfl, hA3, hb3⟩
  have l3 := l0.below hb3 l0.lt
  have p3 := p1.below hb3 p1.lt
  have hM3 := (h'.below hb3 (Nat.le_refl _)).more hb3.size
  have hbw3 := bt hb0 hb3
  have hz3 := hA3.lt
  have hz3b := hb3.size
  clear f0 f1 f2 f3 l0 p1 p0 h' hb0 hb3
  gi_wp2_with fail
  refine ⟨trivial, (calls_in (ro := none) (keys_any _ _ _)).mono ?_⟩
  rintro e w4 ⟨rfl, k0, k1, hb4⟩
  have l4 := l3.below hb4 l3.lt
  have p4 := p3.below hb4 p3.lt
  have hM4 := (hM3.below hb4 (Nat.le_refl _)).more hb4.size
  have hA4 := hA3.below hb4 hz3
  have hbw4 := bt hbw3 hb4
  have hz4 := k1.lt
  clear l3 p3 hM3 hA3 hbw3 hb4
  gi_wp2_with fail
  obtain ⟨b, off, rfl, hbl, -⟩ := h.whl.cells (setB_fit hsb).one
  have hs2 := HS2.out
  generalize hG : W2.heap.size + 1 = G at *
  generalize hB3 : w3.heap.size = B3 at *
  generalize hBM : w.heap.size = BM at *
  have HK : Hid (∀ x, (KA G (some ⟨b, off, none⟩) B3 x ∨ x = B3 + 1) → x < w4.heap.size ∧ x ≠ BM + 1 + 1 ∧ x ≠ BM + 1) := by
    rintro x ((rfl | rfl | ⟨ad, ha, rfl⟩) | rfl)
    · omega
    · omega
    · cases ha; simp only; omega
    · omega
  have HKB : Hid (∀ x, (KA G (some ⟨b, off, none⟩) B3 x ∨ x = B3 + 1) → x ≠ BM) := by
    rintro x ((rfl | rfl | ⟨ad, ha, rfl⟩) | rfl)
    · omega
    · omega
    · cases ha; simp only; omega
    · omega
  have r4 : OwR w4 BM 68 10 (.slice none 0 0) 0 (kv m v 0) := World.ownsRow_nil _ _ _ _
  have hbm4 : BM + 1 + 1 < B3 := by omega
  have HBM := Lib.hid hBM
  clear hBM hs2 HS2 hG hB3
  refine wpIn_rangeFunc_keysT rfl (by omega) (gf := 61) (lb := #[.pointer (some ⟨B3, 0, none⟩), .pointer (some ⟨B3 + 1, 0, none⟩)]) rfl trivial (enters_of Try.func61 (by kernel_rfl) rfl)
    (keys_seq _ G B3 (B3 + 1) _ _ c m v w4 hsb hA4 hM4 k0 k1 (by omega) (by omega) (fun ad e => by cases e; simp only; omega))
    (fun x hx => (HK.out x (.inl hx)).1) (by omega) q hq0
    (fun k W => Coll 68 10 BM BM (BM + 1 + 1) w4.heap.size k (kv m v k) W ∧ Own W (BM + 1) [.int .i64 (v.size : Int)] ∧ Below BM w W ∧ w4.heap.size ≤ W.heap.size)
    (fun co W => co = .exit 0 ∧ Coll 68 10 BM BM (BM + 1 + 1) w4.heap.size q (kv m v q) W ∧ Own W (BM + 1) [.int .i64 (v.size : Int)] ∧ Below BM w W ∧ w4.heap.size ≤ W.heap.size)
    ?hI ?hIx ?h0
    (AxBox m v w4.heap.size 17 18 9) ?hAx ?assign ?body ?stop
  case hI =>
    rintro k A B r ⟨h1, h2, h3, h4⟩ hg hr
    exact ⟨h1.grown hg (by omega) (by omega) (by omega), h2.grown hg (by simp; omega), h3.grown hg (by omega) (fun x e => by cases e; omega), Nat.le_trans h4 hg.size⟩
  case hIx =>
    rintro co A B r ⟨h0, h1, h2, h3, h4⟩ hg hr
    exact ⟨h0, h1.grown hg (by omega) (by omega) (by omega), h2.grown hg (by simp; omega), h3.grown hg (by omega) (fun x e => by cases e; omega), Nat.le_trans h4 hg.size⟩
  case h0 => exact ⟨Coll.start l4 r4 (fun x e => by simp [Value.ownBlock] at e), p4, hbw4, Nat.le_refl _⟩
  case hAx => exact fun k a' A B h hg => h.grown hg
  case assign =>
    rintro l k W Kn ⟨h1, h2, h3, h4⟩ hk hlt hKn
    have hp := isP_keyN hmb v k
    have hlp := size_pv10 hp
    have z9 : Own (W.alloc (.cells #[.int .u8 0, .int .u8 0, .int .u8 0, .int .u8 0, .int .u8 0, .int .u8 0, .int .u8 0, .int .u8 0, .int .u8 0, .int .u8 0] 68)) W.heap.size z10 := Own.new W z10 68
    refine wpIn_lit_plain (ro := some l) (by kernel_rfl) ?_
    simp only [List.setIfInBounds_toArray, List.set_cons_succ, List.set_cons_zero]
    go_wp2_with ((with_reducible refine wl_store 68 0 z9 (size_pv hp.len) (pv_one _) (by rw [hlp, len_z10]; omega) ?_ ?_ ?_ ?_); (· rfl); (· rfl); (· rfl); intro w5 q5 b5 s5)
    rw [put_z10 hlp] at q5
    simp only [World.size_alloc] at s5
    have hg : W.grownBy w5 (some W.heap.size) := ⟨b5.os, b5.tape, b5.output, by omega, fun x hx hne => (b5.block x (by simp; omega) hne).trans (Below.heap_alloc W _ x hx)⟩
    have hbel : Below W.heap.size W w5 := ⟨hg.os, hg.tape, hg.output, hg.size, fun x hx => hg.block x hx (by simp; omega)⟩
    refine onlyN_mk ?_
    refine hKn _ _ (hg.block _ hlt (by simp; omega)) (hg.block _ (by omega) (by simp; omega)) (Holds.grown hg (fun x hx => by have := (HK.out x hx).1; omega) (fun x hx => by have := (HK.out x hx).1; simp; omega)) ⟨h1.below hbel, h2.below hbel h2.lt, h3.trans (hbel.mono (by have := h3.size; rw [HBM.out] at this; exact this)), by omega⟩ ⟨W.heap.size, hlt, q5, rfl⟩
  case body =>
    rintro l k a' W ⟨⟨val, hl, hr, hvb⟩, h2, h3, h4⟩ ⟨Bx, hBx, ox, rfl⟩ hk hlt
    have hp := isP_keyN hmb v k
    have hlp := size_pv10 hp
    have hzs := size_pv hp.len
    have lw := hl.lt
    have lx := ox.lt
    have f0 := hl.at_ (i := 0) rfl
    have hbm := h3.size
    have hbm2 : BM ≤ W.heap.size := by rw [HBM.out] at hbm; exact hbm
    clear hbm
    simp only [List.setIfInBounds_toArray, List.set_cons_succ, List.set_cons_zero]
    refine wpIn_block ?_
    refine wpIn_seq ?_
    refine wpIn_lit_plain (ro := some l) (by kernel_rfl) ?_
    have hkz : k ≤ 1048576 := by omega
    have hbuild := build_pv (pv (keyN m v k)) hlp
    go_wp2_with (first | ((with_reducible refine wl_load 68 ox.cells hzs Try.underlying68 ?_ ?_ ?_ ?_); (· rfl); (· rfl); (· rfl)) | (at_builtin; ((with_reducible refine wl_pushG 111 68 inf_perm Try.underlying111 rfl (by omega) hr (by omega) hlp (pv_one _) (by omega) (by omega) rfl rfl ?_); intro g cap w6 hr6 hg6 hat6 hz6 hk6; have hl6 := hl.grown hg6 (fun e => by have := hvb _ e.symm; omega); have f6 := hl6.at_ (i := 0) rfl; have e6 := hl6.free 0 (by simp))))
    refine onlyN_mk ?_
    have hC := Coll.push (e := 68) (sz := 10) (base := BM) (R0 := BM) (L := w4.heap.size) (by omega) (by omega) (by omega) hl hvb hr6 hg6 hat6
    have hko : KeepsOthers W (w6.setCell ⟨BM + 1 + 1, 0, none⟩ (.slice (some ⟨g, 0, none⟩) (k + 1) cap)) := hk6.trans (KeepsOthers.setCell _ _ _)
    have hvb2 : ∀ x, val.ownBlock = some x → w4.heap.size + 1 < x ∨ x = BM := fun x e => (hvb x e).symm
    have hnv : val.ownBlock ≠ some BM → True := fun _ => trivial
    clear hnv
    have hho : Holds (fun x => KA G (some ⟨b, off, none⟩) B3 x ∨ x = B3 + 1) W (w6.setCell ⟨BM + 1 + 1, 0, none⟩ (.slice (some ⟨g, 0, none⟩) (k + 1) cap)) := by
      refine (Holds.grown hg6 (fun x hx => by have := (HK.out x hx).1; omega) (fun x hx e => ?_)).trans (Holds.grown (grown_setCell _ _ _ _) (fun x hx => by have := (HK.out x hx).1; omega) (fun x hx => by have := (HK.out x hx).2.1; simp; omega))
      have h7 := HK.out x hx
      have := hvb x e.symm
      have h8 := HKB.out x hx
      omega
    have hb7 : Below BM w (w6.setCell ⟨BM + 1 + 1, 0, none⟩ (.slice (some ⟨g, 0, none⟩) (k + 1) cap)) :=
      (h3.grown hg6 (by omega) (fun x e => by have := hvb x e; omega)).setCell (by simp; omega) _
    have h27 : Own (w6.setCell ⟨BM + 1 + 1, 0, none⟩ (.slice (some ⟨g, 0, none⟩) (k + 1) cap)) (BM + 1) [.int .i64 (v.size : Int)] :=
      (h2.grown hg6 (fun e => by have := hvb _ e.symm; have := h2.lt; omega)).far (by simp) _
    have f8 : (w6.setCell ⟨BM + 1 + 1, 0, none⟩ (.slice (some ⟨g, 0, none⟩) (k + 1) cap)).cell? ⟨BM + 1 + 1, 0, none⟩ = some (.slice (some ⟨g, 0, none⟩) (k + 1) cap) := (hl6.set_ (by simp) _).at_ (i := 0) rfl
    have hz8 : w4.heap.size ≤ (w6.setCell ⟨BM + 1 + 1, 0, none⟩ (.slice (some ⟨g, 0, none⟩) (k + 1) cap)).heap.size := by
      have : (w6.setCell ⟨BM + 1 + 1, 0, none⟩ (.slice (some ⟨g, 0, none⟩) (k + 1) cap)).heap.size = w6.heap.size := by simp [World.setCell]
      omega
    generalize (w6.setCell ⟨BM + 1 + 1, 0, none⟩ (.slice (some ⟨g, 0, none⟩) (k + 1) cap)) = w7 at *
    have f9 := h27.at_ (i := 0) rfl
    rw [← kv_snoc] at hC
    by_cases hend : k + 1 = q
    · have te : (((k : Int) + 1 == (q : Int))) = true := by rw [beq_iff_eq]; omega
      have HE : Hid (Coll 68 10 BM BM (BM + 1 + 1) w4.heap.size q (kv m v q) w7) := by
        show Coll _ _ _ _ _ _ _ _ _
        rwa [hend] at hC
      clear hend hC
      gi_wp2
      exact ⟨hko, rfl, HE.out, h27, hb7, hz8⟩
    · have te : (((k : Int) + 1 == (q : Int))) = false := by rw [beq_eq_false_iff_ne]; omega
      have hend' : k + 1 < q := by omega
      clear hend
      gi_wp2
      exact ⟨hko, hho, hend', hC, h27, hb7, hz8⟩
  case stop =>
    rintro co W ⟨rfl, ⟨val, hl, hr, hvb⟩, h2, h3, h4⟩ hKd
    obtain ⟨al, cl, rfl, hlc, -, hg⟩ := hr.val
    obtain ⟨gK, rfl, hgb, og⟩ := hg.resolve_left (by omega)
    have hbm := h3.size
    rw [HBM.out] at hbm
    have lgK := og.lt
    have lL := hl.lt
    have lN := h2.lt
    have hlK := (Array.getElem?_eq_some_iff.1 hKd).1
    refine wpIn_wide.2 ?_
    go_wp2_with fail
    refine wpIn_seq ?_
    refine wpIn_wide.2 ?_
    have f0 := hl.at_ (i := 0) rfl
    have f1 := h2.at_ (i := 0) rfl
    go_wp2_with fail
    go_loopw [7, 29] (fun u i wr => ∃ k : Nat, k ≤ v.size ∧ i = .int .i64 k ∧ OwR wr W.heap.size 68 10 u k (pvs m v k) ∧ Below W.heap.size W wr) (fun _ i _ => v.size - (intOf i).toNat)
    case atStart => exact ⟨0, Nat.zero_le _, rfl, World.ownsRow_nil _ _ _ _, Below.refl _ _⟩
    case round =>
      clear f0 f1
      obtain ⟨k, hk, rfl, hown, hb⟩ := hrel
      by_cases hlt : k < v.size
      · have hzw := hb.size
        have hlw := hl.below hb lL
        have hnw := h2.below hb lN
        have hqq := HQ.out
        obtain ⟨j, hj⟩ : ∃ j : Nat, j = k + v.size := ⟨_, rfl⟩
        have hadd : IntKind.i64.wrap ((k : Int) + (v.size : Int)) = (j : Int) := by rw [IntWalk.i64_in _ (by omega)]; omega
        have hq1 : CellsAt wr gK (k * 10) (pv (keyN m v k)) := ⟨kv_cells hmb (og.below hb lgK).cells (by omega), by omega⟩
        have hq2 : CellsAt wr gK (j * 10) (pv (keyN m v j)) := ⟨kv_cells hmb (og.below hb lgK).cells (by omega), by omega⟩
        have hp1 := isP_keyN hmb v k
        have hp2 := isP_keyN hmb v j
        have n1 := fun W => then_any _ _ W hp1 hp2
        have hPP : thenP (keyN m v k) (keyN m v j) = prodP m v k := by rw [hj]; rfl
        rw [hPP] at n1
        have hpp := isP_prod hmb v k
        have hl1 := hp1.len
        have hl2 := hp2.len
        have HS := Lib.hid (pvs_snoc m v k)
        have q1 : (0 : Int) ≤ (k : Int) := by omega
        have q2 : (k : Int) < (q : Int) := by omega
        have q3 : (0 : Int) ≤ (j : Int) := by omega
        have q4 : (j : Int) < (q : Int) := by omega
        have d0 := fun (cc : Cls wr.heap.size wr) => (cc.cell (BM + 1 + 1) 0 hlw.lt).trans (hlw.at_ (i := 0) rfl)
        have d1 := fun (cc : Cls wr.heap.size wr) => (cc.cell (BM + 1) 0 hnw.lt).trans (hnw.at_ (i := 0) rfl)
        clear hPP hj hp1 hp2 hqq
        generalize keyN m v k = x1 at *
        generalize keyN m v j = x2 at *
        go_wp2_with fail
        refine wp_onlyN ?_
        refine wp_region_any (by kernel_rfl) ?_
        refine wpAny_of_K (S := (fun w' => w'.cell? ⟨BM + 1 + 1, 0, none⟩ = some (.slice (some ⟨gK, 0, none⟩) q cl) ∧ w'.cell? ⟨BM + 1, 0, none⟩ = some (.int .i64 (v.size : Int)) ∧ w'.rangeAt gK (k * 10) (pv x1) ∧ w'.rangeAt gK (j * 10) (pv x2))) (kp := fun _ => true) _ _ _ _ ?_
        have hS : (fun w' => w'.cell? ⟨BM + 1 + 1, 0, none⟩ = some (.slice (some ⟨gK, 0, none⟩) q cl) ∧ w'.cell? ⟨BM + 1, 0, none⟩ = some (.int .i64 (v.size : Int)) ∧ w'.rangeAt gK (k * 10) (pv x1) ∧ w'.rangeAt gK (j * 10) (pv x2)) wr.drew := ⟨d0 ⟨wr, Below.refl _ _⟩, d1 ⟨wr, Below.refl _ _⟩, hq1.cells.range, hq2.cells.range⟩
        refine kr_take 0 32 (v := u7) rfl (by kernel_rfl) (by kernel_rfl) (by kernel_rfl) (by kernel_rfl) (fun _ _ _ h => by cases h.1) rfl hS (Or.inl ⟨by rfl, fun _ _ => rfl⟩) ?_
        simp only [Act.put, List.setIfInBounds_toArray, List.set_cons_succ, List.set_cons_zero]
        refine kr_take 1 33 (v := .slice (some ⟨gK, 0, none⟩) q cl) rfl (by kernel_rfl) (by kernel_rfl) (by kernel_rfl) (by kernel_rfl) (fun _ _ _ h => by cases h.1) rfl hS (Or.inl ⟨by rfl, fun w' hw' => by have hw1 := hw'.1; simp [go_sem, hw1]⟩) ?_
        simp only [Act.put, List.setIfInBounds_toArray, List.set_cons_succ, List.set_cons_zero]
        refine kr_take 2 34 (v := .int .i64 (k : Int)) rfl (by kernel_rfl) (by kernel_rfl) (by kernel_rfl) (by kernel_rfl) (fun _ _ _ h => by cases h.1) rfl hS (Or.inl ⟨by rfl, fun _ _ => rfl⟩) ?_
        simp only [Act.put, List.setIfInBounds_toArray, List.set_cons_succ, List.set_cons_zero]
        refine kr_take 3 35 (v := .pointer (some ⟨gK, k * 10, none⟩)) rfl (by kernel_rfl) (by kernel_rfl) (by kernel_rfl) (by kernel_rfl) (fun _ _ _ h => by cases h.1) rfl hS (Or.inl ⟨by rfl, fun w' _ => by simp [go_sem, q1, q2]⟩) ?_
        simp only [Act.put, List.setIfInBounds_toArray, List.set_cons_succ, List.set_cons_zero]
        refine kr_take 4 36 (v := .agg (pv x1).toArray) rfl (by kernel_rfl) (by kernel_rfl) (by kernel_rfl) (by kernel_rfl) (fun _ _ _ h => by cases h.1) rfl hS (yieldsIf_load_mid (by rfl) _ _ rfl _ _ rfl _ _ (fun _ h => h.2.2.1) Try.underlying68 rfl (size_pv hl1)) ?_
        simp only [Act.put, List.setIfInBounds_toArray, List.set_cons_succ, List.set_cons_zero]
        refine kr_take 5 37 (v := .slice (some ⟨gK, 0, none⟩) q cl) rfl (by kernel_rfl) (by kernel_rfl) (by kernel_rfl) (by kernel_rfl) (fun _ _ _ h => by cases h.1) rfl hS (Or.inl ⟨by rfl, fun w' hw' => by have hw1 := hw'.1; simp [go_sem, hw1]⟩) ?_
        simp only [Act.put, List.setIfInBounds_toArray, List.set_cons_succ, List.set_cons_zero]
        refine kr_take 6 38 (v := .int .i64 (k : Int)) rfl (by kernel_rfl) (by kernel_rfl) (by kernel_rfl) (by kernel_rfl) (fun _ _ _ h => by cases h.1) rfl hS (Or.inl ⟨by rfl, fun _ _ => rfl⟩) ?_
        simp only [Act.put, List.setIfInBounds_toArray, List.set_cons_succ, List.set_cons_zero]
        refine kr_take 7 39 (v := .int .i64 (v.size : Int)) rfl (by kernel_rfl) (by kernel_rfl) (by kernel_rfl) (by kernel_rfl) (fun _ _ _ h => by cases h.1) rfl hS (Or.inl ⟨by rfl, fun w' hw' => by have hw1 := hw'.2.1; simp [go_sem, hw1]⟩) ?_
        simp only [Act.put, List.setIfInBounds_toArray, List.set_cons_succ, List.set_cons_zero]
        refine kr_take 8 40 (v := .int .i64 (j : Int)) rfl (by kernel_rfl) (by kernel_rfl) (by kernel_rfl) (by kernel_rfl) (fun _ _ _ h => by cases h.1) rfl hS (Or.inl ⟨by rfl, fun w' _ => by simp [go_sem, hadd]⟩) ?_
        simp only [Act.put, List.setIfInBounds_toArray, List.set_cons_succ, List.set_cons_zero]
        refine kr_take 9 41 (v := .pointer (some ⟨gK, j * 10, none⟩)) rfl (by kernel_rfl) (by kernel_rfl) (by kernel_rfl) (by kernel_rfl) (fun _ _ _ h => by cases h.1) rfl hS (Or.inl ⟨by rfl, fun w' _ => by simp [go_sem, q3, q4]⟩) ?_
        simp only [Act.put, List.setIfInBounds_toArray, List.set_cons_succ, List.set_cons_zero]
        refine kr_take 10 42 (v := .agg (pv x2).toArray) rfl (by kernel_rfl) (by kernel_rfl) (by kernel_rfl) (by kernel_rfl) (fun _ _ _ h => by cases h.1) rfl hS (yieldsIf_load_mid (by rfl) _ _ rfl _ _ rfl _ _ (fun _ h => h.2.2.2) Try.underlying68 rfl (size_pv hl2)) ?_
        simp only [Act.put, List.setIfInBounds_toArray, List.set_cons_succ, List.set_cons_zero]
        refine kr_call 11 43 (by kernel_rfl) rfl (by rfl) rfl (fun w => by simp [go_sem]) (n1 wr.drew) (fun wc hbc0 => ?_)
        have hbc : Below wr.heap.size wr wc := (Below.refl wr.heap.size wr).drew.trans hbc0
        refine ⟨⟨d0 ⟨wc, hbc⟩, d1 ⟨wc, hbc⟩, (hq1.cells.below hbc hq1.lt).range, (hq2.cells.below hbc hq2.lt).range⟩, ?_⟩
        simp only [Act.put, List.setIfInBounds_toArray, List.set_cons_succ, List.set_cons_zero]
        have hbuild := build_pv (pv (prodP m v k)) (size_pv10 hpp)
        have hbcX : Below wr.heap.size wr (wc.alloc (.cells (pv (prodP m v k)).toArray 68)) := hbc.alloc hbc.size _
        refine kr_value 12 44 (v := .slice (some ⟨wc.heap.size, 0, none⟩) 1 1) (w' := wc.alloc (.cells (pv (prodP m v k)).toArray 68)) (by kernel_rfl) rfl (by rfl) rfl (by have hlpp := size_pv10 hpp; simp [go_sem, hbuild, hlpp]) ⟨⟨(hlw.below hbcX hlw.lt).at_ (i := 0) rfl, (hnw.below hbcX hnw.lt).at_ (i := 0) rfl, (hq1.cells.below hbcX hq1.lt).range, (hq2.cells.below hbcX hq2.lt).range⟩, ?_⟩
        simp only [Act.put, List.setIfInBounds_toArray, List.set_cons_succ, List.set_cons_zero]
        have hownc := OwR.below hown hbc (Nat.le_refl _)
        have hzc := hbc.size
        refine kr_one 13 (by kernel_rfl) rfl (by rfl) ?_
        refine kr_push 111 68 inf_perm Try.underlying111 rfl (by omega) rfl rfl hownc (by omega) (size_pv10 hpp) (pv_one _) (by omega) (by omega) rfl rfl ?_
        intro g4 cap w4' o4 b4 s4
        have hbd : Below W.heap.size W w4' := (hb.trans (hbc.mono hzw)).trans b4
        refine ⟨fun _ => ⟨(hl.below hbd lL).at_ (i := 0) rfl, (h2.below hbd lN).at_ (i := 0) rfl, ((hq1.cells.below hbc hq1.lt).below b4 lgK).range, ((hq2.cells.below hbc hq2.lt).below b4 lgK).range⟩, ?_⟩
        simp only [Act.put, List.setIfInBounds_toArray]
        have hS4 : (fun w' => w'.cell? ⟨BM + 1 + 1, 0, none⟩ = some (.slice (some ⟨gK, 0, none⟩) q cl) ∧ w'.cell? ⟨BM + 1, 0, none⟩ = some (.int .i64 (v.size : Int)) ∧ w'.rangeAt gK (k * 10) (pv x1) ∧ w'.rangeAt gK (j * 10) (pv x2)) w4' := ⟨(hl.below hbd lL).at_ (i := 0) rfl, (h2.below hbd lN).at_ (i := 0) rfl, ((hq1.cells.below hbc hq1.lt).below b4 lgK).range, ((hq2.cells.below hbc hq2.lt).below b4 lgK).range⟩
        refine kr_take 14 7 (v := .slice (some ⟨g4, 0, none⟩) (k + 1) cap) rfl (by kernel_rfl) (by kernel_rfl) (by kernel_rfl) (by kernel_rfl) (fun _ _ _ h => by cases h.1) rfl hS4 (Or.inl ⟨by rfl, fun _ _ => rfl⟩) ?_
        simp only [Act.put]
        refine ⟨by kernel_rfl, onlyN_mk ?_⟩
        go_wp2
        go_roundw
        case rel =>
          refine ⟨k + 1, by omega, by go_num, ?_, hbd⟩
          rw [HS.out]
          exact o4
        case measure => simp [intOf]; omega
      · have hk' : k = v.size := by omega
        rw [hk'] at hown
        have hKd2 := (hb.block w4.heap.size hlK).trans hKd
        have hB : Below BM w wr := h3.trans (hb.mono hbm)
        have hrow := World.ownsRow.mono hown hbm
        have hbz := hbw4.size
        rw [HBM.out] at hbz
        go_wp2_with fail
        gi_wp2
        refine ⟨by simp, .inl ⟨_, _, rfl, run_takeDeferred hKd2, ?_⟩⟩
        refine ⟨_, results_tmp rfl _ _ _, ?_⟩
        refine ⟨_, rfl, ?_, ?_⟩
        · rw [HBM.out]
          exact ownsRow_putObj hrow _ hKd2 rfl
        · rw [HBM.out]
          exact hB.trans (belowK_b (w := w4) hbz wr _ _ _ (Nat.le_refl _) hKd2 rfl rfl)
end Go.Proofs.Ytbeohccbflhdiaa

/- DayProducts of the program. -/
namespace Go.Proofs.Ytbeohccbflhdiaa
open Go.RowKit

theorem pv_len10 {m : Mach} (h : machB m = true) (v : ByteArray) (k : Nat) : (pv (prodP m v k)).length = 10 := size_pv10 (isP_prod h v k)
theorem pvs_cells {m : Mach} {v : ByteArray} {w : World} {g q k : Nat} (hm : machB m = true) (h : Cells w g 0 (pvs m v q)) (hk : k < q) : Cells w g (k * 10) (pv (prodP m v k)) := by
  have hL : ∀ x ∈ (List.range q).map (fun k => pv (prodP m v k)), x.length = 10 := by
    intro x hx
    obtain ⟨i, -, rfl⟩ := List.mem_map.1 hx
    exact pv_len10 hm v i
  have hf := flat_at _ k hL (by simpa using hk)
  have h1 := h.sub (k * 10) 10 (by
    have : (pvs m v q).length = q * 10 := by
      unfold pvs
      rw [List.length_flatten, List.map_map]
      have : (List.range q).map (List.length ∘ fun k => pv (prodP m v k)) = List.replicate q 10 := by
        rw [List.eq_replicate_iff]
        refine ⟨by simp, fun x hx => ?_⟩
        obtain ⟨y, -, rfl⟩ := List.mem_map.1 hx
        exact pv_len10 hm v y
      rw [this, List.sum_replicate_nat]
    omega)
  rw [Nat.zero_add] at h1
  unfold pvs at h1
  rw [hf] at h1
  simpa using h1
end Go.Proofs.Ytbeohccbflhdiaa
