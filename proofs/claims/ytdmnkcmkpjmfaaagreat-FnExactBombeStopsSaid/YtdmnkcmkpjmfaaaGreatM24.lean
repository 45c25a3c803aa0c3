/- Several of my texts in one: Bomb, ImpS2, Pairs. -/
import Derived.Test.YtdmnkcmkpjmfaaaGreatM23
import Derived.Test.YtdmnkcmkpjmfaaaGreatM12
import Derived.Test.YtdmnkcmkpjmfaaaGreatM17
import Derived.Test.YtdmnkcmkpjmfaaaGreatM18
import Derived.Test.YtdmnkcmkpjmfaaaGreatM5
/- The bombe of the program: its rows of wires. -/
namespace Go.Proofs.YtdmnkcmkpjmfaaaGreat
open Go.RowKit
attribute [local go_sem] Oper.semAt_some

/-- The cells of a wire. -/
def wv (r : Wire) : List Value := .int .i64 (r.t : Int) :: (List.range 10).map fun b => .int .u8 (r.p b : Int)
theorem len_wv (r : Wire) : (wv r).length = 11 := by simp [wv]
theorem wv_one (r : Wire) : ∀ u ∈ wv r, u.oneCell' = true := by
  intro u hu
  simp only [wv, List.mem_cons, List.mem_map] at hu
  rcases hu with rfl | ⟨b, -, rfl⟩ <;> rfl
theorem wv_at (r : Wire) {b : Nat} (h : b < 10) : (wv r)[b + 1]? = some (.int .u8 (r.p b : Int)) := by
  simp [wv, h]
theorem wv_zero (r : Wire) : (wv r)[0]? = some (.int .i64 (r.t : Int)) := rfl
theorem wv_pv {f t : Nat} {p : List Nat} (h : p.length = 10) : wv ⟨f, t, pAt p⟩ = .int .i64 (t : Int) :: pv p := by
  simp only [wv, List.cons.injEq, true_and]
  refine List.ext_getElem (by simp [length_pv, h]) fun i h1 h2 => ?_
  have hi : i < 10 := by simpa using h1
  have := pv_at (p := p) (i := i) (by omega)
  rw [List.getElem?_eq_getElem (by rw [length_pv]; omega)] at this
  rw [Option.some.inj this]
  simp
/-- The cells of wires, one after the other. -/
def wvs (rs : List Wire) : List Value := rs.flatMap wv
theorem len_wvs (rs : List Wire) : (wvs rs).length = rs.length * 11 := by
  induction rs with
  | nil => rfl
  | cons r rs ih =>
    have := len_wv r
    simp only [wvs, List.flatMap_cons, List.length_append, List.length_cons] at ih ⊢
    omega
theorem wvs_snoc (rs : List Wire) (r : Wire) : wvs (rs ++ [r]) = wvs rs ++ wv r := by simp [wvs]
theorem wvs_at : ∀ (rs : List Wire) (k : Nat) (h : k < rs.length), ((wvs rs).drop (k * 11)).take 11 = wv rs[k]
  | [], _, h => absurd h (by simp)
  | r :: rs, 0, _ => by
    have := len_wv r
    simp only [wvs, List.flatMap_cons, Nat.zero_mul, List.drop_zero, List.getElem_cons_zero]
    rw [List.take_append_of_le_length (by omega), List.take_of_length_le (by omega)]
  | r :: rs, k + 1, h => by
    have hx := len_wv r
    have ih := wvs_at rs k (by simpa using h)
    simp only [wvs, List.flatMap_cons, List.getElem_cons_succ] at ih ⊢
    rw [show (k + 1) * 11 = (wv r).length + k * 11 by omega, List.drop_append, List.drop_eq_nil_of_le (by omega), List.nil_append, show (wv r).length + k * 11 - (wv r).length = k * 11 by omega]
    exact ih
theorem build_wire (t : Nat) (cs : List Value) (h : cs.length = 10) : List.foldl (fun (cs : Array Value) (x : Value × Nat) => cs.setIfInBounds (1 + x.snd) x.fst) #[.int .i64 (t : Int), .int .u8 0, .int .u8 0, .int .u8 0, .int .u8 0, .int .u8 0, .int .u8 0, .int .u8 0, .int .u8 0, .int .u8 0, .int .u8 0] cs.zipIdx = (.int .i64 (t : Int) :: cs).toArray := by
  match cs, h with
  | [_, _, _, _, _, _, _, _, _, _], _ => simp only [List.zipIdx_cons, List.zipIdx_nil, List.foldl_cons, List.foldl_nil, Nat.reduceAdd, List.setIfInBounds_toArray, List.set_cons_zero, List.set_cons_succ]
theorem build_wv (cs : List Value) (h : cs.length = 11) : List.foldl (fun (cs : Array Value) (x : Value × Nat) => cs.setIfInBounds x.snd x.fst) #[.int .i64 0, .int .u8 0, .int .u8 0, .int .u8 0, .int .u8 0, .int .u8 0, .int .u8 0, .int .u8 0, .int .u8 0, .int .u8 0, .int .u8 0] cs.zipIdx = cs.toArray := by
  match cs, h with
  | [_, _, _, _, _, _, _, _, _, _, _], _ => simp only [List.zipIdx_cons, List.zipIdx_nil, List.foldl_cons, List.foldl_nil, Nat.reduceAdd, List.setIfInBounds_toArray, List.set_cons_zero, List.set_cons_succ]
/-- The wires from a letter. -/
def wireF (G : List Wire) (x : Nat) : List Wire := G.filter fun r => r.f == x
theorem mem_wireF {G : List Wire} {x : Nat} {r : Wire} : r ∈ wireF G x ↔ r ∈ G ∧ r.f = x := by simp [wireF]
theorem wireF_len (G : List Wire) (x : Nat) : (wireF G x).length ≤ G.length := List.length_filter_le _ _
theorem wireF_same (G : List Wire) (r : Wire) : wireF (G ++ [r]) r.f = wireF G r.f ++ [r] := by simp [wireF]
theorem wireF_other (G : List Wire) (r : Wire) {x : Nat} (h : r.f ≠ x) : wireF (G ++ [r]) x = wireF G x := by simp [wireF, h]

/-- Block g has a slice for each letter: its wires, in a row of its own. -/
def BombAt (w : World) (base g : Nat) (G : List Wire) : Prop :=
  ∃ vals : List Value, vals.length = 10 ∧ Own w g vals ∧ (∀ x (h : x < vals.length), OwR w base 139 11 vals[x] (wireF G x).length (wvs (wireF G x))) ∧
    (∀ x (h : x < vals.length), vals[x].ownBlock ≠ some g) ∧ (∀ x y (hx : x < vals.length) (hy : y < vals.length), x ≠ y → ∀ b, vals[x].ownBlock = some b → vals[y].ownBlock ≠ some b)
theorem BombAt.below {w w' : World} {base g B : Nat} {G : List Wire} (h : BombAt w base g G) (hb : Below B w w') (hB : w.heap.size ≤ B) : BombAt w' base g G := by
  obtain ⟨vals, hl, ho, hr, hg, hd⟩ := h
  exact ⟨vals, hl, ho.below hb (Nat.lt_of_lt_of_le ho.lt hB), fun x hx => OwR.below (hr x hx) hb hB, hg, hd⟩
theorem BombAt.lt {w : World} {base g : Nat} {G : List Wire} (h : BombAt w base g G) : g < w.heap.size := by
  obtain ⟨vals, -, ho, -⟩ := h; exact ho.lt
/-- One more wire in the row of its letter. -/
theorem BombAt.push {w w6 : World} {base g : Nat} {G : List Wire} {vals : List Value} {r : Wire} {gn cap : Nat} (hl : vals.length = 10) (ho : Own w g vals) (hr : ∀ x (h : x < vals.length), OwR w base 139 11 vals[x] (wireF G x).length (wvs (wireF G x)))
    (hg : ∀ x (h : x < vals.length), vals[x].ownBlock ≠ some g) (hd : ∀ x y (hx : x < vals.length) (hy : y < vals.length), x ≠ y → ∀ b, vals[x].ownBlock = some b → vals[y].ownBlock ≠ some b) (hbase : g < base) (hf : r.f < vals.length)
    (hr6 : OwR w6 base 139 11 (.slice (some ⟨gn, 0, none⟩) ((wireF G r.f).length + 1) cap) ((wireF G r.f).length + 1) (wvs (wireF G r.f) ++ wv r)) (hg6 : w.grownBy w6 (vals[r.f]'hf).ownBlock) (hat : (vals[r.f]'hf).ownBlock = some gn ∨ w.heap.size ≤ gn) :
    BombAt (w6.setCell ⟨g, r.f, none⟩ (.slice (some ⟨gn, 0, none⟩) ((wireF G r.f).length + 1) cap)) base g (G ++ [r]) := by
  have hne : ∀ x (h : x < vals.length), x ≠ r.f → vals[x].ownBlock ≠ some gn := fun x h hx e => by
    rcases hat with h1 | h1
    · exact hd r.f x hf h (fun e => hx e.symm) gn h1 e
    · have := (World.ownsRow.lt (hr x h) gn e).2; omega
  have hgn : gn ≠ g := by
    have := (World.ownsRow.lt hr6 gn rfl).1; omega
  refine ⟨vals.set r.f (.slice (some ⟨gn, 0, none⟩) ((wireF G r.f).length + 1) cap), by simpa using hl, (ho.grownO hg6 (hg r.f hf)).set_ hf _, fun x h => ?_, fun x h => ?_, fun x y hx hy hxy b => ?_⟩
  · have hx1 : x < vals.length := by simpa using h
    rw [List.getElem_set]
    by_cases e : r.f = x
    · subst e
      rw [if_pos rfl, wireF_same, List.length_append, wvs_snoc]
      exact OwR.off hr6 (by simp [Value.ownBlock]; exact hgn) _
    · rw [if_neg e, wireF_other _ _ e]
      refine OwR.off (World.ownsRow.kept (hr x hx1) hg6 ?_) (hg x hx1) _
      cases e1 : (vals[x]'hx1).ownBlock with
      | none => exact .inl rfl
      | some b => exact .inr (fun e2 => hd r.f x hf hx1 e b e2.symm e1)
  · have h' : x < vals.length := by simpa using h
    rw [List.getElem_set]
    by_cases e : r.f = x
    · rw [if_pos e]; simp [Value.ownBlock]; exact hgn
    · rw [if_neg e]; exact hg x h'
  · have hx' : x < vals.length := by simpa using hx
    have hy' : y < vals.length := by simpa using hy
    rw [List.getElem_set, List.getElem_set]
    by_cases e1 : r.f = x
    · subst e1
      rw [if_pos rfl, if_neg hxy]
      intro hb
      simp only [Value.ownBlock, Option.some.injEq] at hb
      subst hb
      exact hne y hy' (fun e => hxy e.symm)
    · rw [if_neg e1]
      by_cases e2 : r.f = y
      · subst e2
        rw [if_pos rfl]
        intro hb hc
        simp only [Value.ownBlock, Option.some.injEq] at hc
        subst hc
        exact hne x hx' (fun e => e1 e.symm) hb
      · rw [if_neg e2]
        exact hd x y hx' hy' hxy b
theorem BombAt.start {w : World} {base g : Nat} (h : Own w g (List.replicate 10 (.slice none 0 0))) : BombAt w base g [] := by
  refine ⟨List.replicate 10 (.slice none 0 0), by simp, h, fun x hx => ?_, fun x hx => ?_, fun x y hx hy _ b hb => ?_⟩
  · rw [List.getElem_replicate]; exact World.ownsRow_nil _ _ _ _
  · rw [List.getElem_replicate]; simp [Value.ownBlock]
  · rw [List.getElem_replicate] at hb; simp [Value.ownBlock] at hb
theorem len_menG (m : Mach) (v : ByteArray) (ms : List Lnk) : (menG m v ms).length = 2 * ms.length := by
  induction ms with
  | nil => rfl
  | cons x ms ih =>
    have h1 : menG m v (x :: ms) = lnkG m v x ++ menG m v ms := by simp [menG]
    rw [h1, List.length_append, ih]
    simp only [lnkG, List.length_cons, List.length_nil]
    omega
/-- The rows of a bombe, for reading. -/
def WiresAt (w : World) (g : Nat) (G : List Wire) : Prop :=
  g < w.heap.size ∧ ∀ x, x < 10 → ∃ a c, w.cell? ⟨g, x, none⟩ = some (.slice a (wireF G x).length c) ∧ Reads w w.heap.size a (wvs (wireF G x))
theorem WiresAt.below {w w' : World} {g B : Nat} {G : List Wire} (h : WiresAt w g G) (hb : Below B w w') (hB : w.heap.size ≤ B) : WiresAt w' g G := by
  refine ⟨Nat.lt_of_lt_of_le h.1 hb.size, fun x hx => ?_⟩
  obtain ⟨a, c, hc, hr⟩ := h.2 x hx
  exact ⟨a, c, (hb.cell (p := ⟨g, x, none⟩) (Nat.lt_of_lt_of_le h.1 hB)).trans hc, (hr.below hb hB).more hb.size⟩
theorem BombAt.wires {w : World} {base g : Nat} {G : List Wire} (h : BombAt w base g G) : WiresAt w g G := by
  obtain ⟨vals, hl, ho, hr, -, -⟩ := h
  refine ⟨ho.lt, fun x hx => ?_⟩
  obtain ⟨a, c, e, -, hrd, -⟩ := OwR.val (hr x (by omega))
  exact ⟨a, c, by rw [ho.cell x (by omega), List.getElem?_eq_getElem (by omega), e], hrd⟩

section
variable {P : Program} {ops : Array Oper} {Q : Exit → Act → World → Prop} {a : Act} {w0 : World} {o : Oper} {K : Act → World → Prop}
theorem kr_pushG (t e : TypeId) {s x : Operand} {z : Value} {sz bytes : Nat} (hinfo : (P.info? e).map (fun i => (i.zero, i.size, i.bytes)) = some (some z, sz, bytes)) (ht : P.underlying t = some (.slice e)) (hzs : z.cells.size = sz) (hsz : 0 < sz)
    {base n : Nat} {v : Value} {xs us : List Value} (hgd : o.guard = none) (ho : o.op = .call { callee := .builtin .append, args := #[s, x], argTypes := #[t, t] }) (hown : OwR w0 base e sz v n xs) (hb : base ≤ w0.heap.size) (hus : us.length = sz) (h1 : ∀ u ∈ us, u.oneCell' = true) (hn : n ≤ 1048576) (hby : bytes ≤ 1000)
    (hs : a.eval s = v) (hx : a.eval x = .slice (some ⟨w0.heap.size, 0, none⟩) 1 1)
    (h : ∀ g cap w', OwR w' base e sz (.slice (some ⟨g, 0, none⟩) (n + 1) cap) (n + 1) (xs ++ us) → w0.grownBy w' v.ownBlock → (v.ownBlock = some g ∨ w0.heap.size < g) → w0.heap.size < w'.heap.size → Below base w0 w' → K (a.put o.dst (.slice (some ⟨g, 0, none⟩) (n + 1) cap)) w') :
    Oper.wp P o a (w0.alloc (.cells us.toArray e)) K Q := by
  have hst := st_pushG (ops := #[]) (E := False) (Q := Q) (K := K) t e hinfo ht hzs hsz hgd ho hown hb hus h1 hn hby hs hx h
  split at hst
  · exact hst
  · exact hst.elim
end
section
variable {P : Program} {ops : Array Oper} {Q : Exit → Act → World → Prop} {md : Region.Mode} {S : World → Prop} {kp : Nat → Bool} {fuel : Nat} {listed : Array Bool} {a : Act} {w : World}
theorem wpAnyK_of_true : ∀ (fuel : Nat) (listed : Array Bool) (a : Act) (w : World), wpAny P md ops Q fuel listed a w → wpAnyK P md ops Q (fun _ => True) kp fuel listed a w
  | 0, _, _, _, h => h
  | fuel + 1, _, _, _, h => ⟨h.1, fun i hi => wpOp_mono (fun a' w' h' => ⟨fun _ => trivial, wpAnyK_of_true fuel _ a' w' h'⟩) (h.2 i hi)⟩
/-- Two operations may come up: a call, and one that makes a value. -/
theorem kr_two (i j d d2 : Nat) {o o2 : Oper} {f : FuncId} {args : Array Value} {E : Ending → World → Prop} {v2 : Value} {w2 : World} (hr : Region.ready md ops listed = [i, j]) (hi : ops[i]? = some o) (hw : Region.wanted o (yielded ops a.tmps) = true)
    (hd : o.dst = some d) (he : ∀ w, (execOp a.eval o).run P w = .ok (.enter f args) w) (hj : ops[j]? = some o2) (hw2 : Region.wanted o2 (yielded ops a.tmps) = true) (hd2 : o2.dst = some d2) (he2 : (execOp a.eval o2).run P w = .ok (.value v2) w2) (hc : Calls P f args w E)
    (h : ∀ e w', E e w' → ∃ v, e = .returned v ∧ S w' ∧ wpAnyK P md ops Q S kp fuel (listed.setIfInBounds i true) (a.put (some d) v) w')
    (h2 : S w2 ∧ wpAnyK P md ops Q S kp fuel (listed.setIfInBounds j true) (a.put (some d2) v2) w2) : wpAnyK P md ops Q S kp (fuel + 1) listed a w := by
  refine ⟨fun h0 => (by rw [hr] at h0; cases h0), fun k hk => ?_⟩
  rw [hr] at hk
  simp only [List.mem_cons, List.not_mem_nil, or_false] at hk
  rcases hk with rfl | rfl
  · unfold wpOp
    simp only [hi, hw, if_true]
    refine .inl ?_
    simp only [Oper.wp, he, Oper.upon]
    refine hc.mono ?_
    intro e w' hT
    obtain ⟨v, rfl, h1, h2⟩ := h e w' hT
    rw [hd]
    exact ⟨fun _ => h1, h2⟩
  · unfold wpOp
    simp only [hj, hw2, if_true]
    refine .inl ?_
    simp only [Oper.wp, he2, Oper.upon]
    rw [hd2]
    exact ⟨fun _ => h2.1, h2.2⟩
end
theorem inf_wire : (Tryz.prog.info? 139).map (fun i => (i.zero, i.size, i.bytes)) = some (some (.agg #[.int .i64 0, .int .u8 0, .int .u8 0, .int .u8 0, .int .u8 0, .int .u8 0, .int .u8 0, .int .u8 0, .int .u8 0, .int .u8 0, .int .u8 0]), 11, 24) := by kernel_rfl
/-- What newBombe leaves. -/
def BombP (G : List Wire) (w : World) (e : Ending) (w' : World) : Prop := ∃ g, e = .returned (.pointer (some ⟨g, 0, none⟩)) ∧ w.heap.size ≤ g ∧ WiresAt w' g G ∧ Below w.heap.size w w'
set_option maxRecDepth 100000 in
set_option maxHeartbeats 2000000 in
theorem newBombe_any (a : Option Addr) (c : Nat) (m : Mach) (v : ByteArray) (am : Option Addr) (cm : Nat) (ms : List Lnk) (w : World) (h : MachAt w w.heap.size a m.wheels.rotors.length m) (hs : setB m v = true) (hrm : Reads w w.heap.size am (lks ms)) (hm : menuB ms = true) :
    Calls Tryz.prog 76 #[.agg #[.slice a m.wheels.rotors.length c, .string m.wheels.refl, .string m.rings, .string m.plugs], .string v, .slice am ms.length cm] w (BombP (menG m v ms) w) := by
  have hsb := setB_bare hs
  have hmb := setB_mach hs
  have hasc := menuB_asc hm
  have hone := hasc.one
  have hfew := hasc.few
  have o0 := Own.new w [.slice a m.wheels.rotors.length c, .string m.wheels.refl, .string m.rings, .string m.plugs] 36
  have hb0 := (Below.refl w.heap.size w).alloc (Nat.le_refl _) (.cells [.slice a m.wheels.rotors.length c, .string m.wheels.refl, .string m.rings, .string m.plugs].toArray 36)
  have h' := h.alloc_ (.cells [.slice a m.wheels.rotors.length c, .string m.wheels.refl, .string m.rings, .string m.plugs].toArray 36)
  go_enter Tryz.func76, Tryz.ntmps76
  go_wp2_with fail
  go_upto_region 1 with (fail)
  go_cut [7, 8] (fun s7 _ wr => ∃ A g c', s7 = .pointer (some ⟨A, 0, none⟩) ∧ w.heap.size ≤ A ∧ w.heap.size ≤ g ∧ Own wr A [.slice (some ⟨g, 0, none⟩) m.wheels.rotors.length c', .string m.wheels.refl, .string m.rings, .string (wd idP)] ∧ Own wr g (rvs m.wheels.rotors) ∧ Below w.heap.size w wr)
  case first =>
    have l0 := o0.lt
    have hz0 := hb0.size
    have HM := Lib.hid h'
    generalize (w.alloc (.cells [.slice a m.wheels.rotors.length c, .string m.wheels.refl, .string m.rings, .string m.plugs].toArray 36)) = W at *
    have HS := Lib.hid (fun (W' : World) (hb : Below W.heap.size W W') => (o0.below hb l0).cells.range)
    refine wp_onlyN ?_
    refine wp_region_any (by kernel_rfl) ?_
    refine wpAny_of_K (S := fun w' => w'.rangeAt w.heap.size 0 [.slice a m.wheels.rotors.length c, .string m.wheels.refl, .string m.rings, .string m.plugs]) (kp := fun _ => true) _ _ _ _ ?_
    have hb1 : Below W.heap.size W W.drew := (Below.refl _ _).drew
    have hS := HS.out W.drew hb1
    refine kr_take 0 16 (v := .agg #[.slice a m.wheels.rotors.length c, .string m.wheels.refl, .string m.rings, .string m.plugs]) rfl (by kernel_rfl) (by kernel_rfl) (by kernel_rfl) (by kernel_rfl) (fun _ _ _ h => by cases h.1) rfl hS (yieldsIf_load_mid (by rfl) _ _ rfl _ _ rfl _ _ (fun _ h => h) Tryz.underlying36 rfl (by kernel_rfl)) ?_; simp only [Act.put, List.setIfInBounds_toArray, List.set_cons_succ, List.set_cons_zero]
    refine kr_two 1 6 17 7 (v2 := .pointer (some ⟨W.heap.size, 0, none⟩)) (w2 := W.drew.alloc (.cells #[.slice none 0 0, .string ⟨#[]⟩, .string ⟨#[]⟩, .string ⟨#[]⟩] 36)) (by kernel_rfl) rfl (by rfl) rfl (fun w => by simp [go_sem]) rfl (by rfl) rfl (by simp [go_sem]) (implIdentityPerm_any W.drew) (fun e w2 hT => ?_) ?_
    · obtain ⟨rfl, hb2⟩ := hT
      have hbw2 : Below W.heap.size W w2 := hb1.trans hb2
      refine ⟨_, rfl, HS.out _ hbw2, ?_⟩
      simp only [Act.put, List.setIfInBounds_toArray, List.set_cons_succ, List.set_cons_zero]
      have hM2 := (HM.out.below hbw2 (Nat.le_refl _)).more hbw2.size
      have hz2 := hbw2.size
      refine kr_two 2 6 18 7 (v2 := .pointer (some ⟨w2.heap.size, 0, none⟩)) (w2 := w2.alloc (.cells #[.slice none 0 0, .string ⟨#[]⟩, .string ⟨#[]⟩, .string ⟨#[]⟩] 36)) (by kernel_rfl) rfl (by rfl) rfl (fun w => by simp [go_sem]) rfl (by rfl) rfl (by simp [go_sem]) (withPlugs_any a c m w2 hM2 hmb) (fun e w3 hT => ?_) ?_
      · obtain ⟨g, c', rfl, hg, og, hb3⟩ := hT
        have hbw3 := hbw2.trans (hb3.mono hbw2.size)
        refine ⟨_, rfl, HS.out _ hbw3, ?_⟩
        simp only [Act.put, List.setIfInBounds_toArray, List.set_cons_succ, List.set_cons_zero]
        have hS := HS.out _ hbw3
        refine kr_take 3 15 (v := .tuple #[.agg #[.slice (some ⟨g, 0, none⟩) m.wheels.rotors.length c', .string m.wheels.refl, .string m.rings, .string (wd idP)], .bool true]) rfl (by kernel_rfl) (by kernel_rfl) (by kernel_rfl) (by kernel_rfl) (fun _ _ _ h => by cases h.1) rfl hS (Or.inl ⟨by rfl, fun _ _ => rfl⟩) ?_; simp only [Act.put, List.setIfInBounds_toArray, List.set_cons_succ, List.set_cons_zero]
        refine kr_take 4 19 (v := .agg #[.slice (some ⟨g, 0, none⟩) m.wheels.rotors.length c', .string m.wheels.refl, .string m.rings, .string (wd idP)]) rfl (by kernel_rfl) (by kernel_rfl) (by kernel_rfl) (by kernel_rfl) (fun _ _ _ h => by cases h.1) rfl hS (Or.inl ⟨by rfl, fun _ _ => by simp [go_sem]⟩) ?_; simp only [Act.put, List.setIfInBounds_toArray, List.set_cons_succ, List.set_cons_zero]
        refine kr_take 5 20 (v := .bool true) rfl (by kernel_rfl) (by kernel_rfl) (by kernel_rfl) (by kernel_rfl) (fun _ _ _ h => by cases h.1) rfl hS (Or.inl ⟨by rfl, fun _ _ => by simp [go_sem]⟩) ?_; simp only [Act.put, List.setIfInBounds_toArray, List.set_cons_succ, List.set_cons_zero]
        refine kr_value 6 7 (v := .pointer (some ⟨w3.heap.size, 0, none⟩)) (w' := w3.alloc (.cells #[.slice none 0 0, .string ⟨#[]⟩, .string ⟨#[]⟩, .string ⟨#[]⟩] 36)) (by kernel_rfl) rfl (by rfl) rfl (by simp [go_sem]) ⟨HS.out _ (hbw3.alloc hbw3.size _), ?_⟩
        simp only [Act.put, List.setIfInBounds_toArray, List.set_cons_succ, List.set_cons_zero]
        refine kr_one 7 (by kernel_rfl) rfl (by rfl) ?_
        simp [Oper.wp, Oper.upon, go_sem]
        have lg := og.lt
        have hb4 : Below W.heap.size W (w3.alloc (.cells #[.slice (some ⟨g, 0, none⟩) m.wheels.rotors.length c', .string m.wheels.refl, .string m.rings, .string (wd idP)] 36)) := hbw3.alloc hbw3.size _
        have hS4 := HS.out _ hb4
        refine ⟨hS4, ?_⟩
        have hS := hS4
        refine kr_take 8 8 (v := .bool true) rfl (by kernel_rfl) (by kernel_rfl) (by kernel_rfl) (by kernel_rfl) (fun _ _ _ h => by cases h.1) rfl hS (Or.inl ⟨by rfl, fun _ _ => rfl⟩) ?_; simp only [Act.put, List.setIfInBounds_toArray, List.set_cons_succ, List.set_cons_zero]
        refine ⟨by kernel_rfl, onlyN_mk ?_⟩
        go_wp2_with fail
        go_meet
        have hz3 := hbw3.size
        exact ⟨w3.heap.size, g, c', rfl, by omega, by omega, Own.new w3 [.slice (some ⟨g, 0, none⟩) m.wheels.rotors.length c', .string m.wheels.refl, .string m.rings, .string (wd idP)] 36, og.alloc _, hb0.trans (hb4.mono hz0)⟩
      · have hbwA := hbw2.alloc hz2 (.cells #[.slice none 0 0, .string ⟨#[]⟩, .string ⟨#[]⟩, .string ⟨#[]⟩] 36)
        refine ⟨HS.out _ hbwA, ?_⟩
        simp only [Act.put, List.setIfInBounds_toArray, List.set_cons_succ, List.set_cons_zero]
        have oN := Own.new w2 [.slice none 0 0, .string ⟨#[]⟩, .string ⟨#[]⟩, .string ⟨#[]⟩] 36
        have hM3 := hM2.alloc_ (.cells #[.slice none 0 0, .string ⟨#[]⟩, .string ⟨#[]⟩, .string ⟨#[]⟩] 36)
        have hbw2 := hbwA
        refine kr_callM 2 18 (by kernel_rfl) rfl (by rfl) rfl (fun w => by simp [go_sem]) (withPlugs_any a c m (w2.alloc (.cells #[.slice none 0 0, .string ⟨#[]⟩, .string ⟨#[]⟩, .string ⟨#[]⟩] 36)) hM3 hmb) (fun e w3 hT => ?_)
        obtain ⟨g, c', rfl, hg, og, hb3⟩ := hT
        have hbw3 := hbw2.trans (hb3.mono hbw2.size)
        refine ⟨_, rfl, HS.out _ hbw3, ?_⟩
        simp only [Act.put, List.setIfInBounds_toArray, List.set_cons_succ, List.set_cons_zero]
        have oA := oN.below hb3 oN.lt
        have hS := HS.out _ hbw3
        refine kr_take 3 15 (v := .tuple #[.agg #[.slice (some ⟨g, 0, none⟩) m.wheels.rotors.length c', .string m.wheels.refl, .string m.rings, .string (wd idP)], .bool true]) rfl (by kernel_rfl) (by kernel_rfl) (by kernel_rfl) (by kernel_rfl) (fun _ _ _ h => by cases h.1) rfl hS (Or.inl ⟨by rfl, fun _ _ => rfl⟩) ?_; simp only [Act.put, List.setIfInBounds_toArray, List.set_cons_succ, List.set_cons_zero]
        refine kr_take 4 19 (v := .agg #[.slice (some ⟨g, 0, none⟩) m.wheels.rotors.length c', .string m.wheels.refl, .string m.rings, .string (wd idP)]) rfl (by kernel_rfl) (by kernel_rfl) (by kernel_rfl) (by kernel_rfl) (fun _ _ _ h => by cases h.1) rfl hS (Or.inl ⟨by rfl, fun _ _ => by simp [go_sem]⟩) ?_; simp only [Act.put, List.setIfInBounds_toArray, List.set_cons_succ, List.set_cons_zero]
        refine kr_take 5 20 (v := .bool true) rfl (by kernel_rfl) (by kernel_rfl) (by kernel_rfl) (by kernel_rfl) (fun _ _ _ h => by cases h.1) rfl hS (Or.inl ⟨by rfl, fun _ _ => by simp [go_sem]⟩) ?_; simp only [Act.put, List.setIfInBounds_toArray, List.set_cons_succ, List.set_cons_zero]
        have e0 := oA.at_ (i := 0) rfl
        have g0 := oA.free 0 (by simp)
        have e1 := oA.at_ (i := 1) rfl
        have g1 := oA.free 1 (by simp)
        have e2 := oA.at_ (i := 2) rfl
        have g2 := oA.free 2 (by simp)
        have e3 := oA.at_ (i := 3) rfl
        have g3 := oA.free 3 (by simp)
        refine kr_one 7 (by kernel_rfl) rfl (by rfl) ?_
        simp [Oper.wp, Oper.upon, go_sem, e0, e1, e2, e3, g0, g1, g2, g3]
        have lA := oA.lt
        have hb4 : Below W.heap.size W (set4 w3 w2.heap.size (.slice (some ⟨g, 0, none⟩) m.wheels.rotors.length c') (.string m.wheels.refl) (.string m.rings) (.string (wd idP))) := bel_set4 hbw3 (by simp only [World.size_alloc] at *; omega) _ _ _ _
        have oz := oA.set4 (.slice (some ⟨g, 0, none⟩) m.wheels.rotors.length c') (.string m.wheels.refl) (.string m.rings) (.string (wd idP))
        have ogz : Own (set4 w3 w2.heap.size (.slice (some ⟨g, 0, none⟩) m.wheels.rotors.length c') (.string m.wheels.refl) (.string m.rings) (.string (wd idP))) g (rvs m.wheels.rotors) := og.keep (by rw [size_set4]; exact og.lt) (blk_set4 _ _ _ _ _ _ (by simp only [World.size_alloc] at *; omega))
        skip
        have hS4 := HS.out _ hb4
        refine ⟨hS4, ?_⟩
        have hS := hS4
        refine kr_take 8 8 (v := .bool true) rfl (by kernel_rfl) (by kernel_rfl) (by kernel_rfl) (by kernel_rfl) (fun _ _ _ h => by cases h.1) rfl hS (Or.inl ⟨by rfl, fun _ _ => rfl⟩) ?_; simp only [Act.put, List.setIfInBounds_toArray, List.set_cons_succ, List.set_cons_zero]
        refine ⟨by kernel_rfl, onlyN_mk ?_⟩
        go_wp2_with fail
        go_meet
        exact ⟨w2.heap.size, g, c', rfl, by omega, by simp only [World.size_alloc] at *; omega, oz, ogz, hb0.trans (hb4.mono hz0)⟩
    · have hbwA := hb1.alloc (Nat.le_refl _) (.cells #[.slice none 0 0, .string ⟨#[]⟩, .string ⟨#[]⟩, .string ⟨#[]⟩] 36)
      refine ⟨HS.out _ hbwA, ?_⟩
      simp only [Act.put, List.setIfInBounds_toArray, List.set_cons_succ, List.set_cons_zero]
      have oN : Own (W.drew.alloc (.cells #[.slice none 0 0, .string ⟨#[]⟩, .string ⟨#[]⟩, .string ⟨#[]⟩] 36)) W.heap.size [.slice none 0 0, .string ⟨#[]⟩, .string ⟨#[]⟩, .string ⟨#[]⟩] := Own.new W.drew _ 36
      refine kr_callM 1 17 (by kernel_rfl) rfl (by rfl) rfl (fun w => by simp [go_sem]) (implIdentityPerm_any (W.drew.alloc (.cells #[.slice none 0 0, .string ⟨#[]⟩, .string ⟨#[]⟩, .string ⟨#[]⟩] 36))) (fun e w2 hT => ?_)
      obtain ⟨rfl, hb2⟩ := hT
      have hbw2 := hbwA.trans (hb2.mono hbwA.size)
      have oM := oN.below hb2 oN.lt
      refine ⟨_, rfl, HS.out _ hbw2, ?_⟩
      simp only [Act.put, List.setIfInBounds_toArray, List.set_cons_succ, List.set_cons_zero]
      have hM2 := (HM.out.below hbw2 (Nat.le_refl _)).more hbw2.size
      have hz2 : W.heap.size + 1 ≤ w2.heap.size := by have := hb2.size; simpa using this
      refine kr_callM 2 18 (by kernel_rfl) rfl (by rfl) rfl (fun w => by simp [go_sem]) (withPlugs_any a c m w2 hM2 hmb) (fun e w3 hT => ?_)
      obtain ⟨g, c', rfl, hg, og, hb3⟩ := hT
      have hbw3 := hbw2.trans (hb3.mono hbw2.size)
      refine ⟨_, rfl, HS.out _ hbw3, ?_⟩
      simp only [Act.put, List.setIfInBounds_toArray, List.set_cons_succ, List.set_cons_zero]
      have oA := oM.below hb3 oM.lt
      have hS := HS.out _ hbw3
      refine kr_take 3 15 (v := .tuple #[.agg #[.slice (some ⟨g, 0, none⟩) m.wheels.rotors.length c', .string m.wheels.refl, .string m.rings, .string (wd idP)], .bool true]) rfl (by kernel_rfl) (by kernel_rfl) (by kernel_rfl) (by kernel_rfl) (fun _ _ _ h => by cases h.1) rfl hS (Or.inl ⟨by rfl, fun _ _ => rfl⟩) ?_; simp only [Act.put, List.setIfInBounds_toArray, List.set_cons_succ, List.set_cons_zero]
      refine kr_take 4 19 (v := .agg #[.slice (some ⟨g, 0, none⟩) m.wheels.rotors.length c', .string m.wheels.refl, .string m.rings, .string (wd idP)]) rfl (by kernel_rfl) (by kernel_rfl) (by kernel_rfl) (by kernel_rfl) (fun _ _ _ h => by cases h.1) rfl hS (Or.inl ⟨by rfl, fun _ _ => by simp [go_sem]⟩) ?_; simp only [Act.put, List.setIfInBounds_toArray, List.set_cons_succ, List.set_cons_zero]
      refine kr_take 5 20 (v := .bool true) rfl (by kernel_rfl) (by kernel_rfl) (by kernel_rfl) (by kernel_rfl) (fun _ _ _ h => by cases h.1) rfl hS (Or.inl ⟨by rfl, fun _ _ => by simp [go_sem]⟩) ?_; simp only [Act.put, List.setIfInBounds_toArray, List.set_cons_succ, List.set_cons_zero]
      have e0 := oA.at_ (i := 0) rfl
      have g0 := oA.free 0 (by simp)
      have e1 := oA.at_ (i := 1) rfl
      have g1 := oA.free 1 (by simp)
      have e2 := oA.at_ (i := 2) rfl
      have g2 := oA.free 2 (by simp)
      have e3 := oA.at_ (i := 3) rfl
      have g3 := oA.free 3 (by simp)
      refine kr_one 7 (by kernel_rfl) rfl (by rfl) ?_
      simp [Oper.wp, Oper.upon, go_sem, e0, e1, e2, e3, g0, g1, g2, g3]
      have lA := oA.lt
      have hb4 : Below W.heap.size W (set4 w3 W.heap.size (.slice (some ⟨g, 0, none⟩) m.wheels.rotors.length c') (.string m.wheels.refl) (.string m.rings) (.string (wd idP))) := bel_set4 hbw3 (by simp only [World.size_alloc] at *; omega) _ _ _ _
      have oz := oA.set4 (.slice (some ⟨g, 0, none⟩) m.wheels.rotors.length c') (.string m.wheels.refl) (.string m.rings) (.string (wd idP))
      have ogz : Own (set4 w3 W.heap.size (.slice (some ⟨g, 0, none⟩) m.wheels.rotors.length c') (.string m.wheels.refl) (.string m.rings) (.string (wd idP))) g (rvs m.wheels.rotors) := og.keep (by rw [size_set4]; exact og.lt) (blk_set4 _ _ _ _ _ _ (by simp only [World.size_alloc] at *; omega))
      skip
      have hS4 := HS.out _ hb4
      refine ⟨hS4, ?_⟩
      have hS := hS4
      refine kr_take 8 8 (v := .bool true) rfl (by kernel_rfl) (by kernel_rfl) (by kernel_rfl) (by kernel_rfl) (fun _ _ _ h => by cases h.1) rfl hS (Or.inl ⟨by rfl, fun _ _ => rfl⟩) ?_; simp only [Act.put, List.setIfInBounds_toArray, List.set_cons_succ, List.set_cons_zero]
      refine ⟨by kernel_rfl, onlyN_mk ?_⟩
      go_wp2_with fail
      go_meet
      exact ⟨W.heap.size, g, c', rfl, by omega, by simp only [World.size_alloc] at *; omega, oz, ogz, hb0.trans (hb4.mono hz0)⟩
  case rest =>
    obtain ⟨A, g, c', rfl, hA, hg, oA, og, hb1⟩ := hcut
    have hzw := hb1.size
    have hR1 := (hrm.below hb1 (Nat.le_refl _)).more hb1.size
    have HRM := Lib.hid (fun (wr : World) (hb : Below w.heap.size w wr) => hrm.below hb (Nat.le_refl _))
    have hM1 : MachAt wc wc.heap.size (some ⟨g, 0, none⟩) m.wheels.rotors.length (bareM m) := ⟨⟨Reads.of_own og og.lt, h.whl.len, h.whl.few, h.whl.rot, h.whl.refl⟩, h.rings, by show (wd idP).size ≤ _; rw [size_wd]; decide⟩
    have hk := menuKeys_any (some ⟨g, 0, none⟩) m.wheels.rotors.length c' (bareM m) v am cm ms wc hM1 hsb hR1 hasc
    have f0 := oA.at_ (i := 0) rfl
    have f1 := oA.at_ (i := 1) rfl
    have f2 := oA.at_ (i := 2) rfl
    have f3 := oA.at_ (i := 3) rfl
    clear h' h hrm hb0 o0 hM1 hR1
    go_wp2_with fail
    refine hk.mono ?_
    rintro e w2 ⟨kv, rfl, hok, hb2⟩
    obtain ⟨ka, kc, rfl, hkc, -, hkg⟩ := OwR.val hok
    obtain ⟨gK, rfl, hgK, oK⟩ := hkg.resolve_left (by omega)
    have hbw2 := hb1.trans (hb2.mono hzw)
    clear f0 f1 f2 f3 hk hok oA og hb1 hb2 hkg
    have hB0 : BombAt (w2.alloc (.cells (List.replicate 10 (.slice none 0 0)).toArray 137)) (w2.heap.size + 1) w2.heap.size (menG m v (ms.take 0)) := BombAt.start (Own.new w2 _ 137)
    have oK0 := oK.alloc (.cells (List.replicate 10 (.slice none 0 0)).toArray 137)
    have hbw0 := hbw2.alloc hbw2.size (.cells (List.replicate 10 (.slice none 0 0)).toArray 137)
    have lK := oK.lt
    have hzw2 := hbw2.size
    go_wp2_with fail
    generalize hB2 : w2.heap.size = B2 at *
    go_loopw [11, 12, 13, 14, 29] (fun _ _ _ _ i wr => ∃ k : Nat, k ≤ ms.length ∧ i = .int .i64 k ∧ BombAt wr (B2 + 1) B2 (menG m v (ms.take k)) ∧ Own wr gK (kvm (bareM m) v ms) ∧ Below w.heap.size w wr) (fun _ _ _ _ i _ => ms.length - (intOf i).toNat)
    case atStart => exact ⟨0, Nat.zero_le _, rfl, hB0, oK0, hbw0⟩
    case round =>
      clear hB0 oK0 hbw0 oK hbw2 hB2
      obtain ⟨k, hk, rfl, hB, oK, hb⟩ := hrel
      by_cases hlt : k < ms.length
      · obtain ⟨b, off, rfl, hbl, hcl⟩ := (HRM.out _ hb).open_ (by rw [len_lks]; omega)
        have c0 := hcl (k * 3) (by rw [len_lks]; omega)
        have c1 := hcl (k * 3 + 1) (by rw [len_lks]; omega)
        have c2 := hcl (k * 3 + 2) (by rw [len_lks]; omega)
        rw [lks_at0 _ _ hlt] at c0
        rw [lks_at1 _ _ hlt, ← Nat.add_assoc] at c1
        rw [lks_at2 _ _ hlt, ← Nat.add_assoc] at c2
        clear hcl
        have hok := menuB_lnk hm ms[k] (List.getElem_mem hlt)
        have hkat := hasc.pos k hlt
        have HS := Lib.hid (menG_snoc (m := m) (v := v) hlt)
        have hGl := len_menG m v (ms.take k)
        rw [List.length_take] at hGl
        have hpk := isP_keyN (machB_bare hmb) v (kat ms k - 1)
        have hL : lnkG m v ms[k] = [⟨lkA ms[k].p, lkA ms[k].c, pAt (keyN (bareM m) v (kat ms k - 1))⟩, ⟨lkA ms[k].c, lkA ms[k].p, pAt (keyN (bareM m) v (kat ms k - 1))⟩] := by
          unfold lnkG
          rw [show ms[k].k.toNat - 1 = kat ms k - 1 by rw [hkat, Int.toNat_natCast]]
        rw [hL] at HS
        clear hL
        obtain ⟨G, hG⟩ : ∃ G, G = menG m v (ms.take k) := ⟨_, rfl⟩
        rw [← hG] at HS hB hGl
        clear hkat
        generalize ms[k] = x at *
        have e1 := hok.p1
        have e2 := hok.c1
        have g1 := hok.pl
        have g2 := hok.cl
        have hw2 := word_two hok.wd
        obtain ⟨d1, -, d3⟩ := lk_letter e1 hw2.1
        obtain ⟨d4, -, d6⟩ := lk_letter e2 hw2.2
        have n1 := fun W => implNumber_any (x.p[0]'(by omega)) W d3
        have n2 := fun W => implNumber_any (x.c[0]'(by omega)) W d6
        rw [d1] at n1
        rw [d4] at n2
        have q1 : (0 : Int) ≤ (k : Int) := by omega
        have q2 : (k : Int) < (ms.length : Int) := by omega
        have hz := hb.size
        have x0 := Own.new wr [.string x.p, .string x.c, .int .i64 x.k] 72
        have hbA := hb.alloc hz (.cells [.string x.p, .string x.c, .int .i64 x.k].toArray 72)
        have oKA := oK.alloc (.cells [.string x.p, .string x.c, .int .i64 x.k].toArray 72)
        have hBA := hB.below ((Below.refl wr.heap.size wr).alloc (Nat.le_refl _) (.cells [.string x.p, .string x.c, .int .i64 x.k].toArray 72)) (Nat.le_refl _)
        clear d1 d3 d4 d6 hw2 hok hG hB oK hb
        have s1 : (0 : Int) < (x.p.size : Int) := by omega
        have s2 : (0 : Int) < (x.c.size : Int) := by omega
        obtain ⟨xp, xc, xk⟩ := x
        simp only at *
        generalize lkA xp = A at *
        generalize lkA xc = C at *
        go_wp2_with fail
        have lx := x0.lt
        generalize hW5 : (wr.alloc (.cells [.string xp, .string xc, .int .i64 xk].toArray 72)) = W5 at *
        have hz5 : wr.heap.size < W5.heap.size := lx
        clear hW5
        have k0 := fun (cc : Cls W5.heap.size W5) => (cc.cell wr.heap.size 0 lx).trans (x0.at_ (i := 0) rfl)
        have k1 := fun (cc : Cls W5.heap.size W5) => (cc.cell wr.heap.size 1 lx).trans (x0.at_ (i := 1) rfl)
        refine wp_region_cls (by kernel_rfl) (by kernel_rfl) ?_
        repeat (go_big_quiet_step (first | (go_at_call 78; with_reducible exact cls_same (n1 _)) | (go_at_call 78; with_reducible exact cls_same (n2 _))))
        refine wpQuiet_nil ?_
        intro wc hbc
        have hB0 := hBA.below hbc (Nat.le_refl _)
        have oK0 := oKA.below hbc oKA.lt
        have hbw0 := hbA.trans (hbc.mono (by omega))
        have lB0 := hB0.lt
        clear k0 k1 n1 n2 c0 c1 c2 hBA oKA hbA hbc x0 s1 s2
        have qxA0 : (0 : Int) ≤ (A : Int) := by omega
        have qxA1 : (A : Int) < 10 := by omega
        have qxC0 : (0 : Int) ≤ (C : Int) := by omega
        have qxC1 : (C : Int) < 10 := by omega
        go_wp2_with fail
        have hGl0 : G.length ≤ 24 := by rw [hGl]; omega
        have hl10 : (pv (keyN (bareM m) v (kat ms k - 1))).length = 10 := by rw [length_pv, hpk.len]
        have hbld0 := build_wire C _ hl10
        rw [← wv_pv (f := A) hpk.len] at hbld0
        have hsl0 := build_wv (wv ⟨A, C, pAt (keyN (bareM m) v (kat ms k - 1))⟩) (len_wv _)
        obtain ⟨vals, hvl, hvo, hvr, hvg, hvd⟩ := hB0
        have hXl : A < vals.length := by omega
        obtain ⟨vX, hvX⟩ : ∃ vX, vX = vals[A] := ⟨_, rfl⟩
        have hrow := hvr A hXl
        have hgX := hvg A hXl
        rw [← hvX] at hrow hgX
        have cX : wc.cell? ⟨B2, A, none⟩ = some vX := hvo.at_ (by rw [List.getElem?_eq_getElem hXl, hvX])
        have lvo := hvo.lt
        have loK := oK0.lt
        have hwl := wireF_len G A
        have HVX := Lib.hid hvX
        clear hvX
        have cK := kvm_cells (machB_bare hmb) oK0.cells hlt
        have hbd : Below wc.heap.size wc wc.drew := (Below.refl _ _).drew
        refine wp_onlyN ?_
        refine wp_region_any (by kernel_rfl) ?_
        refine wpAny_of_K (S := fun _ => True) (kp := fun _ => true) _ _ _ _ ?_
        have hS : (fun _ : World => True) wc.drew := trivial
        refine kr_take 0 42 (v := .pointer (some ⟨B2, 0, none⟩)) rfl (by kernel_rfl) (by kernel_rfl) (by kernel_rfl) (by kernel_rfl) (fun _ _ _ h => by cases h.1) rfl hS (Or.inl ⟨by rfl, fun _ _ => rfl⟩) ?_; simp only [Act.put, List.setIfInBounds_toArray, List.set_cons_succ, List.set_cons_zero]
        refine kr_take 15 57 (v := .pointer (some ⟨B2, 0, none⟩)) rfl (by kernel_rfl) (by kernel_rfl) (by kernel_rfl) (by kernel_rfl) (fun _ _ _ h => by cases h.1) rfl hS (Or.inl ⟨by rfl, fun _ _ => by simp [go_sem]⟩) ?_; simp only [Act.put, List.setIfInBounds_toArray, List.set_cons_succ, List.set_cons_zero]
        refine wpAnyK_of_true _ _ _ _ ?_
        refine wpAny_of_K (S := (fun w' : World => w'.cell? ⟨B2, A, none⟩ = some vX ∧ w'.rangeAt gK (k * 10) (pv (keyN (bareM m) v (kat ms k - 1))))) (kp := fun i => decide (i < 16)) _ _ _ _ ?_
        have hS : (fun w' : World => w'.cell? ⟨B2, A, none⟩ = some vX ∧ w'.rangeAt gK (k * 10) (pv (keyN (bareM m) v (kat ms k - 1)))) wc.drew := ⟨cX, cK.range⟩
        refine kr_take 1 43 (v := .int .i64 (A : Int)) rfl (by kernel_rfl) (by kernel_rfl) (by kernel_rfl) (by kernel_rfl) (fun _ _ _ h => by cases h.1) rfl hS (Or.inl ⟨by rfl, fun _ _ => rfl⟩) ?_; simp only [Act.put, List.setIfInBounds_toArray, List.set_cons_succ, List.set_cons_zero]
        refine kr_take 2 44 (v := .pointer (some ⟨B2, 0, none⟩)) rfl (by kernel_rfl) (by kernel_rfl) (by kernel_rfl) (by kernel_rfl) (fun _ _ _ h => by cases h.1) rfl hS (Or.inl ⟨by rfl, fun _ _ => rfl⟩) ?_; simp only [Act.put, List.setIfInBounds_toArray, List.set_cons_succ, List.set_cons_zero]
        refine kr_take 3 45 (v := .int .i64 (A : Int)) rfl (by kernel_rfl) (by kernel_rfl) (by kernel_rfl) (by kernel_rfl) (fun _ _ _ h => by cases h.1) rfl hS (Or.inl ⟨by rfl, fun _ _ => rfl⟩) ?_; simp only [Act.put, List.setIfInBounds_toArray, List.set_cons_succ, List.set_cons_zero]
        refine kr_take 4 46 (v := .pointer (some ⟨B2, 0, none⟩)) rfl (by kernel_rfl) (by kernel_rfl) (by kernel_rfl) (by kernel_rfl) (fun _ _ _ h => by cases h.1) rfl hS (Or.inl ⟨by rfl, fun _ _ => by simp [go_sem]⟩) ?_; simp only [Act.put, List.setIfInBounds_toArray, List.set_cons_succ, List.set_cons_zero]
        refine kr_take 5 47 (v := .pointer (some ⟨B2, A, none⟩)) rfl (by kernel_rfl) (by kernel_rfl) (by kernel_rfl) (by kernel_rfl) (fun _ _ _ h => by cases h.1) rfl hS (Or.inl ⟨by rfl, fun w' hw' => by simp [go_sem, qxA0, qxA1]⟩) ?_; simp only [Act.put, List.setIfInBounds_toArray, List.set_cons_succ, List.set_cons_zero]
        refine kr_take 6 48 (v := vX) rfl (by kernel_rfl) (by kernel_rfl) (by kernel_rfl) (by kernel_rfl) (fun _ _ _ h => by cases h.1) rfl hS (Or.inl ⟨by rfl, fun w' hw' => by have hw1 := hw'.1; simp [go_sem, hw1]⟩) ?_; simp only [Act.put, List.setIfInBounds_toArray, List.set_cons_succ, List.set_cons_zero]
        refine kr_take 7 49 (v := .int .i64 (C : Int)) rfl (by kernel_rfl) (by kernel_rfl) (by kernel_rfl) (by kernel_rfl) (fun _ _ _ h => by cases h.1) rfl hS (Or.inl ⟨by rfl, fun _ _ => rfl⟩) ?_; simp only [Act.put, List.setIfInBounds_toArray, List.set_cons_succ, List.set_cons_zero]
        refine kr_take 8 50 (v := .slice (some ⟨gK, 0, none⟩) ms.length kc) rfl (by kernel_rfl) (by kernel_rfl) (by kernel_rfl) (by kernel_rfl) (fun _ _ _ h => by cases h.1) rfl hS (Or.inl ⟨by rfl, fun _ _ => rfl⟩) ?_; simp only [Act.put, List.setIfInBounds_toArray, List.set_cons_succ, List.set_cons_zero]
        refine kr_take 9 51 (v := .int .i64 (k : Int)) rfl (by kernel_rfl) (by kernel_rfl) (by kernel_rfl) (by kernel_rfl) (fun _ _ _ h => by cases h.1) rfl hS (Or.inl ⟨by rfl, fun _ _ => rfl⟩) ?_; simp only [Act.put, List.setIfInBounds_toArray, List.set_cons_succ, List.set_cons_zero]
        refine kr_take 10 52 (v := .pointer (some ⟨gK, k * 10, none⟩)) rfl (by kernel_rfl) (by kernel_rfl) (by kernel_rfl) (by kernel_rfl) (fun _ _ _ h => by cases h.1) rfl hS (Or.inl ⟨by rfl, fun w' hw' => by simp [go_sem, q1, q2]⟩) ?_; simp only [Act.put, List.setIfInBounds_toArray, List.set_cons_succ, List.set_cons_zero]
        refine kr_take 11 53 (v := .agg (pv (keyN (bareM m) v (kat ms k - 1))).toArray) rfl (by kernel_rfl) (by kernel_rfl) (by kernel_rfl) (by kernel_rfl) (fun _ _ _ h => by cases h.1) rfl hS (yieldsIf_load_mid (by rfl) _ _ rfl _ _ rfl _ _ (fun _ h => h.2) Tryz.underlying102 rfl (size_pv hpk.len)) ?_; simp only [Act.put, List.setIfInBounds_toArray, List.set_cons_succ, List.set_cons_zero]
        refine kr_take 12 54 (v := .agg (wv ⟨A, C, pAt (keyN (bareM m) v (kat ms k - 1))⟩).toArray) rfl (by kernel_rfl) (by kernel_rfl) (by kernel_rfl) (by kernel_rfl) (fun _ _ _ h => by cases h.1) rfl hS (Or.inl ⟨by rfl, fun w' hw' => by simp [go_sem, hl10, hbld0]⟩) ?_; simp only [Act.put, List.setIfInBounds_toArray, List.set_cons_succ, List.set_cons_zero]
        have oKb := oK0.drew
        have hbA : Below wc.heap.size wc (wc.drew.alloc (.cells (wv ⟨A, C, pAt (keyN (bareM m) v (kat ms k - 1))⟩).toArray 139)) := hbd.alloc (Nat.le_refl _) _
        refine kr_value 13 55 (v := .slice (some ⟨wc.heap.size, 0, none⟩) 1 1) (w' := wc.drew.alloc (.cells (wv ⟨A, C, pAt (keyN (bareM m) v (kat ms k - 1))⟩).toArray 139)) (by kernel_rfl) rfl (by rfl) rfl (by simp [go_sem, hsl0, len_wv]) ⟨⟨(hbA.cell (p := ⟨B2, A, none⟩) lvo).trans cX, (cK.below hbA loK).range⟩, ?_⟩
        simp only [Act.put, List.setIfInBounds_toArray, List.set_cons_succ, List.set_cons_zero]
        refine kr_one 14 (by kernel_rfl) rfl (by rfl) ?_
        have hrowd : OwR wc.drew (B2 + 1) 139 11 vX (wireF G A).length (wvs (wireF G A)) := hrow
        refine kr_pushG 135 139 inf_wire Tryz.underlying135 rfl (by omega) rfl rfl hrowd (show B2 + 1 ≤ wc.heap.size by omega) (len_wv ⟨A, C, pAt (keyN (bareM m) v (kat ms k - 1))⟩) (wv_one ⟨A, C, pAt (keyN (bareM m) v (kat ms k - 1))⟩) (by omega) (by omega) rfl rfl ?_
        intro gn cap w6 hr6 hg6 hat6 hz6 hb6
        have hzd : wc.drew.heap.size = wc.heap.size := rfl
        rw [hzd] at hat6 hz6
        have c6 : w6.cell? ⟨B2, A, none⟩ = some vX := (hb6.cell (p := ⟨B2, A, none⟩) (Nat.lt_succ_self _)).trans cX
        have f6 : w6.frozen? ⟨B2, A, none⟩ = false := ((hvo.drew.grownO hg6 hgX).free A hXl)
        refine ⟨fun _ => ⟨c6, (cK.drew.below hb6 (by omega)).range⟩, ?_⟩
        simp only [Act.put, List.setIfInBounds_toArray]
        refine kr_drop 16 rfl (by kernel_rfl) (by kernel_rfl) ?_
        simp only [List.drop_succ_cons, List.drop_zero]
        go_wp2_with fail
        refine onlyN_mk ?_
        have hB1 := BombAt.push (r := ⟨A, C, pAt (keyN (bareM m) v (kat ms k - 1))⟩) hvl hvo.drew (fun x h => (show OwR wc.drew (B2 + 1) 139 11 vals[x] (wireF G x).length (wvs (wireF G x)) from hvr x h)) hvg hvd (Nat.lt_succ_self _) hXl hr6 (HVX.out ▸ hg6) (by rw [← HVX.out]; rcases hat6 with h | h; exact .inl h; exact .inr (Nat.le_of_lt h))
        have oK1 : Own (w6.setCell ⟨B2, A, none⟩ (.slice (some ⟨gn, 0, none⟩) ((wireF G A).length + 1) cap)) gK (kvm (bareM m) v ms) := (oKb.below hb6 (by omega)).far (show gK ≠ B2 by omega) _
        have hbw1 : Below w.heap.size w (w6.setCell ⟨B2, A, none⟩ (.slice (some ⟨gn, 0, none⟩) ((wireF G A).length + 1) cap)) := ((hbw0.drew).trans (hb6.mono (by omega))).setCell (show w.heap.size ≤ B2 by omega) _
        generalize (w6.setCell ⟨B2, A, none⟩ (.slice (some ⟨gn, 0, none⟩) ((wireF G A).length + 1) cap)) = wd1 at *
        have lB1 := hB1.lt
        clear hrow hrowd hgX cX cK hbd hbA hr6 hg6 hat6 hz6 hb6 c6 f6 hvl hvo hvr hvg hvd hbld0 hsl0 oKb hS
        go_wp2_with fail
        obtain ⟨G1, hG1⟩ : ∃ G1, G1 = G ++ [⟨A, C, pAt (keyN (bareM m) v (kat ms k - 1))⟩] := ⟨_, rfl⟩
        rw [← hG1] at hB1
        have hGl1 : G1.length ≤ 25 := by rw [hG1, List.length_append]; simp only [List.length_cons, List.length_nil]; omega
        have HG1 := Lib.hid hG1
        clear hG1
        have hbld1 := build_wire A _ hl10
        rw [← wv_pv (f := C) hpk.len] at hbld1
        have hsl1 := build_wv (wv ⟨C, A, pAt (keyN (bareM m) v (kat ms k - 1))⟩) (len_wv _)
        obtain ⟨vals, hvl, hvo, hvr, hvg, hvd⟩ := hB1
        have hXl : C < vals.length := by omega
        obtain ⟨vX, hvX⟩ : ∃ vX, vX = vals[C] := ⟨_, rfl⟩
        have hrow := hvr C hXl
        have hgX := hvg C hXl
        rw [← hvX] at hrow hgX
        have cX : wd1.cell? ⟨B2, C, none⟩ = some vX := hvo.at_ (by rw [List.getElem?_eq_getElem hXl, hvX])
        have lvo := hvo.lt
        have loK := oK1.lt
        have hwl := wireF_len G1 C
        have HVX := Lib.hid hvX
        clear hvX
        have cK := kvm_cells (machB_bare hmb) oK1.cells hlt
        have hbd : Below wd1.heap.size wd1 wd1.drew := (Below.refl _ _).drew
        refine wp_onlyN ?_
        refine wp_region_any (by kernel_rfl) ?_
        refine wpAny_of_K (S := fun _ => True) (kp := fun _ => true) _ _ _ _ ?_
        have hS : (fun _ : World => True) wd1.drew := trivial
        refine kr_take 0 59 (v := .pointer (some ⟨B2, 0, none⟩)) rfl (by kernel_rfl) (by kernel_rfl) (by kernel_rfl) (by kernel_rfl) (fun _ _ _ h => by cases h.1) rfl hS (Or.inl ⟨by rfl, fun _ _ => rfl⟩) ?_; simp only [Act.put, List.setIfInBounds_toArray, List.set_cons_succ, List.set_cons_zero]
        refine kr_take 15 74 (v := .pointer (some ⟨B2, 0, none⟩)) rfl (by kernel_rfl) (by kernel_rfl) (by kernel_rfl) (by kernel_rfl) (fun _ _ _ h => by cases h.1) rfl hS (Or.inl ⟨by rfl, fun _ _ => by simp [go_sem]⟩) ?_; simp only [Act.put, List.setIfInBounds_toArray, List.set_cons_succ, List.set_cons_zero]
        refine wpAnyK_of_true _ _ _ _ ?_
        refine wpAny_of_K (S := (fun w' : World => w'.cell? ⟨B2, C, none⟩ = some vX ∧ w'.rangeAt gK (k * 10) (pv (keyN (bareM m) v (kat ms k - 1))))) (kp := fun i => decide (i < 16)) _ _ _ _ ?_
        have hS : (fun w' : World => w'.cell? ⟨B2, C, none⟩ = some vX ∧ w'.rangeAt gK (k * 10) (pv (keyN (bareM m) v (kat ms k - 1)))) wd1.drew := ⟨cX, cK.range⟩
        refine kr_take 1 60 (v := .int .i64 (C : Int)) rfl (by kernel_rfl) (by kernel_rfl) (by kernel_rfl) (by kernel_rfl) (fun _ _ _ h => by cases h.1) rfl hS (Or.inl ⟨by rfl, fun _ _ => rfl⟩) ?_; simp only [Act.put, List.setIfInBounds_toArray, List.set_cons_succ, List.set_cons_zero]
        refine kr_take 2 61 (v := .pointer (some ⟨B2, 0, none⟩)) rfl (by kernel_rfl) (by kernel_rfl) (by kernel_rfl) (by kernel_rfl) (fun _ _ _ h => by cases h.1) rfl hS (Or.inl ⟨by rfl, fun _ _ => rfl⟩) ?_; simp only [Act.put, List.setIfInBounds_toArray, List.set_cons_succ, List.set_cons_zero]
        refine kr_take 3 62 (v := .int .i64 (C : Int)) rfl (by kernel_rfl) (by kernel_rfl) (by kernel_rfl) (by kernel_rfl) (fun _ _ _ h => by cases h.1) rfl hS (Or.inl ⟨by rfl, fun _ _ => rfl⟩) ?_; simp only [Act.put, List.setIfInBounds_toArray, List.set_cons_succ, List.set_cons_zero]
        refine kr_take 4 63 (v := .pointer (some ⟨B2, 0, none⟩)) rfl (by kernel_rfl) (by kernel_rfl) (by kernel_rfl) (by kernel_rfl) (fun _ _ _ h => by cases h.1) rfl hS (Or.inl ⟨by rfl, fun _ _ => by simp [go_sem]⟩) ?_; simp only [Act.put, List.setIfInBounds_toArray, List.set_cons_succ, List.set_cons_zero]
        refine kr_take 5 64 (v := .pointer (some ⟨B2, C, none⟩)) rfl (by kernel_rfl) (by kernel_rfl) (by kernel_rfl) (by kernel_rfl) (fun _ _ _ h => by cases h.1) rfl hS (Or.inl ⟨by rfl, fun w' hw' => by simp [go_sem, qxC0, qxC1]⟩) ?_; simp only [Act.put, List.setIfInBounds_toArray, List.set_cons_succ, List.set_cons_zero]
        refine kr_take 6 65 (v := vX) rfl (by kernel_rfl) (by kernel_rfl) (by kernel_rfl) (by kernel_rfl) (fun _ _ _ h => by cases h.1) rfl hS (Or.inl ⟨by rfl, fun w' hw' => by have hw1 := hw'.1; simp [go_sem, hw1]⟩) ?_; simp only [Act.put, List.setIfInBounds_toArray, List.set_cons_succ, List.set_cons_zero]
        refine kr_take 7 66 (v := .int .i64 (A : Int)) rfl (by kernel_rfl) (by kernel_rfl) (by kernel_rfl) (by kernel_rfl) (fun _ _ _ h => by cases h.1) rfl hS (Or.inl ⟨by rfl, fun _ _ => rfl⟩) ?_; simp only [Act.put, List.setIfInBounds_toArray, List.set_cons_succ, List.set_cons_zero]
        refine kr_take 8 67 (v := .slice (some ⟨gK, 0, none⟩) ms.length kc) rfl (by kernel_rfl) (by kernel_rfl) (by kernel_rfl) (by kernel_rfl) (fun _ _ _ h => by cases h.1) rfl hS (Or.inl ⟨by rfl, fun _ _ => rfl⟩) ?_; simp only [Act.put, List.setIfInBounds_toArray, List.set_cons_succ, List.set_cons_zero]
        refine kr_take 9 68 (v := .int .i64 (k : Int)) rfl (by kernel_rfl) (by kernel_rfl) (by kernel_rfl) (by kernel_rfl) (fun _ _ _ h => by cases h.1) rfl hS (Or.inl ⟨by rfl, fun _ _ => rfl⟩) ?_; simp only [Act.put, List.setIfInBounds_toArray, List.set_cons_succ, List.set_cons_zero]
        refine kr_take 10 69 (v := .pointer (some ⟨gK, k * 10, none⟩)) rfl (by kernel_rfl) (by kernel_rfl) (by kernel_rfl) (by kernel_rfl) (fun _ _ _ h => by cases h.1) rfl hS (Or.inl ⟨by rfl, fun w' hw' => by simp [go_sem, q1, q2]⟩) ?_; simp only [Act.put, List.setIfInBounds_toArray, List.set_cons_succ, List.set_cons_zero]
        refine kr_take 11 70 (v := .agg (pv (keyN (bareM m) v (kat ms k - 1))).toArray) rfl (by kernel_rfl) (by kernel_rfl) (by kernel_rfl) (by kernel_rfl) (fun _ _ _ h => by cases h.1) rfl hS (yieldsIf_load_mid (by rfl) _ _ rfl _ _ rfl _ _ (fun _ h => h.2) Tryz.underlying102 rfl (size_pv hpk.len)) ?_; simp only [Act.put, List.setIfInBounds_toArray, List.set_cons_succ, List.set_cons_zero]
        refine kr_take 12 71 (v := .agg (wv ⟨C, A, pAt (keyN (bareM m) v (kat ms k - 1))⟩).toArray) rfl (by kernel_rfl) (by kernel_rfl) (by kernel_rfl) (by kernel_rfl) (fun _ _ _ h => by cases h.1) rfl hS (Or.inl ⟨by rfl, fun w' hw' => by simp [go_sem, hl10, hbld1]⟩) ?_; simp only [Act.put, List.setIfInBounds_toArray, List.set_cons_succ, List.set_cons_zero]
        have oKb := oK1.drew
        have hbA : Below wd1.heap.size wd1 (wd1.drew.alloc (.cells (wv ⟨C, A, pAt (keyN (bareM m) v (kat ms k - 1))⟩).toArray 139)) := hbd.alloc (Nat.le_refl _) _
        refine kr_value 13 72 (v := .slice (some ⟨wd1.heap.size, 0, none⟩) 1 1) (w' := wd1.drew.alloc (.cells (wv ⟨C, A, pAt (keyN (bareM m) v (kat ms k - 1))⟩).toArray 139)) (by kernel_rfl) rfl (by rfl) rfl (by simp [go_sem, hsl1, len_wv]) ⟨⟨(hbA.cell (p := ⟨B2, C, none⟩) lvo).trans cX, (cK.below hbA loK).range⟩, ?_⟩
        simp only [Act.put, List.setIfInBounds_toArray, List.set_cons_succ, List.set_cons_zero]
        refine kr_one 14 (by kernel_rfl) rfl (by rfl) ?_
        have hrowd : OwR wd1.drew (B2 + 1) 139 11 vX (wireF G1 C).length (wvs (wireF G1 C)) := hrow
        refine kr_pushG 135 139 inf_wire Tryz.underlying135 rfl (by omega) rfl rfl hrowd (show B2 + 1 ≤ wd1.heap.size by omega) (len_wv ⟨C, A, pAt (keyN (bareM m) v (kat ms k - 1))⟩) (wv_one ⟨C, A, pAt (keyN (bareM m) v (kat ms k - 1))⟩) (by omega) (by omega) rfl rfl ?_
        intro gn cap w6 hr6 hg6 hat6 hz6 hb6
        have hzd : wd1.drew.heap.size = wd1.heap.size := rfl
        rw [hzd] at hat6 hz6
        have c6 : w6.cell? ⟨B2, C, none⟩ = some vX := (hb6.cell (p := ⟨B2, C, none⟩) (Nat.lt_succ_self _)).trans cX
        have f6 : w6.frozen? ⟨B2, C, none⟩ = false := ((hvo.drew.grownO hg6 hgX).free C hXl)
        refine ⟨fun _ => ⟨c6, (cK.drew.below hb6 (by omega)).range⟩, ?_⟩
        simp only [Act.put, List.setIfInBounds_toArray]
        refine kr_drop 16 rfl (by kernel_rfl) (by kernel_rfl) ?_
        simp only [List.drop_succ_cons, List.drop_zero]
        go_wp2_with fail
        refine onlyN_mk ?_
        have hB2 := BombAt.push (r := ⟨C, A, pAt (keyN (bareM m) v (kat ms k - 1))⟩) hvl hvo.drew (fun x h => (show OwR wd1.drew (B2 + 1) 139 11 vals[x] (wireF G1 x).length (wvs (wireF G1 x)) from hvr x h)) hvg hvd (Nat.lt_succ_self _) hXl hr6 (HVX.out ▸ hg6) (by rw [← HVX.out]; rcases hat6 with h | h; exact .inl h; exact .inr (Nat.le_of_lt h))
        have oK2 : Own (w6.setCell ⟨B2, C, none⟩ (.slice (some ⟨gn, 0, none⟩) ((wireF G1 C).length + 1) cap)) gK (kvm (bareM m) v ms) := (oKb.below hb6 (by omega)).far (show gK ≠ B2 by omega) _
        have hbw2 : Below w.heap.size w (w6.setCell ⟨B2, C, none⟩ (.slice (some ⟨gn, 0, none⟩) ((wireF G1 C).length + 1) cap)) := ((hbw1.drew).trans (hb6.mono (by omega))).setCell (show w.heap.size ≤ B2 by omega) _
        generalize (w6.setCell ⟨B2, C, none⟩ (.slice (some ⟨gn, 0, none⟩) ((wireF G1 C).length + 1) cap)) = wd2 at *
        have lB2 := hB2.lt
        clear hrow hrowd hgX cX cK hbd hbA hr6 hg6 hat6 hz6 hb6 c6 f6 hvl hvo hvr hvg hvd hbld1 hsl1 oKb hS
        go_wp2
        go_roundw
        case rel =>
          refine ⟨k + 1, by omega, by go_num, ?_, oK2, hbw2⟩
          rw [HS.out]
          rw [HG1.out, List.append_assoc] at hB2
          exact hB2
        case measure => simp [intOf]; omega
      · have hk' : k = ms.length := by omega
        rw [hk', List.take_length] at hB
        go_wp2
        go_ret
        exact ⟨B2, rfl, by omega, hB.wires, hb⟩
end Go.Proofs.YtdmnkcmkpjmfaaaGreat

/- What follows from a pair, of the reference. -/
namespace Go.Proofs.YtdmnkcmkpjmfaaaGreat
open Go.RowKit

theorem fol_append (out : List (Nat × Nat)) (G H : List Wire) (x y : Nat) : fol out (G ++ H) x y = fol (fol out G x y) H x y := by simp [fol]
theorem addL_len (out : List (Nat × Nat)) (q : Nat × Nat) : (addL out q).length ≤ out.length + 1 := by unfold addL; split <;> simp
theorem fol_len (x y : Nat) : ∀ (G : List Wire) (out : List (Nat × Nat)), (fol out G x y).length ≤ out.length + G.length
  | [], out => by simp [fol_nil]
  | r :: G, out => by
    rw [fol_cons]
    have h1 := fol_len x y G (if r.f = x then addL out (norm r.t (r.p y)) else out)
    have h2 := addL_len out (norm r.t (r.p y))
    simp only [List.length_cons]
    by_cases hf : r.f = x
    · rw [if_pos hf] at h1 ⊢; omega
    · rw [if_neg hf] at h1 ⊢; omega
theorem fol_lt {x y : Nat} (hy : y < 10) : ∀ {G : List Wire} {out : List (Nat × Nat)}, GOk G → (∀ z ∈ out, z.1 < 10 ∧ z.2 < 10) → ∀ z ∈ fol out G x y, z.1 < 10 ∧ z.2 < 10 := by
  intro G out hG ho z hz
  rcases fol_in x y G out z hz with h | ⟨r, hr, -, rfl⟩
  · exact ho z h
  · have := hG r hr
    exact norm_lt this.2.1 (this.2.2 y hy)
theorem GOk_take {m : Mach} {v : ByteArray} {ms : List Lnk} (h : GOk (menG m v ms)) (k : Nat) : GOk (menG m v (ms.take k)) := by
  intro r hr
  obtain ⟨x, hx, hr⟩ := mem_menG.1 hr
  exact h r (mem_menG.2 ⟨x, List.mem_of_mem_take hx, hr⟩)
/-- A link of which the letter is the first one. -/
theorem fol_one {m : Mach} {v : ByteArray} {l : Lnk} {out : List (Nat × Nat)} {x y : Nat} (h1 : lkA l.p = x) (h2 : lkA l.c ≠ x) : fol out (lnkG m v l) x y = addL out (norm (lkA l.c) (pAt (keyN (bareM m) v (l.k.toNat - 1)) y)) := by
  simp only [lnkG, fol_cons, fol_nil, h1, if_neg h2, if_true]
theorem fol_two {m : Mach} {v : ByteArray} {l : Lnk} {out : List (Nat × Nat)} {x y : Nat} (h1 : lkA l.p ≠ x) (h2 : lkA l.c = x) : fol out (lnkG m v l) x y = addL out (norm (lkA l.p) (pAt (keyN (bareM m) v (l.k.toNat - 1)) y)) := by
  simp only [lnkG, fol_cons, fol_nil, if_neg h1, h2, if_true]
theorem fol_none {m : Mach} {v : ByteArray} {l : Lnk} {out : List (Nat × Nat)} {x y : Nat} (h1 : lkA l.p ≠ x) (h2 : lkA l.c ≠ x) : fol out (lnkG m v l) x y = out := by
  simp only [lnkG, fol_cons, fol_nil, if_neg h1, if_neg h2]
set_option maxRecDepth 100000 in
set_option maxHeartbeats 2000000 in
theorem l13Follow_any (base : Nat) (u : Value) (out : List (Nat × Nat)) (am ap : Option Addr) (cm cp : Nat) (m : Mach) (v : ByteArray) (ms : List Lnk) (x y : Nat) (w : World) (hb : machB m = true) (hm : menuB ms = true) (hy : y < 10)
    (h : OwR w base 9 1 u out.length (sv (out.map pw))) (hbase : base ≤ w.heap.size) (hl : out.length ≤ 500) (ho : ∀ z ∈ out, z.1 < 10 ∧ z.2 < 10) (hrm : Reads w base am (lks ms)) (hrp : Reads w base ap (sv (barS m v ms))) :
    Calls Tryz.prog 122 #[u, .slice am ms.length cm, .slice ap ms.length cp, .int .i64 (x : Int), .int .i64 (y : Int)] w (RowKeep 9 1 base (fol out (menG m v ms) x y).length (sv ((fol out (menG m v ms) x y).map pw)) w) := by
  have hfew := (menuB_asc hm).few
  have hone := (menuB_asc hm).one
  have HG := Lib.hid (menG_ok (m := m) (v := v) hb hm)
  have HRM := Lib.hid (fun (wr : World) (hb : Below base w wr) => hrm.below hb (Nat.le_refl _))
  have HRP := Lib.hid (fun (wr : World) (hb : Below base w wr) => hrp.below hb (Nat.le_refl _))
  have HLK := Lib.hid (menuB_lnk hm)
  have HO := Lib.hid ho
  have HKAT := Lib.hid (menuB_asc hm).pos
  clear hrm hrp ho
  go_enter Tryz.func122, Tryz.ntmps122
  go_wp2_with fail
  go_loopw [0, 11, 12, 13] (fun u' i _ _ wr => ∃ k : Nat, k ≤ ms.length ∧ i = .int .i64 k ∧ OwR wr base 9 1 u' (fol out (menG m v (ms.take k)) x y).length (sv ((fol out (menG m v (ms.take k)) x y).map pw)) ∧ Below base w wr) (fun _ i _ _ _ => ms.length - (intOf i).toNat)
  case atStart => exact ⟨0, Nat.zero_le _, rfl, h, Below.refl _ _⟩
  case round =>
    clear h
    obtain ⟨k, hk, rfl, hown, hbw⟩ := hrel
    by_cases hlt : k < ms.length
    · obtain ⟨b, off, rfl, hbl, hcl⟩ := (HRM.out _ hbw).open_ (by rw [len_lks]; omega)
      have c0 := hcl (k * 3) (by rw [len_lks]; omega)
      have c1 := hcl (k * 3 + 1) (by rw [len_lks]; omega)
      rw [lks_at0 _ _ hlt] at c0
      rw [lks_at1 _ _ hlt, ← Nat.add_assoc] at c1
      clear hcl
      obtain ⟨b2, off2, rfl, hbl2, hcl⟩ := (HRP.out _ hbw).open_ (by rw [length_sv, len_barS]; omega)
      have c2 := hcl k (by rw [length_sv, len_barS]; omega)
      rw [at_barS hlt] at c2
      clear hcl
      have hz := hbw.size
      have hlen := fol_len x y (menG m v (ms.take k)) out
      rw [len_menG, List.length_take] at hlen
      have hol := fol_lt (x := x) hy (GOk_take HG.out k) HO.out
      have HS : Hid (fol out (menG m v (ms.take (k + 1))) x y = fol (fol out (menG m v (ms.take k)) x y) (lnkG m v ms[k]) x y) := Lib.hid (by rw [menG_snoc hlt, fol_append])
      have hok := HLK.out ms[k] (List.getElem_mem hlt)
      have hkat := HKAT.out k hlt
      have hl500 : (fol out (menG m v (ms.take k)) x y).length ≤ 1000 := by omega
      have hbs : base ≤ wr.heap.size := Nat.le_trans hbase hz
      clear hlen
      have HOL := Lib.hid hol
      clear hol
      generalize fol out (menG m v (ms.take k)) x y = cur at *
      generalize ms[k] = l at *
      have hpk := isP_keyN (machB_bare hb) v (kat ms k - 1)
      have e1 := hok.p1
      have e2 := hok.c1
      have g1 := hok.pl
      have g2 := hok.cl
      have hnn := hok.nn
      have hw2 := word_two hok.wd
      have d1 := (lk_letter e1 hw2.1).1
      have d2 := (lk_letter e2 hw2.2).1
      have n1 := fun W => l1Digit_any l.p 0 W (by omega) (by omega) (by omega)
      have n2 := fun W => l1Digit_any l.c 0 W (by omega) (by omega) (by omega)
      simp only [Int.toNat_zero] at n1 n2
      rw [d1] at n1
      rw [d2] at n2
      have n3 := fun W => l2Image_any (wd (keyN (bareM m) v (kat ms k - 1))) y W (permB_wd hpk) hy
      rw [dg_wd hpk.lt] at n3
      have hz3 := hpk.at_lt hy
      have hF1 := fol_one (m := m) (v := v) (l := l) (out := cur) (x := x) (y := y)
      have hF2 := fol_two (m := m) (v := v) (l := l) (out := cur) (x := x) (y := y)
      have hF3 := fol_none (m := m) (v := v) (l := l) (out := cur) (x := x) (y := y)
      rw [show l.k.toNat - 1 = kat ms k - 1 by rw [hkat, Int.toNat_natCast]] at hF1 hF2
      have q1 : (0 : Int) ≤ (k : Int) := by omega
      have q2 : (k : Int) < (ms.length : Int) := by omega
      clear d1 d2 hw2 hkat hok
      obtain ⟨lp, lc, lk⟩ := l
      simp only at *
      generalize wd (keyN (bareM m) v (kat ms k - 1)) = yk at *
      generalize pAt (keyN (bareM m) v (kat ms k - 1)) y = z at *
      generalize hA : lkA lp = A at *
      generalize hC : lkA lc = C at *
      have HF1 := Lib.hid hF1
      have HF2 := Lib.hid hF2
      have HF3 := Lib.hid hF3
      clear hA hC hF1 hF2 hF3
      by_cases hA : A = x
      · have t1 : ((x : Int) == (A : Int)) = true := by rw [beq_iff_eq]; omega
        have t2 : ((x : Int) == (C : Int)) = false := by rw [beq_eq_false_iff_ne]; omega
        have HF := Lib.hid (HF1.out hA (by omega))
        clear hA
        go_wp2_with (first | (go_at_call 90; ((with_reducible refine (n1 _).mono ?_); rintro e w' ⟨rfl, rfl⟩)) | (go_at_call 90; ((with_reducible refine (n2 _).mono ?_); rintro e w' ⟨rfl, rfl⟩)) | (go_at_call 89; ((with_reducible refine (n3 _).mono ?_); rintro e w' ⟨rfl, rfl⟩)))
        refine (l13Pair_any C z _).mono ?_
        rintro e w1 ⟨rfl, hb1⟩
        have hb1' := hb1.mono hbs
        go_wp2_with fail
        refine (l13Add_any base u0 cur (norm C z) w1 (OwR.below hown hb1 (Nat.le_refl _)) (by have := hb1.size; omega) hl500 HOL.out (norm_lt g2 hz3)).mono ?_
        rintro e w2 ⟨u2, rfl, o2, hb2⟩
        rw [← HF.out] at o2
        go_wp2
        go_roundw
        case rel => exact ⟨k + 1, by omega, by go_num, by rw [HS.out]; exact o2, (hbw.trans hb1').trans hb2⟩
        case measure => simp [intOf]; omega
      · have t1 : ((x : Int) == (A : Int)) = false := by rw [beq_eq_false_iff_ne]; omega
        by_cases hC : C = x
        · have t2 : ((x : Int) == (C : Int)) = true := by rw [beq_iff_eq]; omega
          have HF := Lib.hid (HF2.out (by omega) hC)
          clear hA hC
          go_wp2_with (first | (go_at_call 90; ((with_reducible refine (n1 _).mono ?_); rintro e w' ⟨rfl, rfl⟩)) | (go_at_call 90; ((with_reducible refine (n2 _).mono ?_); rintro e w' ⟨rfl, rfl⟩)) | (go_at_call 89; ((with_reducible refine (n3 _).mono ?_); rintro e w' ⟨rfl, rfl⟩)))
          refine (l13Pair_any A z _).mono ?_
          rintro e w1 ⟨rfl, hb1⟩
          have hb1' := hb1.mono hbs
          go_wp2_with fail
          refine (l13Add_any base u0 cur (norm A z) w1 (OwR.below hown hb1 (Nat.le_refl _)) (by have := hb1.size; omega) hl500 HOL.out (norm_lt g1 hz3)).mono ?_
          rintro e w2 ⟨u2, rfl, o2, hb2⟩
          rw [← HF.out] at o2
          go_wp2
          go_roundw
          case rel => exact ⟨k + 1, by omega, by go_num, by rw [HS.out]; exact o2, (hbw.trans hb1').trans hb2⟩
          case measure => simp [intOf]; omega
        · have t2 : ((x : Int) == (C : Int)) = false := by rw [beq_eq_false_iff_ne]; omega
          have HF := Lib.hid (HF3.out (by omega) (by omega))
          clear hA hC
          go_wp2_with (first | (go_at_call 90; ((with_reducible refine (n1 _).mono ?_); rintro e w' ⟨rfl, rfl⟩)) | (go_at_call 90; ((with_reducible refine (n2 _).mono ?_); rintro e w' ⟨rfl, rfl⟩)) | (go_at_call 89; ((with_reducible refine (n3 _).mono ?_); rintro e w' ⟨rfl, rfl⟩)))
          go_roundw
          case rel => exact ⟨k + 1, by omega, by go_num, by rw [HS.out, HF.out]; exact hown, hbw⟩
          case measure => simp [intOf]; omega
    · have hk' : k = ms.length := by omega
      subst hk'
      rw [List.take_length] at hown
      go_wp2
      go_ret
      exact ⟨_, rfl, hown, hbw⟩
/-- What l13Implied leaves: the list that the search finds. -/
def ImpdP (G : List Wire) (x y : Nat) (w : World) (E : Ending) (w' : World) : Prop := ∃ v out k, E = .returned v ∧ SInv G x y out k ∧ out.length ≤ k ∧ OwR w' w.heap.size 9 1 v out.length (sv (out.map pw)) ∧ Below w.heap.size w w'
set_option maxRecDepth 100000 in
set_option maxHeartbeats 2000000 in
theorem l13Implied_any (am ap : Option Addr) (cm cp : Nat) (m : Mach) (v : ByteArray) (ms : List Lnk) (s : ByteArray) (w : World) (hb : machB m = true) (hm : menuB ms = true) (hs : pairB s = true) (hrm : Reads w w.heap.size am (lks ms)) (hrp : Reads w w.heap.size ap (sv (barS m v ms))) :
    Calls Tryz.prog 71 #[.slice am ms.length cm, .slice ap ms.length cp, .string s] w (ImpdP (menG m v ms) (pAt (dg s) 0) (pAt (dg s) 1) w) := by
  have hs2 := pairB_size hs
  obtain ⟨hx, hy⟩ := pairB_lt hs
  have hG := menG_ok (m := m) (v := v) hb hm
  have HRM := Lib.hid (fun (wr : World) (hb : Below w.heap.size w wr) => hrm.below hb (Nat.le_refl _))
  have HRP := Lib.hid (fun (wr : World) (hb : Below w.heap.size w wr) => hrp.below hb (Nat.le_refl _))
  have n1 := fun W => l1Digit_any s 0 W (by omega) (by omega) (by omega)
  have n2 := fun W => l1Digit_any s 1 W (by omega) (by omega) (by omega)
  have hd := wordB_at (pairB_word hs)
  have e1 : dig (s[(0 : Int).toNat]'(by simp; omega)) = (pAt (dg s) 0 : Int) := by
    have := dg_at (s := s) (i := 0) (by omega)
    have := (hd 0 (by omega)).1
    simp only [Int.toNat_zero]; omega
  have e2 : dig (s[(1 : Int).toNat]'(by simp; omega)) = (pAt (dg s) 1 : Int) := by
    have := dg_at (s := s) (i := 1) (by omega)
    have := (hd 1 (by omega)).1
    simp only [Int.toNat_one]; omega
  rw [e1] at n1
  rw [e2] at n2
  clear e1 e2 hd hrm hrp
  generalize pAt (dg s) 0 = x at *
  generalize pAt (dg s) 1 = y at *
  go_enter Tryz.func71, Tryz.ntmps71
  go_wp2_with (first | (go_at_call 90; ((with_reducible refine (n1 _).mono ?_); rintro e w' ⟨rfl, rfl⟩)) | (go_at_call 90; ((with_reducible refine (n2 _).mono ?_); rintro e w' ⟨rfl, rfl⟩)))
  refine (l13Pair_any x y _).mono ?_
  rintro e w1 ⟨rfl, hb1⟩
  have hr1 := World.ownsRow.mono (World.ownsRow_lit (base := w1.heap.size) (e := 9) (size := 1) w1 #[.string (pw (norm x y))] 1 (by simp) (by unfold maxLen; omega) (by simp)) hb1.size
  have hbA := hb1.alloc hb1.size (.cells #[.string (pw (norm x y))] 9)
  have HST := Lib.hid (SInv.start (G := menG m v ms) (x := x) (y := y))
  have HG := Lib.hid hG
  go_wp2_with fail
  go_loopw [7, 8, 9, 10] (fun u i _ _ wr => ∃ (k : Nat) (out : List (Nat × Nat)), i = .int .i64 k ∧ SInv (menG m v ms) x y out k ∧ k ≤ out.length ∧ OwR wr w.heap.size 9 1 u out.length (sv (out.map pw)) ∧ Below w.heap.size w wr) (fun _ i _ _ _ => 101 - (intOf i).toNat)
  case atStart => exact ⟨0, [norm x y], rfl, HST.out, Nat.zero_le _, hr1, hbA⟩
  case round =>
    clear hr1 hbA hb1 hG
    obtain ⟨k, out, rfl, hinv, hk, hown, hbw⟩ := hrel
    have hfew := hinv.few HG.out hx hy
    have HI := Lib.hid hinv
    have HLT : Hid (∀ q ∈ out, q.1 < 10 ∧ q.2 < 10) := Lib.hid (fun q hq => (hinv.inn q hq).lt HG.out hx hy)
    clear hinv
    obtain ⟨la, lc, rfl, -, hrd, -⟩ := OwR.val hown
    by_cases hlt : k < out.length
    · have HS := Lib.hid (HI.out.step hlt)
      obtain ⟨b, off, rfl, hbl, hcl⟩ := hrd.open_ (by rw [length_sv, List.length_map]; omega)
      have c1 := hcl k (by rw [length_sv, List.length_map]; exact hlt)
      rw [sv_at (by rw [List.length_map]; exact hlt), List.getElem_map] at c1
      clear hcl
      have q1 : (0 : Int) ≤ (k : Int) := by omega
      have q2 : (k : Int) < (out.length : Int) := by omega
      have hq := HLT.out out[k] (List.getElem_mem hlt)
      generalize out[k] = q at *
      obtain ⟨p1, p2⟩ := q
      simp only at hq HS
      have d2 := dg2 hq.1 hq.2
      have hsz : (pw (p1, p2)).size = 2 := by show (wd [p1, p2]).size = 2; rw [size_wd]; rfl
      have hwp : wordB (pw (p1, p2)) = true := pairB_word pairB_wd
      have hd := wordB_at hwp
      have m1 := fun W => l1Digit_any (pw (p1, p2)) 0 W (by omega) (by omega) (by omega)
      have m2 := fun W => l1Digit_any (pw (p1, p2)) 1 W (by omega) (by omega) (by omega)
      have e1 : dig ((pw (p1, p2))[(0 : Int).toNat]'(by simp; omega)) = (p1 : Int) := by
        have h0 := dg_at (s := pw (p1, p2)) (i := 0) (by omega)
        have h1 := (hd 0 (by omega)).1
        rw [show dg (pw (p1, p2)) = [p1, p2] from d2] at h0
        simp only [Int.toNat_zero, pAt, List.getD_cons_zero] at h0 ⊢
        omega
      have e2 : dig ((pw (p1, p2))[(1 : Int).toNat]'(by simp; omega)) = (p2 : Int) := by
        have h0 := dg_at (s := pw (p1, p2)) (i := 1) (by omega)
        have h1 := (hd 1 (by omega)).1
        rw [show dg (pw (p1, p2)) = [p1, p2] from d2] at h0
        simp only [Int.toNat_one, pAt, List.getD_cons_succ, List.getD_cons_zero] at h0 ⊢
        omega
      rw [e1] at m1
      rw [e2] at m2
      clear e1 e2 hd hwp d2
      have hz0 := hbw.size
      go_wp2_with (first | (go_at_call 90; ((with_reducible refine (m1 _).mono ?_); rintro e w' ⟨rfl, rfl⟩)) | (go_at_call 90; ((with_reducible refine (m2 _).mono ?_); rintro e w' ⟨rfl, rfl⟩)))
      refine (l13Follow_any w.heap.size _ out am ap cm cp m v ms p1 p2 wr hb hm hq.2 hown hz0 (by omega) HLT.out (HRM.out _ hbw) (HRP.out _ hbw)).mono ?_
      rintro e w5 ⟨u5, rfl, o5, hb5⟩
      have hbw5 := hbw.trans hb5
      have hl1 := fol_len p1 p2 (menG m v ms) out
      rw [len_menG] at hl1
      have hgm := (menuB_asc hm).few
      have hlt1 := Lib.hid (fol_lt (x := p1) hq.2 HG.out HLT.out)
      have hpre : ∃ t, fol (fol out (menG m v ms) p1 p2) (menG m v ms) p2 p1 = out ++ t := by
        obtain ⟨t1, h1⟩ := fol_pre p1 p2 (menG m v ms) out
        obtain ⟨t2, h2⟩ := fol_pre p2 p1 (menG m v ms) (fol out (menG m v ms) p1 p2)
        exact ⟨t1 ++ t2, by rw [h2, h1, List.append_assoc]⟩
      have hle : k + 1 ≤ (fol (fol out (menG m v ms) p1 p2) (menG m v ms) p2 p1).length := by
        obtain ⟨t, ht⟩ := hpre
        rw [ht, List.length_append]; omega
      clear hown hb5 hpre
      go_wp2_with fail
      refine (l13Follow_any w.heap.size u5 (fol out (menG m v ms) p1 p2) am ap cm cp m v ms p2 p1 w5 hb hm hq.1 o5 hbw5.size (by omega) hlt1.out (HRM.out _ hbw5) (HRP.out _ hbw5)).mono ?_
      rintro e w6 ⟨u6, rfl, o6, hb6⟩
      go_wp2_with fail
      go_roundw
      case rel => exact ⟨k + 1, _, by go_num, HS.out, hle, o6, hbw5.trans hb6⟩
      case measure => simp [intOf]; omega
    · have hle : out.length ≤ k := by omega
      go_wp2
      go_ret
      exact ⟨_, out, k, rfl, HI.out, hle, hown, hbw⟩
end Go.Proofs.YtdmnkcmkpjmfaaaGreat

/- Sets of pairs of letters: a row of bits a letter. -/
namespace Go.Proofs.YtdmnkcmkpjmfaaaGreat
open Go.RowKit

/-- The cells of a set of pairs. -/
def psv (R : Nat → Nat → Bool) : List Value := (List.range 10).map fun a => .int .u64 ((rowN (R a) 10 : Nat) : Int)
theorem len_psv (R : Nat → Nat → Bool) : (psv R).length = 10 := by simp [psv]
theorem psv_at (R : Nat → Nat → Bool) {a : Nat} (ha : a < 10) : (psv R)[a]? = some (.int .u64 ((rowN (R a) 10 : Nat) : Int)) := by
  simp only [psv, List.getElem?_map]
  rw [List.getElem?_range ha]; rfl
theorem rowN_congr {P Q : Nat → Bool} (h : ∀ b, b < 10 → P b = Q b) : rowN P 10 = rowN Q 10 := by
  apply Nat.eq_of_testBit_eq
  intro i
  rw [rowN_test, rowN_test]
  by_cases hi : i < 10
  · rw [h i hi]
  · simp [hi]
theorem psv_congr {R Q : Nat → Nat → Bool} (h : ∀ a b, a < 10 → b < 10 → R a b = Q a b) : psv R = psv Q := by
  unfold psv
  refine List.map_congr_left fun a ha => ?_
  have ha' : a < 10 := by simpa using ha
  rw [rowN_congr (fun b hb => h a b ha' hb)]
theorem rowN_or (P : Nat → Bool) {y : Nat} (hy : y < 10) : rowN P 10 ||| 2 ^ y = rowN (fun b => P b || b == y) 10 := by
  apply Nat.eq_of_testBit_eq
  intro i
  rw [Nat.testBit_or, rowN_test, rowN_test, Nat.testBit_two_pow]
  by_cases hi : i < 10
  · simp only [hi, decide_true, Bool.true_and]
    congr 1
    rw [Bool.eq_iff_iff, decide_eq_true_eq, beq_iff_eq]; exact eq_comm
  · have : ¬ y = i := by omega
    simp [hi, this]
theorem psv_set (R : Nat → Nat → Bool) {x y : Nat} (hy : y < 10) : (psv R).set x (.int .u64 ((rowN (R x) 10 ||| 2 ^ y : Nat) : Int)) = psv (fun a b => R a b || (a == x && b == y)) := by
  refine List.ext_getElem (by simp [len_psv]) fun i h1 h2 => ?_
  have hi : i < 10 := by simpa [len_psv] using h2
  rw [List.getElem_set]
  have e1 : (psv R)[i]'(by simpa [len_psv] using hi) = .int .u64 ((rowN (R i) 10 : Nat) : Int) := by simp [psv]
  have e2 : (psv (fun a b => R a b || (a == x && b == y)))[i]'h2 = .int .u64 ((rowN (fun b => R i b || (i == x && b == y)) 10 : Nat) : Int) := by simp [psv]
  rw [e1, e2]
  split
  · rename_i he
    subst he
    rw [rowN_or (R x) hy]
    simp
  · rename_i he
    have : (i == x) = false := by simp; omega
    simp only [this, Bool.false_and, Bool.or_false]

set_option maxHeartbeats 1000000 in
theorem pairAdd_any (g : Nat) (R : Nat → Nat → Bool) (x y : Nat) (w : World) (h : Own w g (psv R)) (hx : x < 10) (hy : y < 10) (hs : ∀ a b, R a b = R b a) :
    Calls Tryz.prog 114 #[.pointer (some ⟨g, 0, none⟩), .int .i64 (x : Int), .int .i64 (y : Int)] w fun e w' => e = .returned (.bool (!R x y)) ∧ Own w' g (psv (addR R x y)) ∧ w.grownBy w' (some g) := by
  have hr := rowN_lt (P := R x) (k := 10) (by omega)
  have c0 := h.at_ (psv_at R hx)
  have hbt := bit_testU (rowN (R x) 10) y (by omega)
  rw [rowN_test, decide_eq_true hy, Bool.true_and] at hbt
  by_cases hR : R x y = true
  · rw [if_pos hR] at hbt
    have hadd := Lib.hid (addR_same hs hR)
    have t0 : (bits .and .u64 (((rowN (R x) 10 : Nat) : Int) / 2 ^ y) 1 == 1) = true := by rw [hbt]; rfl
    clear hbt hs
    go_enter Tryz.func114, Tryz.ntmps114
    go_wp2
    go_ret
    exact ⟨ret_bool (by rw [hR]; rfl), by rw [hadd.out]; exact h, World.grownBy.refl w _⟩
  · rw [if_neg hR] at hbt
    have t0 : (bits .and .u64 (((rowN (R x) 10 : Nat) : Int) / 2 ^ y) 1 == 1) = false := by rw [hbt]; rfl
    clear hbt hs
    have hl := Lib.hid (len_psv R)
    have f0 := h.free x (by rw [hl.out]; exact hx)
    have hp1 := u64_push (rowN (R x) 10) y hr hy
    go_enter Tryz.func114, Tryz.ntmps114
    go_wp2_with fail
    refine wp_region_tail 10 (by kernel_rfl) (by kernel_rfl) ?_
    simp only [List.take_succ_cons, List.take_zero, List.drop_succ_cons, List.drop_zero]
    repeat (first | go_big_quiet_skip | (go_big_quiet_want; go_big_quiet_op; first | go_big_quiet_on | (apply Exists.intro; refine ⟨?_, ?_⟩; (· (first | fail)); go_big_quiet_on)))
    refine wpQuiet_nil ?_
    go_wp2_with fail
    have o1 := (h.set_ (i := x) (by rw [hl.out]; exact hx) (.int .u64 ((rowN (R x) 10 ||| 2 ^ y : Nat) : Int))).drew
    rw [psv_set R hy] at o1
    have hm1 : Moved g w (w.setCell ⟨g, x, none⟩ (.int .u64 ((rowN (R x) 10 ||| 2 ^ y : Nat) : Int))).drew := ((Moved.refl g w).set_ (.inl rfl) _).drew
    generalize (w.setCell ⟨g, x, none⟩ (.int .u64 ((rowN (R x) 10 ||| 2 ^ y : Nat) : Int))).drew = W at *
    have HA : Hid ((fun a b => (fun a b => R a b || (a == x && b == y)) a b || (a == y && b == x)) = addR R x y) := Lib.hid (by funext a b; simp only [addR, Bool.or_assoc])
    clear t0 c0 f0 hp1 hr h hl
    generalize (fun a b => R a b || (a == x && b == y)) = R1 at *
    have c1 := o1.at_ (psv_at R1 hy)
    have hr := rowN_lt (P := R1 y) (k := 10) (by omega)
    have hl := Lib.hid (len_psv R1)
    have f1 := o1.free y (by rw [hl.out]; exact hy)
    have hp1 := u64_push (rowN (R1 y) 10) x hr hx
    refine wp_region_tail 10 (by kernel_rfl) (by kernel_rfl) ?_
    simp only [List.take_succ_cons, List.take_zero, List.drop_succ_cons, List.drop_zero]
    repeat (first | go_big_quiet_skip | (go_big_quiet_want; go_big_quiet_op; first | go_big_quiet_on | (apply Exists.intro; refine ⟨?_, ?_⟩; (· (first | fail)); go_big_quiet_on)))
    refine wpQuiet_nil ?_
    go_wp2_with fail
    have o2 := (o1.set_ (i := y) (by rw [hl.out]; exact hy) (.int .u64 ((rowN (R1 y) 10 ||| 2 ^ x : Nat) : Int))).drew
    rw [psv_set R1 hx, HA.out] at o2
    go_ret
    refine ⟨ret_bool (by simpa using hR), o2, (hm1.set_ (.inl rfl) _).drew⟩
end Go.Proofs.YtdmnkcmkpjmfaaaGreat
