/- Several of my texts in one: Round2, Strs, KeyPerms, PushG, DayP. -/
import Derived.Test.YtnnblmibonnpcaaGreatM7
import Derived.OrdersHeld
import Derived.Test.YtnnblmibonnpcaaGreatM1
import Derived.Test.YtnnblmibonnpcaaGreatM3
import Derived.Test.YtnnblmibonnpcaaGreatM6
/- A region that draws its order, one of whose loads reads the very cell that its last store hits: the load is taken first. -/
namespace Go.Proofs.YtnnblmibonnpcaaGreat
open Go.RowKit
section
variable {P : Program} {ops : Array Oper} {Q : Exit → Act → World → Prop} {md : Region.Mode} {S : World → Prop} {kp : Nat → Bool}

/-- Whatever order is picked, and S holds behind each operation that kp names. -/
def wpAnyK (P : Program) (md : Region.Mode) (ops : Array Oper) (Q : Exit → Act → World → Prop) (S : World → Prop) (kp : Nat → Bool) : Nat → Array Bool → Act → World → Prop
  | 0, listed, a, w => Region.ready md ops listed = [] ∧ Q .normal a w
  | fuel + 1, listed, a, w =>
    (Region.ready md ops listed = [] → Q .normal a w) ∧
    ∀ i ∈ Region.ready md ops listed, wpOp P ops Q i (fun a' w' => (kp i = true → S w') ∧ wpAnyK P md ops Q S kp fuel (listed.setIfInBounds i true) a' w') a w
theorem wpAny_of_K : ∀ (fuel : Nat) (listed : Array Bool) (a : Act) (w : World), wpAnyK P md ops Q S kp fuel listed a w → wpAny P md ops Q fuel listed a w
  | 0, _, _, _, h => h
  | fuel + 1, _, _, _, h => ⟨h.1, fun i hi => wpOp_mono (fun a' w' h' => wpAny_of_K fuel _ a' w' h'.2) (h.2 i hi)⟩
theorem wpAnyK_of_any (hkp : ∀ i, kp i = false) : ∀ (fuel : Nat) (listed : Array Bool) (a : Act) (w : World), wpAny P md ops Q fuel listed a w → wpAnyK P md ops Q S kp fuel listed a w
  | 0, _, _, _, h => h
  | fuel + 1, _, _, _, h => ⟨h.1, fun i hi => wpOp_mono (fun a' w' h' => ⟨(fun e => by rw [hkp i] at e; cases e), wpAnyK_of_any hkp fuel _ a' w' h'⟩) (h.2 i hi)⟩

theorem wpAnyK_first {i : Nat} {oi : Oper} {v : Value} (hi : ops[i]? = some oi) (hsel : ∀ (j : Nat) (o : Oper) cs b, ops[j]? = some o → o.op ≠ .select cs b)
    (hQ : ∀ c a w, Q (.panic c) (a.put oi.dst v) w → Q (.panic c) a w)
    (hkp : ∀ j oj, ops[j]? = some oj → j ≠ i → kp j = false → ∃ e ∈ oj.after, Region.binds md e = true ∧ e.on = i) :
    ∀ (fuel : Nat) (listed : Array Bool) (a : Act) (w : World),
      (∀ j oj, ops[j]? = some oj → j ≠ i → listed.getD j true = false → (∀ e ∈ oj.after, Region.binds md e = true → e.on ≠ i) → oi.apart ops oj = true) →
      i ∈ Region.ready md ops listed → YieldsIf P ops S oi v a → S w →
      wpAnyK P md ops Q S kp fuel (listed.setIfInBounds i true) (a.put oi.dst v) w → wpAnyK P md ops Q S kp (fuel + 1) listed a w := by
  intro fuel
  induction fuel with
  | zero =>
    intro listed a w _ hr hy hS H
    refine ⟨fun h => (by rw [h] at hr; cases hr), fun j hj => ?_⟩
    by_cases hji : j = i
    · subst hji; exact hy.wpOp hi hS ⟨fun _ => hS, H⟩
    · have := ready_mono hj hji
      rw [H.1] at this
      cases this
  | succ fuel ih =>
    intro listed a w hfree hr hy hS H
    refine ⟨fun h => (by rw [h] at hr; cases hr), fun j hj => ?_⟩
    by_cases hji : j = i
    · subst hji; exact hy.wpOp hi hS ⟨fun _ => hS, H⟩
    · have h1 := H.2 j (ready_mono hj hji)
      obtain ⟨hjun, oj, hoj, hall⟩ := mem_ready.1 hj
      have hnot : ∀ e ∈ oj.after, Region.binds md e = true → e.on ≠ i := fun e he hb heq => by
        have h1 := hall e he hb
        have h0 := (mem_ready.1 hr).1
        rw [heq] at h1
        rcases Nat.lt_or_ge i listed.size with h' | h'
        · simp [h'] at h0 h1; rw [h0] at h1; cases h1
        · simp [Array.getElem?_eq_none h'] at h1
      have hkj : kp j = true := by
        cases hk : kp j with
        | true => rfl
        | false => obtain ⟨e, he, hb, heq⟩ := hkp j oj hoj hji hk; exact absurd heq (hnot e he hb)
      have h2 := wpOp_putIf hoj (hfree j oj hoj hji hjun hnot) (fun cs b => hsel i oi cs b hi) (fun cs b => hsel j oj cs b hoj) hQ hy h1
      have hfree' : ∀ k ok, ops[k]? = some ok → k ≠ i → (listed.setIfInBounds j true).getD k true = false →
          (∀ e ∈ ok.after, Region.binds md e = true → e.on ≠ i) → oi.apart ops ok = true := fun k ok hk hki hun hno => by
        refine hfree k ok hk hki ?_ hno
        by_cases hjk : j = k
        · subst hjk; exact hjun
        · rw [getD_set_ne true hjk] at hun; exact hun
      refine wpOp_mono (fun a' w' h3 => ⟨h3.2.1, ih (listed.setIfInBounds j true) a' w' hfree' (ready_mono hr (Ne.symm hji)) h3.1 (h3.2.1 hkj) ?_⟩) h2
      rw [Array.setIfInBounds_comm _ _ hji]
      exact h3.2.2
/-- Which operations need not keep S: those that wait for number i. -/
def kpB (md : Region.Mode) (ops : Array Oper) (kp : Nat → Bool) (i : Nat) : Bool :=
  (List.range ops.size).all fun j => j == i || kp j || (match ops[j]? with | some o => o.after.any fun e => Region.binds md e && e.on == i | none => true)
theorem kpB_spec {i : Nat} (h : kpB md ops kp i = true) : ∀ j oj, ops[j]? = some oj → j ≠ i → kp j = false → ∃ e ∈ oj.after, Region.binds md e = true ∧ e.on = i := by
  intro j oj hj hji hk
  have hlt : j < ops.size := (Array.getElem?_eq_some_iff.1 hj).1
  have := List.all_eq_true.1 h j (by simpa using hlt)
  simp only [hj, hk, Bool.or_false, Bool.or_eq_true, beq_iff_eq, hji, false_or] at this
  obtain ⟨k, hk, h0⟩ := Array.any_eq_true.1 this
  simp only [Bool.and_eq_true, beq_iff_eq] at h0
  exact ⟨_, Array.getElem_mem hk, h0.1, h0.2⟩
theorem kr_take (i d : Nat) {oi : Oper} {v : Value} {fuel : Nat} {listed : Array Bool} {a : Act} {w : World} (hi : ops[i]? = some oi) (hs : Region.noSelect ops = true) (hf : Region.free md ops listed i = true) (hr : (Region.ready md ops listed).contains i = true)
    (hk : kpB md ops kp i = true) (hQ : ∀ c a w, Q (.panic c) (a.put oi.dst v) w → Q (.panic c) a w) (hd : oi.dst = some d) (hS : S w) (hy : YieldsIf P ops S oi v a)
    (h : wpAnyK P md ops Q S kp fuel (listed.setIfInBounds i true) (a.put (some d) v) w) : wpAnyK P md ops Q S kp (fuel + 1) listed a w :=
  wpAnyK_first hi (Region.noSelect_spec hs) hQ (kpB_spec hk) fuel listed a w (Region.free_spec hi hf) (by simpa using hr) hy hS (by rw [hd]; exact h)
/-- The one operation that may come up. -/
theorem kr_one (i : Nat) {o : Oper} {fuel : Nat} {listed : Array Bool} {a : Act} {w : World} (hr : Region.ready md ops listed = [i]) (hi : ops[i]? = some o) (hw : Region.wanted o (yielded ops a.tmps) = true)
    (h : o.wp P a w (fun a' w' => (kp i = true → S w') ∧ wpAnyK P md ops Q S kp fuel (listed.setIfInBounds i true) a' w') Q) : wpAnyK P md ops Q S kp (fuel + 1) listed a w := by
  refine ⟨fun h0 => (by rw [hr] at h0; cases h0), fun j hj => ?_⟩
  rw [hr] at hj
  have : j = i := by simpa using hj
  subst this
  unfold wpOp
  simp only [hi, hw, if_true]
  exact .inl h
/-- The rest comes in one forced order, and none of it need keep S. -/
theorem kr_rest {fuel : Nat} {listed : Array Bool} {a : Act} {w : World} (l : List Oper) (k : Nat) (hl : ∀ j, l[j]? = ops[k + j]?) (hf : fuel = l.length) (hB : Region.seqB md ops l.length k listed = true) (hkp : (List.range l.length).all (fun j => !kp (k + j)) = true)
    (h : wpList P ops Q l a w) : wpAnyK P md ops Q S kp fuel listed a w := by
  subst hf
  have aux : ∀ (l : List Oper) (k : Nat) (listed : Array Bool) (a : Act) (w : World), (∀ j, l[j]? = ops[k + j]?) → Region.seqB md ops l.length k listed = true → (∀ j, j < l.length → kp (k + j) = false) → wpList P ops Q l a w → wpAnyK P md ops Q S kp l.length listed a w := by
    intro l
    induction l with
    | nil => intro k listed a w _ hB _ h; exact ⟨by simpa [Region.seqB] using hB, h⟩
    | cons o l ih =>
      intro k listed a w hl hB hkp h
      have h0 : ops[k]? = some o := by simpa using (hl 0).symm
      simp only [List.length_cons, Region.seqB, Bool.and_eq_true, decide_eq_true_eq] at hB
      refine ⟨fun h1 => (by rw [hB.1] at h1; cases h1), fun i hi => ?_⟩
      rw [hB.1] at hi
      have hik : i = k := by simpa using hi
      subst hik
      have hk0 : kp i = false := by simpa using hkp 0 (by simp)
      have hw : wpOp P ops Q i (wpList P ops Q l) a w := by unfold wpOp; simp only [h0]; exact h
      exact wpOp_mono (fun a' w' h' => ⟨(fun e => by rw [hk0] at e; cases e), ih (i + 1) _ a' w' (fun j => by have := hl (j + 1); simpa [Nat.add_assoc, Nat.add_comm 1 j] using this) hB.2 (fun j hj => by have := hkp (j + 1) (by simp; omega); simpa [Nat.add_assoc, Nat.add_comm 1 j] using this) h'⟩) hw
  exact aux l k listed a w hl hB (fun j hj => by have := List.all_eq_true.1 hkp j (by simpa using hj); simpa using this) h
theorem kr_drop {l : List Oper} {fuel : Nat} {listed : Array Bool} {a : Act} {w : World} (k : Nat) (hf : fuel = l.length - k) (hB : Region.seqB md l.toArray (l.length - k) k listed = true) (hkp : (List.range (l.length - k)).all (fun j => !kp (k + j)) = true)
    (h : wpList P l.toArray Q (l.drop k) a w) : wpAnyK P md l.toArray Q S kp fuel listed a w :=
  kr_rest (l.drop k) k (fun j => by simp [List.getElem?_drop]) (by simpa using hf) (by simpa using hB) (by simpa using hkp) h
theorem kr_call (i d : Nat) {o : Oper} {f : FuncId} {args : Array Value} {v : Value} {T : World → Prop} {fuel : Nat} {listed : Array Bool} {a : Act} {w : World} (hr : Region.ready md ops listed = [i]) (hi : ops[i]? = some o) (hw : Region.wanted o (yielded ops a.tmps) = true)
    (hd : o.dst = some d) (he : ∀ w, (execOp a.eval o).run P w = .ok (.enter f args) w) (hc : Calls P f args w fun e w' => e = .returned v ∧ T w')
    (h : ∀ w', T w' → S w' ∧ wpAnyK P md ops Q S kp fuel (listed.setIfInBounds i true) (a.put (some d) v) w') : wpAnyK P md ops Q S kp (fuel + 1) listed a w := by
  refine kr_one i hr hi hw ?_
  simp only [Oper.wp, he, Oper.upon]
  refine hc.mono ?_
  rintro e w' ⟨rfl, hT⟩
  rw [hd]
  exact ⟨fun _ => (h w' hT).1, (h w' hT).2⟩
theorem kr_value (i d : Nat) {o : Oper} {v : Value} {fuel : Nat} {listed : Array Bool} {a : Act} {w w' : World} (hr : Region.ready md ops listed = [i]) (hi : ops[i]? = some o) (hw : Region.wanted o (yielded ops a.tmps) = true)
    (hd : o.dst = some d) (he : (execOp a.eval o).run P w = .ok (.value v) w') (h : S w' ∧ wpAnyK P md ops Q S kp fuel (listed.setIfInBounds i true) (a.put (some d) v) w') : wpAnyK P md ops Q S kp (fuel + 1) listed a w := by
  refine kr_one i hr hi hw ?_
  simp only [Oper.wp, he, Oper.upon]
  rw [hd]
  exact ⟨fun _ => h.1, h.2⟩
theorem kr_load (i d : Nat) (ty : TypeId) {o : Oper} {x : Operand} {g off : Nat} {cs : List Value} {ds : TypeDesc} {fuel : Nat} {listed : Array Bool} {a : Act} {w : World} (hr : Region.ready md ops listed = [i]) (hi : ops[i]? = some o) (hw : Region.wanted o (yielded ops a.tmps) = true)
    (hd : o.dst = some d) (ho : o.op = .load ty x) (hx : a.eval x = .pointer (some ⟨g, off, none⟩)) (hc : Cells w g off cs) (hz : (P.info? ty).map (·.size) = some cs.length) (hu : P.underlying ty = some ds) (hg : aggD ds = true)
    (h : S w ∧ wpAnyK P md ops Q S kp fuel (listed.setIfInBounds i true) (a.put (some d) (.agg cs.toArray)) w) : wpAnyK P md ops Q S kp (fuel + 1) listed a w := by
  refine kr_value i d hr hi hw hd (v := .agg cs.toArray) (w' := w) ?_ h
  unfold execOp
  simp only [ho, hx, Instr.loadAt, Instr.sureAddr, Sem.run_bind, Sem.run_pure, Result.andThen_ok, run_loadVar_cells w g off ty cs ds hc hu hg hz]
end
end Go.Proofs.YtnnblmibonnpcaaGreat

/- Contracts of the laws' own functions on lists of strings: their sizes, copies and comparison. -/
namespace Go.Proofs.YtnnblmibonnpcaaGreat
open Go.RowKit

theorem info_str : (Tryz.prog.info? 9).map (fun i => (i.zero, i.size, i.bytes)) = some (some (.string ⟨#[]⟩), 1, 16) := by kernel_rfl



end Go.Proofs.YtnnblmibonnpcaaGreat

/- KeyPerms: the permutations of the next keys. -/
namespace Go.Proofs.YtnnblmibonnpcaaGreat
open Go.RowKit
attribute [local go_sem] Oper.semAt_some

/-- The words of the first keys. -/
def keyS (m : Mach) (v : ByteArray) (n : Nat) : List ByteArray := (List.range n).map fun k => wd (keyN m v k)
theorem len_keyS (m : Mach) (v : ByteArray) (n : Nat) : (keyS m v n).length = n := by simp [keyS]
theorem keyS_take {m : Mach} {v : ByteArray} {n k : Nat} (h : k < n) : (keyS m v n).take (k + 1) = (keyS m v n).take k ++ [wd (keyN m v k)] := by
  rw [List.take_succ_eq_append_getElem (by rw [len_keyS]; exact h)]; simp [keyS]
/-- What KeyPerms answers. -/
def keyT (m : Mach) (v : ByteArray) (n : Int) : List ByteArray := if setB m v = true ∧ 0 ≤ n ∧ n ≤ 60 then keyS m v n.toNat else []
theorem keyT_no {m : Mach} {v : ByteArray} {n : Int} (h : ¬ (setB m v = true ∧ 0 ≤ n ∧ n ≤ 60)) : keyT m v n = [] := by simp only [keyT, if_neg h]
theorem keyT_yes {m : Mach} {v : ByteArray} {n : Nat} (h : setB m v = true) (hn : n ≤ 60) : keyT m v (n : Int) = keyS m v n := by
  have : setB m v = true ∧ (0 : Int) ≤ (n : Int) ∧ (n : Int) ≤ 60 := ⟨h, by omega, by omega⟩
  simp only [keyT, if_pos this, Int.toNat_natCast]
theorem row_nil {w w' : World} (hb : Below w.heap.size w w') : RowPost 9 1 (0 : Nat) [] w (.returned (.slice none 0 0)) w' := ⟨_, rfl, World.ownsRow_nil _ _ _ _, hb⟩

set_option maxRecDepth 100000 in
set_option maxHeartbeats 1000000 in
theorem implKeyPerms_any (a : Option Addr) (n c : Nat) (m : Mach) (v : ByteArray) (N : Int) (w : World) (h : MachAt w w.heap.size a n m) (hv : v.size ≤ 4294967296) :
    Calls Tryz.prog 11 #[.agg #[.slice a n c, .string m.wheels.refl, .string m.rings, .string m.plugs], .string v, .int .i64 N] w (RowPost 9 1 (keyT m v N).length (sv (keyT m v N)) w) := by
  have o0 := (Own.new w [.slice a n c, .string m.wheels.refl, .string m.rings, .string m.plugs] 27).alloc (.cells [.int .i64 N].toArray 3)
  have o1 := Own.new (w.alloc (.cells [.slice a n c, .string m.wheels.refl, .string m.rings, .string m.plugs].toArray 27)) [.int .i64 N] 3
  have hb0 := ((Below.refl w.heap.size w).alloc (Nat.le_refl _) (.cells [.slice a n c, .string m.wheels.refl, .string m.rings, .string m.plugs].toArray 27)).alloc (by simp) (.cells [.int .i64 N].toArray 3)
  have h' := (h.alloc_ (.cells [.slice a n c, .string m.wheels.refl, .string m.rings, .string m.plugs].toArray 27)).alloc_ (.cells [.int .i64 N].toArray 3)
  rw [World.size_alloc] at o1
  by_cases hyes : setB m v = true ∧ 0 ≤ N ∧ N ≤ 60
  · obtain ⟨hsb, hN0, hN60⟩ := hyes
    obtain ⟨q, rfl⟩ := Int.eq_ofNat_of_zero_le hN0
    have hq60 : q ≤ 60 := by omega
    rw [keyT_yes hsb hq60]
    rcases Nat.eq_zero_or_pos q with hq0 | hq0
    · subst hq0
      have hmk : ∀ W : World, (Instr.makeSlice 30 (.int .i64 0) (.int .i64 0)).run Tryz.prog W = .ok (.slice (some ⟨W.heap.size, 0, none⟩) 0 0) (W.alloc (.cells #[] 9)) :=
        fun W => by have := run_make1 (P := Tryz.prog) Tryz.underlying30 info_str rfl 0 0 (Nat.zero_le _) (by omega) (by omega) W; simpa using this
      go_enter Tryz.func11, Tryz.ntmps11
      go_wp2_with fail
      refine (settingValid_any _ _ _ _ _ _ h' hv).mono ?_
      rintro e w1 ⟨rfl, hb1⟩
      rw [hsb]
      have f1 := (o1.below hb1 o1.lt).at_ (i := 0) rfl
      have hb := bt hb0 hb1
      have hz := hb.size
      have f2 := (((o1.below hb1 o1.lt).alloc (.cells #[] 9)).alloc (.cells [.slice (some ⟨w1.heap.size, 0, none⟩) 0 0].toArray 30)).at_ (i := 0) rfl
      clear o0 o1 hb0 hb1 h'
      go_wp2
      go_ret
      refine ⟨_, rfl, World.ownsRow.alloc (World.ownsRow_made w1 _ 0 hz (by unfold maxLen; omega) (by simp)) _, (hb.alloc hz _).alloc (by simp; omega) _⟩
    · have hmk : ∀ W : World, (Instr.makeSlice 30 (.int .i64 0) (.int .i64 (q : Int))).run Tryz.prog W = .ok (.slice (some ⟨W.heap.size, 0, none⟩) 0 q) (W.alloc (.cells (Array.replicate q (Value.string ⟨#[]⟩)) 9)) :=
        fun W => by have := run_make1 (P := Tryz.prog) Tryz.underlying30 info_str rfl 0 q (Nat.zero_le _) (by omega) (by omega) W; simpa using this
      refine (callsIn_wide (n := 3)).1 ?_
      refine callsIn_of_wp_marks Tryz.func11 rfl trivial ?_ rfl
      simp only [Tryz.ntmps11, List.size_toArray, List.length_cons, List.length_nil, Nat.reduceAdd, Nat.reduceSub, Array.replicate_succ, Array.replicate_zero, List.push_toArray, List.append_toArray, List.nil_append, List.cons_append]
      gi_wp2_with fail
      refine ⟨trivial, (calls_in (ro := none) (settingValid_any _ _ _ _ _ _ h' hv)).mono ?_⟩
      rintro e w1 ⟨rfl, hb1⟩
      rw [hsb]
      have p0 := o0.below hb1 o0.lt
      have p1 := o1.below hb1 o1.lt
      have hM1 := (h'.below hb1 (Nat.le_refl _)).more hb1.size
      have hb := bt hb0 hb1
      have hz := hb.size
      clear o0 o1 hb0 hb1 h'
      have f1 := p1.at_ (i := 0) rfl
      have p02 := (p0.alloc (.cells (Array.replicate q (Value.string ⟨#[]⟩)) 9)).alloc (.cells [.slice (some ⟨w1.heap.size, 0, none⟩) 0 q].toArray 30)
      have f2 := p02.at_ (i := 0) rfl
      have f3 := p02.at_ (i := 1) rfl
      have f4 := p02.at_ (i := 2) rfl
      have f5 := p02.at_ (i := 3) rfl
      have t0 : ((q : Int) == 0) = false := by rw [beq_eq_false_iff_ne]; omega
      have t1 : decide ((q : Int) < 0) = false := decide_eq_false (by omega)
      have t2 : decide (60 < (q : Int)) = false := decide_eq_false (by omega)
      have z1 := p1.lt
      have r0 := World.ownsRow.alloc (World.ownsRow_made (base := w.heap.size) (e := 9) (size := 1) w1 (Array.replicate q (Value.string ⟨#[]⟩)) q hz (by unfold maxLen; omega) (by simp)) (.cells [.slice (some ⟨w1.heap.size, 0, none⟩) 0 q].toArray 30)
      have l0 := Own.new (w1.alloc (.cells (Array.replicate q (Value.string ⟨#[]⟩)) 9)) [.slice (some ⟨w1.heap.size, 0, none⟩) 0 q] 30
      rw [World.size_alloc] at l0
      have p2 := (p1.alloc (.cells (Array.replicate q (Value.string ⟨#[]⟩)) 9)).alloc (.cells [.slice (some ⟨w1.heap.size, 0, none⟩) 0 q].toArray 30)
      have f6 := p2.at_ (i := 0) rfl
      have hM2 := (hM1.alloc_ (.cells (Array.replicate q (Value.string ⟨#[]⟩)) 9)).alloc_ (.cells [.slice (some ⟨w1.heap.size, 0, none⟩) 0 q].toArray 30)
      have hb2 := (hb.alloc hz (.cells (Array.replicate q (Value.string ⟨#[]⟩)) 9)).alloc (by simp; omega) (.cells [.slice (some ⟨w1.heap.size, 0, none⟩) 0 q].toArray 30)
      gi_wp2_with fail
      generalize hW2 : ((w1.alloc (.cells (Array.replicate q (Value.string ⟨#[]⟩)) 9)).alloc (.cells #[.slice (some ⟨w1.heap.size, 0, none⟩) 0 q] 30)) = W2 at *
      have HS2 : Hid (W2.heap.size = w1.heap.size + 1 + 1) := by
        show _ = _
        rw [← hW2]; simp
      refine ⟨trivial, (calls_in (ro := none) (newAssembly_any _ _ _ _ _ hM2 (setB_mach hsb))).mono ?_⟩
      rintro e w3 ⟨rfl, hA3, hb3⟩
      have l3 := l0.below hb3 l0.lt
      have p3 := p2.below hb3 p2.lt
      have r3 := OwR.below r0 hb3 (Nat.le_refl _)
      have hM3 := (hM2.below hb3 (Nat.le_refl _)).more hb3.size
      have hbw3 := bt hb2 hb3
      have hz3 := hA3.lt
      clear f1 f2 f3 f4 f5 f6 hW2 l0 p2 r0 hM2 hb2 hb3 p02 p0 p1 hb hM1
      gi_wp2_with fail
      refine ⟨trivial, (calls_in (ro := none) (keys_any _ _ _)).mono ?_⟩
      rintro e w4 ⟨rfl, k0, k1, hb4⟩
      have l4 := l3.below hb4 l3.lt
      have p4 := p3.below hb4 p3.lt
      have r4 := OwR.below r3 hb4 (Nat.le_refl _)
      have hM4 := (hM3.below hb4 (Nat.le_refl _)).more hb4.size
      have hA4 := hA3.below hb4 hz3
      have hbw4 := bt hbw3 hb4
      have hz4 := k1.lt
      clear l3 p3 r3 hM3 hA3 hbw3 hb4
      gi_wp2_with fail
      obtain ⟨b, off, rfl, hbl, -⟩ := h.whl.cells (setB_fit hsb).one
      have hlen := len_keyS m v q
      have hs2 := HS2.out
      generalize hG : W2.heap.size + 1 = G at *
      generalize hB3 : w3.heap.size = B3 at *
      have HK : Hid (∀ x, (KA G (some ⟨b, off, none⟩) B3 x ∨ x = B3 + 1) → x < w4.heap.size ∧ x ≠ w1.heap.size ∧ x ≠ w1.heap.size + 1 ∧ x ≠ w.heap.size + 1) := by
        rintro x ((rfl | rfl | ⟨ad, ha, rfl⟩) | rfl)
        · omega
        · omega
        · cases ha; simp only; omega
        · omega
      refine wpIn_rangeFunc_keysT rfl (by omega) (gf := 45) (lb := #[.pointer (some ⟨B3, 0, none⟩), .pointer (some ⟨B3 + 1, 0, none⟩)]) rfl trivial (enters_of Tryz.func45 (by kernel_rfl) rfl)
        (keys_seq _ G B3 (B3 + 1) _ _ c m v w4 hsb hA4 hM4 k0 k1 (by omega) (by omega) (fun ad e => by cases e; simp only; omega))
        (fun x hx => (HK.out x (.inl hx)).1) (by omega) q hq0
        (fun k W => Coll 9 1 w.heap.size w1.heap.size (w1.heap.size + 1) w4.heap.size k (sv ((keyS m v q).take k)) W ∧ Own W (w.heap.size + 1) [.int .i64 (q : Int)] ∧ Below w.heap.size w W ∧ w4.heap.size ≤ W.heap.size)
        (fun co W => co = .exit 0 ∧ Coll 9 1 w.heap.size w1.heap.size (w1.heap.size + 1) w4.heap.size q (sv (keyS m v q)) W ∧ Below w.heap.size w W)
        ?hI ?hIx ?h0
        (AxBox m v w4.heap.size 31 32 9) ?hAx ?assign ?body ?stop
      case hI =>
        rintro k A B r ⟨h1, h2, h3, h4⟩ hg hr
        exact ⟨h1.grown hg (by omega) (by omega) (by omega), h2.grown hg (by simp; omega), h3.grown hg (by omega) (fun x e => by cases e; omega), Nat.le_trans h4 hg.size⟩
      case hIx =>
        rintro co A B r ⟨h0, h1, h3⟩ hg hr
        exact ⟨h0, h1.grown hg (by omega) (by omega) (by omega), h3.grown hg (by have := h3.size; omega) (fun x e => by cases e; omega)⟩
      case h0 => exact ⟨Coll.start l4 r4 (fun x e => by simp only [Value.ownBlock, Option.some.injEq] at e; exact e.symm), p4, hbw4, Nat.le_refl _⟩
      case hAx => exact fun k a' A B h hg => h.grown hg
      case assign =>
        rintro l k W Kn ⟨h1, h2, h3, h4⟩ hk hlt hKn
        have hp := isP_keyN (setB_mach hsb) v k
        have hlp := size_pv10 hp
        have z9 : Own (W.alloc (.cells #[.int .u8 0, .int .u8 0, .int .u8 0, .int .u8 0, .int .u8 0, .int .u8 0, .int .u8 0, .int .u8 0, .int .u8 0, .int .u8 0] 42)) W.heap.size z10 := Own.new W z10 42
        refine wpIn_lit_plain (ro := some l) (by kernel_rfl) ?_
        simp only [List.setIfInBounds_toArray, List.set_cons_succ, List.set_cons_zero]
        go_wp2_with ((with_reducible refine wl_store 42 0 z9 (size_pv hp.len) (pv_one _) (by rw [hlp, len_z10]; omega) ?_ ?_ ?_ ?_); (· rfl); (· rfl); (· rfl); intro w5 q5 b5 s5)
        rw [put_z10 hlp] at q5
        simp only [World.size_alloc] at s5
        have hg : W.grownBy w5 (some W.heap.size) := ⟨b5.os, b5.tape, b5.output, by omega, fun x hx hne => (b5.block x (by simp; omega) hne).trans (Below.heap_alloc W _ x hx)⟩
        have hbel : Below W.heap.size W w5 := ⟨hg.os, hg.tape, hg.output, hg.size, fun x hx => hg.block x hx (by simp; omega)⟩
        refine onlyN_mk ?_
        refine hKn _ _ (hg.block _ hlt (by simp; omega)) (hg.block _ (by omega) (by simp; omega)) (Holds.grown hg (fun x hx => by have := (HK.out x hx).1; omega) (fun x hx => by have := (HK.out x hx).1; simp; omega)) ⟨h1.below hbel, h2.below hbel h2.lt, h3.trans (hbel.mono h3.size), by omega⟩ ⟨W.heap.size, hlt, q5, rfl⟩
      case body =>
        rintro l k a' W ⟨⟨val, hl, hr, hvb⟩, h2, h3, h4⟩ ⟨Bx, hBx, ox, rfl⟩ hk hlt
        have hp := isP_keyN (setB_mach hsb) v k
        have hlp := size_pv10 hp
        have lw := hl.lt
        have lx := ox.lt
        have f0 := hl.at_ (i := 0) rfl
        simp only [List.setIfInBounds_toArray, List.set_cons_succ, List.set_cons_zero]
        gi_wp2
        refine wpIn_draw_plain (ro := some l) (by kernel_rfl) (by kernel_rfl) ?_
        refine wpAny_of_K (S := fun w' => w'.cell? ⟨w1.heap.size + 1, 0, none⟩ = some val) (kp := fun i => decide (i ≤ 3)) _ _ _ _ ?_
        have hS : (fun w' : World => w'.cell? ⟨w1.heap.size + 1, 0, none⟩ = some val) W.drew := f0
        have hzs := size_pv hp.len
        refine kr_take 0 33 (v := val) rfl (by kernel_rfl) (by kernel_rfl) (by kernel_rfl) (by kernel_rfl) (fun _ _ _ h => by cases h.1) rfl hS (Or.inl ⟨by rfl, fun w' hw' => ?_⟩) ?_
        · have hw1 := hw'
          simp [go_sem, hw1]
        simp only [Act.put, List.setIfInBounds_toArray, List.set_cons_succ, List.set_cons_zero]
        refine kr_load 1 34 42 (by kernel_rfl) rfl (by rfl) rfl rfl rfl ox.cells hzs Tryz.underlying42 rfl ⟨hS, ?_⟩
        simp only [Act.put, List.setIfInBounds_toArray, List.set_cons_succ, List.set_cons_zero]
        refine kr_call 2 35 (by kernel_rfl) rfl (by rfl) rfl (fun w => by simp [go_sem]) (string_any (keyN m v k) W.drew hp) (fun wc hbc0 => ?_)
        have hbc : Below W.heap.size W wc := (Below.refl W.heap.size W).drew.trans hbc0
        have hl2 := hl.below hbc lw
        refine ⟨hl2.at_ (i := 0) rfl, ?_⟩
        simp only [Act.put, List.setIfInBounds_toArray, List.set_cons_succ, List.set_cons_zero]
        refine kr_value 3 36 (v := .slice (some ⟨wc.heap.size, 0, none⟩) 1 1) (w' := wc.alloc (.cells #[.string (wd (keyN m v k))] 9)) (by kernel_rfl) rfl (by rfl) rfl (by simp [go_sem]) ⟨(hl2.alloc _).at_ (i := 0) rfl, ?_⟩
        simp only [Act.put, List.setIfInBounds_toArray, List.set_cons_succ, List.set_cons_zero]
        refine kr_drop 4 rfl (by kernel_rfl) (by kernel_rfl) ?_
        simp only [List.drop_succ_cons, List.drop_zero]
        have hr2 := OwR.below hr hbc (Nat.le_refl _)
        have hzc := hbc.size
        go_wp2_with (at_builtin; ((with_reducible refine wl_pushG 30 9 info_str Tryz.underlying30 rfl (by omega) hr2 (by omega) rfl (by simp [Value.oneCell']) (by omega) (by omega) rfl rfl ?_); intro g cap w6 hr6 hg6 hat6 hz6 hk6; have hl6 := hl2.grown hg6 (fun e => by have := hvb _ e.symm; omega); have f6 := hl6.at_ (i := 0) rfl; have e6 := hl6.free 0 (by simp)))
        refine onlyN_mk ?_
        have hC := Coll.push (e := 9) (sz := 1) (base := w.heap.size) (R0 := w1.heap.size) (L := w4.heap.size) (by omega) (by omega) (by omega) hl2 hvb hr6 hg6 hat6
        have hko : KeepsOthers W (w6.setCell ⟨w1.heap.size + 1, 0, none⟩ (.slice (some ⟨g, 0, none⟩) (k + 1) cap)) := ((keeps_below hbc).trans hk6).trans (KeepsOthers.setCell _ _ _)
        have hho : Holds (fun x => KA G (some ⟨b, off, none⟩) B3 x ∨ x = B3 + 1) W (w6.setCell ⟨w1.heap.size + 1, 0, none⟩ (.slice (some ⟨g, 0, none⟩) (k + 1) cap)) := by
          refine (Holds.below hbc (fun x hx => by have := (HK.out x hx).1; omega)).trans ((Holds.grown hg6 (fun x hx => by have := (HK.out x hx).1; omega) (fun x hx e => ?_)).trans (Holds.grown (grown_setCell _ _ _ _) (fun x hx => by have := (HK.out x hx).1; omega) (fun x hx => by have := (HK.out x hx).2.2.1; simp; omega)))
          have h7 := HK.out x hx
          have := hvb x e.symm
          omega
        have hb7 : Below w.heap.size w (w6.setCell ⟨w1.heap.size + 1, 0, none⟩ (.slice (some ⟨g, 0, none⟩) (k + 1) cap)) :=
          ((h3.trans (hbc.mono h3.size)).grown hg6 (by omega) (fun x e => by have := hvb x e; omega)).setCell (by simp; omega) _
        have h27 : Own (w6.setCell ⟨w1.heap.size + 1, 0, none⟩ (.slice (some ⟨g, 0, none⟩) (k + 1) cap)) (w.heap.size + 1) [.int .i64 (q : Int)] :=
          ((h2.below hbc h2.lt).grown hg6 (fun e => by have := hvb _ e.symm; have := h2.lt; omega)).far (by simp; omega) _
        have f8 : (w6.setCell ⟨w1.heap.size + 1, 0, none⟩ (.slice (some ⟨g, 0, none⟩) (k + 1) cap)).cell? ⟨w1.heap.size + 1, 0, none⟩ = some (.slice (some ⟨g, 0, none⟩) (k + 1) cap) := (hl6.set_ (by simp) _).at_ (i := 0) rfl
        have hz8 : w4.heap.size ≤ (w6.setCell ⟨w1.heap.size + 1, 0, none⟩ (.slice (some ⟨g, 0, none⟩) (k + 1) cap)).heap.size := by
          have : (w6.setCell ⟨w1.heap.size + 1, 0, none⟩ (.slice (some ⟨g, 0, none⟩) (k + 1) cap)).heap.size = w6.heap.size := by simp [World.setCell]
          omega
        generalize (w6.setCell ⟨w1.heap.size + 1, 0, none⟩ (.slice (some ⟨g, 0, none⟩) (k + 1) cap)) = w7 at *
        have f9 := h27.at_ (i := 0) rfl
        rw [show sv ((keyS m v q).take k) ++ [Value.string (wd (keyN m v k))] = sv ((keyS m v q).take (k + 1)) by rw [keyS_take hk, sv_append]; rfl] at hC
        by_cases hend : k + 1 = q
        · have te : (((k : Int) + 1 == (q : Int))) = true := by rw [beq_iff_eq]; omega
          have HE : Hid (Coll 9 1 w.heap.size w1.heap.size (w1.heap.size + 1) w4.heap.size q (sv (keyS m v q)) w7) := by
            show Coll _ _ _ _ _ _ _ _ _
            rw [List.take_of_length_le (by rw [len_keyS]; omega)] at hC
            rwa [hend] at hC
          clear hend hC
          gi_wp2
          exact ⟨hko, rfl, HE.out, hb7⟩
        · have te : (((k : Int) + 1 == (q : Int))) = false := by rw [beq_eq_false_iff_ne]; omega
          have hend' : k + 1 < q := by omega
          clear hend
          gi_wp2
          exact ⟨hko, hho, hend', hC, h27, hb7, hz8⟩
      case stop =>
        rintro co W ⟨rfl, ⟨val, hl, hr, -⟩, hB⟩ hKd
        have f0 := hl.at_ (i := 0) rfl
        gi_wp2
        refine ⟨by simp, .inl ⟨_, _, rfl, run_takeDeferred hKd, ?_⟩⟩
        refine ⟨_, results_tmp rfl _ _ _, val, rfl, ?_, hB.trans (belowK_b (w := w4) hbw4.size W _ _ _ (Nat.le_refl _) hKd rfl rfl)⟩
        rw [hlen]
        exact ownsRow_putObj hr _ hKd rfl
  · have hk := keyT_no hyes
    rw [hk]
    cases hsb : setB m v with
    | false =>
      go_enter Tryz.func11, Tryz.ntmps11
      go_wp2_with fail
      refine (settingValid_any _ _ _ _ _ _ h' hv).mono ?_
      rintro e w1 ⟨rfl, hb1⟩
      rw [hsb]
      have hb := bt hb0 hb1
      clear o0 o1 hb0 hb1 h'
      go_wp2
      go_ret
      exact row_nil hb
    | true =>
      by_cases h0 : N < 0
      · go_enter Tryz.func11, Tryz.ntmps11
        go_wp2_with fail
        refine (settingValid_any _ _ _ _ _ _ h' hv).mono ?_
        rintro e w1 ⟨rfl, hb1⟩
        rw [hsb]
        have f1 := (o1.below hb1 o1.lt).at_ (i := 0) rfl
        have hb := bt hb0 hb1
        clear o0 o1 hb0 hb1 h'
        go_wp2
        go_ret
        exact row_nil hb
      · have h60 : 60 < N := by
          rcases Int.lt_or_le 60 N with h | h
          · exact h
          · exact absurd ⟨hsb, by omega, h⟩ hyes
        go_enter Tryz.func11, Tryz.ntmps11
        go_wp2_with fail
        refine (settingValid_any _ _ _ _ _ _ h' hv).mono ?_
        rintro e w1 ⟨rfl, hb1⟩
        rw [hsb]
        have f1 := (o1.below hb1 o1.lt).at_ (i := 0) rfl
        have hb := bt hb0 hb1
        clear o0 o1 hb0 hb1 h'
        go_wp2
        go_ret
        exact row_nil hb
end Go.Proofs.YtnnblmibonnpcaaGreat

/- 'x = append(x, u)' at a step of a region that draws, and where the new row lies. -/
namespace Go.Proofs.YtnnblmibonnpcaaGreat
open Go.RowKit
section
variable {P : Program} {ops : Array Oper} {o : Oper} {a : Act} {w0 : World} {K : Act → World → Prop} {Q : Exit → Act → World → Prop} {E : Prop}
theorem st_pushG (t e : TypeId) {s x : Operand} {z : Value} {sz bytes : Nat} (hinfo : (P.info? e).map (fun i => (i.zero, i.size, i.bytes)) = some (some z, sz, bytes)) (ht : P.underlying t = some (.slice e)) (hzs : z.cells.size = sz) (hsz : 0 < sz)
    {base n : Nat} {v : Value} {xs us : List Value} (hgd : o.guard = none) (ho : o.op = .call { callee := .builtin .append, args := #[s, x], argTypes := #[t, t] }) (hown : OwR w0 base e sz v n xs) (hb : base ≤ w0.heap.size) (hus : us.length = sz) (h1 : ∀ u ∈ us, u.oneCell' = true) (hn : n ≤ 1048576) (hby : bytes ≤ 1000)
    (hs : a.eval s = v) (hx : a.eval x = .slice (some ⟨w0.heap.size, 0, none⟩) 1 1)
    (h : ∀ g cap w', OwR w' base e sz (.slice (some ⟨g, 0, none⟩) (n + 1) cap) (n + 1) (xs ++ us) → w0.grownBy w' v.ownBlock → (v.ownBlock = some g ∨ w0.heap.size < g) → w0.heap.size < w'.heap.size → Below base w0 w' → K (a.put o.dst (.slice (some ⟨g, 0, none⟩) (n + 1) cap)) w') :
    if Region.wanted o (yielded ops a.tmps) = true then Oper.wp P o a (w0.alloc (.cells us.toArray e)) K Q else E := by
  obtain ⟨i0, hi0, hz0, hz1, hz2⟩ := info_parts hinfo
  refine step_append_lies _ hgd s x t ho base e i0 z sz bytes ht hi0 hz0 hz1 hz2 hzs hsz v n xs hs (World.ownsRow.alloc hown _) ⟨w0.heap.size, 0, none⟩ 1 1 us hx (by omega) ?_ h1 (by omega) (by unfold maxLen; omega) ?_ (by simp; omega) (w0.heap.size + 1) (by simp) ?_
  · intro j u hu
    rw [add_none, Nat.zero_add, World.cell?_alloc_mark]; simpa using hu
  · have : (n + 1) * bytes ≤ (1048576 + 1) * 1000 := Nat.mul_le_mul (by omega) hby
    omega
  · intro g cap w' ho hg hat hlt
    have hs' := hg.size
    simp only [World.size_alloc] at hs'
    refine h g cap w' ho ?_ ?_ (by omega) ?_
    · exact ⟨hg.os, hg.tape, hg.output, by omega, fun k hk hne => (hg.block k (by simp; omega) hne).trans (Below.heap_alloc w0 _ k hk)⟩
    · rcases hat with h1 | h1
      · exact .inl h1
      · exact .inr (by omega)
    · refine ((Below.refl base w0).alloc hb _).grown hg (by simp; omega) (fun k hk => ?_)
      exact (World.ownsRow.lt hown k hk).1
end
/-- What is owned elsewhere stays when a row grows. -/
theorem Own.grownO {w w' : World} {g : Nat} {cs : List Value} {b : Option Nat} (h : Own w g cs) (hg : w.grownBy w' b) (hr : b ≠ some g) : Own w' g cs :=
  h.keep (Nat.lt_of_lt_of_le h.lt hg.size) (hg.block g h.lt (fun e => hr e.symm))
end Go.Proofs.YtnnblmibonnpcaaGreat

/- The day products of the program. -/
namespace Go.Proofs.YtnnblmibonnpcaaGreat
open Go.RowKit
attribute [local go_sem] Oper.semAt_some

/-- The cells of the first keys, in a row. -/
def kv (m : Mach) (v : ByteArray) (n : Nat) : List Value := ((List.range n).map fun k => pv (keyN m v k)).flatten
theorem kv_zero (m : Mach) (v : ByteArray) : kv m v 0 = [] := rfl
theorem kv_snoc (m : Mach) (v : ByteArray) (n : Nat) : kv m v (n + 1) = kv m v n ++ pv (keyN m v n) := by simp [kv, List.range_succ]
/-- The cells of the first products, in a row. -/
def pvs (m : Mach) (v : ByteArray) (n : Nat) : List Value := ((List.range n).map fun k => pv (prodP m v k)).flatten
theorem pvs_zero (m : Mach) (v : ByteArray) : pvs m v 0 = [] := rfl
theorem pvs_snoc (m : Mach) (v : ByteArray) (n : Nat) : pvs m v (n + 1) = pvs m v n ++ pv (prodP m v n) := by simp [pvs, List.range_succ]
theorem inf_perm : (Tryz.prog.info? 42).map (fun i => (i.zero, i.size, i.bytes)) = some (some (.agg #[.int .u8 0, .int .u8 0, .int .u8 0, .int .u8 0, .int .u8 0, .int .u8 0, .int .u8 0, .int .u8 0, .int .u8 0, .int .u8 0]), 10, 10) := by kernel_rfl

section
variable {P : Program} {Q : Exit → Act → World → Prop} {a : Act} {w : World}
theorem wp_onlyN {c : Code} (h : c.wp P (onlyN Q) a w) : c.wp P Q a w := wp_mono h (fun e a w h => by obtain ⟨rfl, h⟩ := h; exact h)
variable {o : Oper} {w0 : World} {K : Act → World → Prop}
theorem kr_push (t e : TypeId) {s x : Operand} {z : Value} {sz bytes : Nat} (hinfo : (P.info? e).map (fun i => (i.zero, i.size, i.bytes)) = some (some z, sz, bytes)) (ht : P.underlying t = some (.slice e)) (hzs : z.cells.size = sz) (hsz : 0 < sz)
    {base n : Nat} {v : Value} {xs us : List Value} (hgd : o.guard = none) (ho : o.op = .call { callee := .builtin .append, args := #[s, x], argTypes := #[t, t] }) (hown : OwR w0 base e sz v n xs) (hb : base ≤ w0.heap.size) (hus : us.length = sz) (h1 : ∀ u ∈ us, u.oneCell' = true) (hn : n ≤ 1048576) (hby : bytes ≤ 1000)
    (hs : a.eval s = v) (hx : a.eval x = .slice (some ⟨w0.heap.size, 0, none⟩) 1 1)
    (h : ∀ g cap w', OwR w' base e sz (.slice (some ⟨g, 0, none⟩) (n + 1) cap) (n + 1) (xs ++ us) → Below base w0 w' → w0.heap.size < w'.heap.size → K (a.put o.dst (.slice (some ⟨g, 0, none⟩) (n + 1) cap)) w') :
    Oper.wp P o a (w0.alloc (.cells us.toArray e)) K Q := by
  have hst := st_push (ops := #[]) (E := False) (Q := Q) (K := K) t e hinfo ht hzs hsz hgd ho hown hb hus h1 hn hby hs hx h
  split at hst
  · exact hst
  · exact hst.elim
end
theorem flat_at : ∀ (L : List (List Value)) (k : Nat) (_ : ∀ x ∈ L, x.length = 10) (h : k < L.length), (L.flatten.drop (k * 10)).take 10 = L[k]
  | [], _, _, h => absurd h (by simp)
  | x :: L, 0, h1, _ => by
    have hx := h1 x (by simp)
    simp only [List.flatten_cons, Nat.zero_mul, List.drop_zero, List.getElem_cons_zero]
    rw [List.take_append_of_le_length (by omega), List.take_of_length_le (by omega)]
  | x :: L, k + 1, h1, h => by
    have hx := h1 x (by simp)
    have ih := flat_at L k (fun y hy => h1 y (by simp [hy])) (by simpa using h)
    simp only [List.flatten_cons, List.getElem_cons_succ]
    rw [show (k + 1) * 10 = x.length + k * 10 by omega, List.drop_append, List.drop_eq_nil_of_le (by omega), List.nil_append, show x.length + k * 10 - x.length = k * 10 by omega]
    exact ih
theorem kv_cells {m : Mach} {v : ByteArray} {w : World} {g q k : Nat} (hm : machB m = true) (h : Cells w g 0 (kv m v q)) (hk : k < q) : Cells w g (k * 10) (pv (keyN m v k)) := by
  have hL : ∀ x ∈ (List.range q).map (fun k => pv (keyN m v k)), x.length = 10 := by
    intro x hx
    obtain ⟨i, -, rfl⟩ := List.mem_map.1 hx
    rw [length_pv, (isP_keyN hm v i).len]
  have hf := flat_at _ k hL (by simpa using hk)
  have h1 := h.sub (k * 10) 10 (by
    have : (kv m v q).length = q * 10 := by
      unfold kv
      rw [List.length_flatten, List.map_map]
      have : (List.range q).map (List.length ∘ fun k => pv (keyN m v k)) = List.replicate q 10 := by
        rw [List.eq_replicate_iff]
        refine ⟨by simp, fun x hx => ?_⟩
        obtain ⟨y, -, rfl⟩ := List.mem_map.1 hx
        simp [length_pv, (isP_keyN hm v y).len]
      rw [this, List.sum_replicate_nat]
    omega)
  rw [Nat.zero_add] at h1
  unfold kv at h1
  rw [hf] at h1
  simpa using h1
theorem build_pv (cs : List Value) (h : cs.length = 10) : List.foldl (fun (cs : Array Value) (x : Value × Nat) => cs.setIfInBounds x.snd x.fst) #[.int .u8 0, .int .u8 0, .int .u8 0, .int .u8 0, .int .u8 0, .int .u8 0, .int .u8 0, .int .u8 0, .int .u8 0, .int .u8 0] cs.zipIdx = cs.toArray := by
  match cs, h with
  | [_, _, _, _, _, _, _, _, _, _], _ => simp only [List.zipIdx_cons, List.zipIdx_nil, List.foldl_cons, List.foldl_nil, Nat.reduceAdd, List.setIfInBounds_toArray, List.set_cons_zero, List.set_cons_succ]
set_option maxRecDepth 100000 in
set_option maxHeartbeats 2000000 in
theorem dayProducts_any (a : Option Addr) (n c : Nat) (m : Mach) (v : ByteArray) (w : World) (h : MachAt w w.heap.size a n m) (hsb : setB m v = true) :
    Calls Tryz.prog 16 #[.agg #[.slice a n c, .string m.wheels.refl, .string m.rings, .string m.plugs], .string v] w (RowPost 42 10 v.size (pvs m v v.size) w) := by
  have hmb := setB_mach hsb
  have hv3 : v.size ≤ 3 := by rw [setB_len hsb]; exact (machB_fit hmb).three
  have hv1 : 1 ≤ v.size := by rw [setB_len hsb]; exact (machB_fit hmb).one
  have p0 := ((Own.new w [.slice a n c, .string m.wheels.refl, .string m.rings, .string m.plugs] 27).alloc (.cells [.int .i64 (v.size : Int)].toArray 3)).alloc (.cells [.slice none 0 0].toArray 39)
  have p1 := (Own.new (w.alloc (.cells [.slice a n c, .string m.wheels.refl, .string m.rings, .string m.plugs].toArray 27)) [.int .i64 (v.size : Int)] 3).alloc (.cells [.slice none 0 0].toArray 39)
  have l0 := Own.new ((w.alloc (.cells [.slice a n c, .string m.wheels.refl, .string m.rings, .string m.plugs].toArray 27)).alloc (.cells [.int .i64 (v.size : Int)].toArray 3)) [.slice none 0 0] 39
  have hb0 := (((Below.refl w.heap.size w).alloc (Nat.le_refl _) (.cells [.slice a n c, .string m.wheels.refl, .string m.rings, .string m.plugs].toArray 27)).alloc (by simp) (.cells [.int .i64 (v.size : Int)].toArray 3)).alloc (by simp; omega) (.cells [.slice none 0 0].toArray 39)
  have h' := ((h.alloc_ (.cells [.slice a n c, .string m.wheels.refl, .string m.rings, .string m.plugs].toArray 27)).alloc_ (.cells [.int .i64 (v.size : Int)].toArray 3)).alloc_ (.cells [.slice none 0 0].toArray 39)
  rw [World.size_alloc] at p1
  rw [World.size_alloc, World.size_alloc] at l0
  obtain ⟨q, hq⟩ : ∃ q : Nat, q = 2 * v.size := ⟨_, rfl⟩
  have hmul : IntKind.i64.wrap (2 * (v.size : Int)) = (q : Int) := by rw [hq]; rw [IntWalk.i64_in _ (by omega)]; omega
  have HQ := Lib.hid hq
  have hq0 : 0 < q := by omega
  have hq6 : q ≤ 6 := by omega
  clear hq
  refine (callsIn_wide (n := 3)).1 ?_
  refine callsIn_of_wp_marks Tryz.func16 rfl trivial ?_ rfl
  simp only [Tryz.ntmps16, List.size_toArray, List.length_cons, List.length_nil, Nat.reduceAdd, Nat.reduceSub, Array.replicate_succ, Array.replicate_zero, List.push_toArray, List.append_toArray, List.nil_append, List.cons_append]
  have f0 := p0.at_ (i := 0) rfl
  have f1 := p0.at_ (i := 1) rfl
  have f2 := p0.at_ (i := 2) rfl
  have f3 := p0.at_ (i := 3) rfl
  gi_wp2_with fail
  generalize hW2 : ((w.alloc (.cells [.slice a n c, .string m.wheels.refl, .string m.rings, .string m.plugs].toArray 27)).alloc (.cells [.int .i64 (v.size : Int)].toArray 3)).alloc (.cells [.slice none 0 0].toArray 39) = W2 at *
  have HS2 : Hid (W2.heap.size = w.heap.size + 1 + 1 + 1) := by
    show _ = _
    rw [← hW2]; simp
  clear hW2
  refine ⟨trivial, (calls_in (ro := none) (newAssembly_any _ _ _ _ _ h' hmb)).mono ?_⟩
  rintro e w3 ⟨rfl, hA3, hb3⟩
  have l3 := l0.below hb3 l0.lt
  have p3 := p1.below hb3 p1.lt
  have hM3 := (h'.below hb3 (Nat.le_refl _)).more hb3.size
  have hbw3 := bt hb0 hb3
  have hz3 := hA3.lt
  have hz3b := hb3.size
  clear f0 f1 f2 f3 l0 p1 p0 h' hb0 hb3
  gi_wp2_with fail
  refine ⟨trivial, (calls_in (ro := none) (keys_any _ _ _)).mono ?_⟩
  rintro e w4 ⟨rfl, k0, k1, hb4⟩
  have l4 := l3.below hb4 l3.lt
  have p4 := p3.below hb4 p3.lt
  have hM4 := (hM3.below hb4 (Nat.le_refl _)).more hb4.size
  have hA4 := hA3.below hb4 hz3
  have hbw4 := bt hbw3 hb4
  have hz4 := k1.lt
  clear l3 p3 hM3 hA3 hbw3 hb4
  gi_wp2_with fail
  obtain ⟨b, off, rfl, hbl, -⟩ := h.whl.cells (setB_fit hsb).one
  have hs2 := HS2.out
  generalize hG : W2.heap.size + 1 = G at *
  generalize hB3 : w3.heap.size = B3 at *
  generalize hBM : w.heap.size = BM at *
  have HK : Hid (∀ x, (KA G (some ⟨b, off, none⟩) B3 x ∨ x = B3 + 1) → x < w4.heap.size ∧ x ≠ BM + 1 + 1 ∧ x ≠ BM + 1) := by
    rintro x ((rfl | rfl | ⟨ad, ha, rfl⟩) | rfl)
    · omega
    · omega
    · cases ha; simp only; omega
    · omega
  have HKB : Hid (∀ x, (KA G (some ⟨b, off, none⟩) B3 x ∨ x = B3 + 1) → x ≠ BM) := by
    rintro x ((rfl | rfl | ⟨ad, ha, rfl⟩) | rfl)
    · omega
    · omega
    · cases ha; simp only; omega
    · omega
  have r4 : OwR w4 BM 42 10 (.slice none 0 0) 0 (kv m v 0) := World.ownsRow_nil _ _ _ _
  have hbm4 : BM + 1 + 1 < B3 := by omega
  have HBM := Lib.hid hBM
  clear hBM hs2 HS2 hG hB3
  refine wpIn_rangeFunc_keysT rfl (by omega) (gf := 45) (lb := #[.pointer (some ⟨B3, 0, none⟩), .pointer (some ⟨B3 + 1, 0, none⟩)]) rfl trivial (enters_of Tryz.func45 (by kernel_rfl) rfl)
    (keys_seq _ G B3 (B3 + 1) _ _ c m v w4 hsb hA4 hM4 k0 k1 (by omega) (by omega) (fun ad e => by cases e; simp only; omega))
    (fun x hx => (HK.out x (.inl hx)).1) (by omega) q hq0
    (fun k W => Coll 42 10 BM BM (BM + 1 + 1) w4.heap.size k (kv m v k) W ∧ Own W (BM + 1) [.int .i64 (v.size : Int)] ∧ Below BM w W ∧ w4.heap.size ≤ W.heap.size)
    (fun co W => co = .exit 0 ∧ Coll 42 10 BM BM (BM + 1 + 1) w4.heap.size q (kv m v q) W ∧ Own W (BM + 1) [.int .i64 (v.size : Int)] ∧ Below BM w W ∧ w4.heap.size ≤ W.heap.size)
    ?hI ?hIx ?h0
    (AxBox m v w4.heap.size 17 18 9) ?hAx ?assign ?body ?stop
  case hI =>
    rintro k A B r ⟨h1, h2, h3, h4⟩ hg hr
    exact ⟨h1.grown hg (by omega) (by omega) (by omega), h2.grown hg (by simp; omega), h3.grown hg (by omega) (fun x e => by cases e; omega), Nat.le_trans h4 hg.size⟩
  case hIx =>
    rintro co A B r ⟨h0, h1, h2, h3, h4⟩ hg hr
    exact ⟨h0, h1.grown hg (by omega) (by omega) (by omega), h2.grown hg (by simp; omega), h3.grown hg (by omega) (fun x e => by cases e; omega), Nat.le_trans h4 hg.size⟩
  case h0 => exact ⟨Coll.start l4 r4 (fun x e => by simp [Value.ownBlock] at e), p4, hbw4, Nat.le_refl _⟩
  case hAx => exact fun k a' A B h hg => h.grown hg
  case assign =>
    rintro l k W Kn ⟨h1, h2, h3, h4⟩ hk hlt hKn
    have hp := isP_keyN hmb v k
    have hlp := size_pv10 hp
    have z9 : Own (W.alloc (.cells #[.int .u8 0, .int .u8 0, .int .u8 0, .int .u8 0, .int .u8 0, .int .u8 0, .int .u8 0, .int .u8 0, .int .u8 0, .int .u8 0] 42)) W.heap.size z10 := Own.new W z10 42
    refine wpIn_lit_plain (ro := some l) (by kernel_rfl) ?_
    simp only [List.setIfInBounds_toArray, List.set_cons_succ, List.set_cons_zero]
    go_wp2_with ((with_reducible refine wl_store 42 0 z9 (size_pv hp.len) (pv_one _) (by rw [hlp, len_z10]; omega) ?_ ?_ ?_ ?_); (· rfl); (· rfl); (· rfl); intro w5 q5 b5 s5)
    rw [put_z10 hlp] at q5
    simp only [World.size_alloc] at s5
    have hg : W.grownBy w5 (some W.heap.size) := ⟨b5.os, b5.tape, b5.output, by omega, fun x hx hne => (b5.block x (by simp; omega) hne).trans (Below.heap_alloc W _ x hx)⟩
    have hbel : Below W.heap.size W w5 := ⟨hg.os, hg.tape, hg.output, hg.size, fun x hx => hg.block x hx (by simp; omega)⟩
    refine onlyN_mk ?_
    refine hKn _ _ (hg.block _ hlt (by simp; omega)) (hg.block _ (by omega) (by simp; omega)) (Holds.grown hg (fun x hx => by have := (HK.out x hx).1; omega) (fun x hx => by have := (HK.out x hx).1; simp; omega)) ⟨h1.below hbel, h2.below hbel h2.lt, h3.trans (hbel.mono (by have := h3.size; rw [HBM.out] at this; exact this)), by omega⟩ ⟨W.heap.size, hlt, q5, rfl⟩
  case body =>
    rintro l k a' W ⟨⟨val, hl, hr, hvb⟩, h2, h3, h4⟩ ⟨Bx, hBx, ox, rfl⟩ hk hlt
    have hp := isP_keyN hmb v k
    have hlp := size_pv10 hp
    have hzs := size_pv hp.len
    have lw := hl.lt
    have lx := ox.lt
    have f0 := hl.at_ (i := 0) rfl
    have hbm := h3.size
    have hbm2 : BM ≤ W.heap.size := by rw [HBM.out] at hbm; exact hbm
    clear hbm
    simp only [List.setIfInBounds_toArray, List.set_cons_succ, List.set_cons_zero]
    refine wpIn_block ?_
    refine wpIn_seq ?_
    refine wpIn_lit_plain (ro := some l) (by kernel_rfl) ?_
    have hkz : k ≤ 1048576 := by omega
    have hbuild := build_pv (pv (keyN m v k)) hlp
    go_wp2_with (first | ((with_reducible refine wl_load 42 ox.cells hzs Tryz.underlying42 ?_ ?_ ?_ ?_); (· rfl); (· rfl); (· rfl)) | (at_builtin; ((with_reducible refine wl_pushG 39 42 inf_perm Tryz.underlying39 rfl (by omega) hr (by omega) hlp (pv_one _) (by omega) (by omega) rfl rfl ?_); intro g cap w6 hr6 hg6 hat6 hz6 hk6; have hl6 := hl.grown hg6 (fun e => by have := hvb _ e.symm; omega); have f6 := hl6.at_ (i := 0) rfl; have e6 := hl6.free 0 (by simp))))
    refine onlyN_mk ?_
    have hC := Coll.push (e := 42) (sz := 10) (base := BM) (R0 := BM) (L := w4.heap.size) (by omega) (by omega) (by omega) hl hvb hr6 hg6 hat6
    have hko : KeepsOthers W (w6.setCell ⟨BM + 1 + 1, 0, none⟩ (.slice (some ⟨g, 0, none⟩) (k + 1) cap)) := hk6.trans (KeepsOthers.setCell _ _ _)
    have hvb2 : ∀ x, val.ownBlock = some x → w4.heap.size + 1 < x ∨ x = BM := fun x e => (hvb x e).symm
    have hnv : val.ownBlock ≠ some BM → True := fun _ => trivial
    clear hnv
    have hho : Holds (fun x => KA G (some ⟨b, off, none⟩) B3 x ∨ x = B3 + 1) W (w6.setCell ⟨BM + 1 + 1, 0, none⟩ (.slice (some ⟨g, 0, none⟩) (k + 1) cap)) := by
      refine (Holds.grown hg6 (fun x hx => by have := (HK.out x hx).1; omega) (fun x hx e => ?_)).trans (Holds.grown (grown_setCell _ _ _ _) (fun x hx => by have := (HK.out x hx).1; omega) (fun x hx => by have := (HK.out x hx).2.1; simp; omega))
      have h7 := HK.out x hx
      have := hvb x e.symm
      have h8 := HKB.out x hx
      omega
    have hb7 : Below BM w (w6.setCell ⟨BM + 1 + 1, 0, none⟩ (.slice (some ⟨g, 0, none⟩) (k + 1) cap)) :=
      (h3.grown hg6 (by omega) (fun x e => by have := hvb x e; omega)).setCell (by simp; omega) _
    have h27 : Own (w6.setCell ⟨BM + 1 + 1, 0, none⟩ (.slice (some ⟨g, 0, none⟩) (k + 1) cap)) (BM + 1) [.int .i64 (v.size : Int)] :=
      (h2.grown hg6 (fun e => by have := hvb _ e.symm; have := h2.lt; omega)).far (by simp) _
    have f8 : (w6.setCell ⟨BM + 1 + 1, 0, none⟩ (.slice (some ⟨g, 0, none⟩) (k + 1) cap)).cell? ⟨BM + 1 + 1, 0, none⟩ = some (.slice (some ⟨g, 0, none⟩) (k + 1) cap) := (hl6.set_ (by simp) _).at_ (i := 0) rfl
    have hz8 : w4.heap.size ≤ (w6.setCell ⟨BM + 1 + 1, 0, none⟩ (.slice (some ⟨g, 0, none⟩) (k + 1) cap)).heap.size := by
      have : (w6.setCell ⟨BM + 1 + 1, 0, none⟩ (.slice (some ⟨g, 0, none⟩) (k + 1) cap)).heap.size = w6.heap.size := by simp [World.setCell]
      omega
    generalize (w6.setCell ⟨BM + 1 + 1, 0, none⟩ (.slice (some ⟨g, 0, none⟩) (k + 1) cap)) = w7 at *
    have f9 := h27.at_ (i := 0) rfl
    rw [← kv_snoc] at hC
    by_cases hend : k + 1 = q
    · have te : (((k : Int) + 1 == (q : Int))) = true := by rw [beq_iff_eq]; omega
      have HE : Hid (Coll 42 10 BM BM (BM + 1 + 1) w4.heap.size q (kv m v q) w7) := by
        show Coll _ _ _ _ _ _ _ _ _
        rwa [hend] at hC
      clear hend hC
      gi_wp2
      exact ⟨hko, rfl, HE.out, h27, hb7, hz8⟩
    · have te : (((k : Int) + 1 == (q : Int))) = false := by rw [beq_eq_false_iff_ne]; omega
      have hend' : k + 1 < q := by omega
      clear hend
      gi_wp2
      exact ⟨hko, hho, hend', hC, h27, hb7, hz8⟩
  case stop =>
    rintro co W ⟨rfl, ⟨val, hl, hr, hvb⟩, h2, h3, h4⟩ hKd
    obtain ⟨al, cl, rfl, hlc, -, hg⟩ := hr.val
    obtain ⟨gK, rfl, hgb, og⟩ := hg.resolve_left (by omega)
    have hbm := h3.size
    rw [HBM.out] at hbm
    have lgK := og.lt
    have lL := hl.lt
    have lN := h2.lt
    have hlK := (Array.getElem?_eq_some_iff.1 hKd).1
    refine wpIn_wide.2 ?_
    go_wp2_with fail
    refine wpIn_seq ?_
    refine wpIn_wide.2 ?_
    have f0 := hl.at_ (i := 0) rfl
    have f1 := h2.at_ (i := 0) rfl
    go_wp2_with fail
    go_loopw [7, 29] (fun u i wr => ∃ k : Nat, k ≤ v.size ∧ i = .int .i64 k ∧ OwR wr W.heap.size 42 10 u k (pvs m v k) ∧ Below W.heap.size W wr) (fun _ i _ => v.size - (intOf i).toNat)
    case atStart => exact ⟨0, Nat.zero_le _, rfl, World.ownsRow_nil _ _ _ _, Below.refl _ _⟩
    case round =>
      clear f0 f1
      obtain ⟨k, hk, rfl, hown, hb⟩ := hrel
      by_cases hlt : k < v.size
      · have hzw := hb.size
        have hlw := hl.below hb lL
        have hnw := h2.below hb lN
        have hqq := HQ.out
        obtain ⟨j, hj⟩ : ∃ j : Nat, j = k + v.size := ⟨_, rfl⟩
        have hadd : IntKind.i64.wrap ((k : Int) + (v.size : Int)) = (j : Int) := by rw [IntWalk.i64_in _ (by omega)]; omega
        have hq1 : CellsAt wr gK (k * 10) (pv (keyN m v k)) := ⟨kv_cells hmb (og.below hb lgK).cells (by omega), by omega⟩
        have hq2 : CellsAt wr gK (j * 10) (pv (keyN m v j)) := ⟨kv_cells hmb (og.below hb lgK).cells (by omega), by omega⟩
        have hp1 := isP_keyN hmb v k
        have hp2 := isP_keyN hmb v j
        have n1 := fun W => then_any _ _ W hp1 hp2
        have hPP : thenP (keyN m v k) (keyN m v j) = prodP m v k := by rw [hj]; rfl
        rw [hPP] at n1
        have hpp := isP_prod hmb v k
        have hl1 := hp1.len
        have hl2 := hp2.len
        have HS := Lib.hid (pvs_snoc m v k)
        have q1 : (0 : Int) ≤ (k : Int) := by omega
        have q2 : (k : Int) < (q : Int) := by omega
        have q3 : (0 : Int) ≤ (j : Int) := by omega
        have q4 : (j : Int) < (q : Int) := by omega
        have d0 := fun (cc : Cls wr.heap.size wr) => (cc.cell (BM + 1 + 1) 0 hlw.lt).trans (hlw.at_ (i := 0) rfl)
        have d1 := fun (cc : Cls wr.heap.size wr) => (cc.cell (BM + 1) 0 hnw.lt).trans (hnw.at_ (i := 0) rfl)
        clear hPP hj hp1 hp2 hqq
        generalize keyN m v k = x1 at *
        generalize keyN m v j = x2 at *
        go_wp2_with fail
        refine wp_onlyN ?_
        refine wp_region_any (by kernel_rfl) ?_
        refine wpAny_of_K (S := (fun w' => w'.cell? ⟨BM + 1 + 1, 0, none⟩ = some (.slice (some ⟨gK, 0, none⟩) q cl) ∧ w'.cell? ⟨BM + 1, 0, none⟩ = some (.int .i64 (v.size : Int)) ∧ w'.rangeAt gK (k * 10) (pv x1) ∧ w'.rangeAt gK (j * 10) (pv x2))) (kp := fun _ => true) _ _ _ _ ?_
        have hS : (fun w' => w'.cell? ⟨BM + 1 + 1, 0, none⟩ = some (.slice (some ⟨gK, 0, none⟩) q cl) ∧ w'.cell? ⟨BM + 1, 0, none⟩ = some (.int .i64 (v.size : Int)) ∧ w'.rangeAt gK (k * 10) (pv x1) ∧ w'.rangeAt gK (j * 10) (pv x2)) wr.drew := ⟨d0 ⟨wr, Below.refl _ _⟩, d1 ⟨wr, Below.refl _ _⟩, hq1.cells.range, hq2.cells.range⟩
        refine kr_take 0 32 (v := u7) rfl (by kernel_rfl) (by kernel_rfl) (by kernel_rfl) (by kernel_rfl) (fun _ _ _ h => by cases h.1) rfl hS (Or.inl ⟨by rfl, fun _ _ => rfl⟩) ?_
        simp only [Act.put, List.setIfInBounds_toArray, List.set_cons_succ, List.set_cons_zero]
        refine kr_take 1 33 (v := .slice (some ⟨gK, 0, none⟩) q cl) rfl (by kernel_rfl) (by kernel_rfl) (by kernel_rfl) (by kernel_rfl) (fun _ _ _ h => by cases h.1) rfl hS (Or.inl ⟨by rfl, fun w' hw' => by have hw1 := hw'.1; simp [go_sem, hw1]⟩) ?_
        simp only [Act.put, List.setIfInBounds_toArray, List.set_cons_succ, List.set_cons_zero]
        refine kr_take 2 34 (v := .int .i64 (k : Int)) rfl (by kernel_rfl) (by kernel_rfl) (by kernel_rfl) (by kernel_rfl) (fun _ _ _ h => by cases h.1) rfl hS (Or.inl ⟨by rfl, fun _ _ => rfl⟩) ?_
        simp only [Act.put, List.setIfInBounds_toArray, List.set_cons_succ, List.set_cons_zero]
        refine kr_take 3 35 (v := .pointer (some ⟨gK, k * 10, none⟩)) rfl (by kernel_rfl) (by kernel_rfl) (by kernel_rfl) (by kernel_rfl) (fun _ _ _ h => by cases h.1) rfl hS (Or.inl ⟨by rfl, fun w' _ => by simp [go_sem, q1, q2]⟩) ?_
        simp only [Act.put, List.setIfInBounds_toArray, List.set_cons_succ, List.set_cons_zero]
        refine kr_take 4 36 (v := .agg (pv x1).toArray) rfl (by kernel_rfl) (by kernel_rfl) (by kernel_rfl) (by kernel_rfl) (fun _ _ _ h => by cases h.1) rfl hS (yieldsIf_load_mid (by rfl) _ _ rfl _ _ rfl _ _ (fun _ h => h.2.2.1) Tryz.underlying42 rfl (size_pv hl1)) ?_
        simp only [Act.put, List.setIfInBounds_toArray, List.set_cons_succ, List.set_cons_zero]
        refine kr_take 5 37 (v := .slice (some ⟨gK, 0, none⟩) q cl) rfl (by kernel_rfl) (by kernel_rfl) (by kernel_rfl) (by kernel_rfl) (fun _ _ _ h => by cases h.1) rfl hS (Or.inl ⟨by rfl, fun w' hw' => by have hw1 := hw'.1; simp [go_sem, hw1]⟩) ?_
        simp only [Act.put, List.setIfInBounds_toArray, List.set_cons_succ, List.set_cons_zero]
        refine kr_take 6 38 (v := .int .i64 (k : Int)) rfl (by kernel_rfl) (by kernel_rfl) (by kernel_rfl) (by kernel_rfl) (fun _ _ _ h => by cases h.1) rfl hS (Or.inl ⟨by rfl, fun _ _ => rfl⟩) ?_
        simp only [Act.put, List.setIfInBounds_toArray, List.set_cons_succ, List.set_cons_zero]
        refine kr_take 7 39 (v := .int .i64 (v.size : Int)) rfl (by kernel_rfl) (by kernel_rfl) (by kernel_rfl) (by kernel_rfl) (fun _ _ _ h => by cases h.1) rfl hS (Or.inl ⟨by rfl, fun w' hw' => by have hw1 := hw'.2.1; simp [go_sem, hw1]⟩) ?_
        simp only [Act.put, List.setIfInBounds_toArray, List.set_cons_succ, List.set_cons_zero]
        refine kr_take 8 40 (v := .int .i64 (j : Int)) rfl (by kernel_rfl) (by kernel_rfl) (by kernel_rfl) (by kernel_rfl) (fun _ _ _ h => by cases h.1) rfl hS (Or.inl ⟨by rfl, fun w' _ => by simp [go_sem, hadd]⟩) ?_
        simp only [Act.put, List.setIfInBounds_toArray, List.set_cons_succ, List.set_cons_zero]
        refine kr_take 9 41 (v := .pointer (some ⟨gK, j * 10, none⟩)) rfl (by kernel_rfl) (by kernel_rfl) (by kernel_rfl) (by kernel_rfl) (fun _ _ _ h => by cases h.1) rfl hS (Or.inl ⟨by rfl, fun w' _ => by simp [go_sem, q3, q4]⟩) ?_
        simp only [Act.put, List.setIfInBounds_toArray, List.set_cons_succ, List.set_cons_zero]
        refine kr_take 10 42 (v := .agg (pv x2).toArray) rfl (by kernel_rfl) (by kernel_rfl) (by kernel_rfl) (by kernel_rfl) (fun _ _ _ h => by cases h.1) rfl hS (yieldsIf_load_mid (by rfl) _ _ rfl _ _ rfl _ _ (fun _ h => h.2.2.2) Tryz.underlying42 rfl (size_pv hl2)) ?_
        simp only [Act.put, List.setIfInBounds_toArray, List.set_cons_succ, List.set_cons_zero]
        refine kr_call 11 43 (by kernel_rfl) rfl (by rfl) rfl (fun w => by simp [go_sem]) (n1 wr.drew) (fun wc hbc0 => ?_)
        have hbc : Below wr.heap.size wr wc := (Below.refl wr.heap.size wr).drew.trans hbc0
        refine ⟨⟨d0 ⟨wc, hbc⟩, d1 ⟨wc, hbc⟩, (hq1.cells.below hbc hq1.lt).range, (hq2.cells.below hbc hq2.lt).range⟩, ?_⟩
        simp only [Act.put, List.setIfInBounds_toArray, List.set_cons_succ, List.set_cons_zero]
        have hbuild := build_pv (pv (prodP m v k)) (size_pv10 hpp)
        have hbcX : Below wr.heap.size wr (wc.alloc (.cells (pv (prodP m v k)).toArray 42)) := hbc.alloc hbc.size _
        refine kr_value 12 44 (v := .slice (some ⟨wc.heap.size, 0, none⟩) 1 1) (w' := wc.alloc (.cells (pv (prodP m v k)).toArray 42)) (by kernel_rfl) rfl (by rfl) rfl (by have hlpp := size_pv10 hpp; simp [go_sem, hbuild, hlpp]) ⟨⟨(hlw.below hbcX hlw.lt).at_ (i := 0) rfl, (hnw.below hbcX hnw.lt).at_ (i := 0) rfl, (hq1.cells.below hbcX hq1.lt).range, (hq2.cells.below hbcX hq2.lt).range⟩, ?_⟩
        simp only [Act.put, List.setIfInBounds_toArray, List.set_cons_succ, List.set_cons_zero]
        have hownc := OwR.below hown hbc (Nat.le_refl _)
        have hzc := hbc.size
        refine kr_one 13 (by kernel_rfl) rfl (by rfl) ?_
        refine kr_push 39 42 inf_perm Tryz.underlying39 rfl (by omega) rfl rfl hownc (by omega) (size_pv10 hpp) (pv_one _) (by omega) (by omega) rfl rfl ?_
        intro g4 cap w4' o4 b4 s4
        have hbd : Below W.heap.size W w4' := (hb.trans (hbc.mono hzw)).trans b4
        refine ⟨fun _ => ⟨(hl.below hbd lL).at_ (i := 0) rfl, (h2.below hbd lN).at_ (i := 0) rfl, ((hq1.cells.below hbc hq1.lt).below b4 lgK).range, ((hq2.cells.below hbc hq2.lt).below b4 lgK).range⟩, ?_⟩
        simp only [Act.put, List.setIfInBounds_toArray]
        have hS4 : (fun w' => w'.cell? ⟨BM + 1 + 1, 0, none⟩ = some (.slice (some ⟨gK, 0, none⟩) q cl) ∧ w'.cell? ⟨BM + 1, 0, none⟩ = some (.int .i64 (v.size : Int)) ∧ w'.rangeAt gK (k * 10) (pv x1) ∧ w'.rangeAt gK (j * 10) (pv x2)) w4' := ⟨(hl.below hbd lL).at_ (i := 0) rfl, (h2.below hbd lN).at_ (i := 0) rfl, ((hq1.cells.below hbc hq1.lt).below b4 lgK).range, ((hq2.cells.below hbc hq2.lt).below b4 lgK).range⟩
        refine kr_take 14 7 (v := .slice (some ⟨g4, 0, none⟩) (k + 1) cap) rfl (by kernel_rfl) (by kernel_rfl) (by kernel_rfl) (by kernel_rfl) (fun _ _ _ h => by cases h.1) rfl hS4 (Or.inl ⟨by rfl, fun _ _ => rfl⟩) ?_
        simp only [Act.put]
        refine ⟨by kernel_rfl, onlyN_mk ?_⟩
        go_wp2
        go_roundw
        case rel =>
          refine ⟨k + 1, by omega, by go_num, ?_, hbd⟩
          rw [HS.out]
          exact o4
        case measure => simp [intOf]; omega
      · have hk' : k = v.size := by omega
        rw [hk'] at hown
        have hKd2 := (hb.block w4.heap.size hlK).trans hKd
        have hB : Below BM w wr := h3.trans (hb.mono hbm)
        have hrow := World.ownsRow.mono hown hbm
        have hbz := hbw4.size
        rw [HBM.out] at hbz
        go_wp2_with fail
        gi_wp2
        refine ⟨by simp, .inl ⟨_, _, rfl, run_takeDeferred hKd2, ?_⟩⟩
        refine ⟨_, results_tmp rfl _ _ _, ?_⟩
        refine ⟨_, rfl, ?_, ?_⟩
        · rw [HBM.out]
          exact ownsRow_putObj hrow _ hKd2 rfl
        · rw [HBM.out]
          exact hB.trans (belowK_b (w := w4) hbz wr _ _ _ (Nat.le_refl _) hKd2 rfl rfl)
end Go.Proofs.YtnnblmibonnpcaaGreat
