/- Several of my texts in one: ExL, OpenK, ExK, RcP. -/
import Derived.Test.YtdmnkcmkpjmfaaaGreatM18
import Derived.Test.YtdmnkcmkpjmfaaaGreatM12
import Derived.Test.YtdmnkcmkpjmfaaaGreatM28
/- Contracts of the laws' own functions on links: sizes, copies, comparison, marks. -/
namespace Go.Proofs.YtdmnkcmkpjmfaaaGreat
open Go.RowKit

/-- The cells of a link. -/
def lv (x : Lnk) : List Value := [.string x.p, .string x.c, .int .i64 x.k]
theorem lnk_cells {w : World} {b off : Nat} {ms : List Lnk} (h : Cells w b off (lks ms)) {k : Nat} (hk : k < ms.length) :
    w.cell? ⟨b, off + k * 3, none⟩ = some (.string ms[k].p) ∧ w.cell? ⟨b, off + k * 3 + 1, none⟩ = some (.string ms[k].c) ∧ w.cell? ⟨b, off + k * 3 + 2, none⟩ = some (.int .i64 ms[k].k) := by
  have c0 := h.at_ (lks_at0 ms k hk)
  have c1 := h.at_ (lks_at1 ms k hk)
  have c2 := h.at_ (lks_at2 ms k hk)
  rw [← Nat.add_assoc] at c1 c2
  exact ⟨c0, c1, c2⟩
def SzL1 (x : Lnk) (left : Int) (w : World) (e : Ending) (w' : World) : Prop :=
  ∃ q : Int, e = .returned (.int .i64 q) ∧ Below w.heap.size w w' ∧ (q = -1 ∨ (0 ≤ q ∧ q ≤ left ∧ (x.p.size : Int) ≤ left ∧ (x.c.size : Int) ≤ left))
theorem szLink_any (x : Lnk) (left : Int) (w : World) (z1 : x.p.size ≤ 9223372036854775807) (z2 : x.c.size ≤ 9223372036854775807) (h0 : 0 ≤ left) (h1 : left ≤ 1048576) :
    Calls Tryz.prog 67 #[.agg #[.string x.p, .string x.c, .int .i64 x.k], .int .i64 left] w (SzL1 x left w) := by
  have hb := (Below.refl w.heap.size w).alloc (Nat.le_refl _) (.cells [.string x.p, .string x.c, .int .i64 x.k].toArray 81)
  by_cases hs : left < x.p.size
  · go_enter Tryz.func67, Tryz.ntmps67
    go_wp2
    go_ret
    exact ⟨-1, rfl, hb, .inl rfl⟩
  · by_cases hs2 : left - x.p.size < x.c.size
    · go_enter Tryz.func67, Tryz.ntmps67
      go_wp2
      go_ret
      exact ⟨-1, rfl, hb, .inl rfl⟩
    · go_enter Tryz.func67, Tryz.ntmps67
      go_wp2
      go_ret
      exact ⟨left - x.p.size - x.c.size, rfl, hb, .inr ⟨by omega, by omega, by omega, by omega⟩⟩
/-- The texts of some links are small. -/
def SmK (ms : List Lnk) (left : Int) : Prop := ∀ x ∈ ms, (x.p.size : Int) ≤ left ∧ (x.c.size : Int) ≤ left
def smToK (ms : List Lnk) (left : Int) (k : Nat) : Prop := ∀ j (h : j < ms.length), j < k → (ms[j].p.size : Int) ≤ left ∧ (ms[j].c.size : Int) ≤ left
def BigL (ms : List Lnk) : Prop := ∀ x ∈ ms, x.p.size ≤ 9223372036854775807 ∧ x.c.size ≤ 9223372036854775807
def SzLs (ms : List Lnk) (left : Int) (w : World) (e : Ending) (w' : World) : Prop :=
  ∃ q : Int, e = .returned (.int .i64 q) ∧ Below w.heap.size w w' ∧ (q = -1 ∨ (0 ≤ q ∧ q ≤ left ∧ (ms.length : Int) ≤ left ∧ SmK ms left))
theorem szLinkS_any (a : Option Addr) (c : Nat) (rs : List Lnk) (left : Int) (w : World) (h : Reads w w.heap.size a (lks rs)) (hz : BigL rs) (hl : rs.length ≤ 9223372036854775807) (h0 : 0 ≤ left) (h1 : left ≤ 1048576) :
    Calls Tryz.prog 22 #[.slice a rs.length c, .int .i64 left] w (SzLs rs left w) := by
  have Z := Lib.hid hz
  clear hz
  by_cases hn : left < rs.length
  · go_enter Tryz.func22, Tryz.ntmps22
    go_wp2
    go_ret
    exact ⟨-1, rfl, Below.refl _ _, .inl rfl⟩
  · have HR := Lib.hid h
    clear h
    go_enter Tryz.func22, Tryz.ntmps22
    go_wp2
    go_loopw [1, 5] (fun l i wr => ∃ (k : Nat) (q : Int), k ≤ rs.length ∧ i = .int .i64 k ∧ l = .int .i64 q ∧ 0 ≤ q ∧ q ≤ left ∧ smToK rs left k ∧ Below w.heap.size w wr) (fun _ i _ => rs.length - (intOf i).toNat)
    case atStart => exact ⟨0, left - rs.length, Nat.zero_le _, rfl, rfl, by omega, by omega, fun _ _ h => absurd h (by omega), Below.refl _ _⟩
    case round =>
      obtain ⟨k, q, hk, rfl, rfl, hq0, hq1, ha, hb⟩ := hrel
      by_cases hlt : k < rs.length
      · obtain ⟨b, off, rfl, hbl, hc⟩ := HR.out.cells (by rw [len_lks]; omega)
        obtain ⟨f0, f1, f2⟩ := lnk_cells (hc.below hb hbl) hlt
        have z1 := (Z.out _ (List.getElem_mem hlt)).1
        have z2 := (Z.out _ (List.getElem_mem hlt)).2
        have q1 : (k : Int) < (rs.length : Int) := by omega
        have HA := Lib.hid ha
        clear hc ha
        go_wp2_with fail
        refine (szLink_any rs[k] q _ z1 z2 hq0 (by omega)).mono ?_
        rintro e w1 ⟨q', rfl, hb1, hq⟩
        have hb' := bt hb hb1
        clear hb hb1 f0 f1 f2
        rcases hq with rfl | ⟨p0, p1, p2, p3⟩
        · go_wp2
          go_ret
          exact ⟨-1, rfl, hb', .inl rfl⟩
        · go_wp2
          go_roundw
          case rel =>
            refine ⟨k + 1, q', by omega, by go_num, rfl, by omega, by omega, fun j hj hlt' => ?_, hb'⟩
            by_cases e : j = k
            · subst e; exact ⟨by omega, by omega⟩
            · exact HA.out j hj (by omega)
          case measure => simp [intOf]; omega
      · go_wp2
        go_ret
        refine ⟨q, rfl, hb, .inr ⟨hq0, hq1, by omega, fun r hr => ?_⟩⟩
        obtain ⟨j, hj, rfl⟩ := List.getElem_of_mem hr
        exact ha j hj (by omega)
theorem toLink_any (x : Lnk) (w : World) :
    Calls Tryz.prog 74 #[.agg #[.string x.p, .string x.c, .int .i64 x.k]] w fun e w' => e = .returned (.agg #[.string x.p, .string x.c, .int .i64 x.k]) ∧ Below w.heap.size w w' := by
  go_enter Tryz.func74, Tryz.ntmps74
  go_wp2
  refine bodyPost_ret (v := .agg #[.string x.p, .string x.c, .int .i64 x.k]) (by simp [results, Tryz.results74, go_sem]) rfl ⟨rfl, ?_⟩
  exact ((((((Below.refl w.heap.size w).alloc (Nat.le_refl _) _).alloc (by simp) _).alloc (by simp; omega) _)))
theorem eqLink_any (x : Lnk) (w : World) :
    Calls Tryz.prog 81 #[.agg #[.string x.p, .string x.c, .int .i64 x.k], .agg #[.string x.p, .string x.c, .int .i64 x.k]] w fun e w' => e = .returned (.bool true) ∧ Below w.heap.size w w' := by
  go_enter Tryz.func81, Tryz.ntmps81
  go_wp2
  go_ret
  exact ⟨rfl, ((Below.refl w.heap.size w).alloc (Nat.le_refl _) _).alloc (by simp) _⟩
theorem eqLinkS_same (a b : Option Addr) (c d : Nat) (rs : List Lnk) (w : World) (h1 : Reads w w.heap.size a (lks rs)) (h2 : Reads w w.heap.size b (lks rs)) (hl : rs.length ≤ 1048576) :
    Calls Tryz.prog 29 #[.slice a rs.length c, .slice b rs.length d] w fun e w' => e = .returned (.bool true) ∧ Below w.heap.size w w' := by
  have R1 := Lib.hid h1
  have R2 := Lib.hid h2
  clear h1 h2
  go_enter Tryz.func29, Tryz.ntmps29
  go_wp2
  go_loopw [5] (fun i wr => ∃ k : Nat, k ≤ rs.length ∧ i = .int .i64 k ∧ Below w.heap.size w wr) (fun i _ => rs.length - (intOf i).toNat)
  case atStart => exact ⟨0, Nat.zero_le _, rfl, Below.refl _ _⟩
  case round =>
    obtain ⟨k, hk, rfl, hb⟩ := hrel
    by_cases hlt : k < rs.length
    · obtain ⟨b1, off1, rfl, hb1, hc1⟩ := R1.out.cells (by rw [len_lks]; omega)
      obtain ⟨b2, off2, rfl, hb2, hc2⟩ := R2.out.cells (by rw [len_lks]; omega)
      obtain ⟨f0, f1, f2⟩ := lnk_cells (hc1.below hb hb1) hlt
      obtain ⟨g0, g1, g2⟩ := lnk_cells (hc2.below hb hb2) hlt
      clear hc1 hc2
      have hz := hb.size
      have q1 : (k : Int) < (rs.length : Int) := by omega
      have l1 : b1 < wr.heap.size := by omega
      have l2 : b2 < wr.heap.size := by omega
      have d0 := fun (cc : Cls wr.heap.size wr) => (cc.cell b1 (off1 + k * 3) l1).trans f0
      have d1 := fun (cc : Cls wr.heap.size wr) => (cc.cell b1 (off1 + k * 3 + 1) l1).trans f1
      have d2 := fun (cc : Cls wr.heap.size wr) => (cc.cell b1 (off1 + k * 3 + 2) l1).trans f2
      have e0 := fun (cc : Cls wr.heap.size wr) => (cc.cell b2 (off2 + k * 3) l2).trans g0
      have e1 := fun (cc : Cls wr.heap.size wr) => (cc.cell b2 (off2 + k * 3 + 1) l2).trans g1
      have e2 := fun (cc : Cls wr.heap.size wr) => (cc.cell b2 (off2 + k * 3 + 2) l2).trans g2
      go_wp2_with fail
      refine wp_region_cls (by kernel_rfl) (by kernel_rfl) ?_
      repeat (go_big_quiet_step (first | (go_at_call 81; with_reducible exact cls_of (Nat.le_refl _) (eqLink_any _ _))))
      refine wpQuiet_nil ?_
      intro wc hbc
      go_wp2
      go_roundw
      case rel => exact ⟨k + 1, by omega, by go_num, bt hb hbc⟩
      case measure => simp [intOf]; omega
    · go_wp2
      go_ret
      exact ⟨rfl, hb⟩
end Go.Proofs.YtdmnkcmkpjmfaaaGreat

/- Arguments that are menus, as the walks want them. -/
namespace Go.Proofs.YtdmnkcmkpjmfaaaGreat
open Go.ChangeShapes Go.WideShapes Go.Deep Go.RowKit Go.Joins

theorem links_open {H : Type} {enc : TypeId × Value → H} {w : World} {fuel : Nat} {v : Value} {x : DataW H × List MemPlace}
    (h : DataW.trod enc Tryz.prog w 0 (fun _ => true) true fuel 27 [v] = some x) :
    ∃ (a : Option Addr) (cap : Nat) (rs : List Lnk), v = .slice a rs.length cap ∧ Reads w w.heap.size a (lks rs) ∧ BigL rs ∧ rs.length ≤ 9223372036854775807 := by
  rcases open_slice_fields Tryz.underlying27 Tryz.underlying81 (by kernel_rfl) (by kernel_rfl) h with ⟨hcs, _⟩ | ⟨a, len, cap, m, hcs, hl, hm, hmm, hf⟩
  · simp at hcs
    exact ⟨none, 0, [], by rw [hcs]; rfl, Reads.nil_, (show BigL [] from fun r hr => by simp at hr), by simp⟩
  · simp at hcs
    simp at hmm
    unfold maxLen at hm
    obtain ⟨rs, hrl, hr⟩ := choose_list (Q := fun i (r : Lnk) => w.cell? (a.add (i * 3)) = some (.string r.p) ∧ w.cell? (a.add (i * 3 + 1)) = some (.string r.c) ∧ w.cell? (a.add (i * 3 + 2)) = some (.int .i64 r.k) ∧ r.p.size ≤ 9223372036854775807 ∧ r.c.size ≤ 9223372036854775807) len fun i hi => by
      obtain ⟨v0, y0, n0, c0, t0⟩ := hf i (by omega) 0 _ rfl
      obtain ⟨v1, y1, n1, c1, t1⟩ := hf i (by omega) 1 _ rfl
      obtain ⟨v2, y2, n2, c2, t2⟩ := hf i (by omega) 2 _ rfl
      obtain ⟨s0, e0, _, hs0⟩ := DataW.trod_string Tryz.underlying9 t0
      obtain ⟨s1, e1, _, hs1⟩ := DataW.trod_string Tryz.underlying9 t1
      obtain ⟨k, e2, -, -⟩ := DataW.trod_int Tryz.underlying3 t2
      simp at e0 e1 e2
      subst e0
      subst e1
      subst e2
      exact ⟨⟨s0, s1, k⟩, c0, c1, c2, hs0, hs1⟩
    refine ⟨some a, cap, rs, by rw [hrl]; exact hcs, ?_, fun r hm => ?_, by omega⟩
    · by_cases h0 : len = 0
      · left
        rw [List.eq_nil_of_length_eq_zero (hrl.trans h0)]; rfl
      · obtain ⟨b, off, sp⟩ := a
        have h1 := (hr 0 (by omega)).1
        have hsp : sp = none := by simpa [Addr.add] using World.cell?_spot h1
        subst hsp
        have hb : b < w.heap.size := by
          rcases Nat.lt_or_ge b w.heap.size with hlt | hge
          · exact hlt
          · simp [Addr.add, World.cell?, Array.getElem?_eq_none hge] at h1
        refine .inr ⟨b, off, rfl, hb, fun i hi => ?_⟩
        rw [len_lks] at hi
        have hk : i / 3 < rs.length := by omega
        obtain ⟨k0, k1, k2, _⟩ := hr (i / 3) hk
        rw [add_none'] at k0 k1 k2
        have h3 : i % 3 = 0 ∨ i % 3 = 1 ∨ i % 3 = 2 := by omega
        rcases h3 with e | e | e
        · have := lks_at0 rs (i / 3) hk
          rw [show i / 3 * 3 = i by omega] at this k0
          rw [this, ← k0]
        · have := lks_at1 rs (i / 3) hk
          rw [show i / 3 * 3 + 1 = i by omega] at this k1
          rw [this, ← k1]
        · have := lks_at2 rs (i / 3) hk
          rw [show i / 3 * 3 + 2 = i by omega] at this k2
          rw [this, ← k2]
    · obtain ⟨j, hj, rfl⟩ := List.getElem_of_mem hm
      obtain ⟨_, _, _, k3, k4⟩ := hr j hj
      exact ⟨k3, k4⟩
end Go.Proofs.YtdmnkcmkpjmfaaaGreat

/- Contracts of the laws' own functions on links: copies of a menu, marks. -/
namespace Go.Proofs.YtdmnkcmkpjmfaaaGreat
open Go.RowKit

theorem lks_set3 : ∀ (ms : List Lnk) (k : Nat) (x : Lnk), k < ms.length → (((lks ms).set (k * 3) (.string x.p)).set (k * 3 + 1) (.string x.c)).set (k * 3 + 1 + 1) (.int .i64 x.k) = lks (ms.set k x)
  | _ :: _, 0, _, _ => rfl
  | q :: ms, k + 1, x, h => by
    have ih := lks_set3 ms k x (by simpa using h)
    rw [show (k + 1) * 3 = k * 3 + 1 + 1 + 1 by omega]
    simp only [lks, List.set_cons_succ]
    rw [← ih]
/-- A link of empty texts. -/
def lnk0 : Lnk := ⟨⟨#[]⟩, ⟨#[]⟩, 0⟩
theorem lks_rep (n : Nat) : (madeCells #[.string ⟨#[]⟩, .string ⟨#[]⟩, .int .i64 0] (n * 3)) = (lks (List.replicate n lnk0)).toArray := by
  apply Array.toList_inj.1
  have hs := size_madeCells #[.string ⟨#[]⟩, .string ⟨#[]⟩, .int .i64 0] (n * 3)
  refine List.ext_getElem ?_ fun i h1 h2 => ?_
  · simp [len_lks]; omega
  · have hl : (lks (List.replicate n lnk0)).length = 3 * n := by rw [len_lks]; simp
    have hi : i < 3 * n := by
      have : i < (lks (List.replicate n lnk0)).length := h2
      omega
    have hk : i / 3 < (List.replicate n lnk0).length := by simp; omega
    have hx : (List.replicate n lnk0)[i / 3] = lnk0 := by simp
    have a0 := lks_at0 _ _ hk
    have a1 := lks_at1 _ _ hk
    have a2 := lks_at2 _ _ hk
    rw [hx] at a0 a1 a2
    have e2 : (lks (List.replicate n lnk0)).toArray.toList[i]? = (#[Value.string ⟨#[]⟩, .string ⟨#[]⟩, .int .i64 0] : Array Value)[i % 3]? := by
      show (lks (List.replicate n lnk0))[i]? = _
      have h3 : i % 3 = 0 ∨ i % 3 = 1 ∨ i % 3 = 2 := by omega
      rcases h3 with e | e | e
      · rw [show i = i / 3 * 3 by omega, a0, show i / 3 * 3 % 3 = 0 by omega]; rfl
      · rw [show i = i / 3 * 3 + 1 by omega, a1, show (i / 3 * 3 + 1) % 3 = 1 by omega]; rfl
      · rw [show i = i / 3 * 3 + 2 by omega, a2, show (i / 3 * 3 + 2) % 3 = 2 by omega]; rfl
    have e3 : (lks (List.replicate n lnk0)).toArray.toList[i] = (#[Value.string ⟨#[]⟩, .string ⟨#[]⟩, .int .i64 0] : Array Value)[i % 3]! := by
      have := e2
      rw [List.getElem?_eq_getElem h2] at this
      rw [Array.getElem!_eq_getD, Array.getD_eq_getD_getElem?, ← this]; rfl
    rw [e3]
    simp only [madeCells, Array.toList_map, List.getElem_map]
    congr 1
    simp
theorem make_lnkS (n : Nat) (hn : n ≤ 1048576) (w : World) : (Instr.makeSlice 38 (.int .i64 (n : Int)) (.int .i64 (n : Int))).run Tryz.prog w = .ok (.slice (some ⟨w.heap.size, 0, none⟩) n n) (w.alloc (.cells (lks (List.replicate n lnk0)).toArray 72)) := by
  obtain ⟨i, hi, h1, h2, h3⟩ := info_parts inf_lnk
  have hr := run_make (P := Tryz.prog) w 38 72 i _ Tryz.underlying38 hi h1 .i64 .i64 n n (by omega) (by omega) (by rw [h3]; omega) (by omega)
  simp only [Int.toNat_natCast, h2] at hr
  have hz : (Value.agg #[.string ⟨#[]⟩, .string ⟨#[]⟩, .int .i64 0]).cells = #[.string ⟨#[]⟩, .string ⟨#[]⟩, .int .i64 0] := rfl
  rw [hz, lks_rep] at hr
  exact hr
def CopyK (rs : List Lnk) (w : World) (e : Ending) (w' : World) : Prop :=
  ∃ g, w.heap.size ≤ g ∧ e = .returned (.slice (some ⟨g, 0, none⟩) rs.length rs.length) ∧ Own w' g (lks rs) ∧ Below w.heap.size w w'
set_option maxRecDepth 100000 in
theorem toLinkS_any (a : Option Addr) (c : Nat) (rs : List Lnk) (w : World) (h : Reads w w.heap.size a (lks rs)) (hl : rs.length ≤ 1048576) :
    Calls Tryz.prog 25 #[.slice a rs.length c] w (CopyK rs w) := by
  have hmk := make_lnkS rs.length hl
  have HR := Lib.hid h
  clear h
  go_enter Tryz.func25, Tryz.ntmps25
  go_wp2
  go_loopw [4] (fun i wr => ∃ k : Nat, k ≤ rs.length ∧ i = .int .i64 k ∧ Below w.heap.size w wr ∧ Own wr w.heap.size (lks (rs.take k ++ (List.replicate rs.length lnk0).drop k))) (fun i _ => rs.length - (intOf i).toNat)
  case atStart => exact ⟨0, Nat.zero_le _, rfl, (Below.refl _ _).alloc (Nat.le_refl _) _, by simpa using Own.new w (lks (List.replicate rs.length lnk0)) 72⟩
  case round =>
    clear hmk
    obtain ⟨k, hk, rfl, hbel, hown⟩ := hrel
    by_cases hlt : k < rs.length
    · obtain ⟨b, off, rfl, hb, hc⟩ := HR.out.cells (by rw [len_lks]; omega)
      obtain ⟨f0, f1, f2⟩ := lnk_cells (hc.below hbel hb) hlt
      clear hc
      have hlen : Hid ((rs.take k ++ (List.replicate rs.length lnk0).drop k).length = rs.length) := by
        show _ = _
        rw [fill_len (by simp) hk]
      have q1 : (k : Int) < (rs.length : Int) := by omega
      go_wp2_with fail
      refine (toLink_any rs[k] _).mono ?_
      rintro e w1 ⟨rfl, hb1⟩
      have o1 := hown.below hb1 hown.lt
      have l1 : (lks (rs.take k ++ (List.replicate rs.length lnk0).drop k)).length = 3 * rs.length := by rw [len_lks, hlen.out]
      have L1 := Lib.hid l1
      clear l1
      obtain ⟨y0, g0⟩ := o1.some_ (i := k * 3) (by rw [L1.out]; omega)
      obtain ⟨y1, g1⟩ := o1.some_ (i := k * 3 + 1) (by rw [L1.out]; omega)
      obtain ⟨y2, g2⟩ := o1.some_ (i := k * 3 + 2) (by rw [L1.out]; omega)
      have e0 := o1.free (k * 3) (by rw [L1.out]; omega)
      have e1 := o1.free (k * 3 + 1) (by rw [L1.out]; omega)
      have e2 := o1.free (k * 3 + 2) (by rw [L1.out]; omega)
      go_wp2
      go_roundw
      case rel =>
        refine ⟨k + 1, by omega, by go_num, (((bt hbel hb1).setCell (by simp) _).setCell (by simp) _).setCell (by simp) _, ?_⟩
        have h0 := ((o1.set_ (i := k * 3) (by rw [L1.out]; omega) (.string rs[k].p)).set_ (i := k * 3 + 1) (by rw [List.length_set, L1.out]; omega) (.string rs[k].c)).set_ (i := k * 3 + 2) (by rw [List.length_set, List.length_set, L1.out]; omega) (.int .i64 rs[k].k)
        have hset := lks_set3 (rs.take k ++ (List.replicate rs.length lnk0).drop k) k rs[k] (by rw [hlen.out]; exact hlt)
        rw [fill_set hlt (by simp)] at hset
        rw [← hset]
        exact h0
      case measure => simp [intOf]; omega
    · have hk' : k = rs.length := by omega
      subst hk'
      go_wp2
      go_ret
      refine ⟨w.heap.size, Nat.le_refl _, rfl, ?_, hbel⟩
      rw [List.take_length, List.drop_of_length_le (by simp), List.append_nil] at hown
      exact hown
set_option maxRecDepth 100000 in
theorem markLinkS_to (g c k : Nat) (n : Nat) (cs : List Value) (w : World) (h : Own w g cs) (hcs : cs.length = 3 * n) (hl : n ≤ 1048576) (h1 : 1 ≤ k) (hk : k ≤ 10000000) :
    Calls Tryz.prog 31 #[.slice (some ⟨g, 0, none⟩) n c, .int .i64 (k : Int)] w (MarkTo g (k + 3 * n) w) := by
  have HC := Lib.hid hcs
  clear hcs
  go_enter Tryz.func31, Tryz.ntmps31
  go_wp2
  go_loopw [1, 5] (fun m i wr => ∃ (j : Nat) (cs : List Value), j ≤ n ∧ cs.length = 3 * n ∧ i = .int .i64 j ∧ m = .int .i64 ((k + 3 * j : Nat) : Int) ∧ Own wr g cs ∧ w.grownBy wr (some g)) (fun _ i _ => n - (intOf i).toNat)
  case atStart => exact ⟨0, cs, Nat.zero_le _, HC.out, rfl, rfl, h, World.grownBy.refl w _⟩
  case round =>
    clear h HC
    obtain ⟨j, cs, hj, hcs, rfl, rfl, ho, hb⟩ := hrel
    have HC := Lib.hid hcs
    clear hcs
    by_cases hlt : j < n
    · have hlt0 := ho.lt
      have q1 : (j : Int) < (n : Int) := by omega
      go_wp2_with fail
      refine (markText_any (k + 3 * j) _ (by omega) (by omega)).mono ?_
      rintro e w1 ⟨rfl, hb1⟩
      have o1 := ho.below hb1 ho.lt
      obtain ⟨y1, f1⟩ := o1.some_ (i := j * 3) (by rw [HC.out]; omega)
      have f2 := o1.free (j * 3) (by rw [HC.out]; omega)
      have o2 := o1.set_ (i := j * 3) (by rw [HC.out]; omega) (.string (mkT (k + 3 * j)))
      have g1 : w.grownBy (w1.setCell ⟨g, j * 3, none⟩ (.string (mkT (k + 3 * j)))) (some g) :=
        grown_trans hb (grown_trans ⟨hb1.os, hb1.tape, hb1.output, hb1.size, fun i hi _ => hb1.block i hi⟩ (grown_setCell w1 g (j * 3) _))
      clear o1 hb1 hb ho
      go_wp2_with fail
      clear f1 f2
      generalize w1.setCell ⟨g, j * 3, none⟩ (.string (mkT (k + 3 * j))) = w2 at *
      have hmt := fun W => markText_any (k + 3 * j + 1) W (by omega) (by omega)
      rw [show ((k + 3 * j + 1 : Nat) : Int) = (k : Int) + 3 * (j : Int) + 1 by omega] at hmt
      refine (hmt _).mono ?_
      rintro e w3 ⟨rfl, hb3⟩
      have o3 := o2.below hb3 o2.lt
      obtain ⟨y3, f3⟩ := o3.some_ (i := j * 3 + 1) (by rw [List.length_set, HC.out]; omega)
      have f4 := o3.free (j * 3 + 1) (by rw [List.length_set, HC.out]; omega)
      have o4 := o3.set_ (i := j * 3 + 1) (by rw [List.length_set, HC.out]; omega) (.string (mkT (k + 3 * j + 1)))
      have g4 : w.grownBy (w3.setCell ⟨g, j * 3 + 1, none⟩ (.string (mkT (k + 3 * j + 1)))) (some g) :=
        grown_trans g1 (grown_trans ⟨hb3.os, hb3.tape, hb3.output, hb3.size, fun i hi _ => hb3.block i hi⟩ (grown_setCell w3 g (j * 3 + 1) _))
      obtain ⟨y5, f5⟩ := o4.some_ (i := j * 3 + 2) (by rw [List.length_set, List.length_set, HC.out]; omega)
      have f6 := o4.free (j * 3 + 2) (by rw [List.length_set, List.length_set, HC.out]; omega)
      clear o3 hb3 g1 o2 hmt
      go_wp2_with fail
      clear f3 f4
      generalize w3.setCell ⟨g, j * 3 + 1, none⟩ (.string (mkT (k + 3 * j + 1))) = w4 at *
      have o6 := o4.set_ (i := j * 3 + 2) (by rw [List.length_set, List.length_set, HC.out]; omega) (.int .i64 ((k : Int) + 3 * (j : Int) + 2))
      have g6 : w.grownBy (w4.setCell ⟨g, j * 3 + 2, none⟩ (.int .i64 ((k : Int) + 3 * (j : Int) + 2))) (some g) := grown_trans g4 (grown_setCell w4 g (j * 3 + 2) _)
      clear o4 g4
      go_wp2
      go_roundw
      case rel => exact ⟨j + 1, _, by omega, by rw [List.length_set, List.length_set, List.length_set, HC.out], by go_num, by go_num, o6, g6⟩
      case measure => simp [intOf]; omega
    · go_wp2
      go_ret
      exact ⟨ret_int (by omega), hb⟩
end Go.Proofs.YtdmnkcmkpjmfaaaGreat

/- The text of a pair of letters, the smaller one first. -/
namespace Go.Proofs.YtdmnkcmkpjmfaaaGreat
open Go.RowKit
attribute [local go_sem] Oper.semAt_some

theorem gtr_str (a b : ByteArray) (W : World) : Sem.run Tryz.prog (Go.binOp .gtr 9 (.string a) (.string b)) W = .ok (.bool (!(Op.bytesLess (L a) (L b) || L a == L b))) W := by
  rw [show L a = a.toList from (Lib.toList_data a).symm, show L b = b.toList from (Lib.toList_data b).symm]
  rfl
theorem gtr_all : ((List.range 10).all fun x => (List.range 10).all fun y => (!(Op.bytesLess (L (wd [x])) (L (wd [y])) || L (wd [x]) == L (wd [y]))) == decide (y < x)) = true := by decide +kernel
set_option maxRecDepth 100000 in
set_option maxHeartbeats 1000000 in
theorem rcPair_any (x y : Nat) (hx : x < 10) (hy : y < 10) (w : World) :
    Calls Tryz.prog 56 #[.string (wd [x]), .string (wd [y])] w fun e w' => e = .returned (.string (pw (norm x y))) ∧ w = w' := by
  go_enter Tryz.func56, Tryz.ntmps56
  have h1 : (wd [x]).size + (wd [y]).size ≤ 9223372036854775807 := by rw [size_wd, size_wd]; simp
  have h2 : (wd [y]).size + (wd [x]).size ≤ 9223372036854775807 := by rw [size_wd, size_wd]; simp
  have hg := fun W => gtr_str (wd [x]) (wd [y]) W
  have ha := List.all_eq_true.1 (List.all_eq_true.1 gtr_all x (by simpa using hx)) y (by simpa using hy)
  rw [eq_of_beq ha] at hg
  have E1 := Lib.hid (wd_app [x] [y])
  have E2 := Lib.hid (wd_app [y] [x])
  have hn : norm x y = if y < x then (y, x) else (x, y) := rfl
  by_cases h : y < x
  · have t1 : decide (y < x) = true := decide_eq_true h
    rw [t1] at hg
    rw [if_pos h] at hn
    rw [hn]
    clear ha t1 hn
    go_wp2
    go_ret
    refine ⟨?_, rfl⟩
    first | (rw [E1.out]; rfl) | (rw [E2.out]; rfl)
  · have t1 : decide (y < x) = false := decide_eq_false h
    rw [t1] at hg
    rw [if_neg h] at hn
    rw [hn]
    clear ha t1 hn
    go_wp2
    go_ret
    refine ⟨?_, rfl⟩
    first | (rw [E1.out]; rfl) | (rw [E2.out]; rfl)
end Go.Proofs.YtdmnkcmkpjmfaaaGreat
