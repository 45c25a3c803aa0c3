/- Several of my texts in one: PcP, PcI, ShelfI, SortI, LenI. -/
import Derived.Test.YtnnblmibonnpcaaGreatM4
import Derived.Test.YtnnblmibonnpcaaGreatM2
import Derived.Shelf.Sort.Plain
import Derived.Shelf.Slices.Reverse
import Derived.Shelf.Slices.In.SortNone
import Derived.Test.YtnnblmibonnpcaaGreatProg
import Derived.Test.YtnnblmibonnpcaaGreatM5
import Derived.Sort.OwnSortedInts
/- Plain laws for the walk along the cycles of a permutation; bytes that were appended. -/
namespace Go.Proofs.YtnnblmibonnpcaaGreat
open Go.RowKit

theorem itP_mul {p : List Nat} (h : IsP p) {a : Nat} (ha : a < 10) : ∀ q, itP p (q * ordP p a) a = a
  | 0 => by simp [itP]
  | q + 1 => by rw [Nat.succ_mul, itP_add, ordP_spec h ha, itP_mul h ha q]
theorem itP_mem {p : List Nat} (h : IsP p) {a : Nat} (ha : a < 10) (n : Nat) : itP p n a ∈ cycL p a := by
  have ho := ordP_pos p a
  refine List.mem_map.2 ⟨n % ordP p a, by simpa using Nat.mod_lt _ (by omega), ?_⟩
  have e : n = n % ordP p a + n / ordP p a * ordP p a := by rw [Nat.mul_comm]; exact (Nat.mod_add_div _ _).symm
  rw [e, itP_add, itP_mul h ha, ← e]
theorem itP_unback {p : List Nat} (h : IsP p) {a b : Nat} (ha : a < 10) (hb : b < 10) {n : Nat} (hm : itP p n b ∈ cycL p a) : b ∈ cycL p a := by
  obtain ⟨j, _, e⟩ := List.mem_map.1 hm
  have ho := ordP_pos p b
  have hN : n ≤ n * ordP p b := Nat.le_mul_of_pos_right _ (by omega)
  have h1 : b = itP p (n * ordP p b - n + n) b := by rw [show n * ordP p b - n + n = n * ordP p b by omega, itP_mul h hb]
  rw [itP_add, ← e, ← itP_add] at h1
  rw [h1]
  exact itP_mem h ha _
theorem flat_back {p : List Nat} (h : IsP p) {m k n : Nat} (hm : m ≤ 10) (hk : k < 10) (hx : itP p n k ∈ (cycsTo p m).flatten) : k ∈ (cycsTo p m).flatten := by
  obtain ⟨c, hc, hxc⟩ := List.mem_flatten.1 hx
  obtain ⟨a, ha, rfl⟩ := cycsTo_mem m c hc
  exact List.mem_flatten.2 ⟨_, hc, itP_unback h (by omega) hk hxc⟩
/-- The first letters of a cycle. -/
def preC (p : List Nat) (a n : Nat) : List Nat := (List.range n).map fun k => itP p k a
theorem preC_zero (p : List Nat) (a : Nat) : preC p a 0 = [] := rfl
theorem preC_succ (p : List Nat) (a n : Nat) : preC p a (n + 1) = preC p a n ++ [itP p n a] := by simp [preC, List.range_succ]
theorem preC_all (p : List Nat) (a : Nat) : preC p a (ordP p a) = cycL p a := rfl
theorem preC_no {p : List Nat} (h : IsP p) {a n : Nat} (ha : a < 10) (hn : n < ordP p a) : ¬ itP p n a ∈ preC p a n := fun hm => by
  obtain ⟨j, hj, e⟩ := List.mem_map.1 hm
  have hj := List.mem_range.1 hj
  rw [show n = j + (n - j) by omega, itP_add] at e
  refine ordP_min (p := p) a (k := n - j) (by omega) (by omega) ?_
  exact (itP_inj h ha (itP_lt h ha _) j e).symm
theorem preC_back {p : List Nat} (h : IsP p) {a : Nat} (ha : a < 10) : itP p (ordP p a) a ∈ preC p a (ordP p a) := by
  rw [ordP_spec h ha]; exact self_cycL p a
/-- Ten marks. -/
def bmk (l : List Nat) : List Value := (List.range 10).map fun i => .bool (decide (i ∈ l))
theorem len_bmk (l : List Nat) : (bmk l).length = 10 := by simp [bmk]
theorem bmk_at {l : List Nat} {i : Nat} (h : i < 10) : (bmk l)[i]? = some (.bool (decide (i ∈ l))) := by simp [bmk, h]
theorem bmk_set {l : List Nat} {i : Nat} : (bmk l).set i (.bool true) = bmk (l ++ [i]) := by
  apply List.ext_getElem (by simp [bmk])
  intro j h1 h2
  have hj : j < 10 := by simpa [bmk] using h2
  rw [List.getElem_set]
  by_cases e : i = j
  · subst e; simp [bmk]
  · rw [if_neg e]
    have e2 : ¬ j = i := fun h => e h.symm
    simp [bmk, e2]
theorem bmk_nil : bmk [] = [.bool false, .bool false, .bool false, .bool false, .bool false, .bool false, .bool false, .bool false, .bool false, .bool false] := by rfl
theorem info_byte : (Tryz.prog.info? 5).map (fun i => (i.zero, i.size, i.bytes)) = some (some (.int .u8 0), 1, 1) := by kernel_rfl
/-- 'string(b)' of bytes that were appended. -/
theorem OwR.conv {w : World} {base : Nat} {v : Value} {l : List UInt8} {n : Nat} (h : OwR w base 5 1 v n (bv l)) : (convert 22 9 v).run Tryz.prog w = .ok (.string (S l)) w := by
  have hn : l.length = n := by have := h.1; rw [length_bv] at this; omega
  have hv := h.val
  rcases h.2 with ⟨rfl, h0⟩ | ⟨g, cap, cur, rfl, -⟩
  · have : l = [] := List.eq_nil_of_length_eq_zero (by omega)
    subst this
    rw [run_convert_bytes_string (P := Tryz.prog) w 22 9 5 none 0 0 Tryz.underlying22 Tryz.underlying5 Tryz.underlying9]
    rfl
  · obtain ⟨a, c, e, -, -, h2⟩ := hv
    cases e
    rcases h2 with h2 | ⟨g', e, -, ho⟩
    · subst h2
      have : l = [] := List.eq_nil_of_length_eq_zero hn
      subst this
      rw [run_convert_bytes_string (P := Tryz.prog) w 22 9 5 (some ⟨g, 0, none⟩) 0 cap Tryz.underlying22 Tryz.underlying5 Tryz.underlying9]
      simp [Conv.bytesToString, go_sem, S, loadCellsFrom]
      rfl
    · cases e
      exact Own.conv (P := Tryz.prog) ho 22 9 5 Tryz.underlying22 Tryz.underlying5 Tryz.underlying9 hn.symm cap
theorem bv_append (a b : List UInt8) : bv (a ++ b) = bv a ++ bv b := by simp [bv]
/-- The letters of numbers. -/
def lts (l : List Nat) : List UInt8 := l.map fun n : Nat => letr (n : Int)
theorem lts_snoc (l : List Nat) (k : Nat) : lts (l ++ [k]) = lts l ++ [letr (k : Int)] := by simp [lts]
theorem wd_lts (l : List Nat) : wd l = S (lts l) := rfl
/-- A row that lies below a bound is kept by what stays above it. -/
theorem OwR.belowN {w w' : World} {base : Nat} {e : TypeId} {sz n : Nat} {v : Value} {xs : List Value} (h : OwR w base e sz v n xs) {B : Nat} (hb : Below B w w') (hB : ∀ g, v.ownBlock = some g → g < B) : OwR w' base e sz v n xs := by
  refine ⟨h.1, ?_⟩
  rcases h.2 with h0 | ⟨g, cap, cur, rfl, hg, hh, h1⟩
  · exact .inl h0
  · exact .inr ⟨g, cap, cur, rfl, hg, (hb.block g (hB g rfl)).trans hh, h1⟩
theorem OwR.blk {w : World} {base : Nat} {e : TypeId} {sz n : Nat} {v : Value} {xs : List Value} (h : OwR w base e sz v n xs) : ∀ g, v.ownBlock = some g → g < w.heap.size := fun g hg => (World.ownsRow.lt h g hg).2
end Go.Proofs.YtnnblmibonnpcaaGreat

/- The cycles of a permutation, in the program. -/
namespace Go.Proofs.YtnnblmibonnpcaaGreat
open Go.RowKit

/-- The length of a slice. -/
def sliceN (v : Value) : Nat := match v with | .slice _ n _ => n | _ => 0
set_option maxRecDepth 100000 in
set_option maxHeartbeats 2000000 in
theorem cycles_any (p : List Nat) (w : World) (hp : IsP p) :
    Calls Tryz.prog 52 #[.agg (pv p).toArray] w (RowPost 9 1 (cycs p).length (sv ((cycs p).map wd)) w) := by
  have o0 := (Own.new w (pv p) 42).alloc (.cells [.bool false, .bool false, .bool false, .bool false, .bool false, .bool false, .bool false, .bool false, .bool false, .bool false].toArray 80)
  have o1 := Own.new (w.alloc (.cells (pv p).toArray 42)) [.bool false, .bool false, .bool false, .bool false, .bool false, .bool false, .bool false, .bool false, .bool false, .bool false] 80
  have hb0 := ((Below.refl w.heap.size w).alloc (Nat.le_refl _) (.cells (pv p).toArray 42)).alloc (by simp) (.cells [.bool false, .bool false, .bool false, .bool false, .bool false, .bool false, .bool false, .bool false, .bool false, .bool false].toArray 80)
  have hz0 : ((w.alloc (.cells (pv p).toArray 42)).alloc (.cells [.bool false, .bool false, .bool false, .bool false, .bool false, .bool false, .bool false, .bool false, .bool false, .bool false].toArray 80)).heap.size = w.heap.size + 2 := by simp
  simp only [World.size_alloc] at o1
  go_enter Tryz.func52, Tryz.ntmps52
  go_wp2_with fail
  generalize ((w.alloc (.cells (pv p).toArray 42)).alloc (.cells [.bool false, .bool false, .bool false, .bool false, .bool false, .bool false, .bool false, .bool false, .bool false, .bool false].toArray 80)) = W at *
  have o1 : Own W (w.heap.size + 1) (bmk []) := by rw [bmk_nil]; exact o1
  go_loopw [3, 5, 6, 7, 8] (fun u _ _ _ i wr => ∃ (k : Nat) (u0 : Value), k ≤ 10 ∧ u0 = u ∧ i = .int .i64 k ∧ OwR wr (w.heap.size + 2) 9 1 u (cycsTo p k).length (sv ((cycsTo p k).map wd)) ∧ Own wr w.heap.size (pv p) ∧ Own wr (w.heap.size + 1) (bmk (cycsTo p k).flatten) ∧ Below w.heap.size w wr ∧ w.heap.size + 2 ≤ wr.heap.size) (fun _ _ _ _ i _ => 10 - (intOf i).toNat)
  case atStart => exact ⟨0, _, by omega, rfl, rfl, World.ownsRow_nil _ _ _ _, o0, o1, hb0, by omega⟩
  case round =>
    clear o0 o1 hb0 hz0
    obtain ⟨k, u, hk, rfl, rfl, hown, o0, o1, hb, hz⟩ := hrel
    by_cases hlt : k < 10
    · have tk : decide ((k : Int) < 10) = true := decide_eq_true (by omega)
      have ho10 := ordP_le hp hlt
      have hop := ordP_pos p k
      have hcl := cycsTo_len p k
      have hgb := hown.blk
      obtain ⟨N6, hN6⟩ : ∃ N, N = wr.heap.size := ⟨_, rfl⟩
      rw [← hN6] at hz hgb
      go_wp2_with fail
      go_loopw [6, 7] (fun v x wr' => ∃ n : Nat, n ≤ ordP p k ∧ (k ∈ (cycsTo p k).flatten → n = 0) ∧ x = .int .i64 (itP p n k : Nat) ∧ OwR wr' N6 5 1 v n (bv (lts (preC p k n))) ∧ OwR wr' (w.heap.size + 2) 9 1 u (cycsTo p k).length (sv ((cycsTo p k).map wd)) ∧ Own wr' w.heap.size (pv p) ∧ Own wr' (w.heap.size + 1) (bmk ((cycsTo p k).flatten ++ preC p k n)) ∧ Below w.heap.size w wr' ∧ N6 ≤ wr'.heap.size) (fun v _ _ => 10 - sliceN v)
      case atStart => exact ⟨0, Nat.zero_le _, fun _ => rfl, rfl, World.ownsRow_nil _ _ _ _, hown, o0, by rw [preC_zero, List.append_nil]; exact o1, hb, by omega⟩
      case round =>
        clear hown o0 o1 hb hN6
        obtain ⟨n, hn, hnf, rfl, ob, hown, o0, o1, hb, hzz⟩ := hrel
        have hx := itP_lt hp hlt n
        have e1 := o1.at_ (bmk_at (l := (cycsTo p k).flatten ++ preC p k n) hx)
        obtain ⟨la, lc, rfl, -, -, -⟩ := OwR.val ob
        have HNF := Lib.hid hnf
        clear hnf
        by_cases hm : itP p n k ∈ (cycsTo p k).flatten ++ preC p k n
        · rw [decide_eq_true hm] at e1
          by_cases hf : k ∈ (cycsTo p k).flatten
          · have hn0 : n = 0 := HNF.out hf
            subst hn0
            have HY := Lib.hid (cycsTo_yes hf)
            rw [preC_zero, List.append_nil] at o1
            clear hm hf ob
            generalize itP p 0 k = x at *
            go_wp2_with fail
            go_roundw
            case rel => exact ⟨k + 1, u, by omega, rfl, by go_num, by rw [HY.out]; exact hown, o0, by rw [HY.out]; exact o1, hb, by omega⟩
            case measure => simp [intOf]; omega
          · have hnn : n = ordP p k := by
              rcases List.mem_append.1 hm with h | h
              · exact absurd (flat_back hp (by omega) hlt h) hf
              · rcases Nat.lt_or_ge n (ordP p k) with h1 | h1
                · exact absurd h (preC_no hp hlt h1)
                · omega
            have hcv := OwR.conv ob
            have hpa : preC p k n = cycL p k := by rw [hnn]; rfl
            have HN := Lib.hid (cycsTo_no hf)
            have hwd : S (lts (preC p k n)) = wd (cycL p k) := by rw [hpa]; rfl
            rw [hwd] at hcv
            have ht : decide ((n : Int) > 0) = true := decide_eq_true (by omega)
            have ht2 : decide (0 < n) = true := decide_eq_true (by omega)
            have hdx : (wd (cycL p k)).size ≤ 10 := by rw [size_wd, len_cycL]; exact ho10
            rw [hpa] at o1
            clear hm hf ob hwd hpa hnn
            generalize itP p n k = x at *
            obtain ⟨lu, lv, rfl, -, -, -⟩ := OwR.val hown
            go_wp2_with (at_builtin; ((with_reducible refine wl_push 30 9 inf_str Tryz.underlying30 rfl (by omega) hown (by omega) rfl (by simp [Value.oneCell']) (by omega) (by omega) rfl rfl ?_); intro g7 cap w7 o7 b7 k7))
            go_roundw
            case rel => exact ⟨k + 1, _, by omega, rfl, by go_num, by rw [HN.out, List.length_append, List.map_append, sv_append]; exact o7, o0.below b7 (by omega), by rw [HN.out, List.flatten_append]; simp only [List.flatten_cons, List.flatten_nil, List.append_nil]; exact o1.below b7 (by omega), hb.trans (b7.mono (by omega)), by omega⟩
            case measure => simp [intOf]; omega
        · have hnl : n < ordP p k := by
            rcases Nat.lt_or_ge n (ordP p k) with h1 | h1
            · exact h1
            · exfalso
              have : n = ordP p k := by omega
              subst this
              exact hm (List.mem_append.2 (.inr (preC_back hp hlt)))
          have HKF : Hid (¬ k ∈ (cycsTo p k).flatten) := Lib.hid (fun hf => by
            have hn0 := HNF.out hf
            subst hn0
            exact hm (List.mem_append.2 (.inl hf)))
          rw [decide_eq_false hm] at e1
          have HPS := Lib.hid (preC_succ p k n)
          have HIT : Hid (itP p (n + 1) k = pAt p (itP p n k)) := Lib.hid rfl
          have hmx := itP_lt hp hlt (n + 1)
          rw [HIT.out] at hmx
          have f3 := o1.free (itP p n k) (by rw [len_bmk]; exact hx)
          have e2 := hx
          have HBS := Lib.hid (bmk_set (l := (cycsTo p k).flatten ++ preC p k n) (i := itP p n k))
          have s1 := o1.set_ (i := itP p n k) (by rw [len_bmk]; exact hx) (.bool true)
          have s0 := o0.far (p := ⟨w.heap.size + 1, itP p n k, none⟩) (by simp) (.bool true)
          have sown := hown.far (p := ⟨w.heap.size + 1, itP p n k, none⟩) (by simp) (.bool true)
          have sob := ob.far (p := ⟨w.heap.size + 1, itP p n k, none⟩) (show w.heap.size + 1 < N6 by omega) (.bool true)
          have hbs := hb.setCell (p := ⟨w.heap.size + 1, itP p n k, none⟩) (by simp) (.bool true)
          have hzs : N6 ≤ (wr.setCell ⟨w.heap.size + 1, itP p n k, none⟩ (.bool true)).heap.size := by simp [World.setCell]; omega
          rw [HBS.out] at s1
          clear hm o1 o0 hown ob hb
          generalize itP p n k = x at *
          go_wp2_with fail
          generalize wr.setCell ⟨w.heap.size + 1, x, none⟩ (.bool true) = w5 at *
          refine (implLetter_any (x : Int) _ (by omega) (by omega)).mono ?_
          rintro e w' ⟨rfl, rfl⟩
          go_wp2_with (at_builtin; ((with_reducible refine wl_push 22 5 info_byte Tryz.underlying22 rfl (by omega) sob (by omega) rfl (by simp [Value.oneCell']) (by omega) (by omega) rfl rfl ?_); intro g7 cap w7 o7 b7 k7; have q2 := s0.below b7 (show w.heap.size < N6 by omega); have e3 := q2.at_ (pv_at (p := p) (i := x) (by rw [hp.len]; exact hx))))
          have q1 := s1.below b7 (show w.heap.size + 1 < N6 by omega)
          go_roundw
          case rel => exact ⟨n + 1, by omega, fun h => absurd h HKF.out, by rw [HIT.out], by rw [HPS.out, lts_snoc, bv_append]; exact o7, sown.belowN b7 hgb, q2, by rw [HPS.out, ← List.append_assoc]; exact q1, hbs.trans (b7.mono (by omega)), by omega⟩
          case measure => simp [sliceN]; omega
    · have hk' : k = 10 := by omega
      subst hk'
      go_wp2
      go_ret
      exact ⟨_, rfl, by rw [show (cycs p).length = (cycsTo p 10).length from rfl]; exact World.ownsRow.mono hown (by omega), hb⟩
end Go.Proofs.YtnnblmibonnpcaaGreat

/- A contract of the library, laid by the shelf's tools at this program (plain form). -/
namespace Go.Proofs
open Go.Shelf
def Tryz.lays189_ren : Go.Shelf.Ren := ⟨fun | 189 => 53 | 125 => 77 | 257 => 76 | 128 => 101 | 129 => 102 | 294 => 92 | 295 => 93 | 296 => 94 | 297 => 95 | 298 => 96 | 299 => 97 | 216 => 98 | 300 => 99 | 301 => 100 | 328 => 115 | 329 => 116 | 330 => 117 | 331 => 118 | 332 => 119 | 215 => 120 | 343 => 129 | n => n, fun | 28 => 56 | 3 => 3 | 46 => 104 | 0 => 0 | 51 => 123 | 53 => 125 | 4 => 4 | 183 => 115 | 182 => 114 | 131 => 120 | 5 => 5 | 9 => 9 | 218 => 130 | 222 => 134 | 228 => 138 | 229 => 139 | n => n, fun | n => n⟩
theorem Tryz.lays189 : Go.Proofs.Lays.n189 Tryz.prog Tryz.lays189_ren := {
  mixed := by kernel_rfl
  f125 := Tryz.func77.trans (congrArg some (by kernel_rfl))
  f128 := Tryz.func101.trans (congrArg some (by kernel_rfl))
  f129 := Tryz.func102.trans (congrArg some (by kernel_rfl))
  f189 := Tryz.func53.trans (congrArg some (by kernel_rfl))
  f215 := Tryz.func120.trans (congrArg some (by kernel_rfl))
  f216 := Tryz.func98.trans (congrArg some (by kernel_rfl))
  f257 := Tryz.func76.trans (congrArg some (by kernel_rfl))
  f294 := Tryz.func92.trans (congrArg some (by kernel_rfl))
  f295 := Tryz.func93.trans (congrArg some (by kernel_rfl))
  f296 := Tryz.func94.trans (congrArg some (by kernel_rfl))
  f297 := Tryz.func95.trans (congrArg some (by kernel_rfl))
  f298 := Tryz.func96.trans (congrArg some (by kernel_rfl))
  f299 := Tryz.func97.trans (congrArg some (by kernel_rfl))
  f300 := Tryz.func99.trans (congrArg some (by kernel_rfl))
  f301 := Tryz.func100.trans (congrArg some (by kernel_rfl))
  f328 := Tryz.func115.trans (congrArg some (by kernel_rfl))
  f329 := Tryz.func116.trans (congrArg some (by kernel_rfl))
  f330 := Tryz.func117.trans (congrArg some (by kernel_rfl))
  f331 := Tryz.func118.trans (congrArg some (by kernel_rfl))
  f332 := Tryz.func119.trans (congrArg some (by kernel_rfl))
  f343 := Tryz.func129.trans (congrArg some (by kernel_rfl))
  t0 := Tryz.underlying0
  a0 := Tryz.isAgg0
  z0 := Tryz.sizeOf0
  v0 := Tryz.zeroValue0
  t3 := Tryz.underlying3
  a3 := Tryz.isAgg3
  z3 := Tryz.sizeOf3
  v3 := Tryz.zeroValue3
  t4 := Tryz.underlying4
  a4 := Tryz.isAgg4
  z4 := Tryz.sizeOf4
  v4 := Tryz.zeroValue4
  t5 := Tryz.underlying5
  a5 := Tryz.isAgg5
  z5 := Tryz.sizeOf5
  v5 := Tryz.zeroValue5
  t9 := Tryz.underlying9
  a9 := Tryz.isAgg9
  z9 := Tryz.sizeOf9
  v9 := Tryz.zeroValue9
  t28 := Tryz.underlying56
  a28 := Tryz.isAgg56
  z28 := Tryz.sizeOf56
  v28 := Tryz.zeroValue56
  t46 := Tryz.underlying104
  a46 := Tryz.isAgg104
  z46 := Tryz.sizeOf104
  v46 := Tryz.zeroValue104
  t51 := Tryz.underlying123
  a51 := Tryz.isAgg123
  z51 := Tryz.sizeOf123
  v51 := Tryz.zeroValue123
  t53 := Tryz.underlying125
  a53 := Tryz.isAgg125
  z53 := Tryz.sizeOf125
  v53 := Tryz.zeroValue125
  t131 := Tryz.underlying120
  a131 := Tryz.isAgg120
  z131 := Tryz.sizeOf120
  v131 := Tryz.zeroValue120
  t182 := Tryz.underlying114
  a182 := Tryz.isAgg114
  z182 := Tryz.sizeOf114
  v182 := Tryz.zeroValue114
  t183 := Tryz.underlying115
  a183 := Tryz.isAgg115
  z183 := Tryz.sizeOf115
  v183 := Tryz.zeroValue115
  t218 := Tryz.underlying130
  a218 := Tryz.isAgg130
  z218 := Tryz.sizeOf130
  v218 := Tryz.zeroValue130
  t222 := Tryz.underlying134
  a222 := Tryz.isAgg134
  z222 := Tryz.sizeOf134
  v222 := Tryz.zeroValue134
  t228 := Tryz.underlying138
  a228 := Tryz.isAgg138
  z228 := Tryz.sizeOf138
  v228 := Tryz.zeroValue138
  t229 := Tryz.underlying139
  a229 := Tryz.isAgg139
  z229 := Tryz.sizeOf139
  v229 := Tryz.zeroValue139 }
open Go.Sort Go.RowKit in
theorem Tryz.slices_Sort_int (blk off cap : Nat) (zs : List Int) (w : World) (hH : Holds (Value.int .i64) w blk off zs.toArray) (hblk : blk < w.heap.size) (hsz : zs.length < 4611686018427387904) :
    Calls Tryz.prog 53 #[.slice (some ⟨blk, off, none⟩) zs.length cap] w fun e w' =>
      e = .returned (.tuple #[]) ∧ ∃ n os, w' = grow (putRow (Value.int .i64) (Sort.ahead w n) blk off (zs.mergeSort fun x y => decide (x ≤ y)).toArray) os := Any.slices_Sort_int Tryz.lays189 blk off cap zs w hH hblk hsz
def Tryz.lays112_ren : Go.Shelf.Ren := ⟨fun | 112 => 54 | n => n, fun | 28 => 56 | 3 => 3 | 4 => 4 | 0 => 0 | n => n, fun | n => n⟩
theorem Tryz.lays112 : Go.Proofs.Lays.n112 Tryz.prog Tryz.lays112_ren := {
  mixed := by kernel_rfl
  f112 := Tryz.func54.trans (congrArg some (by kernel_rfl))
  t0 := Tryz.underlying0
  a0 := Tryz.isAgg0
  z0 := Tryz.sizeOf0
  v0 := Tryz.zeroValue0
  t3 := Tryz.underlying3
  a3 := Tryz.isAgg3
  z3 := Tryz.sizeOf3
  v3 := Tryz.zeroValue3
  t4 := Tryz.underlying4
  a4 := Tryz.isAgg4
  z4 := Tryz.sizeOf4
  v4 := Tryz.zeroValue4
  t28 := Tryz.underlying56
  a28 := Tryz.isAgg56
  z28 := Tryz.sizeOf56
  v28 := Tryz.zeroValue56 }
open Go.RowKit Go.Lib Go.Sort in
theorem Tryz.slices_Reverse_int_arr (blk off cap : Nat) (d : Array Int) (w : World) (hH : Holds encI w blk off d) (hsz : d.size ≤ 9223372036854775807) :
    Calls Tryz.prog 54 #[.slice (some ⟨blk, off, none⟩) d.size cap] w fun e w' => e = .returned (.tuple #[]) ∧ ∃ n, w' = putRow encI (Sort.ahead w n) blk off d.reverse := Any.slices_Reverse_int_arr Tryz.lays112 blk off cap d w hH hsz
open Go.RowKit Go.Lib Go.Sort in
theorem Tryz.slices_Reverse_int (blk off cap : Nat) (zs : List Int) (w : World) (hH : Holds (Value.int .i64) w blk off zs.toArray) (hsz : zs.length ≤ 9223372036854775807) :
    Calls Tryz.prog 54 #[.slice (some ⟨blk, off, none⟩) zs.length cap] w fun e w' => e = .returned (.tuple #[]) ∧ ∃ n, w' = putRow (Value.int .i64) (Sort.ahead w n) blk off zs.reverse.toArray := Any.slices_Reverse_int Tryz.lays112 blk off cap zs w hH hsz
open Go.RowKit Go.Lib Go.Sort in
theorem Tryz.slices_Reverse_int_empty (a : Option Addr) (cap : Nat) (w : World) :
    Calls Tryz.prog 54 #[.slice a 0 cap] w fun e w' => e = .returned (.tuple #[]) ∧ w' = w := Any.slices_Reverse_int_empty Tryz.lays112 a cap w
open Go.RowKit Go.Sort in
theorem Tryz.slices_Sort_int_none (p : Option Addr) (cap : Nat) (w : World) :
    Calls Tryz.prog 53 #[.slice p 0 cap] w fun e w' => e = .returned (.tuple #[]) ∧ w' = w := Any.slices_Sort_int_none Tryz.lays189 p cap w
end Go.Proofs

/- slices.Sort and slices.Reverse on a slice of integers that the call owns. -/
namespace Go.Proofs.YtnnblmibonnpcaaGreat
open Go.RowKit Go.Sort

/-- Some integers, sorted. -/
def sortI (ns : List Int) : List Int := ns.mergeSort fun a b => decide (a ≤ b)
theorem len_sortI (ns : List Int) : (sortI ns).length = ns.length := by simp [sortI]
theorem iv_append (a b : List Int) : iv (a ++ b) = iv a ++ iv b := by simp [iv]
theorem OwR.holdsI {w : World} {base g cap : Nat} {cur : Array Value} {fr : Nat × Nat} {ns : List Int} (h : OwR w base 3 1 (.slice (some ⟨g, 0, none⟩) ns.length cap) ns.length (iv ns)) (hh : w.heap[g]? = some (.cells cur 3 fr)) (hfr : fr = (0, 0)) : Holds (Value.int .i64) w g 0 ns.toArray := by
  intro j hj
  simp only [List.size_toArray] at hj
  subst hfr
  refine ⟨?_, by simp [World.frozen?, hh]⟩
  rw [Nat.zero_add, World.ownsRow.cellAt h j (by omega), iv_at hj]
  rw [getElem!_pos _ j (by simpa using hj)]
  simp
theorem slicesSortI_any (v : Value) (ns : List Int) (base : Nat) (w : World) (h : OwR w base 3 1 v ns.length (iv ns)) (hl : ns.length ≤ 1048576) :
    Calls Tryz.prog 53 #[v] w fun e w' => e = .returned (.tuple #[]) ∧ OwR w' base 3 1 v ns.length (iv (sortI ns)) ∧ Below base w w' := by
  rcases h.2 with ⟨rfl, h0⟩ | ⟨g, cap, cur, rfl, hg, hh, hn, hm, hs, ht⟩
  · have hss : ns = [] := List.eq_nil_of_length_eq_zero h0
    subst hss
    refine (Tryz.slices_Sort_int_none none 0 w).mono ?_
    rintro e w' ⟨rfl, rfl⟩
    exact ⟨rfl, by simpa [sortI] using h, Below.refl _ _⟩
  · have hlt : g < w.heap.size := by
      rcases Nat.lt_or_ge g w.heap.size with h1 | h1
      · exact h1
      · rw [Array.getElem?_eq_none h1] at hh; cases hh
    refine (Tryz.slices_Sort_int g 0 cap ns w (OwR.holdsI h hh rfl) hlt (by omega)).mono ?_
    rintro e w' ⟨rfl, n, os, rfl⟩
    refine ⟨rfl, ?_, ?_⟩
    · exact ownsRow_sortedI (w := w) (base := base) (n := n) (os := os) (ss := ns) (ts := sortI ns) (len_sortI ns) hg hh hn hm hs
    · exact (Below.refl base w).grown (grownBy_sortedI _) (by omega) (fun k hk => by cases hk; exact hg)
theorem slicesReverseI_any (v : Value) (ns : List Int) (base : Nat) (w : World) (h : OwR w base 3 1 v ns.length (iv ns)) (hl : ns.length ≤ 1048576) :
    Calls Tryz.prog 54 #[v] w fun e w' => e = .returned (.tuple #[]) ∧ OwR w' base 3 1 v ns.length (iv ns.reverse) ∧ Below base w w' := by
  rcases h.2 with ⟨rfl, h0⟩ | ⟨g, cap, cur, rfl, hg, hh, hn, hm, hs, ht⟩
  · have hss : ns = [] := List.eq_nil_of_length_eq_zero h0
    subst hss
    refine (Tryz.slices_Reverse_int_empty none 0 w).mono ?_
    rintro e w' ⟨rfl, rfl⟩
    exact ⟨rfl, by simpa using h, Below.refl _ _⟩
  · have hlt : g < w.heap.size := by
      rcases Nat.lt_or_ge g w.heap.size with h1 | h1
      · exact h1
      · rw [Array.getElem?_eq_none h1] at hh; cases hh
    refine (Tryz.slices_Reverse_int g 0 cap ns w (OwR.holdsI h hh rfl) (by omega)).mono ?_
    rintro e w' ⟨rfl, n, rfl⟩
    have e0 : putRow (Value.int .i64) (Sort.ahead w n) g 0 ns.reverse.toArray = grow (putRow (Value.int .i64) (Sort.ahead w n) g 0 ns.reverse.toArray) #[] := by simp [grow, putRow, Sort.ahead]
    refine ⟨rfl, ?_, ?_⟩
    · rw [e0]
      exact ownsRow_sortedI (w := w) (base := base) (n := n) (os := #[]) (ss := ns) (ts := ns.reverse) (by simp) hg hh hn hm hs
    · rw [e0]
      exact (Below.refl base w).grown (grownBy_sortedI _) (by omega) (fun k hk => by cases hk; exact hg)
end Go.Proofs.YtnnblmibonnpcaaGreat

/- The lengths of the cycles of a permutation, in the program; whether they come in pairs. -/
namespace Go.Proofs.YtnnblmibonnpcaaGreat
open Go.RowKit

/-- The lengths of the cycles. -/
def lensI (p : List Nat) (k : Nat) : List Int := ((cycs p).take k).map fun c => (c.length : Int)
/-- The lengths of the cycles, longest first. -/
def lenD (p : List Nat) : List Int := (sortI (lensI p (cycs p).length)).reverse
theorem lensI_succ {p : List Nat} {k : Nat} (h : k < (cycs p).length) : lensI p (k + 1) = lensI p k ++ [((cycs p)[k].length : Int)] := by
  unfold lensI
  rw [List.take_succ_eq_append_getElem h, List.map_append]; rfl
theorem len_lensI {p : List Nat} {k : Nat} (h : k ≤ (cycs p).length) : (lensI p k).length = k := by
  unfold lensI
  rw [List.length_map, List.length_take]; omega
theorem len_lenD (p : List Nat) : (lenD p).length = (cycs p).length := by
  unfold lenD
  rw [List.length_reverse, len_sortI, len_lensI (Nat.le_refl _)]
theorem mem_lenD {p : List Nat} (hp : IsP p) : ∀ x ∈ lenD p, ∃ n : Nat, x = (n : Int) ∧ 1 ≤ n ∧ n ≤ 10 := by
  intro x hx
  unfold lenD sortI at hx
  rw [List.mem_reverse, List.mem_mergeSort] at hx
  unfold lensI at hx
  rw [List.take_length] at hx
  obtain ⟨c, hc, rfl⟩ := List.mem_map.1 hx
  have := cycsTo_size hp (Nat.le_refl 10) c hc
  exact ⟨c.length, rfl, this.1, this.2⟩
theorem inf_int : (Tryz.prog.info? 3).map (fun i => (i.zero, i.size, i.bytes)) = some (some (.int .i64 0), 1, 8) := by kernel_rfl
set_option maxRecDepth 100000 in
set_option maxHeartbeats 2000000 in
theorem lengths_any (p : List Nat) (w : World) (hp : IsP p) :
    Calls Tryz.prog 29 #[.agg (pv p).toArray] w (RowPost 3 1 (cycs p).length (iv (lenD p)) w) := by
  have o0 := Own.new w (pv p) 42
  have hb0 := (Below.refl w.heap.size w).alloc (Nat.le_refl _) (.cells (pv p).toArray 42)
  have hcl : (cycs p).length ≤ 10 := cycsTo_len p 10
  have hcy := fun W => cycles_any p W hp
  have HLS := Lib.hid (fun k h => @lensI_succ p k h)
  have HLL := Lib.hid (fun k h => @len_lensI p k h)
  have HLD : Hid (lenD p = (sortI (lensI p (cycs p).length)).reverse) := Lib.hid rfl
  have HSZ : Hid (∀ j (h : j < (cycs p).length), (wd (cycs p)[j]).size = (cycs p)[j].length ∧ (cycs p)[j].length ≤ 10) := Lib.hid (fun j h => ⟨size_wd _, (cycsTo_size hp (Nat.le_refl 10) _ (List.getElem_mem h)).2⟩)
  generalize lenD p = ld at *
  generalize lensI p = li at *
  generalize cycs p = cs at *
  go_enter Tryz.func29, Tryz.ntmps29
  go_wp2_with ((with_reducible refine wl_load 42 o0.cells (size_pv hp.len) Tryz.underlying42 ?_ ?_ ?_ ?_); (· rfl); (· rfl); (· rfl))
  refine (hcy _).mono ?_
  rintro e w1 ⟨cv, rfl, oc, hb1⟩
  obtain ⟨ca, cc, rfl, -, hrc, -⟩ := OwR.val oc
  have hbw1 := bt hb0 hb1
  have hz1 := hbw1.size
  clear hb0 hb1 oc o0
  have HRC := Lib.hid (fun (W : World) (hb : Below w1.heap.size w1 W) => hrc.below hb (Nat.le_refl _))
  clear hrc
  go_wp2_with fail
  go_loopw [3, 5, 9] (fun u _ i wr => ∃ k : Nat, k ≤ cs.length ∧ i = .int .i64 k ∧ OwR wr w1.heap.size 3 1 u k (iv (li k)) ∧ Below w1.heap.size w1 wr) (fun _ _ i _ => cs.length - (intOf i).toNat)
  case atStart => exact ⟨0, Nat.zero_le _, rfl, by have := HLL.out _ (Nat.zero_le _); rw [List.eq_nil_of_length_eq_zero this]; exact World.ownsRow_nil _ _ _ _, Below.refl _ _⟩
  case round =>
    obtain ⟨k, hk, rfl, hown, hb⟩ := hrel
    have hz := hb.size
    obtain ⟨la, lc, rfl, -, -, -⟩ := OwR.val hown
    by_cases hlt : k < cs.length
    · obtain ⟨b, off, rfl, hbl, hcl2⟩ := (HRC.out _ hb).open_ (by rw [length_sv, List.length_map]; omega)
      have c1 := hcl2 k (by rw [length_sv, List.length_map]; exact hlt)
      rw [sv_at (by rw [List.length_map]; exact hlt), List.getElem_map] at c1
      clear hcl2
      have q1 : (0 : Int) ≤ (k : Int) := by omega
      have q2 : (k : Int) < (cs.length : Int) := by omega
      obtain ⟨s1, s2⟩ := HSZ.out k hlt
      have HS1 := Lib.hid s1
      have hs3 : (wd cs[k]).size ≤ 10 := by omega
      have HN := Lib.hid (HLS.out _ hlt)
      clear s1 s2
      generalize wd cs[k] = s at *
      go_wp2_with (at_builtin; ((with_reducible refine wl_push 56 3 inf_int Tryz.underlying56 rfl (by omega) hown (by omega) rfl (by simp [Value.oneCell']) (by omega) (by omega) rfl rfl ?_); intro g7 cap w7 o7 b7 k7))
      go_roundw
      case rel => exact ⟨k + 1, by omega, by go_num, by rw [HN.out, iv_append, ← HS1.out]; exact o7, hb.trans b7⟩
      case measure => simp [intOf]; omega
    · have hk' : k = cs.length := by omega
      subst hk'
      have hll := HLL.out _ (Nat.le_refl _)
      have h1 : OwR wr w1.heap.size 3 1 (.slice la (li cs.length).length lc) (li cs.length).length (iv (li cs.length)) := by rw [hll]; exact hown
      have hso := fun W (h : OwR W w1.heap.size 3 1 (.slice la (li cs.length).length lc) (li cs.length).length (iv (li cs.length))) => slicesSortI_any _ (li cs.length) w1.heap.size W h (by omega)
      have hre := fun W (h : OwR W w1.heap.size 3 1 (.slice la (sortI (li cs.length)).length lc) (sortI (li cs.length)).length (iv (sortI (li cs.length)))) => slicesReverseI_any _ (sortI (li cs.length)) w1.heap.size W h (by rw [len_sortI]; omega)
      rw [len_sortI, hll] at hre
      rw [hll] at hso h1
      clear hown
      go_wp2_with fail
      refine (hso _ h1).mono ?_
      rintro e w2 ⟨rfl, h2, hb2⟩
      go_wp2_with fail
      refine (hre _ h2).mono ?_
      rintro e w3 ⟨rfl, h3, hb3⟩
      go_wp2
      go_ret
      exact ⟨_, rfl, by rw [HLD.out]; exact World.ownsRow.mono h3 (by omega), hbw1.trans (((hb.trans hb2).trans hb3).mono (by omega))⟩
end Go.Proofs.YtnnblmibonnpcaaGreat
