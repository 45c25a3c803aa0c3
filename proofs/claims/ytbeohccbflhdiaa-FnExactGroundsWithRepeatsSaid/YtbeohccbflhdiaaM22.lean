/- Several of my texts in one: PushG, ProdS. -/
import Derived.Test.YtbeohccbflhdiaaM8
import Derived.Test.YtbeohccbflhdiaaM6
import Derived.Test.YtbeohccbflhdiaaM9
import Derived.Test.YtbeohccbflhdiaaM10
/- 'x = append(x, u)' at a step of a region that draws, and where the new row lies. -/
namespace Go.Proofs.Ytbeohccbflhdiaa
open Go.RowKit
section
variable {P : Program} {ops : Array Oper} {o : Oper} {a : Act} {w0 : World} {K : Act → World → Prop} {Q : Exit → Act → World → Prop} {E : Prop}
theorem st_pushG (t e : TypeId) {s x : Operand} {z : Value} {sz bytes : Nat} (hinfo : (P.info? e).map (fun i => (i.zero, i.size, i.bytes)) = some (some z, sz, bytes)) (ht : P.underlying t = some (.slice e)) (hzs : z.cells.size = sz) (hsz : 0 < sz)
    {base n : Nat} {v : Value} {xs us : List Value} (hgd : o.guard = none) (ho : o.op = .call { callee := .builtin .append, args := #[s, x], argTypes := #[t, t] }) (hown : OwR w0 base e sz v n xs) (hb : base ≤ w0.heap.size) (hus : us.length = sz) (h1 : ∀ u ∈ us, u.oneCell' = true) (hn : n ≤ 1048576) (hby : bytes ≤ 1000)
    (hs : a.eval s = v) (hx : a.eval x = .slice (some ⟨w0.heap.size, 0, none⟩) 1 1)
    (h : ∀ g cap w', OwR w' base e sz (.slice (some ⟨g, 0, none⟩) (n + 1) cap) (n + 1) (xs ++ us) → w0.grownBy w' v.ownBlock → (v.ownBlock = some g ∨ w0.heap.size < g) → w0.heap.size < w'.heap.size → Below base w0 w' → K (a.put o.dst (.slice (some ⟨g, 0, none⟩) (n + 1) cap)) w') :
    if Region.wanted o (yielded ops a.tmps) = true then Oper.wp P o a (w0.alloc (.cells us.toArray e)) K Q else E := by
  obtain ⟨i0, hi0, hz0, hz1, hz2⟩ := info_parts hinfo
  refine step_append_lies _ hgd s x t ho base e i0 z sz bytes ht hi0 hz0 hz1 hz2 hzs hsz v n xs hs (World.ownsRow.alloc hown _) ⟨w0.heap.size, 0, none⟩ 1 1 us hx (by omega) ?_ h1 (by omega) (by unfold maxLen; omega) ?_ (by simp; omega) (w0.heap.size + 1) (by simp) ?_
  · intro j u hu
    rw [add_none, Nat.zero_add, World.cell?_alloc_mark]; simpa using hu
  · have : (n + 1) * bytes ≤ (1048576 + 1) * 1000 := Nat.mul_le_mul (by omega) hby
    omega
  · intro g cap w' ho hg hat hlt
    have hs' := hg.size
    simp only [World.size_alloc] at hs'
    refine h g cap w' ho ?_ ?_ (by omega) ?_
    · exact ⟨hg.os, hg.tape, hg.output, by omega, fun k hk hne => (hg.block k (by simp; omega) hne).trans (Below.heap_alloc w0 _ k hk)⟩
    · rcases hat with h1 | h1
      · exact .inl h1
      · exact .inr (by omega)
    · refine ((Below.refl base w0).alloc hb _).grown hg (by simp; omega) (fun k hk => ?_)
      exact (World.ownsRow.lt hown k hk).1
end
/-- What is owned elsewhere stays when a row grows. -/
theorem Own.grownO {w w' : World} {g : Nat} {cs : List Value} {b : Option Nat} (h : Own w g cs) (hg : w.grownBy w' b) (hr : b ≠ some g) : Own w' g cs :=
  h.keep (Nat.lt_of_lt_of_le h.lt hg.size) (hg.block g h.lt (fun e => hr e.symm))
end Go.Proofs.Ytbeohccbflhdiaa

/- The day products of the specification. -/
namespace Go.Proofs.Ytbeohccbflhdiaa
open Go.RowKit

/-- The products as words. -/
def prodS (m : Mach) (v : ByteArray) (k : Nat) : List ByteArray := (List.range k).map fun i => wd (prodP m v i)
theorem len_prodS (m : Mach) (v : ByteArray) (k : Nat) : (prodS m v k).length = k := by simp [prodS]
theorem prodS_snoc (m : Mach) (v : ByteArray) (k : Nat) : prodS m v (k + 1) = prodS m v k ++ [wd (prodP m v k)] := by simp [prodS, List.range_succ]
theorem at_keyS2 (m : Mach) (v : ByteArray) {n k : Nat} (h : k < n) : (sv (keyS m v n))[k]? = some (.string (wd (keyN m v k))) := by
  simp [sv, keyS, h]
theorem OwR.lt1 {w : World} {base n sz g B : Nat} {e : TypeId} {v : Value} {xs : List Value} (_h : OwR w base e sz v n xs) (hg : g < w.heap.size) (hB : B ≤ g) : B ≤ w.drew.heap.size := by
  show B ≤ w.heap.size
  omega
/-- What DayProducts answers. -/
def prodT (m : Mach) (v : ByteArray) : List ByteArray := if setB m v = true then prodS m v v.size else []

set_option maxRecDepth 100000 in
set_option maxHeartbeats 1000000 in
theorem l10Products_any (a : Option Addr) (n c : Nat) (m : Mach) (v : ByteArray) (w : World) (h : MachAt w w.heap.size a n m) (hs : setB m v = true) :
    Calls Try.prog 122 #[.agg #[.slice a n c, .string m.wheels.refl, .string m.rings, .string m.plugs], .string v] w (RowPost 9 1 (prodS m v v.size).length (sv (prodS m v v.size)) w) := by
  have hmb := setB_mach hs
  have hv3 : v.size ≤ 3 := by rw [setB_len hs]; exact (machB_fit hmb).three
  have hv1 : 1 ≤ v.size := by rw [setB_len hs]; exact (machB_fit hmb).one
  have o0 := Own.new w [.slice a n c, .string m.wheels.refl, .string m.rings, .string m.plugs] 27
  have hb0 := (Below.refl w.heap.size w).alloc (Nat.le_refl _) (.cells [.slice a n c, .string m.wheels.refl, .string m.rings, .string m.plugs].toArray 27)
  have h' := h.alloc_ (.cells [.slice a n c, .string m.wheels.refl, .string m.rings, .string m.plugs].toArray 27)
  obtain ⟨N, hN⟩ : ∃ N : Nat, N = 2 * v.size := ⟨_, rfl⟩
  have hmul : IntKind.i64.wrap (2 * (v.size : Int)) = (N : Int) := by rw [hN]; rw [IntWalk.i64_in _ (by omega)]; omega
  have HN := Lib.hid hN
  have hN6 : N ≤ 6 := by omega
  clear hN
  have z0 : OwR ((w.alloc (.cells [.slice a n c, .string m.wheels.refl, .string m.rings, .string m.plugs].toArray 27)).alloc (.cells #[] 9)) (w.heap.size + 1) 9 1 (.slice (some ⟨w.heap.size + 1, 0, none⟩) 0 0) 0 (sv (prodS m v 0)) := by
    have := World.ownsRow_lit (base := w.heap.size + 1) (e := 9) (size := 1) (w.alloc (.cells [.slice a n c, .string m.wheels.refl, .string m.rings, .string m.plugs].toArray 27)) #[] 0 (by simp) (by unfold maxLen; omega) (by simp)
    simpa [sv, prodS] using this
  have hb1 := hb0.alloc (by simp) (.cells #[] 9)
  have h2 := h'.alloc_ (.cells #[] 9)
  have o1 := o0.alloc (.cells #[] 9)
  have f0 := o1.at_ (i := 0) rfl
  have f1 := o1.at_ (i := 1) rfl
  have f2 := o1.at_ (i := 2) rfl
  have f3 := o1.at_ (i := 3) rfl
  clear o0 hb0 h'
  go_enter Try.func122, Try.ntmps122
  go_wp2_with fail
  refine (l8Perms_any a n c m v N _ h2 hs (by omega)).mono ?_
  rintro e w2 ⟨lv, rfl, hol, hb2⟩
  rw [len_keyS] at hol
  obtain ⟨al, cl, rfl, hlc, -, hg⟩ := hol.val
  obtain ⟨g, rfl, hgb, og⟩ := hg.resolve_left (by have := HN.out; omega)
  have z1 := OwR.below z0 hb2 (Nat.le_refl _)
  have hbw2 := bt hb1 hb2
  simp only [World.size_alloc] at hgb
  have hne : (Value.slice (some ⟨w.heap.size + 1, 0, none⟩) 0 0).ownBlock ≠ some g := by simp [Value.ownBlock]; omega
  clear z0 hb1 hb2 h2 o1 f0 f1 f2 f3 hol h
  have hkey : ∀ k, k < N → (sv (keyS m v N))[k]? = some (.string (wd (keyN m v k))) := fun k hk => at_keyS2 m v hk
  have HK := Lib.hid hkey
  have HMB := Lib.hid hmb
  clear hkey hmb hs
  go_wp2_with fail
  go_loopw [5, 7] (fun u i wr => ∃ k : Nat, k ≤ v.size ∧ i = .int .i64 k ∧ u.ownBlock ≠ some g ∧ OwR wr (w.heap.size + 1) 9 1 u k (sv (prodS m v k)) ∧ Own wr g (sv (keyS m v N)) ∧ Below w.heap.size w wr) (fun _ i _ => v.size - (intOf i).toNat)
  case atStart => exact ⟨0, Nat.zero_le _, rfl, hne, z1, og, hbw2⟩
  case round =>
    clear z1 og hbw2 hne
    obtain ⟨k, hk, rfl, hne, hown, og, hb⟩ := hrel
    by_cases hlt : k < v.size
    · have hn2 := HN.out
      have hkn : k < N := by omega
      have hkn2 : k + v.size < N := by omega
      have f0 := og.at_ (HK.out k hkn)
      have f1 := og.at_ (HK.out (k + v.size) hkn2)
      have hp1 := isP_keyN HMB.out v k
      have hp2 := isP_keyN HMB.out v (k + v.size)
      have n1 := fun W => l2Then_any _ _ W hp1 hp2
      have HS := Lib.hid (prodS_snoc m v k)
      have HP : Hid (wd (thenP (keyN m v k) (keyN m v (k + v.size))) = wd (prodP m v k)) := Lib.hid rfl
      rw [HP.out] at n1
      generalize hy1 : wd (keyN m v k) = y1 at f0 n1
      generalize hy2 : wd (keyN m v (k + v.size)) = y2 at f1 n1
      have q1 : (0 : Int) ≤ (k : Int) := by omega
      have q2 : (k : Int) < (N : Int) := by omega
      obtain ⟨q, hq⟩ : ∃ q : Nat, q = k + v.size := ⟨_, rfl⟩
      have hadd : IntKind.i64.wrap ((k : Int) + (v.size : Int)) = (q : Int) := by rw [IntWalk.i64_in _ (by omega)]; omega
      have q3 : (0 : Int) ≤ (q : Int) := by omega
      have q4 : (q : Int) < (N : Int) := by omega
      rw [← hq] at f1
      have HK1 : ∀ {W : World}, Own W g (sv (keyS m v N)) → W.cell? ⟨g, q, none⟩ = some (.string y2) := fun o => by rw [hq]; exact (o.at_ (HK.out (k + v.size) hkn2)).trans (by rw [hy2])
      have HK0 : ∀ {W : World}, Own W g (sv (keyS m v N)) → W.cell? ⟨g, k, none⟩ = some (.string y1) := fun o => (o.at_ (HK.out k hkn)).trans (by rw [hy1])
      clear hq hy1 hy2
      have hz := hb.size
      have lg := og.lt
      have hownd : OwR wr.drew (w.heap.size + 1) 9 1 u5 k (sv (prodS m v k)) := hown
      have ogd : Own wr.drew g (sv (keyS m v N)) := og.drew
      have hzb : w.heap.size + 1 ≤ wr.drew.heap.size := (OwR.lt1 hown lg (by omega))
      clear hn2 hkn hkn2 hp1 hp2
      have ow1 := fun {w2 : World} (hb2 : Below wr.drew.heap.size wr.drew w2) => OwR.below hownd hb2 (Nat.le_refl _)
      have og1 := fun {w2 : World} (hb2 : Below wr.drew.heap.size wr.drew w2) => ogd.below hb2 (show g < wr.drew.heap.size from lg)
      go_wp2_with fail
      go_region_held3 (fun w' => w'.cell? ⟨g, k, none⟩ = some (.string y1) ∧ w'.cell? ⟨g, q, none⟩ = some (.string y2)) (first | go_keep | exact ⟨k0, k1⟩ | exact ⟨i0, i1⟩)
        (first | (go_at_call 118; refine (n1 _).mono ?_; rintro e w3 ⟨rfl, hb3⟩; have q0 := ow1 hb3; have p0 := og1 hb3; have k0 := HK0 p0; have k1 := HK1 p0) | (refine st_pushG 30 9 inf_str Try.underlying30 rfl (by omega) (by rfl) (by rfl) q0 (by have := hb3.size; omega) rfl (by simp [Value.oneCell']) (by omega) (by omega) (by rfl) (by rfl) ?_; intro g4 cap w4 o4 g4g g4n s4 b4; have p4 := p0.grownO g4g hne; have i0 := HK0 p4; have i1 := HK1 p4))
      all_goals
        go_wp2
        have hne4 : (Value.slice (some ⟨g4, 0, none⟩) (k + 1) cap).ownBlock ≠ some g := by
          rcases g4n with h1 | h1
          · rw [h1] at hne; exact hne
          · have := p0.lt; simp [Value.ownBlock]; omega
        go_roundw
        case rel =>
          refine ⟨k + 1, by omega, by go_num, hne4, ?_, p4, (hb.drew.trans (hb3.mono (by omega))).trans (b4.mono (by omega))⟩
          rw [HS.out, sv_append]
          exact o4
        case measure => simp [intOf]; omega
    · have hk' : k = v.size := by omega
      subst hk'
      go_wp2
      go_ret
      refine ⟨_, rfl, ?_, hb⟩
      rw [len_prodS]
      exact World.ownsRow.mono hown (by omega)
end Go.Proofs.Ytbeohccbflhdiaa
