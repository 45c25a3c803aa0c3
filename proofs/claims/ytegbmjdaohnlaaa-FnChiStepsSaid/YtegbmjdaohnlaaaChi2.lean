/- Contracts of the tapes of the first wheels. -/
import Derived.Test.YtegbmjdaohnlaaaChi
namespace Go.Proofs.Ytegbmjdaohnlaaa
open Go.RowKit

theorem info_u8' : (Try.prog.info? 5).map (fun i => (i.zero, i.size, i.bytes)) = some (some (.int .u8 0), 1, 1) := by kernel_rfl

/-- A slice of bytes that the call owns from 'base' on. -/
def OwnB (w : World) (base : Nat) (v : Value) (l : List UInt8) : Prop := w.ownsRow base 5 1 v l.length (bv l)
theorem OwnB.below {w w' : World} {base : Nat} {v : Value} {l : List UInt8} (h : OwnB w base v l) (hb : Below w.heap.size w w') : OwnB w' base v l :=
  World.ownsRow.kept h (row := none) ⟨hb.os, hb.tape, hb.output, hb.size, fun i hi _ => hb.block i hi⟩ (by
    cases e : v.ownBlock with
    | none => exact .inl rfl
    | some g => exact .inr (by simp))
theorem OwnB.snoc {w3 : World} {base gg cap : Nat} {l : List UInt8} {c : UInt8} (h : w3.ownsRow base 5 1 (.slice (some ⟨gg, 0, none⟩) (l.length + 1) cap) (l.length + 1) (bv l ++ [.int .u8 (c.toNat : Int)])) : OwnB w3 base (.slice (some ⟨gg, 0, none⟩) (l.length + 1) cap) (l ++ [c]) := by
  unfold OwnB
  simpa [bv] using h
theorem farB {w : World} {base B : Nat} {v : Value} {l : List UInt8} (h : OwnB w base v l) (hB : B < base) : some B ≠ v.ownBlock := by
  intro e
  have := (World.ownsRow.lt h B e.symm).1
  omega
theorem OwnB.conv {P : Program} {w : World} {base : Nat} {v : Value} {l : List UInt8} (h : OwnB w base v l) (src dst e : TypeId) (hs : P.underlying src = some (.slice e)) (he : P.underlying e = some (.int .u8)) (hd : P.underlying dst = some .string) :
    (convert src dst v).run P w = .ok (.string (S l)) w := by
  rcases h.2 with ⟨rfl, h0⟩ | ⟨g, cap, cur, rfl, hb, hh, hn, hm, hsz, ht⟩
  · have : l = [] := List.eq_nil_of_length_eq_zero h0
    subst this
    rw [run_convert_bytes_string w src dst e none 0 0 hs he hd]
    rfl
  · exact run_convert_bytes_back w src dst e ⟨g, 0, none⟩ cap l hs he hd (fun j hj => by
      have h1 : w.cell? ⟨g, j, none⟩ = some (.int .u8 (l[j].toNat : Int)) := by
        rw [cell_of_row w g j cur _ _ hh]
        have h2 : (cur.toList.take (l.length * 1))[j]? = (bv l)[j]? := by rw [ht]
        rw [List.getElem?_take_of_lt (by omega), bv_at hj] at h2
        simpa using h2
      unfold Addr.add
      split
      · rename_i h0; subst h0; exact h1
      · simpa using h1)

/-- The tape of three wheels. -/
def chiW (s0 s1 s2 : ByteArray) (n : Nat) : List UInt8 := (List.range n).map (chiL s0 s1 s2)
theorem chiW_succ (s0 s1 s2 : ByteArray) (n : Nat) : chiW s0 s1 s2 (n + 1) = chiW s0 s1 s2 n ++ [chiL s0 s1 s2 n] := by simp [chiW, List.range_succ]
theorem length_chiW (s0 s1 s2 : ByteArray) (n : Nat) : (chiW s0 s1 s2 n).length = n := by simp [chiW]
/-- What ChiTape answers. -/
def chiT (chi psi : List ByteArray) (m : ByteArray) (n : Int) : ByteArray × Bool :=
  if telenB chi psi m n = true then (S (chiW (chi.getD 0 ⟨#[]⟩) (chi.getD 1 ⟨#[]⟩) (chi.getD 2 ⟨#[]⟩) n.toNat), true) else (S [], false)
theorem teleB_three {chi psi : List ByteArray} {m : ByteArray} (h : teleB chi psi m = true) : ∃ s0 s1 s2, chi = [s0, s1, s2] ∧ bitsB s0 = true ∧ bitsB s1 = true ∧ bitsB s2 = true := by
  simp [teleB] at h
  obtain ⟨⟨⟨h1, h2⟩, _⟩, _⟩ := h
  match chi, h1, h2 with
  | [s0, s1, s2], _, h2 => exact ⟨s0, s1, s2, rfl, h2 _ (by simp), h2 _ (by simp), h2 _ (by simp)⟩

set_option maxHeartbeats 1000000 in
theorem implChiTape_any (a1 a2 : Option Addr) (c1 c2 : Nat) (chi psi : List ByteArray) (m : ByteArray) (n : Int) (w : World) (h : TeleR w a1 a2 chi psi m) :
    Calls Try.prog 37 #[teleV a1 a2 c1 c2 chi psi m, .int .i64 n] w fun e w' => e = .returned (.tuple #[.string (chiT chi psi m n).1, .bool (chiT chi psi m n).2]) ∧ Below w.heap.size w w' := by
  obtain ⟨i0, hi0, hz0, hz1, hz2⟩ := info_parts info_u8'
  cases hb : telenB chi psi m n
  · have hst : Hid (chiT chi psi m n = (S [], false)) := by show _ = _; simp [chiT, hb]
    go_enter Try.func37, Try.ntmps37
    go_wp2_with fail
    refine (teleLength_any a1 a2 c1 c2 chi psi m n _ (h.alloc _)).mono ?_
    rintro e w1 ⟨rfl, hb1⟩
    rw [hb]
    go_wp2
    go_ret2
    exact ⟨by rw [hst.out]; rfl, bt ((Below.refl _ _).alloc (Nat.le_refl _) _) hb1⟩
  · obtain ⟨ht, hn0, hn2⟩ := telenB_parts hb
    obtain ⟨N, rfl⟩ := Int.eq_ofNat_of_zero_le hn0
    obtain ⟨s0, s1, s2, rfl, b0, b1, b2⟩ := teleB_three ht
    have hst : Hid (chiT [s0, s1, s2] psi m N = (S (chiW s0 s1 s2 N), true)) := by show _ = _; simp [chiT, hb]
    have hmk : ∀ W : World, (Instr.makeSlice 27 (.int .i64 0) (.int .i64 (N : Int))).run Try.prog W = .ok (.slice (some ⟨W.heap.size, 0, none⟩) 0 N) (W.alloc (.cells (Array.replicate N (Value.int .u8 0)) 5)) := fun W => by
      have := run_make1 (P := Try.prog) Try.underlying27 info_u8' rfl 0 N (Nat.zero_le _) (by omega) (by omega) W
      rw [List.toArray_replicate] at this
      exact this
    have HT := Lib.hid h
    go_enter Try.func37, Try.ntmps37
    go_wp2_with fail
    have o0 := Own.new w (teleC a1 a2 c1 c2 [s0, s1, s2] psi m) 30
    refine (teleLength_any a1 a2 c1 c2 [s0, s1, s2] psi m N _ (h.alloc _)).mono ?_
    rintro e w1 ⟨rfl, hb1⟩
    have o1 := (o0.below hb1 o0.lt).alloc (.cells (Array.replicate N (Value.int .u8 0)) 5)
    have hbw : Below w.heap.size w (w1.alloc (.cells (Array.replicate N (Value.int .u8 0)) 5)) := bt (bt ((Below.refl _ _).alloc (Nat.le_refl _) _) hb1) ((Below.refl _ _).alloc (Nat.le_refl _) _)
    have hs1 : w.heap.size < w1.heap.size := (o0.below hb1 o0.lt).lt
    have v1 : OwnB (w1.alloc (.cells (Array.replicate N (Value.int .u8 0)) 5)) (w.heap.size + 1) (.slice (some ⟨w1.heap.size, 0, none⟩) 0 N) [] := by
      have := World.ownsRow_made (base := w.heap.size + 1) (e := 5) (size := 1) w1 (Array.replicate N (Value.int .u8 0)) N (by omega) (by unfold maxLen; omega) (by simp)
      simpa [OwnB, bv] using this
    have hs2 : w.heap.size < (w1.alloc (.cells (Array.replicate N (Value.int .u8 0)) 5)).heap.size := by simp; omega
    clear o0 hb1 h
    rw [hb]
    go_wp2_with fail
    generalize (w1.alloc (.cells (Array.replicate N (Value.int .u8 0)) 5)) = W1 at *
    generalize hB0 : w.heap.size = B0 at *
    have HB0 := Lib.hid hB0
    clear hB0
    go_loopw [6, 7, 15] (fun v _ i wr => ∃ k : Nat, (k ≤ N) ∧ i = .int .i64 k ∧ Own wr B0 (teleC a1 a2 c1 c2 [s0, s1, s2] psi m) ∧ OwnB wr (B0 + 1) v (chiW s0 s1 s2 k) ∧ Below B0 w wr ∧ B0 < wr.heap.size) (fun _ _ i _ => N - (intOf i).toNat)
    case atStart => exact ⟨0, by omega, rfl, o1, v1, hbw, hs2⟩
    case round =>
      obtain ⟨k, hk, rfl, o2, hv, hbr, hlr⟩ := hrel
      have f0 := o2.at_ (i := 0) rfl
      have hle := length_chiW s0 s1 s2 k
      have hle2 : (chiW s0 s1 s2 k).length ≤ 200 := by omega
      by_cases hlt : k < N
      · have hr2 := (HT.out.below (HB0.out.symm ▸ hbr)).r1
        have hy := Lib.hid (chiW_succ s0 s1 s2 k)
        clear hle
        go_wp2_with (first | (go_at_call 61; ((refine (bitsAt_any a1 c1 s0 s1 s2 k _ hr2 b0 b1 b2 (by omega)).mono ?_); rintro e w3 ⟨rfl, rfl⟩)) | (at_builtin; refine wpList_append_lies _ (by rfl) _ _ _ (by rfl) (B0 + 1) 5 i0 _ 1 1 Try.underlying27 hi0 hz0 hz1 hz2 rfl (by omega) _ (chiW s0 s1 s2 k).length (bv (chiW s0 s1 s2 k)) (by rfl) (World.ownsRow.alloc hv _) ⟨wr.heap.size, 0, none⟩ 1 1 [.int .u8 ((chiL s0 s1 s2 k).toNat : Int)] (by rfl) (by rfl) (World.news_of_block (cs := #[.int .u8 ((chiL s0 s1 s2 k).toNat : Int)]) (t := 5) (fr := (0, 0)) (heap_alloc_new wr _)) (by simp [Value.oneCell']) (by omega) (by unfold maxLen; omega) (by omega) (by simp; omega) (wr.heap.size + 1) (by simp) ?_; intro gg cap w4 hown4 hg4 hat4 hlt4))
        go_roundw
        case rel =>
          refine ⟨k + 1, by omega, by go_num, (o2.alloc _).grown hg4 (farB hv (by omega)), ?_, ?_, ?_⟩
          · rw [hy.out]; exact OwnB.snoc hown4
          · exact (hbr.alloc (by omega) _).grown hg4 (by simp; omega) (fun g hg => by have := (World.ownsRow.lt hv g hg).1; omega)
          · exact Nat.lt_of_lt_of_le (by simp; omega) hg4.size
        case measure => simp [intOf]; omega
      · have hk1 : k = N := by omega
        subst hk1
        have hcv := hv.conv (P := Try.prog) 27 9 5 Try.underlying27 Try.underlying5 Try.underlying9
        clear hle
        go_wp2
        go_ret2
        exact ⟨by rw [hst.out]; rfl, HB0.out.symm ▸ hbr⟩
end Go.Proofs.Ytegbmjdaohnlaaa
