/- Contracts of the program's functions that step wheels and tell offsets. -/
import Derived.Test.YtaplndmgbinhcaaGreatValid
import Derived.Lib.Bytealg
import Derived.Lib.IndexAny
namespace Go.Proofs.YtaplndmgbinhcaaGreat
open Go.RowKit

theorem info_i64 : (Tryz.prog.info? 3).map (fun i => (i.zero, i.size, i.bytes)) = some (some (.int .i64 0), 1, 8) := by kernel_rfl
/-- The cells of some numbers. -/
def ov (l : List Nat) : List Value := l.map fun n : Nat => .int .i64 (n : Int)
theorem length_ov (l : List Nat) : (ov l).length = l.length := by simp [ov]
theorem ov_at {l : List Nat} {i : Nat} (h : i < l.length) : (ov l)[i]? = some (.int .i64 (l[i] : Int)) := by simp [ov, List.getElem?_eq_getElem h]
theorem ov_set (l : List Nat) (i n : Nat) : (ov l).set i (.int .i64 (n : Int)) = ov (l.set i n) := by simp [ov, List.map_set]
theorem offs_at {rings v : ByteArray} {k : Nat} (h : k < v.size) (h' : k < rings.size) : (offs rings v)[k]'(by rw [len_offs]; exact h) = ((dig v[k] - dig rings[k] + 10) % 10).toNat := by
  simp [offs, byteAt_get h, byteAt_get h']

set_option maxRecDepth 100000 in
set_option maxHeartbeats 1000000 in
theorem liteIndexByte_any (s : ByteArray) (b : UInt8) (w : World) :
    Calls Tryz.prog 76 #[.string s, .int .u8 (b.toNat : Int)] w fun e w' => e = .returned (.int .i64 (Lib.indexByte (L s) b)) ∧ w = w' := by
  go_enter Tryz.func76, Tryz.ntmps76
  go_wp2
  rw [run_callFunc_extern Tryz.func97 (by kernel_rfl) (by kernel_rfl) (by kernel_rfl) (e := Extern.BytealgIndexByte.indexByte) (by kernel_rfl), Lib.run_indexByteString]
  simp only [Result.andThen]
  rw [Oper.upon_value]
  go_wp2
  go_ret
  exact ⟨by simp [L], rfl⟩
theorem indexByte_any (s : ByteArray) (b : UInt8) (w : World) :
    Calls Tryz.prog 54 #[.string s, .int .u8 (b.toNat : Int)] w fun e w' => e = .returned (.int .i64 (Lib.indexByte (L s) b)) ∧ w = w' := by
  go_enter Tryz.func54, Tryz.ntmps54
  go_wp2_with (go_at_call 76; ((with_reducible refine (liteIndexByte_any _ _ _).mono ?_); rintro e w' ⟨rfl, rfl⟩))
  go_ret
  exact ⟨rfl, rfl⟩
end Go.Proofs.YtaplndmgbinhcaaGreat
