/- A contract of the library, laid by the shelf's tools at this program (plain form). -/
import Derived.Shelf.Sort.Plain
import Derived.Test.YtaplndmgbinhcaaGreatProg
namespace Go.Proofs
open Go.Shelf
def Tryz.lays190_ren : Go.Shelf.Ren := ⟨fun | 190 => 25 | 125 => 41 | 258 => 40 | 128 => 64 | 129 => 65 | 302 => 55 | 303 => 56 | 304 => 57 | 305 => 58 | 306 => 59 | 307 => 60 | 308 => 61 | 309 => 62 | 310 => 63 | 333 => 77 | 329 => 78 | 330 => 79 | 334 => 80 | 335 => 81 | 336 => 82 | 344 => 98 | n => n, fun | 31 => 30 | 9 => 9 | 3 => 3 | 46 => 62 | 0 => 0 | 51 => 84 | 53 => 86 | 4 => 4 | 183 => 77 | 182 => 76 | 131 => 34 | 5 => 5 | 218 => 95 | 222 => 99 | 228 => 109 | 229 => 38 | n => n, fun | n => n⟩
theorem Tryz.lays190 : Go.Proofs.Lays.n190 Tryz.prog Tryz.lays190_ren := {
  mixed := by kernel_rfl
  f125 := Tryz.func41.trans (congrArg some (by kernel_rfl))
  f128 := Tryz.func64.trans (congrArg some (by kernel_rfl))
  f129 := Tryz.func65.trans (congrArg some (by kernel_rfl))
  f190 := Tryz.func25.trans (congrArg some (by kernel_rfl))
  f258 := Tryz.func40.trans (congrArg some (by kernel_rfl))
  f302 := Tryz.func55.trans (congrArg some (by kernel_rfl))
  f303 := Tryz.func56.trans (congrArg some (by kernel_rfl))
  f304 := Tryz.func57.trans (congrArg some (by kernel_rfl))
  f305 := Tryz.func58.trans (congrArg some (by kernel_rfl))
  f306 := Tryz.func59.trans (congrArg some (by kernel_rfl))
  f307 := Tryz.func60.trans (congrArg some (by kernel_rfl))
  f308 := Tryz.func61.trans (congrArg some (by kernel_rfl))
  f309 := Tryz.func62.trans (congrArg some (by kernel_rfl))
  f310 := Tryz.func63.trans (congrArg some (by kernel_rfl))
  f329 := Tryz.func78.trans (congrArg some (by kernel_rfl))
  f330 := Tryz.func79.trans (congrArg some (by kernel_rfl))
  f333 := Tryz.func77.trans (congrArg some (by kernel_rfl))
  f334 := Tryz.func80.trans (congrArg some (by kernel_rfl))
  f335 := Tryz.func81.trans (congrArg some (by kernel_rfl))
  f336 := Tryz.func82.trans (congrArg some (by kernel_rfl))
  f344 := Tryz.func98.trans (congrArg some (by kernel_rfl))
  t0 := Tryz.underlying0
  a0 := Tryz.isAgg0
  z0 := Tryz.sizeOf0
  v0 := Tryz.zeroValue0
  t3 := Tryz.underlying3
  a3 := Tryz.isAgg3
  z3 := Tryz.sizeOf3
  v3 := Tryz.zeroValue3
  t4 := Tryz.underlying4
  a4 := Tryz.isAgg4
  z4 := Tryz.sizeOf4
  v4 := Tryz.zeroValue4
  t5 := Tryz.underlying5
  a5 := Tryz.isAgg5
  z5 := Tryz.sizeOf5
  v5 := Tryz.zeroValue5
  t9 := Tryz.underlying9
  a9 := Tryz.isAgg9
  z9 := Tryz.sizeOf9
  v9 := Tryz.zeroValue9
  t31 := Tryz.underlying30
  a31 := Tryz.isAgg30
  z31 := Tryz.sizeOf30
  v31 := Tryz.zeroValue30
  t46 := Tryz.underlying62
  a46 := Tryz.isAgg62
  z46 := Tryz.sizeOf62
  v46 := Tryz.zeroValue62
  t51 := Tryz.underlying84
  a51 := Tryz.isAgg84
  z51 := Tryz.sizeOf84
  v51 := Tryz.zeroValue84
  t53 := Tryz.underlying86
  a53 := Tryz.isAgg86
  z53 := Tryz.sizeOf86
  v53 := Tryz.zeroValue86
  t131 := Tryz.underlying34
  a131 := Tryz.isAgg34
  z131 := Tryz.sizeOf34
  v131 := Tryz.zeroValue34
  t182 := Tryz.underlying76
  a182 := Tryz.isAgg76
  z182 := Tryz.sizeOf76
  v182 := Tryz.zeroValue76
  t183 := Tryz.underlying77
  a183 := Tryz.isAgg77
  z183 := Tryz.sizeOf77
  v183 := Tryz.zeroValue77
  t218 := Tryz.underlying95
  a218 := Tryz.isAgg95
  z218 := Tryz.sizeOf95
  v218 := Tryz.zeroValue95
  t222 := Tryz.underlying99
  a222 := Tryz.isAgg99
  z222 := Tryz.sizeOf99
  v222 := Tryz.zeroValue99
  t228 := Tryz.underlying109
  a228 := Tryz.isAgg109
  z228 := Tryz.sizeOf109
  v228 := Tryz.zeroValue109
  t229 := Tryz.underlying38
  a229 := Tryz.isAgg38
  z229 := Tryz.sizeOf38
  v229 := Tryz.zeroValue38 }
open Go.Sort Go.RowKit in
theorem Tryz.slices_Sort_string (blk off cap : Nat) (ss : List (List UInt8)) (w : World) (hH : Holds encStr w blk off ss.toArray) (hblk : blk < w.heap.size) (hsz : ss.length < 4611686018427387904) :
    Calls Tryz.prog 25 #[.slice (some ⟨blk, off, none⟩) ss.length cap] w fun e w' =>
      e = .returned (.tuple #[]) ∧ ∃ n os, w' = grow (putRow encStr (Sort.ahead w n) blk off (ss.mergeSort fun x y => decide (x ≤ y)).toArray) os := Any.slices_Sort_string Tryz.lays190 blk off cap ss w hH hblk hsz
end Go.Proofs
