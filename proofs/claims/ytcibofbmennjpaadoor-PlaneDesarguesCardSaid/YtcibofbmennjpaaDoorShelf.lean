/-
  DERIVED: THE SHELF's CONTRACTS AT THIS DUMP, IN PLAIN WORDS (tools/lay-plain.mjs out of 'YtcibofbmennjpaaDoorSh.lean', which tools/lay-shelf.mjs wrote): THE SAME DECLARATIONS UNDER THE SAME NAMES: 'import', 'namespace', 'open', 'def', 'theorem' AND NOTHING ELSE: no command of the shelf's: FOR A HAND-IN. Each laying: the table of numbers ('.._ren') and one theorem, a field a fact of the dump's own or the kernel's comparison; each contract: ONE APPLICATION.
-/
import Derived.Shelf.Sort.Plain
import Derived.Shelf.Slices.In.SortNone
import Derived.Ground.NamesProg
import Derived.Test.YtcibofbmennjpaaDoorProg
namespace Go.Proofs
open Go.Shelf
def Tryd.lays189_ren : Go.Shelf.Ren := ⟨fun | 189 => 65 | 125 => 119 | 257 => 118 | 128 => 146 | 129 => 147 | 294 => 137 | 295 => 138 | 296 => 139 | 297 => 140 | 298 => 141 | 299 => 142 | 216 => 143 | 300 => 144 | 301 => 145 | 328 => 148 | 329 => 149 | 330 => 150 | 331 => 151 | 332 => 152 | 215 => 153 | 343 => 154 | n => n, fun | 28 => 22 | 3 => 3 | 46 => 84 | 0 => 0 | 51 => 148 | 53 => 93 | 4 => 4 | 183 => 175 | 182 => 174 | 131 => 133 | 5 => 5 | 9 => 9 | 218 => 181 | 222 => 185 | 228 => 187 | 229 => 188 | n => n, fun | n => n⟩
theorem Tryd.lays189 : Go.Proofs.Lays.n189 Tryd.prog Tryd.lays189_ren := {
  mixed := by kernel_rfl
  f125 := Tryd.func119.trans (congrArg some (by kernel_rfl))
  f128 := Tryd.func146.trans (congrArg some (by kernel_rfl))
  f129 := Tryd.func147.trans (congrArg some (by kernel_rfl))
  f189 := Tryd.func65.trans (congrArg some (by kernel_rfl))
  f215 := Tryd.func153.trans (congrArg some (by kernel_rfl))
  f216 := Tryd.func143.trans (congrArg some (by kernel_rfl))
  f257 := Tryd.func118.trans (congrArg some (by kernel_rfl))
  f294 := Tryd.func137.trans (congrArg some (by kernel_rfl))
  f295 := Tryd.func138.trans (congrArg some (by kernel_rfl))
  f296 := Tryd.func139.trans (congrArg some (by kernel_rfl))
  f297 := Tryd.func140.trans (congrArg some (by kernel_rfl))
  f298 := Tryd.func141.trans (congrArg some (by kernel_rfl))
  f299 := Tryd.func142.trans (congrArg some (by kernel_rfl))
  f300 := Tryd.func144.trans (congrArg some (by kernel_rfl))
  f301 := Tryd.func145.trans (congrArg some (by kernel_rfl))
  f328 := Tryd.func148.trans (congrArg some (by kernel_rfl))
  f329 := Tryd.func149.trans (congrArg some (by kernel_rfl))
  f330 := Tryd.func150.trans (congrArg some (by kernel_rfl))
  f331 := Tryd.func151.trans (congrArg some (by kernel_rfl))
  f332 := Tryd.func152.trans (congrArg some (by kernel_rfl))
  f343 := Tryd.func154.trans (congrArg some (by kernel_rfl))
  t0 := Tryd.underlying0
  a0 := Tryd.isAgg0
  z0 := Tryd.sizeOf0
  v0 := Tryd.zeroValue0
  t3 := Tryd.underlying3
  a3 := Tryd.isAgg3
  z3 := Tryd.sizeOf3
  v3 := Tryd.zeroValue3
  t4 := Tryd.underlying4
  a4 := Tryd.isAgg4
  z4 := Tryd.sizeOf4
  v4 := Tryd.zeroValue4
  t5 := Tryd.underlying5
  a5 := Tryd.isAgg5
  z5 := Tryd.sizeOf5
  v5 := Tryd.zeroValue5
  t9 := Tryd.underlying9
  a9 := Tryd.isAgg9
  z9 := Tryd.sizeOf9
  v9 := Tryd.zeroValue9
  t28 := Tryd.underlying22
  a28 := Tryd.isAgg22
  z28 := Tryd.sizeOf22
  v28 := Tryd.zeroValue22
  t46 := Tryd.underlying84
  a46 := Tryd.isAgg84
  z46 := Tryd.sizeOf84
  v46 := Tryd.zeroValue84
  t51 := Tryd.underlying148
  a51 := Tryd.isAgg148
  z51 := Tryd.sizeOf148
  v51 := Tryd.zeroValue148
  t53 := Tryd.underlying93
  a53 := Tryd.isAgg93
  z53 := Tryd.sizeOf93
  v53 := Tryd.zeroValue93
  t131 := Tryd.underlying133
  a131 := Tryd.isAgg133
  z131 := Tryd.sizeOf133
  v131 := Tryd.zeroValue133
  t182 := Tryd.underlying174
  a182 := Tryd.isAgg174
  z182 := Tryd.sizeOf174
  v182 := Tryd.zeroValue174
  t183 := Tryd.underlying175
  a183 := Tryd.isAgg175
  z183 := Tryd.sizeOf175
  v183 := Tryd.zeroValue175
  t218 := Tryd.underlying181
  a218 := Tryd.isAgg181
  z218 := Tryd.sizeOf181
  v218 := Tryd.zeroValue181
  t222 := Tryd.underlying185
  a222 := Tryd.isAgg185
  z222 := Tryd.sizeOf185
  v222 := Tryd.zeroValue185
  t228 := Tryd.underlying187
  a228 := Tryd.isAgg187
  z228 := Tryd.sizeOf187
  v228 := Tryd.zeroValue187
  t229 := Tryd.underlying188
  a229 := Tryd.isAgg188
  z229 := Tryd.sizeOf188
  v229 := Tryd.zeroValue188 }
open Go.Sort Go.RowKit in
theorem Tryd.slices_Sort_int (blk off cap : Nat) (zs : List Int) (w : World) (hH : Holds (Value.int .i64) w blk off zs.toArray) (hblk : blk < w.heap.size) (hsz : zs.length < 4611686018427387904) :
    Calls Tryd.prog 65 #[.slice (some ⟨blk, off, none⟩) zs.length cap] w fun e w' =>
      e = .returned (.tuple #[]) ∧ ∃ n os, w' = grow (putRow (Value.int .i64) (Sort.ahead w n) blk off (zs.mergeSort fun x y => decide (x ≤ y)).toArray) os := Any.slices_Sort_int Tryd.lays189 blk off cap zs w hH hblk hsz
open Go.RowKit Go.Sort in
theorem Tryd.slices_Sort_int_none (p : Option Addr) (cap : Nat) (w : World) :
    Calls Tryd.prog 65 #[.slice p 0 cap] w fun e w' => e = .returned (.tuple #[]) ∧ w' = w := Any.slices_Sort_int_none Tryd.lays189 p cap w
end Go.Proofs
