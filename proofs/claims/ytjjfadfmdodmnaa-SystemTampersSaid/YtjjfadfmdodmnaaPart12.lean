/-
  A part of the proof that a law of dryweightlaw03 answers true: lemmas of a symbolic walk, plain functions, or contracts of the functions walked (Ts). Conditions: none.
-/
import Derived.Shelf.Sort.Plain
import Derived.Ground.Names2Prog
import Derived.Shelf.Slices.CompactI
import Derived.Shelf.Slices.Cells
import Derived.Shelf.Slices.In.SortNone
import Derived.Test.YtjjfadfmdodmnaaProg
set_option maxRecDepth 100000
set_option linter.unusedVariables false
set_option linter.unusedSimpArgs false
namespace Go.Proofs
open Go.Shelf
def Try.lays189_ren : Go.Shelf.Ren := ⟨fun | 189 => 129 | 125 => 149 | 257 => 148 | 128 => 162 | 129 => 163 | 294 => 153 | 295 => 154 | 296 => 155 | 297 => 156 | 298 => 157 | 299 => 158 | 216 => 159 | 300 => 160 | 301 => 161 | 328 => 165 | 329 => 166 | 330 => 167 | 331 => 168 | 332 => 169 | 215 => 170 | 343 => 173 | n => n, fun | 28 => 38 | 3 => 3 | 46 => 192 | 0 => 0 | 51 => 206 | 53 => 208 | 4 => 4 | 183 => 199 | 182 => 198 | 131 => 142 | 5 => 5 | 9 => 9 | 218 => 211 | 222 => 165 | 228 => 220 | 229 => 221 | n => n, fun | n => n⟩
theorem Try.lays189 : Go.Proofs.Lays.n189 Try.prog Try.lays189_ren := {
  mixed := by kernel_rfl
  f125 := Try.func149.trans (congrArg some (by kernel_rfl))
  f128 := Try.func162.trans (congrArg some (by kernel_rfl))
  f129 := Try.func163.trans (congrArg some (by kernel_rfl))
  f189 := Try.func129.trans (congrArg some (by kernel_rfl))
  f215 := Try.func170.trans (congrArg some (by kernel_rfl))
  f216 := Try.func159.trans (congrArg some (by kernel_rfl))
  f257 := Try.func148.trans (congrArg some (by kernel_rfl))
  f294 := Try.func153.trans (congrArg some (by kernel_rfl))
  f295 := Try.func154.trans (congrArg some (by kernel_rfl))
  f296 := Try.func155.trans (congrArg some (by kernel_rfl))
  f297 := Try.func156.trans (congrArg some (by kernel_rfl))
  f298 := Try.func157.trans (congrArg some (by kernel_rfl))
  f299 := Try.func158.trans (congrArg some (by kernel_rfl))
  f300 := Try.func160.trans (congrArg some (by kernel_rfl))
  f301 := Try.func161.trans (congrArg some (by kernel_rfl))
  f328 := Try.func165.trans (congrArg some (by kernel_rfl))
  f329 := Try.func166.trans (congrArg some (by kernel_rfl))
  f330 := Try.func167.trans (congrArg some (by kernel_rfl))
  f331 := Try.func168.trans (congrArg some (by kernel_rfl))
  f332 := Try.func169.trans (congrArg some (by kernel_rfl))
  f343 := Try.func173.trans (congrArg some (by kernel_rfl))
  t0 := Try.underlying0
  a0 := Try.isAgg0
  z0 := Try.sizeOf0
  v0 := Try.zeroValue0
  t3 := Try.underlying3
  a3 := Try.isAgg3
  z3 := Try.sizeOf3
  v3 := Try.zeroValue3
  t4 := Try.underlying4
  a4 := Try.isAgg4
  z4 := Try.sizeOf4
  v4 := Try.zeroValue4
  t5 := Try.underlying5
  a5 := Try.isAgg5
  z5 := Try.sizeOf5
  v5 := Try.zeroValue5
  t9 := Try.underlying9
  a9 := Try.isAgg9
  z9 := Try.sizeOf9
  v9 := Try.zeroValue9
  t28 := Try.underlying38
  a28 := Try.isAgg38
  z28 := Try.sizeOf38
  v28 := Try.zeroValue38
  t46 := Try.underlying192
  a46 := Try.isAgg192
  z46 := Try.sizeOf192
  v46 := Try.zeroValue192
  t51 := Try.underlying206
  a51 := Try.isAgg206
  z51 := Try.sizeOf206
  v51 := Try.zeroValue206
  t53 := Try.underlying208
  a53 := Try.isAgg208
  z53 := Try.sizeOf208
  v53 := Try.zeroValue208
  t131 := Try.underlying142
  a131 := Try.isAgg142
  z131 := Try.sizeOf142
  v131 := Try.zeroValue142
  t182 := Try.underlying198
  a182 := Try.isAgg198
  z182 := Try.sizeOf198
  v182 := Try.zeroValue198
  t183 := Try.underlying199
  a183 := Try.isAgg199
  z183 := Try.sizeOf199
  v183 := Try.zeroValue199
  t218 := Try.underlying211
  a218 := Try.isAgg211
  z218 := Try.sizeOf211
  v218 := Try.zeroValue211
  t222 := Try.underlying165
  a222 := Try.isAgg165
  z222 := Try.sizeOf165
  v222 := Try.zeroValue165
  t228 := Try.underlying220
  a228 := Try.isAgg220
  z228 := Try.sizeOf220
  v228 := Try.zeroValue220
  t229 := Try.underlying221
  a229 := Try.isAgg221
  z229 := Try.sizeOf221
  v229 := Try.zeroValue221 }
open Go.Sort Go.RowKit in
theorem Try.slices_Sort_int (blk off cap : Nat) (zs : List Int) (w : World) (hH : Holds (Value.int .i64) w blk off zs.toArray) (hblk : blk < w.heap.size) (hsz : zs.length < 4611686018427387904) :
    Calls Try.prog 129 #[.slice (some ⟨blk, off, none⟩) zs.length cap] w fun e w' =>
      e = .returned (.tuple #[]) ∧ ∃ n os, w' = grow (putRow (Value.int .i64) (Sort.ahead w n) blk off (zs.mergeSort fun x y => decide (x ≤ y)).toArray) os := Any.slices_Sort_int Try.lays189 blk off cap zs w hH hblk hsz
open Go.RowKit Go.Sort in
theorem Try.slices_Sort_int_none (p : Option Addr) (cap : Nat) (w : World) :
    Calls Try.prog 129 #[.slice p 0 cap] w fun e w' => e = .returned (.tuple #[]) ∧ w' = w := Any.slices_Sort_int_none Try.lays189 p cap w
def Try.laysNm220_ren : Go.Shelf.Ren := ⟨fun | 20 => 130 | n => n, fun | 22 => 38 | 3 => 3 | 4 => 4 | 0 => 0 | n => n, fun | n => n⟩
theorem Try.laysNm220 : Go.Proofs.Lays2.n20 Try.prog Try.laysNm220_ren := {
  mixed := by kernel_rfl
  f20 := Try.func130.trans (congrArg some (by kernel_rfl))
  t0 := Try.underlying0
  a0 := Try.isAgg0
  z0 := Try.sizeOf0
  v0 := Try.zeroValue0
  t3 := Try.underlying3
  a3 := Try.isAgg3
  z3 := Try.sizeOf3
  v3 := Try.zeroValue3
  t4 := Try.underlying4
  a4 := Try.isAgg4
  z4 := Try.sizeOf4
  v4 := Try.zeroValue4
  t22 := Try.underlying38
  a22 := Try.isAgg38
  z22 := Try.sizeOf38
  v22 := Try.zeroValue38
  i3 := by kernel_rfl }
open Go.RowKit Go.Lib Go.Sort in
theorem Try.slices_Compact_int_cells (b off n c : Nat) (zs : List Int) (w : World) (hz : n ≤ zs.length) (hbig : n ≤ 9223372036854775807) (hcap : n ≤ c) (hc : ∀ j, j < zs.length → w.cell? ⟨b, off + j, none⟩ = some (.int .i64 (zs.getD j 0))) (hf : ∀ j, j < n → w.frozen? ⟨b, off + j, none⟩ = false) :
    Calls Try.prog 130 #[.slice (some ⟨b, off, none⟩) n c] w fun e w' => e = .returned (.slice (some ⟨b, off, none⟩) (Lib.compact (zs.take n)).length c) ∧ ∃ q, w' = (w.drewN q).setCells b off ((Lib.compact (zs.take n) ++ List.replicate (n - (Lib.compact (zs.take n)).length) 0).map (Value.int .i64)) := Any.slices_Compact_int_cells Try.laysNm220 b off n c zs w hz hbig hcap hc hf
open Go.RowKit Go.Lib Go.Sort in
theorem Try.slices_Compact_int_empty (a : Option Addr) (cap : Nat) (w : World) :
    Calls Try.prog 130 #[.slice a 0 cap] w fun e w' => e = .returned (.slice a 0 cap) ∧ w' = w := Any.slices_Compact_int_empty Try.laysNm220 a cap w
end Go.Proofs

