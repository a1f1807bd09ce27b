/-
  A part of the proof that a law answers true: lemmas of a symbolic walk, plain functions, or contracts of the functions walked (Rs, Sx45, R6, R7). Conditions: none.
-/
import Derived.Ground.SlsfProg
import Derived.Shelf.SlSortCmp.Whole1
import Derived.Shelf.SlSortCmp.NoneTotal
import Derived.Test.YtagedjfjcnemoaaGreatProg
import Derived.Test.YtagedjfjcnemoaaGreatPart11
import Derived.Shelf.SlSortCmp.Kit1
import Derived.Test.YtagedjfjcnemoaaGreatPart17
import Derived.Test.YtagedjfjcnemoaaGreatPart15
set_option maxRecDepth 100000
set_option linter.unusedVariables false
set_option linter.unusedSimpArgs false
namespace Go.Proofs
open Go.Shelf
def Tryz.laysSlF6_f220_ren : Go.Shelf.Ren := ⟨fun | 6 => 220 | 15 => 250 | 14 => 253 | 28 => 272 | 29 => 273 | 20 => 282 | 21 => 283 | 22 => 284 | 23 => 285 | 24 => 286 | 25 => 287 | 26 => 288 | 27 => 289 | 46 => 332 | 47 => 325 | 48 => 326 | 49 => 333 | 50 => 334 | 57 => 349 | n => n, fun | 22 => 43 | 24 => 3 | 25 => 101 | 3 => 3 | 39 => 315 | 0 => 0 | 53 => 337 | 55 => 339 | 4 => 4 | 46 => 331 | 45 => 330 | 50 => 103 | 5 => 5 | 9 => 9 | 66 => 374 | 70 => 378 | 76 => 392 | 77 => 393 | n => n, fun | n => n⟩
theorem Tryz.laysSlF6_f220 : Go.Proofs.SlLaysF.n6 Tryz.prog Tryz.laysSlF6_f220_ren := {
  mixed := by kernel_rfl
  f6 := ⟨Tryz.f220.name, by decide, Tryz.func220.trans (congrArg some (by kernel_rfl))⟩
  f14 := ⟨Tryz.f253.name, by decide, Tryz.func253.trans (congrArg some (by kernel_rfl))⟩
  f15 := Tryz.func250.trans (congrArg some (by kernel_rfl))
  f20 := ⟨Tryz.f282.name, by decide, Tryz.func282.trans (congrArg some (by kernel_rfl))⟩
  f21 := ⟨Tryz.f283.name, by decide, Tryz.func283.trans (congrArg some (by kernel_rfl))⟩
  f22 := ⟨Tryz.f284.name, by decide, Tryz.func284.trans (congrArg some (by kernel_rfl))⟩
  f23 := ⟨Tryz.f285.name, by decide, Tryz.func285.trans (congrArg some (by kernel_rfl))⟩
  f24 := ⟨Tryz.f286.name, by decide, Tryz.func286.trans (congrArg some (by kernel_rfl))⟩
  f25 := ⟨Tryz.f287.name, by decide, Tryz.func287.trans (congrArg some (by kernel_rfl))⟩
  f26 := ⟨Tryz.f288.name, by decide, Tryz.func288.trans (congrArg some (by kernel_rfl))⟩
  f27 := ⟨Tryz.f289.name, by decide, Tryz.func289.trans (congrArg some (by kernel_rfl))⟩
  f28 := Tryz.func272.trans (congrArg some (by kernel_rfl))
  f29 := Tryz.func273.trans (congrArg some (by kernel_rfl))
  f46 := ⟨Tryz.f332.name, by decide, Tryz.func332.trans (congrArg some (by kernel_rfl))⟩
  f47 := Tryz.func325.trans (congrArg some (by kernel_rfl))
  f48 := Tryz.func326.trans (congrArg some (by kernel_rfl))
  f49 := ⟨Tryz.f333.name, by decide, Tryz.func333.trans (congrArg some (by kernel_rfl))⟩
  f50 := ⟨Tryz.f334.name, by decide, Tryz.func334.trans (congrArg some (by kernel_rfl))⟩
  f57 := ⟨Tryz.f349.name, by decide, Tryz.func349.trans (congrArg some (by kernel_rfl))⟩
  t0 := Tryz.underlying0
  a0 := Tryz.isAgg0
  z0 := Tryz.sizeOf0
  v0 := Tryz.zeroValue0
  t3 := Tryz.underlying3
  a3 := Tryz.isAgg3
  z3 := Tryz.sizeOf3
  v3 := Tryz.zeroValue3
  t4 := Tryz.underlying4
  a4 := Tryz.isAgg4
  z4 := Tryz.sizeOf4
  v4 := Tryz.zeroValue4
  t5 := Tryz.underlying5
  a5 := Tryz.isAgg5
  z5 := Tryz.sizeOf5
  v5 := Tryz.zeroValue5
  t9 := Tryz.underlying9
  a9 := Tryz.isAgg9
  z9 := Tryz.sizeOf9
  v9 := Tryz.zeroValue9
  t22 := Tryz.underlying43
  a22 := Tryz.isAgg43
  z22 := Tryz.sizeOf43
  v22 := Tryz.zeroValue43
  a24 := Tryz.isAgg3
  z24 := Tryz.sizeOf3
  t25 := Tryz.underlying101
  a25 := Tryz.isAgg101
  z25 := Tryz.sizeOf101
  v25 := Tryz.zeroValue101
  t39 := Tryz.underlying315
  a39 := Tryz.isAgg315
  z39 := Tryz.sizeOf315
  v39 := Tryz.zeroValue315
  t45 := Tryz.underlying330
  a45 := Tryz.isAgg330
  z45 := Tryz.sizeOf330
  v45 := Tryz.zeroValue330
  t46 := Tryz.underlying331
  a46 := Tryz.isAgg331
  z46 := Tryz.sizeOf331
  v46 := Tryz.zeroValue331
  t50 := Tryz.underlying103
  a50 := Tryz.isAgg103
  z50 := Tryz.sizeOf103
  v50 := Tryz.zeroValue103
  t53 := Tryz.underlying337
  a53 := Tryz.isAgg337
  z53 := Tryz.sizeOf337
  v53 := Tryz.zeroValue337
  t55 := Tryz.underlying339
  a55 := Tryz.isAgg339
  z55 := Tryz.sizeOf339
  v55 := Tryz.zeroValue339
  t66 := Tryz.underlying374
  a66 := Tryz.isAgg374
  z66 := Tryz.sizeOf374
  v66 := Tryz.zeroValue374
  t70 := Tryz.underlying378
  a70 := Tryz.isAgg378
  z70 := Tryz.sizeOf378
  v70 := Tryz.zeroValue378
  t76 := Tryz.underlying392
  a76 := Tryz.isAgg392
  z76 := Tryz.sizeOf392
  v76 := Tryz.zeroValue392
  t77 := Tryz.underlying393
  a77 := Tryz.isAgg393
  z77 := Tryz.sizeOf393
  v77 := Tryz.zeroValue393 }
def Tryz.laysSlF06_f213_ren : Go.Shelf.Ren := ⟨fun | 6 => 213 | 15 => 250 | 14 => 249 | 28 => 272 | 29 => 273 | 20 => 264 | 21 => 265 | 22 => 266 | 23 => 267 | 24 => 268 | 25 => 269 | 26 => 270 | 27 => 271 | 46 => 324 | 47 => 325 | 48 => 326 | 49 => 327 | 50 => 328 | 57 => 347 | n => n, fun | 22 => 25 | 24 => 32 | 25 => 228 | 3 => 3 | 39 => 315 | 0 => 0 | 53 => 337 | 55 => 339 | 4 => 4 | 46 => 331 | 45 => 330 | 50 => 103 | 5 => 5 | 9 => 9 | 66 => 374 | 70 => 378 | 76 => 392 | 77 => 393 | n => n, fun | n => n⟩
theorem Tryz.laysSlF06_f213 : Go.Proofs.SlLaysF0.n6 Tryz.prog Tryz.laysSlF06_f213_ren := {
  mixed := by kernel_rfl
  f6 := ⟨Tryz.f213.name, by decide, Tryz.func213.trans (congrArg some (by kernel_rfl))⟩
  f14 := ⟨Tryz.f249.name, by decide, Tryz.func249.trans (congrArg some (by kernel_rfl))⟩
  f15 := Tryz.func250.trans (congrArg some (by kernel_rfl))
  f20 := ⟨Tryz.f264.name, by decide, Tryz.func264.trans (congrArg some (by kernel_rfl))⟩
  f21 := ⟨Tryz.f265.name, by decide, Tryz.func265.trans (congrArg some (by kernel_rfl))⟩
  f22 := ⟨Tryz.f266.name, by decide, Tryz.func266.trans (congrArg some (by kernel_rfl))⟩
  f23 := ⟨Tryz.f267.name, by decide, Tryz.func267.trans (congrArg some (by kernel_rfl))⟩
  f24 := ⟨Tryz.f268.name, by decide, Tryz.func268.trans (congrArg some (by kernel_rfl))⟩
  f25 := ⟨Tryz.f269.name, by decide, Tryz.func269.trans (congrArg some (by kernel_rfl))⟩
  f26 := ⟨Tryz.f270.name, by decide, Tryz.func270.trans (congrArg some (by kernel_rfl))⟩
  f27 := ⟨Tryz.f271.name, by decide, Tryz.func271.trans (congrArg some (by kernel_rfl))⟩
  f28 := Tryz.func272.trans (congrArg some (by kernel_rfl))
  f29 := Tryz.func273.trans (congrArg some (by kernel_rfl))
  f46 := ⟨Tryz.f324.name, by decide, Tryz.func324.trans (congrArg some (by kernel_rfl))⟩
  f47 := Tryz.func325.trans (congrArg some (by kernel_rfl))
  f48 := Tryz.func326.trans (congrArg some (by kernel_rfl))
  f49 := ⟨Tryz.f327.name, by decide, Tryz.func327.trans (congrArg some (by kernel_rfl))⟩
  f50 := ⟨Tryz.f328.name, by decide, Tryz.func328.trans (congrArg some (by kernel_rfl))⟩
  f57 := ⟨Tryz.f347.name, by decide, Tryz.func347.trans (congrArg some (by kernel_rfl))⟩
  t0 := Tryz.underlying0
  a0 := Tryz.isAgg0
  z0 := Tryz.sizeOf0
  v0 := Tryz.zeroValue0
  t3 := Tryz.underlying3
  a3 := Tryz.isAgg3
  z3 := Tryz.sizeOf3
  v3 := Tryz.zeroValue3
  t4 := Tryz.underlying4
  a4 := Tryz.isAgg4
  z4 := Tryz.sizeOf4
  v4 := Tryz.zeroValue4
  t5 := Tryz.underlying5
  a5 := Tryz.isAgg5
  z5 := Tryz.sizeOf5
  v5 := Tryz.zeroValue5
  t9 := Tryz.underlying9
  a9 := Tryz.isAgg9
  z9 := Tryz.sizeOf9
  v9 := Tryz.zeroValue9
  t22 := Tryz.underlying25
  a22 := Tryz.isAgg25
  z22 := Tryz.sizeOf25
  v22 := Tryz.zeroValue25
  t25 := Tryz.underlying228
  a25 := Tryz.isAgg228
  z25 := Tryz.sizeOf228
  v25 := Tryz.zeroValue228
  t39 := Tryz.underlying315
  a39 := Tryz.isAgg315
  z39 := Tryz.sizeOf315
  v39 := Tryz.zeroValue315
  t45 := Tryz.underlying330
  a45 := Tryz.isAgg330
  z45 := Tryz.sizeOf330
  v45 := Tryz.zeroValue330
  t46 := Tryz.underlying331
  a46 := Tryz.isAgg331
  z46 := Tryz.sizeOf331
  v46 := Tryz.zeroValue331
  t50 := Tryz.underlying103
  a50 := Tryz.isAgg103
  z50 := Tryz.sizeOf103
  v50 := Tryz.zeroValue103
  t53 := Tryz.underlying337
  a53 := Tryz.isAgg337
  z53 := Tryz.sizeOf337
  v53 := Tryz.zeroValue337
  t55 := Tryz.underlying339
  a55 := Tryz.isAgg339
  z55 := Tryz.sizeOf339
  v55 := Tryz.zeroValue339
  t66 := Tryz.underlying374
  a66 := Tryz.isAgg374
  z66 := Tryz.sizeOf374
  v66 := Tryz.zeroValue374
  t70 := Tryz.underlying378
  a70 := Tryz.isAgg378
  z70 := Tryz.sizeOf378
  v70 := Tryz.zeroValue378
  t76 := Tryz.underlying392
  a76 := Tryz.isAgg392
  z76 := Tryz.sizeOf392
  v76 := Tryz.zeroValue392
  t77 := Tryz.underlying393
  a77 := Tryz.isAgg393
  z77 := Tryz.sizeOf393
  v77 := Tryz.zeroValue393 }
def Tryz.laysSlF06_f217_ren : Go.Shelf.Ren := ⟨fun | 6 => 217 | 15 => 250 | 14 => 252 | 28 => 272 | 29 => 273 | 20 => 274 | 21 => 275 | 22 => 276 | 23 => 277 | 24 => 278 | 25 => 279 | 26 => 280 | 27 => 281 | 46 => 329 | 47 => 325 | 48 => 326 | 49 => 330 | 50 => 331 | 57 => 348 | n => n, fun | 22 => 23 | 24 => 51 | 25 => 233 | 3 => 3 | 39 => 315 | 0 => 0 | 53 => 337 | 55 => 339 | 4 => 4 | 46 => 331 | 45 => 330 | 50 => 103 | 5 => 5 | 9 => 9 | 66 => 374 | 70 => 378 | 76 => 392 | 77 => 393 | n => n, fun | n => n⟩
theorem Tryz.laysSlF06_f217 : Go.Proofs.SlLaysF0.n6 Tryz.prog Tryz.laysSlF06_f217_ren := {
  mixed := by kernel_rfl
  f6 := ⟨Tryz.f217.name, by decide, Tryz.func217.trans (congrArg some (by kernel_rfl))⟩
  f14 := ⟨Tryz.f252.name, by decide, Tryz.func252.trans (congrArg some (by kernel_rfl))⟩
  f15 := Tryz.func250.trans (congrArg some (by kernel_rfl))
  f20 := ⟨Tryz.f274.name, by decide, Tryz.func274.trans (congrArg some (by kernel_rfl))⟩
  f21 := ⟨Tryz.f275.name, by decide, Tryz.func275.trans (congrArg some (by kernel_rfl))⟩
  f22 := ⟨Tryz.f276.name, by decide, Tryz.func276.trans (congrArg some (by kernel_rfl))⟩
  f23 := ⟨Tryz.f277.name, by decide, Tryz.func277.trans (congrArg some (by kernel_rfl))⟩
  f24 := ⟨Tryz.f278.name, by decide, Tryz.func278.trans (congrArg some (by kernel_rfl))⟩
  f25 := ⟨Tryz.f279.name, by decide, Tryz.func279.trans (congrArg some (by kernel_rfl))⟩
  f26 := ⟨Tryz.f280.name, by decide, Tryz.func280.trans (congrArg some (by kernel_rfl))⟩
  f27 := ⟨Tryz.f281.name, by decide, Tryz.func281.trans (congrArg some (by kernel_rfl))⟩
  f28 := Tryz.func272.trans (congrArg some (by kernel_rfl))
  f29 := Tryz.func273.trans (congrArg some (by kernel_rfl))
  f46 := ⟨Tryz.f329.name, by decide, Tryz.func329.trans (congrArg some (by kernel_rfl))⟩
  f47 := Tryz.func325.trans (congrArg some (by kernel_rfl))
  f48 := Tryz.func326.trans (congrArg some (by kernel_rfl))
  f49 := ⟨Tryz.f330.name, by decide, Tryz.func330.trans (congrArg some (by kernel_rfl))⟩
  f50 := ⟨Tryz.f331.name, by decide, Tryz.func331.trans (congrArg some (by kernel_rfl))⟩
  f57 := ⟨Tryz.f348.name, by decide, Tryz.func348.trans (congrArg some (by kernel_rfl))⟩
  t0 := Tryz.underlying0
  a0 := Tryz.isAgg0
  z0 := Tryz.sizeOf0
  v0 := Tryz.zeroValue0
  t3 := Tryz.underlying3
  a3 := Tryz.isAgg3
  z3 := Tryz.sizeOf3
  v3 := Tryz.zeroValue3
  t4 := Tryz.underlying4
  a4 := Tryz.isAgg4
  z4 := Tryz.sizeOf4
  v4 := Tryz.zeroValue4
  t5 := Tryz.underlying5
  a5 := Tryz.isAgg5
  z5 := Tryz.sizeOf5
  v5 := Tryz.zeroValue5
  t9 := Tryz.underlying9
  a9 := Tryz.isAgg9
  z9 := Tryz.sizeOf9
  v9 := Tryz.zeroValue9
  t22 := Tryz.underlying23
  a22 := Tryz.isAgg23
  z22 := Tryz.sizeOf23
  v22 := Tryz.zeroValue23
  t25 := Tryz.underlying233
  a25 := Tryz.isAgg233
  z25 := Tryz.sizeOf233
  v25 := Tryz.zeroValue233
  t39 := Tryz.underlying315
  a39 := Tryz.isAgg315
  z39 := Tryz.sizeOf315
  v39 := Tryz.zeroValue315
  t45 := Tryz.underlying330
  a45 := Tryz.isAgg330
  z45 := Tryz.sizeOf330
  v45 := Tryz.zeroValue330
  t46 := Tryz.underlying331
  a46 := Tryz.isAgg331
  z46 := Tryz.sizeOf331
  v46 := Tryz.zeroValue331
  t50 := Tryz.underlying103
  a50 := Tryz.isAgg103
  z50 := Tryz.sizeOf103
  v50 := Tryz.zeroValue103
  t53 := Tryz.underlying337
  a53 := Tryz.isAgg337
  z53 := Tryz.sizeOf337
  v53 := Tryz.zeroValue337
  t55 := Tryz.underlying339
  a55 := Tryz.isAgg339
  z55 := Tryz.sizeOf339
  v55 := Tryz.zeroValue339
  t66 := Tryz.underlying374
  a66 := Tryz.isAgg374
  z66 := Tryz.sizeOf374
  v66 := Tryz.zeroValue374
  t70 := Tryz.underlying378
  a70 := Tryz.isAgg378
  z70 := Tryz.sizeOf378
  v70 := Tryz.zeroValue378
  t76 := Tryz.underlying392
  a76 := Tryz.isAgg392
  z76 := Tryz.sizeOf392
  v76 := Tryz.zeroValue392
  t77 := Tryz.underlying393
  a77 := Tryz.isAgg393
  z77 := Tryz.sizeOf393
  v77 := Tryz.zeroValue393 }
def Tryz.laysSlF06_f220_ren : Go.Shelf.Ren := ⟨fun | 6 => 220 | 15 => 250 | 14 => 253 | 28 => 272 | 29 => 273 | 20 => 282 | 21 => 283 | 22 => 284 | 23 => 285 | 24 => 286 | 25 => 287 | 26 => 288 | 27 => 289 | 46 => 332 | 47 => 325 | 48 => 326 | 49 => 333 | 50 => 334 | 57 => 349 | n => n, fun | 22 => 43 | 24 => 3 | 25 => 101 | 3 => 3 | 39 => 315 | 0 => 0 | 53 => 337 | 55 => 339 | 4 => 4 | 46 => 331 | 45 => 330 | 50 => 103 | 5 => 5 | 9 => 9 | 66 => 374 | 70 => 378 | 76 => 392 | 77 => 393 | n => n, fun | n => n⟩
theorem Tryz.laysSlF06_f220 : Go.Proofs.SlLaysF0.n6 Tryz.prog Tryz.laysSlF06_f220_ren := {
  mixed := by kernel_rfl
  f6 := ⟨Tryz.f220.name, by decide, Tryz.func220.trans (congrArg some (by kernel_rfl))⟩
  f14 := ⟨Tryz.f253.name, by decide, Tryz.func253.trans (congrArg some (by kernel_rfl))⟩
  f15 := Tryz.func250.trans (congrArg some (by kernel_rfl))
  f20 := ⟨Tryz.f282.name, by decide, Tryz.func282.trans (congrArg some (by kernel_rfl))⟩
  f21 := ⟨Tryz.f283.name, by decide, Tryz.func283.trans (congrArg some (by kernel_rfl))⟩
  f22 := ⟨Tryz.f284.name, by decide, Tryz.func284.trans (congrArg some (by kernel_rfl))⟩
  f23 := ⟨Tryz.f285.name, by decide, Tryz.func285.trans (congrArg some (by kernel_rfl))⟩
  f24 := ⟨Tryz.f286.name, by decide, Tryz.func286.trans (congrArg some (by kernel_rfl))⟩
  f25 := ⟨Tryz.f287.name, by decide, Tryz.func287.trans (congrArg some (by kernel_rfl))⟩
  f26 := ⟨Tryz.f288.name, by decide, Tryz.func288.trans (congrArg some (by kernel_rfl))⟩
  f27 := ⟨Tryz.f289.name, by decide, Tryz.func289.trans (congrArg some (by kernel_rfl))⟩
  f28 := Tryz.func272.trans (congrArg some (by kernel_rfl))
  f29 := Tryz.func273.trans (congrArg some (by kernel_rfl))
  f46 := ⟨Tryz.f332.name, by decide, Tryz.func332.trans (congrArg some (by kernel_rfl))⟩
  f47 := Tryz.func325.trans (congrArg some (by kernel_rfl))
  f48 := Tryz.func326.trans (congrArg some (by kernel_rfl))
  f49 := ⟨Tryz.f333.name, by decide, Tryz.func333.trans (congrArg some (by kernel_rfl))⟩
  f50 := ⟨Tryz.f334.name, by decide, Tryz.func334.trans (congrArg some (by kernel_rfl))⟩
  f57 := ⟨Tryz.f349.name, by decide, Tryz.func349.trans (congrArg some (by kernel_rfl))⟩
  t0 := Tryz.underlying0
  a0 := Tryz.isAgg0
  z0 := Tryz.sizeOf0
  v0 := Tryz.zeroValue0
  t3 := Tryz.underlying3
  a3 := Tryz.isAgg3
  z3 := Tryz.sizeOf3
  v3 := Tryz.zeroValue3
  t4 := Tryz.underlying4
  a4 := Tryz.isAgg4
  z4 := Tryz.sizeOf4
  v4 := Tryz.zeroValue4
  t5 := Tryz.underlying5
  a5 := Tryz.isAgg5
  z5 := Tryz.sizeOf5
  v5 := Tryz.zeroValue5
  t9 := Tryz.underlying9
  a9 := Tryz.isAgg9
  z9 := Tryz.sizeOf9
  v9 := Tryz.zeroValue9
  t22 := Tryz.underlying43
  a22 := Tryz.isAgg43
  z22 := Tryz.sizeOf43
  v22 := Tryz.zeroValue43
  t25 := Tryz.underlying101
  a25 := Tryz.isAgg101
  z25 := Tryz.sizeOf101
  v25 := Tryz.zeroValue101
  t39 := Tryz.underlying315
  a39 := Tryz.isAgg315
  z39 := Tryz.sizeOf315
  v39 := Tryz.zeroValue315
  t45 := Tryz.underlying330
  a45 := Tryz.isAgg330
  z45 := Tryz.sizeOf330
  v45 := Tryz.zeroValue330
  t46 := Tryz.underlying331
  a46 := Tryz.isAgg331
  z46 := Tryz.sizeOf331
  v46 := Tryz.zeroValue331
  t50 := Tryz.underlying103
  a50 := Tryz.isAgg103
  z50 := Tryz.sizeOf103
  v50 := Tryz.zeroValue103
  t53 := Tryz.underlying337
  a53 := Tryz.isAgg337
  z53 := Tryz.sizeOf337
  v53 := Tryz.zeroValue337
  t55 := Tryz.underlying339
  a55 := Tryz.isAgg339
  z55 := Tryz.sizeOf339
  v55 := Tryz.zeroValue339
  t66 := Tryz.underlying374
  a66 := Tryz.isAgg374
  z66 := Tryz.sizeOf374
  v66 := Tryz.zeroValue374
  t70 := Tryz.underlying378
  a70 := Tryz.isAgg378
  z70 := Tryz.sizeOf378
  v70 := Tryz.zeroValue378
  t76 := Tryz.underlying392
  a76 := Tryz.isAgg392
  z76 := Tryz.sizeOf392
  v76 := Tryz.zeroValue392
  t77 := Tryz.underlying393
  a77 := Tryz.isAgg393
  z77 := Tryz.sizeOf393
  v77 := Tryz.zeroValue393 }
def Tryz.laysSlF06_f223_ren : Go.Shelf.Ren := ⟨fun | 6 => 223 | 15 => 250 | 14 => 255 | 28 => 272 | 29 => 273 | 20 => 290 | 21 => 291 | 22 => 292 | 23 => 293 | 24 => 294 | 25 => 295 | 26 => 296 | 27 => 297 | 46 => 335 | 47 => 325 | 48 => 326 | 49 => 336 | 50 => 337 | 57 => 350 | n => n, fun | 22 => 67 | 24 => 30 | 25 => 249 | 3 => 3 | 39 => 315 | 0 => 0 | 53 => 337 | 55 => 339 | 4 => 4 | 46 => 331 | 45 => 330 | 50 => 103 | 5 => 5 | 9 => 9 | 66 => 374 | 70 => 378 | 76 => 392 | 77 => 393 | n => n, fun | n => n⟩
theorem Tryz.laysSlF06_f223 : Go.Proofs.SlLaysF0.n6 Tryz.prog Tryz.laysSlF06_f223_ren := {
  mixed := by kernel_rfl
  f6 := ⟨Tryz.f223.name, by decide, Tryz.func223.trans (congrArg some (by kernel_rfl))⟩
  f14 := ⟨Tryz.f255.name, by decide, Tryz.func255.trans (congrArg some (by kernel_rfl))⟩
  f15 := Tryz.func250.trans (congrArg some (by kernel_rfl))
  f20 := ⟨Tryz.f290.name, by decide, Tryz.func290.trans (congrArg some (by kernel_rfl))⟩
  f21 := ⟨Tryz.f291.name, by decide, Tryz.func291.trans (congrArg some (by kernel_rfl))⟩
  f22 := ⟨Tryz.f292.name, by decide, Tryz.func292.trans (congrArg some (by kernel_rfl))⟩
  f23 := ⟨Tryz.f293.name, by decide, Tryz.func293.trans (congrArg some (by kernel_rfl))⟩
  f24 := ⟨Tryz.f294.name, by decide, Tryz.func294.trans (congrArg some (by kernel_rfl))⟩
  f25 := ⟨Tryz.f295.name, by decide, Tryz.func295.trans (congrArg some (by kernel_rfl))⟩
  f26 := ⟨Tryz.f296.name, by decide, Tryz.func296.trans (congrArg some (by kernel_rfl))⟩
  f27 := ⟨Tryz.f297.name, by decide, Tryz.func297.trans (congrArg some (by kernel_rfl))⟩
  f28 := Tryz.func272.trans (congrArg some (by kernel_rfl))
  f29 := Tryz.func273.trans (congrArg some (by kernel_rfl))
  f46 := ⟨Tryz.f335.name, by decide, Tryz.func335.trans (congrArg some (by kernel_rfl))⟩
  f47 := Tryz.func325.trans (congrArg some (by kernel_rfl))
  f48 := Tryz.func326.trans (congrArg some (by kernel_rfl))
  f49 := ⟨Tryz.f336.name, by decide, Tryz.func336.trans (congrArg some (by kernel_rfl))⟩
  f50 := ⟨Tryz.f337.name, by decide, Tryz.func337.trans (congrArg some (by kernel_rfl))⟩
  f57 := ⟨Tryz.f350.name, by decide, Tryz.func350.trans (congrArg some (by kernel_rfl))⟩
  t0 := Tryz.underlying0
  a0 := Tryz.isAgg0
  z0 := Tryz.sizeOf0
  v0 := Tryz.zeroValue0
  t3 := Tryz.underlying3
  a3 := Tryz.isAgg3
  z3 := Tryz.sizeOf3
  v3 := Tryz.zeroValue3
  t4 := Tryz.underlying4
  a4 := Tryz.isAgg4
  z4 := Tryz.sizeOf4
  v4 := Tryz.zeroValue4
  t5 := Tryz.underlying5
  a5 := Tryz.isAgg5
  z5 := Tryz.sizeOf5
  v5 := Tryz.zeroValue5
  t9 := Tryz.underlying9
  a9 := Tryz.isAgg9
  z9 := Tryz.sizeOf9
  v9 := Tryz.zeroValue9
  t22 := Tryz.underlying67
  a22 := Tryz.isAgg67
  z22 := Tryz.sizeOf67
  v22 := Tryz.zeroValue67
  t25 := Tryz.underlying249
  a25 := Tryz.isAgg249
  z25 := Tryz.sizeOf249
  v25 := Tryz.zeroValue249
  t39 := Tryz.underlying315
  a39 := Tryz.isAgg315
  z39 := Tryz.sizeOf315
  v39 := Tryz.zeroValue315
  t45 := Tryz.underlying330
  a45 := Tryz.isAgg330
  z45 := Tryz.sizeOf330
  v45 := Tryz.zeroValue330
  t46 := Tryz.underlying331
  a46 := Tryz.isAgg331
  z46 := Tryz.sizeOf331
  v46 := Tryz.zeroValue331
  t50 := Tryz.underlying103
  a50 := Tryz.isAgg103
  z50 := Tryz.sizeOf103
  v50 := Tryz.zeroValue103
  t53 := Tryz.underlying337
  a53 := Tryz.isAgg337
  z53 := Tryz.sizeOf337
  v53 := Tryz.zeroValue337
  t55 := Tryz.underlying339
  a55 := Tryz.isAgg339
  z55 := Tryz.sizeOf339
  v55 := Tryz.zeroValue339
  t66 := Tryz.underlying374
  a66 := Tryz.isAgg374
  z66 := Tryz.sizeOf374
  v66 := Tryz.zeroValue374
  t70 := Tryz.underlying378
  a70 := Tryz.isAgg378
  z70 := Tryz.sizeOf378
  v70 := Tryz.zeroValue378
  t76 := Tryz.underlying392
  a76 := Tryz.isAgg392
  z76 := Tryz.sizeOf392
  v76 := Tryz.zeroValue392
  t77 := Tryz.underlying393
  a77 := Tryz.isAgg393
  z77 := Tryz.sizeOf393
  v77 := Tryz.zeroValue393 }
def Tryz.laysSlF06_f227_ren : Go.Shelf.Ren := ⟨fun | 6 => 227 | 15 => 250 | 14 => 257 | 28 => 272 | 29 => 273 | 20 => 298 | 21 => 299 | 22 => 300 | 23 => 301 | 24 => 302 | 25 => 303 | 26 => 304 | 27 => 305 | 46 => 338 | 47 => 325 | 48 => 326 | 49 => 339 | 50 => 340 | 57 => 351 | n => n, fun | 22 => 70 | 24 => 53 | 25 => 252 | 3 => 3 | 39 => 315 | 0 => 0 | 53 => 337 | 55 => 339 | 4 => 4 | 46 => 331 | 45 => 330 | 50 => 103 | 5 => 5 | 9 => 9 | 66 => 374 | 70 => 378 | 76 => 392 | 77 => 393 | n => n, fun | n => n⟩
theorem Tryz.laysSlF06_f227 : Go.Proofs.SlLaysF0.n6 Tryz.prog Tryz.laysSlF06_f227_ren := {
  mixed := by kernel_rfl
  f6 := ⟨Tryz.f227.name, by decide, Tryz.func227.trans (congrArg some (by kernel_rfl))⟩
  f14 := ⟨Tryz.f257.name, by decide, Tryz.func257.trans (congrArg some (by kernel_rfl))⟩
  f15 := Tryz.func250.trans (congrArg some (by kernel_rfl))
  f20 := ⟨Tryz.f298.name, by decide, Tryz.func298.trans (congrArg some (by kernel_rfl))⟩
  f21 := ⟨Tryz.f299.name, by decide, Tryz.func299.trans (congrArg some (by kernel_rfl))⟩
  f22 := ⟨Tryz.f300.name, by decide, Tryz.func300.trans (congrArg some (by kernel_rfl))⟩
  f23 := ⟨Tryz.f301.name, by decide, Tryz.func301.trans (congrArg some (by kernel_rfl))⟩
  f24 := ⟨Tryz.f302.name, by decide, Tryz.func302.trans (congrArg some (by kernel_rfl))⟩
  f25 := ⟨Tryz.f303.name, by decide, Tryz.func303.trans (congrArg some (by kernel_rfl))⟩
  f26 := ⟨Tryz.f304.name, by decide, Tryz.func304.trans (congrArg some (by kernel_rfl))⟩
  f27 := ⟨Tryz.f305.name, by decide, Tryz.func305.trans (congrArg some (by kernel_rfl))⟩
  f28 := Tryz.func272.trans (congrArg some (by kernel_rfl))
  f29 := Tryz.func273.trans (congrArg some (by kernel_rfl))
  f46 := ⟨Tryz.f338.name, by decide, Tryz.func338.trans (congrArg some (by kernel_rfl))⟩
  f47 := Tryz.func325.trans (congrArg some (by kernel_rfl))
  f48 := Tryz.func326.trans (congrArg some (by kernel_rfl))
  f49 := ⟨Tryz.f339.name, by decide, Tryz.func339.trans (congrArg some (by kernel_rfl))⟩
  f50 := ⟨Tryz.f340.name, by decide, Tryz.func340.trans (congrArg some (by kernel_rfl))⟩
  f57 := ⟨Tryz.f351.name, by decide, Tryz.func351.trans (congrArg some (by kernel_rfl))⟩
  t0 := Tryz.underlying0
  a0 := Tryz.isAgg0
  z0 := Tryz.sizeOf0
  v0 := Tryz.zeroValue0
  t3 := Tryz.underlying3
  a3 := Tryz.isAgg3
  z3 := Tryz.sizeOf3
  v3 := Tryz.zeroValue3
  t4 := Tryz.underlying4
  a4 := Tryz.isAgg4
  z4 := Tryz.sizeOf4
  v4 := Tryz.zeroValue4
  t5 := Tryz.underlying5
  a5 := Tryz.isAgg5
  z5 := Tryz.sizeOf5
  v5 := Tryz.zeroValue5
  t9 := Tryz.underlying9
  a9 := Tryz.isAgg9
  z9 := Tryz.sizeOf9
  v9 := Tryz.zeroValue9
  t22 := Tryz.underlying70
  a22 := Tryz.isAgg70
  z22 := Tryz.sizeOf70
  v22 := Tryz.zeroValue70
  t25 := Tryz.underlying252
  a25 := Tryz.isAgg252
  z25 := Tryz.sizeOf252
  v25 := Tryz.zeroValue252
  t39 := Tryz.underlying315
  a39 := Tryz.isAgg315
  z39 := Tryz.sizeOf315
  v39 := Tryz.zeroValue315
  t45 := Tryz.underlying330
  a45 := Tryz.isAgg330
  z45 := Tryz.sizeOf330
  v45 := Tryz.zeroValue330
  t46 := Tryz.underlying331
  a46 := Tryz.isAgg331
  z46 := Tryz.sizeOf331
  v46 := Tryz.zeroValue331
  t50 := Tryz.underlying103
  a50 := Tryz.isAgg103
  z50 := Tryz.sizeOf103
  v50 := Tryz.zeroValue103
  t53 := Tryz.underlying337
  a53 := Tryz.isAgg337
  z53 := Tryz.sizeOf337
  v53 := Tryz.zeroValue337
  t55 := Tryz.underlying339
  a55 := Tryz.isAgg339
  z55 := Tryz.sizeOf339
  v55 := Tryz.zeroValue339
  t66 := Tryz.underlying374
  a66 := Tryz.isAgg374
  z66 := Tryz.sizeOf374
  v66 := Tryz.zeroValue374
  t70 := Tryz.underlying378
  a70 := Tryz.isAgg378
  z70 := Tryz.sizeOf378
  v70 := Tryz.zeroValue378
  t76 := Tryz.underlying392
  a76 := Tryz.isAgg392
  z76 := Tryz.sizeOf392
  v76 := Tryz.zeroValue392
  t77 := Tryz.underlying393
  a77 := Tryz.isAgg393
  z77 := Tryz.sizeOf393
  v77 := Tryz.zeroValue393 }
def Tryz.laysSlF06_f230_ren : Go.Shelf.Ren := ⟨fun | 6 => 230 | 15 => 250 | 14 => 259 | 28 => 272 | 29 => 273 | 20 => 306 | 21 => 307 | 22 => 308 | 23 => 309 | 24 => 310 | 25 => 311 | 26 => 312 | 27 => 313 | 46 => 341 | 47 => 325 | 48 => 326 | 49 => 342 | 50 => 343 | 57 => 352 | n => n, fun | 22 => 24 | 24 => 93 | 25 => 257 | 3 => 3 | 39 => 315 | 0 => 0 | 53 => 337 | 55 => 339 | 4 => 4 | 46 => 331 | 45 => 330 | 50 => 103 | 5 => 5 | 9 => 9 | 66 => 374 | 70 => 378 | 76 => 392 | 77 => 393 | n => n, fun | n => n⟩
theorem Tryz.laysSlF06_f230 : Go.Proofs.SlLaysF0.n6 Tryz.prog Tryz.laysSlF06_f230_ren := {
  mixed := by kernel_rfl
  f6 := ⟨Tryz.f230.name, by decide, Tryz.func230.trans (congrArg some (by kernel_rfl))⟩
  f14 := ⟨Tryz.f259.name, by decide, Tryz.func259.trans (congrArg some (by kernel_rfl))⟩
  f15 := Tryz.func250.trans (congrArg some (by kernel_rfl))
  f20 := ⟨Tryz.f306.name, by decide, Tryz.func306.trans (congrArg some (by kernel_rfl))⟩
  f21 := ⟨Tryz.f307.name, by decide, Tryz.func307.trans (congrArg some (by kernel_rfl))⟩
  f22 := ⟨Tryz.f308.name, by decide, Tryz.func308.trans (congrArg some (by kernel_rfl))⟩
  f23 := ⟨Tryz.f309.name, by decide, Tryz.func309.trans (congrArg some (by kernel_rfl))⟩
  f24 := ⟨Tryz.f310.name, by decide, Tryz.func310.trans (congrArg some (by kernel_rfl))⟩
  f25 := ⟨Tryz.f311.name, by decide, Tryz.func311.trans (congrArg some (by kernel_rfl))⟩
  f26 := ⟨Tryz.f312.name, by decide, Tryz.func312.trans (congrArg some (by kernel_rfl))⟩
  f27 := ⟨Tryz.f313.name, by decide, Tryz.func313.trans (congrArg some (by kernel_rfl))⟩
  f28 := Tryz.func272.trans (congrArg some (by kernel_rfl))
  f29 := Tryz.func273.trans (congrArg some (by kernel_rfl))
  f46 := ⟨Tryz.f341.name, by decide, Tryz.func341.trans (congrArg some (by kernel_rfl))⟩
  f47 := Tryz.func325.trans (congrArg some (by kernel_rfl))
  f48 := Tryz.func326.trans (congrArg some (by kernel_rfl))
  f49 := ⟨Tryz.f342.name, by decide, Tryz.func342.trans (congrArg some (by kernel_rfl))⟩
  f50 := ⟨Tryz.f343.name, by decide, Tryz.func343.trans (congrArg some (by kernel_rfl))⟩
  f57 := ⟨Tryz.f352.name, by decide, Tryz.func352.trans (congrArg some (by kernel_rfl))⟩
  t0 := Tryz.underlying0
  a0 := Tryz.isAgg0
  z0 := Tryz.sizeOf0
  v0 := Tryz.zeroValue0
  t3 := Tryz.underlying3
  a3 := Tryz.isAgg3
  z3 := Tryz.sizeOf3
  v3 := Tryz.zeroValue3
  t4 := Tryz.underlying4
  a4 := Tryz.isAgg4
  z4 := Tryz.sizeOf4
  v4 := Tryz.zeroValue4
  t5 := Tryz.underlying5
  a5 := Tryz.isAgg5
  z5 := Tryz.sizeOf5
  v5 := Tryz.zeroValue5
  t9 := Tryz.underlying9
  a9 := Tryz.isAgg9
  z9 := Tryz.sizeOf9
  v9 := Tryz.zeroValue9
  t22 := Tryz.underlying24
  a22 := Tryz.isAgg24
  z22 := Tryz.sizeOf24
  v22 := Tryz.zeroValue24
  t25 := Tryz.underlying257
  a25 := Tryz.isAgg257
  z25 := Tryz.sizeOf257
  v25 := Tryz.zeroValue257
  t39 := Tryz.underlying315
  a39 := Tryz.isAgg315
  z39 := Tryz.sizeOf315
  v39 := Tryz.zeroValue315
  t45 := Tryz.underlying330
  a45 := Tryz.isAgg330
  z45 := Tryz.sizeOf330
  v45 := Tryz.zeroValue330
  t46 := Tryz.underlying331
  a46 := Tryz.isAgg331
  z46 := Tryz.sizeOf331
  v46 := Tryz.zeroValue331
  t50 := Tryz.underlying103
  a50 := Tryz.isAgg103
  z50 := Tryz.sizeOf103
  v50 := Tryz.zeroValue103
  t53 := Tryz.underlying337
  a53 := Tryz.isAgg337
  z53 := Tryz.sizeOf337
  v53 := Tryz.zeroValue337
  t55 := Tryz.underlying339
  a55 := Tryz.isAgg339
  z55 := Tryz.sizeOf339
  v55 := Tryz.zeroValue339
  t66 := Tryz.underlying374
  a66 := Tryz.isAgg374
  z66 := Tryz.sizeOf374
  v66 := Tryz.zeroValue374
  t70 := Tryz.underlying378
  a70 := Tryz.isAgg378
  z70 := Tryz.sizeOf378
  v70 := Tryz.zeroValue378
  t76 := Tryz.underlying392
  a76 := Tryz.isAgg392
  z76 := Tryz.sizeOf392
  v76 := Tryz.zeroValue392
  t77 := Tryz.underlying393
  a77 := Tryz.isAgg393
  z77 := Tryz.sizeOf393
  v77 := Tryz.zeroValue393 }
end Go.Proofs

namespace Go
namespace Sx
open Go.Sort Go.RowKit Go.Proofs Go.Lib

theorem cmpLays1_of {P : Program} {g : FuncId} {cf : Int → Int → Int} {np : Nat} {w : World} {blk off size : Nat} (hT : ∀ x y, Triple P g [iv .i64 x, iv .i64 y] [] np (iv .i64 (cf x y)) []) :
    CmpLays1 P g #[] (Value.int .i64) cf blk off size w := by
  intro m os dk _ x y
  generalize sortWorld (Value.int .i64) w blk off m dk os = W
  have hsat : SatH W (ownB (fun _ => ⟨0, 0, 0⟩) []) (fun _ => ⟨0, 0, 0⟩) [] W :=
    ⟨Frm.refl W _, fun k own o h => by simp [look] at h, fun k k' o own' o' _ h => by simp [look] at h, fun k o h => by simp [look] at h, fun k own o h => by simp [look] at h⟩
  have hrel : relVs (fun _ => ⟨0, 0, 0⟩) [iv .i64 x, iv .i64 y] (#[Value.int .i64 x, Value.int .i64 y] ++ #[]).toList := ⟨rfl, rfl, trivial⟩
  refine ((hT x y).h _ W _ hrel hsat).mono ?_
  rintro e w' ⟨ρ', v, _, rfl, hv, hw'⟩
  have hv : v = .int .i64 (cf x y) := hv
  exact ⟨by rw [hv], grow_of_frm hw'.frm⟩

theorem sortI_of {P : Program} {F g : FuncId} {cf : Int → Int → Int} (hO : SWO (ltOf cf)) {np : Nat} (xs : List Int) (hx : xs.length ≤ 1000000) (enter : ∀ args w, (callFunc F args).run P w = .ok (.enter F args) w)
    (hcon : ∀ (cb : Array Value) (blk off cap : Nat) (d : Array Int) (w : World), CmpLays1 P g cb (Value.int .i64) cf blk off d.size w → Holds (Value.int .i64) w blk off d → blk < w.heap.size → d.size < 4611686018427387904 →
      Calls P F #[.slice (some ⟨blk, off, none⟩) d.size cap, .func (.func g) #[] cb] w fun e w' => e = .returned (.tuple #[]) ∧ ∃ m os, w' = sortWorld (Value.int .i64) w blk off m (pdq (ltOf cf) d 0 d.size (Lib.bitLen d.size) true true) os)
    (hnone : ∀ (p : Option Addr) (cap : Nat) (fv : Value) (w : World), Calls P F #[.slice p 0 cap, fv] w fun e w' => e = .returned (.tuple #[]) ∧ w' = w)
    (hT : ∀ x y, Triple P g [iv .i64 x, iv .i64 y] [] np (iv .i64 (cf x y)) []) :
    Triple P F [.c (.s 0 0 xs.length 1), .c (.f g [])] [(0, true, .arr (aInt xs))] 1 (.tup []) [(0, true, .arr (aInt (pdqL cf xs)))] where
  enter := enter
  h ρ w vals hv hH := by
    have hlen := pdqL_len hO xs
    match hvl : vals.toList, hv with
    | [v, u], hv =>
    have hu : u = .func (.func g) #[] #[] := hv.2.1
    have hvals : vals = #[v, u] := Array.toList_inj.1 (by simpa using hvl)
    subst hvals
    subst hu
    obtain ⟨a, ea, hcap, ha, hcells, hroom⟩ := own_slice (vals := #[v]) (xs := xs) ⟨hv.1, trivial⟩ hH
    have ev : v = .slice a xs.length (ρ 0).cap := by simpa using ea
    subst ev
    rcases Nat.eq_zero_or_pos xs.length with h0 | hpos
    · have hx0 := List.length_eq_zero_iff.1 h0
      subst hx0
      refine (hnone a (ρ 0).cap _ w).mono ?_
      rintro e w' ⟨rfl, rfl⟩
      refine ⟨ρ, _, fun _ _ => rfl, rfl, undef_rel, ?_⟩
      have : pdqL cf ([] : List Int) = [] := List.length_eq_zero_iff.1 hlen
      rw [this]; exact hH
    · obtain ⟨rfl, hblk⟩ := ha (by omega)
      have hoff : (ρ 0).off = 0 := (hH.reg 0 true _ (rfl : Sx.look [(0, true, SO.arr (aInt xs))] 0 = _)).off0 rfl
      have hHo : Holds (Value.int .i64) w (ρ 0).blk 0 xs.toArray := by
        intro j hj
        have hj : j < xs.length := by simpa using hj
        refine ⟨?_, ?_⟩
        · rw [hcells j hj]
          congr 2
          simp [hj]
        · have := (hroom j (by omega)).2
          simpa [adr, hoff] using this
      have hcc := hcon #[] (ρ 0).blk 0 (ρ 0).cap xs.toArray w (cmpLays1_of hT) hHo hblk (by simp; omega)
      simp only [List.size_toArray] at hcc
      refine hcc.mono ?_
      rintro e w' ⟨rfl, m, os, rfl⟩
      refine ⟨ρ, _, fun _ _ => rfl, rfl, undef_rel, ?_⟩
      obtain ⟨hsz, _, _⟩ := pdqL_size hO xs
      have hd : pdqL cf xs = (pdq (ltOf cf) xs.toArray 0 xs.length (Lib.bitLen xs.length) true true).toList := rfl
      generalize pdq (ltOf cf) xs.toArray 0 xs.length (Lib.bitLen xs.length) true true = d' at *
      rw [hd]
      have hdl : d'.toList.length = xs.length := by simpa using hsz
      have hHo2 : Holds (Value.int .i64) (Sort.ahead w m) (ρ 0).blk 0 xs.toArray := hHo
      have hblk2 : (ρ 0).blk < (putRow (Value.int .i64) (Sort.ahead w m) (ρ 0).blk 0 d').heap.size := by rw [Proofs.size_putRow]; exact hblk
      refine hH.rewrite ?_ (by rw [hdl]; exact hcap) ?_ ?_ ?_ (fun h => by omega)
      · show w.heap.size ≤ ((putRow (Value.int .i64) (Sort.ahead w m) (ρ 0).blk 0 d').heap ++ os).size
        rw [Array.size_append, Proofs.size_putRow]
        show w.heap.size ≤ w.heap.size + _
        omega
      · intro b hb hne
        show ((putRow (Value.int .i64) (Sort.ahead w m) (ρ 0).blk 0 d').heap ++ os)[b]? = _
        rw [Array.getElem?_append_left (by rw [Proofs.size_putRow]; exact hb)]
        simp only [putRow, mapBlock, Array.getElem?_modify]
        rw [if_neg (Ne.symm hne)]; rfl
      · intro j x hx
        have hj : j < d'.size := by have := (List.getElem?_eq_some_iff.1 hx).1; simpa using this
        have e := cell?_putRow (Value.int .i64) (Sort.ahead w m) (ρ 0).blk 0 xs.toArray d' hHo2 (by simpa using hsz) j hj
        rw [show adr ρ 0 j = ⟨(ρ 0).blk, 0 + j, none⟩ from by simp [adr, hoff]]
        show (grow (putRow (Value.int .i64) (Sort.ahead w m) (ρ 0).blk 0 d') os).cell? _ = _
        rw [cell?_grow _ _ _ hblk2, e]
        have hx2 : d'[j]? = some x := by simpa using hx
        obtain ⟨h1, h2⟩ := Array.getElem?_eq_some_iff.1 hx2
        rw [getElem!_pos d' j h1, h2]
      · intro t ht
        have hr := hroom t ht
        rw [show adr ρ 0 t = ⟨(ρ 0).blk, 0 + t, none⟩ from by simp [adr, hoff]] at hr ⊢
        show (∃ v, (grow (putRow (Value.int .i64) (Sort.ahead w m) (ρ 0).blk 0 d') os).cell? _ = some v) ∧ (grow (putRow (Value.int .i64) (Sort.ahead w m) (ρ 0).blk 0 d') os).frozen? _ = false
        rw [cell?_grow _ _ _ hblk2, frozen?_grow _ _ _ hblk2, frozen?_putRow]
        refine ⟨?_, hr.2⟩
        by_cases htl : t < xs.length
        · exact ⟨_, cell?_putRow (Value.int .i64) (Sort.ahead w m) (ρ 0).blk 0 xs.toArray d' hHo2 (by simpa using hsz) t (by rw [hsz]; exact htl)⟩
        · rw [cell?_putRow_other _ _ _ _ _ _ (.inr (.inr (by show 0 + d'.size ≤ 0 + t; omega)))]
          exact hr.1

end Sx
end Go

namespace Go.Proofs
open Go.Sx Go.Sort Go.RowKit

theorem encI_one {α : Type} (f : α → List Int) (x : α) : ∀ v ∈ encV f x, v.oneCell' = true := by
  intro v hv
  obtain ⟨z, _, rfl⟩ := List.mem_map.1 hv
  rfl

theorem sortThg_t (xs : List Thg) (hx : xs.length ≤ 1000000) : Triple Tryz.prog 223 [.c (.s 0 0 xs.length 4), .c (.f 175 [])] [(0, true, .arr (aThg xs))] 1 (.tup []) [(0, true, .arr (aThg (pdqL (fun x y : Thg => orI [cmpI x.lot y.lot, cmpI x.bale y.bale, cmpI x.smp y.smp, cmpI x.st y.st]) xs)))] :=
  sortF_of (n := 4) (f := thgL) (cf := (fun x y : Thg => orI [cmpI x.lot y.lot, cmpI x.bale y.bale, cmpI x.smp y.smp, cmpI x.st y.st])) (HC := []) (np := 1) (fun _ => rfl) (swo_of thgLt_ok cmp_thg) [] xs (by decide) hx Tryz.call223
    (fun cb blk off cap d w hcmp hH hblk hsz => AnyQ.slices_SortFunc_eq Tryz.laysSlF06_f223 4 (by intro w; kernel_rfl) (by intro w; kernel_rfl) (encV thgL) (fun _ => rfl) (encI_one _) (fun x y : Thg => orI [cmpI x.lot y.lot, cmpI x.bale y.bale, cmpI x.smp y.smp, cmpI x.st y.st]) (swo_of thgLt_ok cmp_thg) 175 cb blk off cap d w Tryz.call175 hcmp hH hblk hsz)
    (fun p cap fv w => AnyF.slices_SortFunc_none Tryz.laysSlF06_f223 p cap fv w) byObject_t (fun p hp => by cases hp)
theorem sortMom_t (xs : List Mom) (hx : xs.length ≤ 1000000) : Triple Tryz.prog 227 [.c (.s 0 0 xs.length 2), .c (.f 178 [])] [(0, true, .arr (aMom xs))] 1 (.tup []) [(0, true, .arr (aMom (pdqL (fun x y : Mom => orI [cmpI x.bal y.bal, cmpI x.tick y.tick]) xs)))] :=
  sortF_of (n := 2) (f := momL) (cf := (fun x y : Mom => orI [cmpI x.bal y.bal, cmpI x.tick y.tick])) (HC := []) (np := 1) (fun _ => rfl) (swo_of momLt_ok cmp_mom) [] xs (by decide) hx Tryz.call227
    (fun cb blk off cap d w hcmp hH hblk hsz => AnyQ.slices_SortFunc_eq Tryz.laysSlF06_f227 2 (by intro w; kernel_rfl) (by intro w; kernel_rfl) (encV momL) (fun _ => rfl) (encI_one _) (fun x y : Mom => orI [cmpI x.bal y.bal, cmpI x.tick y.tick]) (swo_of momLt_ok cmp_mom) 178 cb blk off cap d w Tryz.call178 hcmp hH hblk hsz)
    (fun p cap fv w => AnyF.slices_SortFunc_none Tryz.laysSlF06_f227 p cap fv w) byMoment_t (fun p hp => by cases hp)
theorem sortWgh_t (xs : List Wgh) (hx : xs.length ≤ 1000000) : Triple Tryz.prog 213 [.c (.s 0 0 xs.length 8), .c (.f 156 [])] [(0, true, .arr (aWgh xs))] 1 (.tup []) [(0, true, .arr (aWgh (pdqL (fun x y : Wgh => cmpI x.id y.id) xs)))] :=
  sortF_of (n := 8) (f := wghL) (cf := (fun x y : Wgh => cmpI x.id y.id)) (HC := []) (np := 1) (fun _ => rfl) (swo_id (cmp_id Wgh.id)) [] xs (by decide) hx Tryz.call213
    (fun cb blk off cap d w hcmp hH hblk hsz => AnyQ.slices_SortFunc_eq Tryz.laysSlF06_f213 8 (by intro w; kernel_rfl) (by intro w; kernel_rfl) (encV wghL) (fun _ => rfl) (encI_one _) (fun x y : Wgh => cmpI x.id y.id) (swo_id (cmp_id Wgh.id)) 156 cb blk off cap d w Tryz.call156 hcmp hH hblk hsz)
    (fun p cap fv w => AnyF.slices_SortFunc_none Tryz.laysSlF06_f213 p cap fv w) byIdWgh_t (fun p hp => by cases hp)
theorem sortChk_t (xs : List Chk) (hx : xs.length ≤ 1000000) : Triple Tryz.prog 217 [.c (.s 0 0 xs.length 5), .c (.f 160 [])] [(0, true, .arr (aChk xs))] 1 (.tup []) [(0, true, .arr (aChk (pdqL (fun x y : Chk => cmpI x.id y.id) xs)))] :=
  sortF_of (n := 5) (f := chkL) (cf := (fun x y : Chk => cmpI x.id y.id)) (HC := []) (np := 1) (fun _ => rfl) (swo_id (cmp_id Chk.id)) [] xs (by decide) hx Tryz.call217
    (fun cb blk off cap d w hcmp hH hblk hsz => AnyQ.slices_SortFunc_eq Tryz.laysSlF06_f217 5 (by intro w; kernel_rfl) (by intro w; kernel_rfl) (encV chkL) (fun _ => rfl) (encI_one _) (fun x y : Chk => cmpI x.id y.id) (swo_id (cmp_id Chk.id)) 160 cb blk off cap d w Tryz.call160 hcmp hH hblk hsz)
    (fun p cap fv w => AnyF.slices_SortFunc_none Tryz.laysSlF06_f217 p cap fv w) byIdChk_t (fun p hp => by cases hp)
theorem sortNtc_t (xs : List Ntc) (hx : xs.length ≤ 1000000) : Triple Tryz.prog 230 [.c (.s 0 0 xs.length 6), .c (.f 181 [])] [(0, true, .arr (aNtc xs))] 1 (.tup []) [(0, true, .arr (aNtc (pdqL (fun x y : Ntc => cmpI x.id y.id) xs)))] :=
  sortF_of (n := 6) (f := ntcL) (cf := (fun x y : Ntc => cmpI x.id y.id)) (HC := []) (np := 1) (fun _ => rfl) (swo_id (cmp_id Ntc.id)) [] xs (by decide) hx Tryz.call230
    (fun cb blk off cap d w hcmp hH hblk hsz => AnyQ.slices_SortFunc_eq Tryz.laysSlF06_f230 6 (by intro w; kernel_rfl) (by intro w; kernel_rfl) (encV ntcL) (fun _ => rfl) (encI_one _) (fun x y : Ntc => cmpI x.id y.id) (swo_id (cmp_id Ntc.id)) 181 cb blk off cap d w Tryz.call181 hcmp hH hblk hsz)
    (fun p cap fv w => AnyF.slices_SortFunc_none Tryz.laysSlF06_f230 p cap fv w) byIdNtc_t (fun p hp => by cases hp)

theorem sortInt_t (xs : List Int) (hx : xs.length ≤ 1000000) : Triple Tryz.prog 220 [.c (.s 0 0 xs.length 1), .c (.f 157 [])] [(0, true, .arr (aInt xs))] 1 (.tup []) [(0, true, .arr (aInt (pdqL cmpI xs)))] :=
  sortI_of (swo_id (cmp_id id)) xs hx Tryz.call220
    (fun cb blk off cap d w hcmp hH hblk hsz => Any.slices_SortFunc_eq Tryz.laysSlF6_f220 (Value.int .i64) (by intro x; rfl) cmpI (swo_id (cmp_id id)) 157 cb blk off cap d w Tryz.call157 hcmp hH hblk hsz)
    (fun p cap fv w => AnyF.slices_SortFunc_none Tryz.laysSlF06_f220 p cap fv w) compare_t

end Go.Proofs

namespace Go.Proofs
open Go.Sx

theorem distinctThg_t (xs : List Thg) (hx : xs.length ≤ 1000000) : Triple Tryz.prog 174 [.c (.s 0 0 xs.length 4), .c (.f 175 [])] [(0, true, .arr (aThg xs))] 1 (.c (.s 0 0 (distS thgLt xs).length 4)) [(0, true, .arr (aThg (distS thgLt xs)))] := by
  have hO := swo_of thgLt_ok cmp_thg
  have hl := pdqL_len hO xs
  have hS := sortThg_t xs hx
  rw [← pdqL_dist thgLt_ok cmp_thg xs]
  generalize pdqL (fun x y : Thg => orI [cmpI x.lot y.lot, cmpI x.bale y.bale, cmpI x.smp y.smp, cmpI x.st y.st]) xs = ys at *
  refine triple_of tB_ok Tryz.func174 rfl Tryz.call174 rfl ?_
  intro ρ w hH
  conv=>whnf
  refine call_step hS rfl rfl ?_
  conv=>whnf
  refine ⟨?_, ?_, ?_⟩
  iterate 2 · repeat' (first | exact trivial | exact rfl | refine And.intro ?_ ?_ | ((conv=>whnf); first | exact trivial | exact rfl | refine And.intro ?_ ?_ | omega))
  conv=>whnf
  have hC := compactThg_t ys (by omega)
  rw [hl] at hC
  refine call_step hC rfl rfl ?_
  conv=>whnf
  refine ⟨?_, ?_, ?_⟩
  iterate 2 · repeat' (first | exact trivial | exact rfl | refine And.intro ?_ ?_ | ((conv=>whnf); first | exact trivial | exact rfl | refine And.intro ?_ ?_ | omega))
  conv=>whnf
  repeat' (first | exact trivial | exact rfl | refine And.intro ?_ ?_ | ((conv=>whnf); first | exact trivial | exact rfl | refine And.intro ?_ ?_ | omega))

theorem distinctMom_t (xs : List Mom) (hx : xs.length ≤ 1000000) : Triple Tryz.prog 177 [.c (.s 0 0 xs.length 2), .c (.f 178 [])] [(0, true, .arr (aMom xs))] 1 (.c (.s 0 0 (distS momLt xs).length 2)) [(0, true, .arr (aMom (distS momLt xs)))] := by
  have hO := swo_of momLt_ok cmp_mom
  have hl := pdqL_len hO xs
  have hS := sortMom_t xs hx
  rw [← pdqL_dist momLt_ok cmp_mom xs]
  generalize pdqL (fun x y : Mom => orI [cmpI x.bal y.bal, cmpI x.tick y.tick]) xs = ys at *
  refine triple_of tB_ok Tryz.func177 rfl Tryz.call177 rfl ?_
  intro ρ w hH
  conv=>whnf
  refine call_step hS rfl rfl ?_
  conv=>whnf
  refine ⟨?_, ?_, ?_⟩
  iterate 2 · repeat' (first | exact trivial | exact rfl | refine And.intro ?_ ?_ | ((conv=>whnf); first | exact trivial | exact rfl | refine And.intro ?_ ?_ | omega))
  conv=>whnf
  have hC := compactMom_t ys (by omega)
  rw [hl] at hC
  refine call_step hC rfl rfl ?_
  conv=>whnf
  refine ⟨?_, ?_, ?_⟩
  iterate 2 · repeat' (first | exact trivial | exact rfl | refine And.intro ?_ ?_ | ((conv=>whnf); first | exact trivial | exact rfl | refine And.intro ?_ ?_ | omega))
  conv=>whnf
  repeat' (first | exact trivial | exact rfl | refine And.intro ?_ ?_ | ((conv=>whnf); first | exact trivial | exact rfl | refine And.intro ?_ ?_ | omega))

theorem distinctInt_t (xs : List Int) (hx : xs.length ≤ 1000000) : Triple Tryz.prog 168 [.c (.s 0 0 xs.length 1), .c (.f 157 [])] [(0, true, .arr (aInt xs))] 1 (.c (.s 0 0 (distS (fun a b : Int => decide (a < b)) xs).length 1)) [(0, true, .arr (aInt (distS (fun a b : Int => decide (a < b)) xs)))] := by
  have hO := swo_of intLt_ok (fun x y => cmp_id id x y)
  have hl := pdqL_len hO xs
  have hS := sortInt_t xs hx
  rw [← pdqL_dist intLt_ok (fun x y => cmp_id id x y) xs]
  have e : (fun x y : Int => cmpI (id x) (id y)) = cmpI := rfl
  rw [e] at hl ⊢
  generalize pdqL cmpI xs = ys at *
  refine triple_of tB_ok Tryz.func168 rfl Tryz.call168 rfl ?_
  intro ρ w hH
  conv=>whnf
  refine call_step hS rfl rfl ?_
  conv=>whnf
  refine ⟨?_, ?_, ?_⟩
  iterate 2 · repeat' (first | exact trivial | exact rfl | refine And.intro ?_ ?_ | ((conv=>whnf); first | exact trivial | exact rfl | refine And.intro ?_ ?_ | omega))
  conv=>whnf
  have hC := compactInt_t ys (by omega)
  rw [hl] at hC
  refine call_step hC rfl rfl ?_
  conv=>whnf
  refine ⟨?_, ?_, ?_⟩
  iterate 2 · repeat' (first | exact trivial | exact rfl | refine And.intro ?_ ?_ | ((conv=>whnf); first | exact trivial | exact rfl | refine And.intro ?_ ?_ | omega))
  conv=>whnf
  repeat' (first | exact trivial | exact rfl | refine And.intro ?_ ?_ | ((conv=>whnf); first | exact trivial | exact rfl | refine And.intro ?_ ?_ | omega))

theorem objects_t (r : Rd) (hw : r.ws.length ≤ 100000) : Triple Tryz.prog 118 [rdA r] (rdH r) 4 (.c (.s 4 0 (objsF r).length 4)) [(4, true, .arr (aThg (objsF r)))] := by
  have e : objsF r = distS thgLt (r.ws.map Wgh.o) := rfl
  rw [e]
  clear e
  obtain ⟨bs, cs, ns, ws⟩ := r
  dsimp only at *
  refine triple_of tB_ok Tryz.func118 rfl Tryz.call118 rfl ?_
  intro ρ w hH
  conv=>whnf
  refine loop_step tB_ok (G := Nat) 1 [] (fun i => [(9, iv .i64 i), (3, .c (.s 5 0 ((ws.take i).map Wgh.o).length 4))]) (fun i => [(5, true, .arr (aThg ((ws.take i).map Wgh.o)))]) (fun i => i ≤ ws.length) (fun i => ws.length - i) ?_
  conv=>whnf
  refine ⟨⟨0, Nat.zero_le _, ?_⟩, ?_⟩
  · conv=>whnf
    repeat' (first | exact trivial | exact rfl | refine And.intro ?_ ?_ | ((conv=>whnf); first | exact trivial | exact rfl | refine And.intro ?_ ?_ | omega))
  rintro i hi ρ1 t1 hρ1
  conv=>whnf
  refine ⟨fun hc => ?_, fun hc => ?_⟩
  · have hlt : i < ws.length := by simpa using hc
    have hL : ((ws.take i).map Wgh.o).length ≤ 100000 := by rw [List.length_map, List.length_take]; omega
    have hnx : (ws.take (i + 1)).map Wgh.o = (ws.take i).map Wgh.o ++ [ws[i].o] := by rw [take_snoc hlt, List.map_append]; rfl
    generalize (ws.take i).map Wgh.o = L at *
    conv=>whnf
    refine ⟨i, rfl, hlt, hlt, ?_⟩
    conv=>whnf
    refine bs_step tB_ok (aThg [ws[i].o]) rfl rfl ?_
    conv=>whnf
    refine ⟨⟨rfl, (by repeat' (first | exact trivial | exact rfl | refine And.intro ?_ ?_ | ((conv=>whnf); first | exact trivial | exact rfl | refine And.intro ?_ ?_ | omega)))⟩, ?_⟩
    conv=>whnf
    refine app_step tB_ok (aThg L) [ws[i].o] (fun _ => rfl) rfl rfl rfl rfl ?_
    conv=>whnf
    refine ⟨⟨rfl, rfl, Nat.le_refl _, Nat.le_refl _, by show (L.length + 1) * 33 ≤ _; omega⟩, ?_⟩
    conv=>whnf
    refine ⟨_, wrapId ⟨by omega, by omega⟩, ?_⟩
    refine ⟨i + 1, hlt, by show ws.length - (i + 1) < ws.length - i; omega, ?_⟩
    dsimp only
    rw [hnx]
    conv=>whnf
    refine ⟨rfl, ?_⟩
    conv=>whnf
    repeat' (first | exact trivial | exact rfl | refine And.intro ?_ ?_ | ((conv=>whnf); first | exact trivial | exact rfl | refine And.intro ?_ ?_ | omega))
    all_goals first | exact (congrArg aThg app1.symm : _) | exact (congrArg aThg app1 : _) | simp
  · have hie : i = ws.length := by simp at hc; omega
    subst hie
    rw [List.take_length]
    conv=>whnf
    refine call_step (distinctThg_t (ws.map Wgh.o) (by rw [List.length_map]; omega)) rfl rfl ?_
    conv=>whnf
    refine ⟨?_, ?_, ?_⟩
    iterate 2 · repeat' (first | exact trivial | exact rfl | refine And.intro ?_ ?_ | ((conv=>whnf); first | exact trivial | exact rfl | refine And.intro ?_ ?_ | omega))
    conv=>whnf
    repeat' (first | exact trivial | exact rfl | refine And.intro ?_ ?_ | ((conv=>whnf); first | exact trivial | exact rfl | refine And.intro ?_ ?_ | omega))

theorem moms_eq (r : Rd) (more : List Mom) : distS momLt ((more ++ r.ws.map wMom) ++ r.cs.map cMom) = momsF r more := by
  unfold momsF
  refine distS_unique momLt_ok (distS_inc momLt_ok _) fun z => ?_
  rw [distS_mem momLt_ok]
  simp only [List.mem_append]
  constructor
  · rintro ((h | h) | h)
    · exact .inr (.inr h)
    · exact .inl h
    · exact .inr (.inl h)
  · rintro (h | h | h)
    · exact .inl (.inr h)
    · exact .inr h
    · exact .inl (.inl h)

theorem cloneMom_t (xs : List Mom) (hb : xs.length ≤ 1000000) : Triple Tryz.prog 176 [.c (.s 0 0 xs.length 2)] [(0, false, .arr (aMom xs))] 1 (.c (.s 1 0 xs.length 2)) [(1, true, .arr (aMom xs))] := by
  refine triple_of tB_ok Tryz.func176 rfl Tryz.call176 rfl ?_
  intro ρ w hH
  conv=>whnf
  have go : aMom (List.take 0 [] ++ List.take xs.length (List.drop 0 xs)) = aMom xs := by
    simp
  refine ⟨fun h0 => ?_, fun h0 => ?_⟩
  · conv=>whnf
    refine ⟨?_, ?_⟩
    · conv=>whnf
      repeat' (first | exact trivial | exact rfl | refine And.intro ?_ ?_ | ((conv=>whnf); first | exact trivial | exact rfl | refine And.intro ?_ ?_ | omega))
      all_goals first | exact h0 | exact List.length_eq_zero_iff.1 h0
    · conv=>whnf
      refine bs_step tB_ok (aMom []) rfl rfl ?_
      conv=>whnf
      refine ⟨⟨rfl, trivial⟩, ?_⟩
      conv=>whnf
      refine app_step tB_ok (aMom []) xs (fun _ => rfl) rfl rfl rfl rfl ?_
      conv=>whnf
      refine ⟨⟨rfl, rfl, Nat.le_refl _, by rw [Nat.zero_add]; exact Nat.le_refl _, by show (0 + xs.length) * 17 ≤ _; omega⟩, ?_⟩
      conv=>whnf
      repeat' (first | exact trivial | exact rfl | refine And.intro ?_ ?_ | ((conv=>whnf); first | exact trivial | exact rfl | refine And.intro ?_ ?_ | omega))
      all_goals first | exact go | simp
  · conv=>whnf
    refine bs_step tB_ok (aMom []) rfl rfl ?_
    conv=>whnf
    refine ⟨⟨rfl, trivial⟩, ?_⟩
    conv=>whnf
    refine app_step tB_ok (aMom []) xs (fun _ => rfl) rfl rfl rfl rfl ?_
    conv=>whnf
    refine ⟨⟨rfl, rfl, Nat.le_refl _, by rw [Nat.zero_add]; exact Nat.le_refl _, by show (0 + xs.length) * 17 ≤ _; omega⟩, ?_⟩
    conv=>whnf
    repeat' (first | exact trivial | exact rfl | refine And.intro ?_ ?_ | ((conv=>whnf); first | exact trivial | exact rfl | refine And.intro ?_ ?_ | omega))
    all_goals first | exact go | simp

theorem map_round {α β : Type} (a : List β) (f : α → β) {l : List α} {i : Nat} (h : i < l.length) : a ++ (l.take (i + 1)).map f = (a ++ (l.take i).map f) ++ [f l[i]] := by
  rw [take_snoc h, List.map_append, List.append_assoc]; rfl

theorem moments_t (r : Rd) (more : List Mom) (hm : more.length ≤ 100000) (hw : r.ws.length ≤ 100000) (hcs : r.cs.length ≤ 100000) :
    Triple Tryz.prog 119 [rdA r, .c (.s 4 0 more.length 2)] (rdH r ++ [(4, false, .arr (aMom more))]) 5 (.c (.s 5 0 (momsF r more).length 2)) [(5, true, .arr (aMom (momsF r more)))] := by
  rw [← moms_eq]
  obtain ⟨bs, cs, ns, ws⟩ := r
  dsimp only at *
  refine triple_of tB_ok Tryz.func119 rfl Tryz.call119 rfl ?_
  intro ρ w hH
  conv=>whnf
  refine call_step (cloneMom_t more (by omega)) rfl rfl ?_
  conv=>whnf
  refine ⟨?_, ?_, ?_⟩
  iterate 2 · repeat' (first | exact trivial | exact rfl | refine And.intro ?_ ?_ | ((conv=>whnf); first | exact trivial | exact rfl | refine And.intro ?_ ?_ | omega))
  conv=>whnf
  refine loop_step tB_ok (G := Nat) 1 [6] (fun i => [(15, iv .i64 i), (5, .c (.s 7 0 (more ++ (ws.take i).map wMom).length 2))]) (fun i => [(7, true, .arr (aMom (more ++ (ws.take i).map wMom)))]) (fun i => i ≤ ws.length) (fun i => ws.length - i) ?_
  conv=>whnf
  refine ⟨⟨0, Nat.zero_le _, ?_⟩, ?_⟩
  · conv=>whnf
    repeat' (first | exact trivial | exact rfl | refine And.intro ?_ ?_ | ((conv=>whnf); first | exact trivial | exact rfl | refine And.intro ?_ ?_ | omega))
    all_goals first | (show aMom more = aMom (more ++ []); rw [List.append_nil]) | simp
  rintro i hi ρ1 t1 hρ1
  conv=>whnf
  refine ⟨fun hc => ?_, fun hc => ?_⟩
  · have hlt : i < ws.length := by simpa using hc
    have hL : (more ++ (ws.take i).map wMom).length ≤ 200000 := by rw [List.length_append, List.length_map, List.length_take]; omega
    have hnx := map_round more wMom hlt
    generalize more ++ (ws.take i).map wMom = L at *
    conv=>whnf
    refine ⟨i, rfl, hlt, hlt, ?_⟩
    conv=>whnf
    refine bs_step tB_ok (aMom [wMom ws[i]]) rfl rfl ?_
    conv=>whnf
    refine ⟨⟨rfl, (by repeat' (first | exact trivial | exact rfl | refine And.intro ?_ ?_ | ((conv=>whnf); first | exact trivial | exact rfl | refine And.intro ?_ ?_ | omega)))⟩, ?_⟩
    conv=>whnf
    refine app_step tB_ok (aMom L) [wMom ws[i]] (fun _ => rfl) rfl rfl rfl rfl ?_
    conv=>whnf
    refine ⟨⟨rfl, rfl, Nat.le_refl _, Nat.le_refl _, by show (L.length + 1) * 17 ≤ _; omega⟩, ?_⟩
    conv=>whnf
    refine ⟨_, wrapId ⟨by omega, by omega⟩, ?_⟩
    refine ⟨i + 1, hlt, by show ws.length - (i + 1) < ws.length - i; omega, ?_⟩
    dsimp only
    rw [hnx]
    conv=>whnf
    refine ⟨rfl, ?_⟩
    conv=>whnf
    repeat' (first | exact trivial | exact rfl | refine And.intro ?_ ?_ | ((conv=>whnf); first | exact trivial | exact rfl | refine And.intro ?_ ?_ | omega))
    all_goals first | exact (congrArg aMom app1.symm : _) | exact (congrArg aMom app1 : _) | simp
  have hie : i = ws.length := by simp at hc; omega
  subst hie
  rw [List.take_length]
  have hL : (more ++ ws.map wMom).length ≤ 200000 := by rw [List.length_append, List.length_map]; omega
  generalize more ++ ws.map wMom = L at *
  conv=>whnf
  refine loop_step tB_ok (G := Nat) 1 [7] (fun i => [(31, iv .i64 i), (5, .c (.s 8 0 (L ++ (cs.take i).map cMom).length 2))]) (fun i => [(8, true, .arr (aMom (L ++ (cs.take i).map cMom)))]) (fun i => i ≤ cs.length) (fun i => cs.length - i) ?_
  conv=>whnf
  refine ⟨⟨0, Nat.zero_le _, ?_⟩, ?_⟩
  · conv=>whnf
    repeat' (first | exact trivial | exact rfl | refine And.intro ?_ ?_ | ((conv=>whnf); first | exact trivial | exact rfl | refine And.intro ?_ ?_ | omega))
    all_goals first | (show aMom L = aMom (L ++ []); rw [List.append_nil]) | simp
  rintro i hi ρ1 t1 hρ1
  conv=>whnf
  refine ⟨fun hc => ?_, fun hc => ?_⟩
  · have hlt : i < cs.length := by simpa using hc
    have hL : (L ++ (cs.take i).map cMom).length ≤ 300000 := by rw [List.length_append, List.length_map, List.length_take]; omega
    have hnx := map_round L cMom hlt
    generalize L ++ (cs.take i).map cMom = M at *
    conv=>whnf
    refine ⟨i, rfl, hlt, hlt, ?_⟩
    conv=>whnf
    refine bs_step tB_ok (aMom [cMom cs[i]]) rfl rfl ?_
    conv=>whnf
    refine ⟨⟨rfl, (by repeat' (first | exact trivial | exact rfl | refine And.intro ?_ ?_ | ((conv=>whnf); first | exact trivial | exact rfl | refine And.intro ?_ ?_ | omega)))⟩, ?_⟩
    conv=>whnf
    refine app_step tB_ok (aMom M) [cMom cs[i]] (fun _ => rfl) rfl rfl rfl rfl ?_
    conv=>whnf
    refine ⟨⟨rfl, rfl, Nat.le_refl _, Nat.le_refl _, by show (M.length + 1) * 17 ≤ _; omega⟩, ?_⟩
    conv=>whnf
    refine ⟨_, wrapId ⟨by omega, by omega⟩, ?_⟩
    refine ⟨i + 1, hlt, by show cs.length - (i + 1) < cs.length - i; omega, ?_⟩
    dsimp only
    rw [hnx]
    conv=>whnf
    refine ⟨rfl, ?_⟩
    conv=>whnf
    repeat' (first | exact trivial | exact rfl | refine And.intro ?_ ?_ | ((conv=>whnf); first | exact trivial | exact rfl | refine And.intro ?_ ?_ | omega))
    all_goals first | exact (congrArg aMom app1.symm : _) | exact (congrArg aMom app1 : _) | simp
  have hie : i = cs.length := by simp at hc; omega
  subst hie
  rw [List.take_length]
  have hL2 : (L ++ cs.map cMom).length ≤ 300000 := by rw [List.length_append, List.length_map]; omega
  generalize L ++ cs.map cMom = M at *
  conv=>whnf
  refine call_step (distinctMom_t M (by omega)) rfl rfl ?_
  conv=>whnf
  refine ⟨?_, ?_, ?_⟩
  iterate 2 · repeat' (first | exact trivial | exact rfl | refine And.intro ?_ ?_ | ((conv=>whnf); first | exact trivial | exact rfl | refine And.intro ?_ ?_ | omega))
  conv=>whnf
  repeat' (first | exact trivial | exact rfl | refine And.intro ?_ ?_ | ((conv=>whnf); first | exact trivial | exact rfl | refine And.intro ?_ ?_ | omega))

end Go.Proofs

