/-
  A part of the proof that a law answers true: lemmas of a symbolic walk, plain functions, or contracts of the functions walked (Tb). Conditions: none.
-/
import Derived.Test.YtagedjfjcnemoaaGreatPart07
import Derived.Test.YtagedjfjcnemoaaGreatProg
import Derived.KernelRfl
set_option maxRecDepth 100000
set_option linter.unusedVariables false
set_option linter.unusedSimpArgs false
namespace Go.Proofs
open Go.Sx

def tT : List (Nat × TI) := [
  (2, ⟨.int .i64, 1, 8, [.int .i64 0]⟩),
  (3, ⟨.int .i64, 1, 8, [.int .i64 0]⟩),
  (4, ⟨.bool, 1, 1, [.bool false]⟩),
  (5, ⟨.int .u8, 1, 1, [.int .u8 0]⟩),
  (22, ⟨.slice 57, 1, 24, [.slice none 0 0]⟩),
  (23, ⟨.slice 51, 1, 24, [.slice none 0 0]⟩),
  (24, ⟨.slice 93, 1, 24, [.slice none 0 0]⟩),
  (25, ⟨.slice 32, 1, 24, [.slice none 0 0]⟩),
  (27, ⟨.struct [(0, 22), (1, 23), (2, 24), (3, 25)], 4, 96, [.slice none 0 0, .slice none 0 0, .slice none 0 0, .slice none 0 0]⟩),
  (28, ⟨.int .i64, 1, 8, [.int .i64 0]⟩),
  (30, ⟨.struct [(0, 3), (1, 3), (2, 3), (3, 28)], 4, 32, [.int .i64 0, .int .i64 0, .int .i64 0, .int .i64 0]⟩),
  (32, ⟨.struct [(0, 3), (1, 3), (2, 3), (3, 30), (7, 3)], 8, 64, [.int .i64 0, .int .i64 0, .int .i64 0, .int .i64 0, .int .i64 0, .int .i64 0, .int .i64 0, .int .i64 0]⟩),
  (37, ⟨.struct [(0, 3), (1, 3)], 2, 16, [.int .i64 0, .int .i64 0]⟩),
  (38, ⟨.int .i64, 1, 8, [.int .i64 0]⟩),
  (43, ⟨.slice 3, 1, 24, [.slice none 0 0]⟩),
  (51, ⟨.struct [(0, 3), (1, 3), (2, 3), (3, 3), (4, 3)], 5, 40, [.int .i64 0, .int .i64 0, .int .i64 0, .int .i64 0, .int .i64 0]⟩),
  (53, ⟨.struct [(0, 3), (1, 3)], 2, 16, [.int .i64 0, .int .i64 0]⟩),
  (55, ⟨.slice 27, 1, 24, [.slice none 0 0]⟩),
  (57, ⟨.struct [(0, 3), (1, 3), (2, 37), (4, 3), (5, 3)], 6, 48, [.int .i64 0, .int .i64 0, .int .i64 0, .int .i64 0, .int .i64 0, .int .i64 0]⟩),
  (67, ⟨.slice 30, 1, 24, [.slice none 0 0]⟩),
  (70, ⟨.slice 53, 1, 24, [.slice none 0 0]⟩),
  (73, ⟨.slice 37, 1, 24, [.slice none 0 0]⟩),
  (74, ⟨.slice 176, 1, 24, [.slice none 0 0]⟩),
  (76, ⟨.struct [(0, 73), (1, 74)], 2, 48, [.slice none 0 0, .slice none 0 0]⟩),
  (93, ⟨.struct [(0, 3), (1, 3), (2, 37), (4, 37)], 6, 48, [.int .i64 0, .int .i64 0, .int .i64 0, .int .i64 0, .int .i64 0, .int .i64 0]⟩),
  (100, ⟨.struct [(0, 43), (1, 43)], 2, 48, [.slice none 0 0, .slice none 0 0]⟩),
  (108, ⟨.struct [(0, 43), (1, 43), (2, 43)], 3, 72, [.slice none 0 0, .slice none 0 0, .slice none 0 0]⟩),
  (115, ⟨.ptr 209, 1, 8, [.pointer none]⟩),
  (128, ⟨.ptr 133, 1, 8, [.pointer none]⟩),
  (130, ⟨.map 30 3, 1, 8, [.map none]⟩),
  (131, ⟨.map 53 3, 1, 8, [.map none]⟩),
  (133, ⟨.struct [(0, 27), (4, 67), (5, 130), (6, 70), (7, 131)], 8, 160, [.slice none 0 0, .slice none 0 0, .slice none 0 0, .slice none 0 0, .slice none 0 0, .map none, .slice none 0 0, .map none]⟩),
  (146, ⟨.map 3 57, 1, 8, [.map none]⟩),
  (148, ⟨.map 3 4, 1, 8, [.map none]⟩),
  (167, ⟨.array 2 3, 2, 16, [.int .i64 0, .int .i64 0]⟩),
  (171, ⟨.struct [(0, 37), (2, 3), (3, 3)], 4, 32, [.int .i64 0, .int .i64 0, .int .i64 0, .int .i64 0]⟩),
  (176, ⟨.struct [(0, 3), (1, 3), (2, 3), (3, 3)], 4, 32, [.int .i64 0, .int .i64 0, .int .i64 0, .int .i64 0]⟩),
  (177, ⟨.array 4 4, 4, 4, [.bool false, .bool false, .bool false, .bool false]⟩),
  (193, ⟨.func, 1, 8, [.nilFunc]⟩),
  (209, ⟨.struct [(0, 76)], 2, 48, [.slice none 0 0, .slice none 0 0]⟩),
  (210, ⟨.ptr 218, 1, 8, [.pointer none]⟩),
  (212, ⟨.slice 4, 1, 24, [.slice none 0 0]⟩),
  (214, ⟨.struct [(0, 43), (1, 212), (2, 43)], 3, 72, [.slice none 0 0, .slice none 0 0, .slice none 0 0]⟩),
  (218, ⟨.struct [(0, 3), (1, 74)], 2, 32, [.int .i64 0, .slice none 0 0]⟩),
  (223, ⟨.func, 1, 8, [.nilFunc]⟩),
  (234, ⟨.array 2 28, 2, 16, [.int .i64 0, .int .i64 0]⟩),
  (235, ⟨.slice 234, 1, 24, [.slice none 0 0]⟩),
  (272, ⟨.func, 1, 8, [.nilFunc]⟩),
  (275, ⟨.slice 74, 1, 24, [.slice none 0 0]⟩),
  (284, ⟨.func, 1, 8, [.nilFunc]⟩),
  (310, ⟨.func, 1, 8, [.nilFunc]⟩),
  (315, ⟨.int .u64, 1, 8, [.int .u64 0]⟩),
  (330, ⟨.int .i64, 1, 8, [.int .i64 0]⟩),
  (337, ⟨.int .u32, 1, 4, [.int .u32 0]⟩),
  (339, ⟨.int .u64, 1, 8, [.int .u64 0]⟩),
  (374, ⟨.int .u64, 1, 8, [.int .u64 0]⟩),
  (378, ⟨.ptr 3, 1, 8, [.pointer none]⟩),
  (392, ⟨.ptr 374, 1, 8, [.pointer none]⟩)]

theorem tabOK_nil (P : Program) : TabOK P [] := by intro p hp; cases hp
theorem tabOK_cons {P : Program} {t : Nat} {ti : TI} {T : List (Nat × TI)} (h : tiOf P t = some ti) (hT : TabOK P T) : TabOK P ((t, ti) :: T) := by
  intro p hp
  rcases List.mem_cons.1 hp with rfl | hp
  · exact h
  · exact hT p hp

theorem tT_ok : TabOK Tryz.prog tT := by
  unfold tT
  repeat (refine tabOK_cons (by kernel_rfl) ?_)
  exact tabOK_nil _

def tB : Tabs := ⟨tT, (57, 6) :: (93, 6) :: (32, 8) :: (30, 4) :: (53, 2) :: (51, 5) :: [(37, 2), (176, 4), (167, 2)], [(177, 4, .bool)]⟩

theorem size_int : ∀ w, (sizeOf 3).run Tryz.prog w = .ok 1 w := by intro w; kernel_rfl
theorem eq_ok3 : EqOK Tryz.prog [(37, 2), (176, 4), (167, 2)] :=
  eqOK_cons (by kernel_rfl) (by kernel_rfl) (by kernel_rfl) (by kernel_rfl) (by kernel_rfl) (eqOK_cons (by kernel_rfl) (by kernel_rfl) (by kernel_rfl) (by kernel_rfl) (by kernel_rfl) (eqOK_arr2 (by kernel_rfl : Tryz.prog.underlying 167 = some (.array 2 3)) (by kernel_rfl) size_int (by kernel_rfl) eqOK_nil))
theorem in_span : InEq Tryz.prog 37 2 := inEq_of (by kernel_rfl) (by kernel_rfl) (by kernel_rfl) (by kernel_rfl) (by intro w; kernel_rfl) (by intro w; kernel_rfl)
theorem in_thg : InEq Tryz.prog 30 4 := inEq_of (by kernel_rfl) (by kernel_rfl) (by kernel_rfl) (by kernel_rfl) (by intro w; kernel_rfl) (by intro w; kernel_rfl)
theorem eq_ok6 : EqOK Tryz.prog ((30, 4) :: (53, 2) :: (51, 5) :: [(37, 2), (176, 4), (167, 2)]) :=
  eqOK_cons (by kernel_rfl) (by kernel_rfl) (by kernel_rfl) (by kernel_rfl) (by kernel_rfl) (eqOK_cons (by kernel_rfl) (by kernel_rfl) (by kernel_rfl) (by kernel_rfl) (by kernel_rfl) (eqOK_cons (by kernel_rfl) (by kernel_rfl) (by kernel_rfl) (by kernel_rfl) (by kernel_rfl) eq_ok3))
theorem eq_ok : EqOK Tryz.prog ((57, 6) :: (93, 6) :: (32, 8) :: (30, 4) :: (53, 2) :: (51, 5) :: [(37, 2), (176, 4), (167, 2)]) :=
  eqOK_nest (lookN_cons in_span lookN_nil) (by kernel_rfl) (by kernel_rfl) (by kernel_rfl) (by kernel_rfl) (eqOK_nest (lookN_cons in_span lookN_nil) (by kernel_rfl) (by kernel_rfl) (by kernel_rfl) (by kernel_rfl) (eqOK_nest (lookN_cons in_thg lookN_nil) (by kernel_rfl) (by kernel_rfl) (by kernel_rfl) (by kernel_rfl) eq_ok6))

theorem eqD_ok : EqVOK Tryz.prog [(177, 4, .bool)] := eqVOK_arr (e := 4) (d := .bool) (i := (Tryz.prog.info? 4).get!) (by kernel_rfl) (by kernel_rfl) rfl (by kernel_rfl) (by kernel_rfl) (by kernel_rfl) eqVOK_nil
theorem zeroB_ok : ∀ w, (zeroValue 4).run Tryz.prog w = .ok (.bool false) w := by intro w; kernel_rfl
theorem tB_ok : TabsOK Tryz.prog tB := ⟨tT_ok, by kernel_rfl, by kernel_rfl, eq_ok, eqD_ok, by kernel_rfl⟩

end Go.Proofs

