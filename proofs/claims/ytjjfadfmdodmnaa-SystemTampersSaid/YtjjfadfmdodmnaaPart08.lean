/-
  A part of the proof that a law of dryweightlaw03 answers true: lemmas of a symbolic walk, plain functions, or contracts of the functions walked (Tb). Conditions: none.
-/
import Derived.Test.YtjjfadfmdodmnaaPart07
import Derived.Test.YtjjfadfmdodmnaaProg
import Derived.KernelRfl
set_option maxRecDepth 100000
set_option linter.unusedVariables false
set_option linter.unusedSimpArgs false
namespace Go.Proofs
open Go.Sx

def tT : List (Nat × TI) := [
  (2, ⟨.int .i64, 1, 8, [.int .i64 0]⟩),
  (3, ⟨.int .i64, 1, 8, [.int .i64 0]⟩),
  (4, ⟨.bool, 1, 1, [.bool false]⟩),
  (5, ⟨.int .u8, 1, 1, [.int .u8 0]⟩),
  (22, ⟨.slice 33, 1, 24, [.slice none 0 0]⟩),
  (23, ⟨.slice 27, 1, 24, [.slice none 0 0]⟩),
  (25, ⟨.struct [(0, 22), (1, 23)], 2, 48, [.slice none 0 0, .slice none 0 0]⟩),
  (27, ⟨.struct [(0, 3), (1, 3), (2, 3), (3, 3)], 4, 32, [.int .i64 0, .int .i64 0, .int .i64 0, .int .i64 0]⟩),
  (29, ⟨.ptr 124, 1, 8, [.pointer none]⟩),
  (33, ⟨.struct [(0, 3), (1, 3)], 2, 16, [.int .i64 0, .int .i64 0]⟩),
  (34, ⟨.int .i64, 1, 8, [.int .i64 0]⟩),
  (38, ⟨.slice 3, 1, 24, [.slice none 0 0]⟩),
  (47, ⟨.slice 59, 1, 24, [.slice none 0 0]⟩),
  (48, ⟨.slice 113, 1, 24, [.slice none 0 0]⟩),
  (50, ⟨.struct [(0, 3), (1, 48), (2, 38)], 3, 56, [.int .i64 0, .slice none 0 0, .slice none 0 0]⟩),
  (59, ⟨.struct [(0, 3), (1, 3)], 2, 16, [.int .i64 0, .int .i64 0]⟩),
  (86, ⟨.struct [(0, 3), (1, 3), (2, 48), (3, 38)], 4, 64, [.int .i64 0, .int .i64 0, .slice none 0 0, .slice none 0 0]⟩),
  (93, ⟨.struct [(0, 4), (1, 33), (3, 3), (4, 3), (5, 3), (6, 3), (7, 4)], 8, 64, [.bool false, .int .i64 0, .int .i64 0, .int .i64 0, .int .i64 0, .int .i64 0, .int .i64 0, .bool false]⟩),
  (97, ⟨.slice 99, 1, 24, [.slice none 0 0]⟩),
  (99, ⟨.struct [(0, 4), (1, 3), (2, 23)], 3, 40, [.bool false, .int .i64 0, .slice none 0 0]⟩),
  (113, ⟨.struct [(0, 27), (4, 3)], 5, 40, [.int .i64 0, .int .i64 0, .int .i64 0, .int .i64 0, .int .i64 0]⟩),
  (115, ⟨.struct [(0, 3), (1, 3), (2, 113), (7, 3)], 8, 64, [.int .i64 0, .int .i64 0, .int .i64 0, .int .i64 0, .int .i64 0, .int .i64 0, .int .i64 0, .int .i64 0]⟩),
  (120, ⟨.func, 1, 8, [.nilFunc]⟩),
  (121, ⟨.ptr 157, 1, 8, [.pointer none]⟩),
  (124, ⟨.struct [(0, 25)], 2, 48, [.slice none 0 0, .slice none 0 0]⟩),
  (146, ⟨.func, 1, 8, [.nilFunc]⟩),
  (149, ⟨.slice 4, 1, 24, [.slice none 0 0]⟩),
  (151, ⟨.struct [(0, 38), (1, 149), (2, 38)], 3, 72, [.slice none 0 0, .slice none 0 0, .slice none 0 0]⟩),
  (157, ⟨.struct [(0, 3), (1, 23)], 2, 32, [.int .i64 0, .slice none 0 0]⟩),
  (160, ⟨.func, 1, 8, [.nilFunc]⟩),
  (163, ⟨.slice 25, 1, 24, [.slice none 0 0]⟩),
  (165, ⟨.ptr 3, 1, 8, [.pointer none]⟩),
  (166, ⟨.slice 165, 1, 24, [.slice none 0 0]⟩),
  (175, ⟨.map 3 4, 1, 8, [.map none]⟩),
  (176, ⟨.func, 1, 8, [.nilFunc]⟩),
  (182, ⟨.slice 23, 1, 24, [.slice none 0 0]⟩),
  (184, ⟨.map 27 4, 1, 8, [.map none]⟩),
  (186, ⟨.slice 22, 1, 24, [.slice none 0 0]⟩),
  (188, ⟨.slice 47, 1, 24, [.slice none 0 0]⟩),
  (191, ⟨.array 2 3, 2, 16, [.int .i64 0, .int .i64 0]⟩),
  (192, ⟨.int .u64, 1, 8, [.int .u64 0]⟩),
  (196, ⟨.func, 1, 8, [.nilFunc]⟩),
  (198, ⟨.int .i64, 1, 8, [.int .i64 0]⟩),
  (206, ⟨.int .u32, 1, 4, [.int .u32 0]⟩),
  (208, ⟨.int .u64, 1, 8, [.int .u64 0]⟩),
  (211, ⟨.int .u64, 1, 8, [.int .u64 0]⟩),
  (220, ⟨.ptr 211, 1, 8, [.pointer none]⟩)]

theorem tabOK_nil (P : Program) : TabOK P [] := by intro p hp; cases hp
theorem tabOK_cons {P : Program} {t : Nat} {ti : TI} {T : List (Nat × TI)} (h : tiOf P t = some ti) (hT : TabOK P T) : TabOK P ((t, ti) :: T) := by
  intro p hp
  rcases List.mem_cons.1 hp with rfl | hp
  · exact h
  · exact hT p hp

theorem tT_ok : TabOK Try.prog tT := by
  unfold tT
  repeat (refine tabOK_cons (by kernel_rfl) ?_)
  exact tabOK_nil _

def tB : Tabs := ⟨tT, [(33, 2), (27, 4), (191, 2)]⟩

theorem size_int : ∀ w, (sizeOf 3).run Try.prog w = .ok 1 w := by intro w; kernel_rfl
theorem eq_ok3 : EqOK Try.prog [(33, 2), (27, 4), (191, 2)] :=
  eqOK_cons (by kernel_rfl) (by kernel_rfl) (by kernel_rfl) (by kernel_rfl) (by kernel_rfl) (eqOK_cons (by kernel_rfl) (by kernel_rfl) (by kernel_rfl) (by kernel_rfl) (by kernel_rfl) (eqOK_arr2 (by kernel_rfl : Try.prog.underlying 191 = some (.array 2 3)) (by kernel_rfl) size_int (by kernel_rfl) eqOK_nil))
theorem eq_ok : EqOK Try.prog ([(33, 2), (27, 4), (191, 2)]) :=
  eq_ok3

theorem zeroB_ok : ∀ w, (zeroValue 4).run Try.prog w = .ok (.bool false) w := by intro w; kernel_rfl
theorem tB_ok : TabsOK Try.prog tB := ⟨tT_ok, by kernel_rfl, by kernel_rfl, eq_ok, by kernel_rfl⟩

end Go.Proofs

