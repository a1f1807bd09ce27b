/-
  A part of the proof that a law answers true: lemmas of a symbolic walk, plain functions, or contracts of the functions walked (Fc1). Conditions: none.
-/
import Derived.Test.YtfcdjkeamldkaaaGreatChecked
import Derived.JoinedOf
import Derived.KernelRfl
set_option maxRecDepth 100000
set_option linter.unusedVariables false
set_option linter.unusedSimpArgs false
namespace Go.Proofs
theorem bk9:laidOutB Tryz.prog=true:=by kernel_rfl
theorem bR0:mapsRowed Tryz.prog=true:=by kernel_rfl
theorem bR1:Tryz.prog.stops=[]:=by kernel_rfl
theorem bR2:Tryz.prog.stopKnobs=[]:=by kernel_rfl
theorem bR3:Tryz.prog.stopsHeard=true:=by kernel_rfl
theorem cd9:Tryz.prog.plainKeys=false:=by kernel_rfl
theorem bR4:Tryz.prog.mayEnter=true:=by kernel_rfl
end Go.Proofs
