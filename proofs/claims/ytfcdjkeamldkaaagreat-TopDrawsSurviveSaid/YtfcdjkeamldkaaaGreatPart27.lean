/-
  A part of the proof that a law answers true: lemmas of a symbolic walk, plain functions, or contracts of the functions walked (Fc1). Conditions: none.
-/
import Derived.Test.YtfcdjkeamldkaaaGreatChecked
import Derived.JoinedOf
import Derived.KernelRfl
set_option maxRecDepth 100000
set_option linter.unusedVariables false
set_option linter.unusedSimpArgs false
namespace Go.Proofs
theorem fact_laid:laidOutB Tryz.prog=true:=by kernel_rfl
theorem fact_rowed:mapsRowed Tryz.prog=true:=by kernel_rfl
theorem fact_stops:Tryz.prog.stops=[]:=by kernel_rfl
theorem fact_knobs:Tryz.prog.stopKnobs=[]:=by kernel_rfl
theorem fact_heard:Tryz.prog.stopsHeard=true:=by kernel_rfl
theorem fact_keys:Tryz.prog.plainKeys=false:=by kernel_rfl
theorem fact_enter:Tryz.prog.mayEnter=true:=by kernel_rfl
end Go.Proofs

