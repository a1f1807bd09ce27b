/-
  A part of the proof that a law of dryweightlaw03 answers true: lemmas of a symbolic walk, plain functions, or contracts of the functions walked (Fc1). Conditions: none.
-/
import Derived.Test.YtjjfadfmdodmnaaChecked
import Derived.JoinedOf
import Derived.KernelRfl
set_option maxRecDepth 100000
set_option linter.unusedVariables false
set_option linter.unusedSimpArgs false
namespace Go.Proofs
theorem fact_laid : laidOutB Try.prog = true := by kernel_rfl
theorem fact_rowed : mapsRowed Try.prog = true := by kernel_rfl
theorem fact_stops : Try.prog.stops = [] := by kernel_rfl
theorem fact_knobs : Try.prog.stopKnobs = [] := by kernel_rfl
theorem fact_heard : Try.prog.stopsHeard = true := by kernel_rfl
theorem fact_keys : Try.prog.plainKeys = false := by kernel_rfl
theorem fact_enter : Try.prog.mayEnter = true := by kernel_rfl
end Go.Proofs

