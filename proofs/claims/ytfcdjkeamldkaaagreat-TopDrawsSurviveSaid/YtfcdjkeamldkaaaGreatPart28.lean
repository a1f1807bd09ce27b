/-
  A part of the proof that a law answers true: lemmas of a symbolic walk, plain functions, or contracts of the functions walked (Fc2). Conditions: none.
-/
import Derived.Test.YtfcdjkeamldkaaaGreatChecked
import Derived.JoinedOf
import Derived.KernelRfl
set_option maxRecDepth 100000
set_option linter.unusedVariables false
set_option linter.unusedSimpArgs false
namespace Go.Proofs
theorem fact_lifts:Tryz.prog.liftsFinal=false:=by kernel_rfl
end Go.Proofs

