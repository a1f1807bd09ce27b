/-
  A part of the proof that a law answers true: lemmas of a symbolic walk, plain functions, or contracts of the functions walked (Wg). Conditions: none.
-/
import Derived.Test.YtagedjfjcnemoaaGreatPart11
set_option maxRecDepth 100000
set_option linter.unusedVariables false
set_option linter.unusedSimpArgs false
namespace Go.Proofs
open Go.Sx


end Go.Proofs

