/-
  A part of the proof that a law answers true: lemmas of a symbolic walk, plain functions, or contracts of the functions walked (RA). Conditions: none.
-/
import Derived.Test.YtagedjfjcnemoaaGreatPart31
set_option maxRecDepth 100000
set_option linter.unusedVariables false
set_option linter.unusedSimpArgs false
namespace Go.Proofs
open Go.Sx

set_option maxHeartbeats 1000000 in
theorem balanceRanges_t (r : Rd) (hw : Wide r) (a b : Thg) (num : Int) (t : Int × Int) (most : Int) : Triple Tryz.prog 7 [rdA r, svThg a, svThg b, iv .i64 num, svSpn t, iv .i64 most] (rdH r) 4 (bv true) [] := by
  have hFew := few_rd_t r hw
  by_cases hfew : fewRd r = true
  rotate_left
  · rw [Bool.not_eq_true] at hfew
    rw [hfew] at hFew
    refine triple_of tB_ok Tryz.func7 rfl Tryz.call7 rfl ?_
    intro ρ w hH
    conv=>whnf
    refine call_step hFew rfl rfl ?_
    conv=>whnf
    refine ⟨?_, ?_, ?_⟩
    iterate 2 · repeat' (first | exact trivial | exact rfl | refine And.intro ?_ ?_ | ((conv=>whnf); first | exact trivial | exact rfl | refine And.intro ?_ ?_ | omega))
    conv=>whnf
    refine ⟨fun hc => ?_, fun hc => absurd hc (by simp)⟩
    conv=>whnf
    refine call_step sanity_t rfl rfl ?_
    conv=>whnf
    refine ⟨?_, ?_, ?_⟩
    iterate 2 · repeat' (first | exact trivial | exact rfl | refine And.intro ?_ ?_ | ((conv=>whnf); first | exact trivial | exact rfl | refine And.intro ?_ ?_ | omega))
    conv=>whnf
    repeat' (first | exact trivial | exact rfl | refine And.intro ?_ ?_ | ((conv=>whnf); first | exact trivial | exact rfl | refine And.intro ?_ ?_ | omega))
  rw [hfew] at hFew
  have hf := (fewRd_bd hfew).2
  have hs := few_sml hfew
  have m1 := mass_t r a hs
  have m2 := rMass_t r a hs hf
  have l1 := loss_t r a b hs
  have l2 := rLoss_t r a b hs hf
  have d1 := drifted_t r ⟨num, t.1⟩ hs
  have d2 := rDrifted_t r ⟨num, t.1⟩ hs hf
  have c1 := change_t r num t hs
  have c2 := rChange_t r num t hs hf
  have u1 := due_t r ⟨num, t.1⟩ most hs
  have u2 := rDue_t r ⟨num, t.1⟩ most hs hf
  generalize massF r a = M at *
  generalize lossF r a b = L at *
  generalize driftedF r ⟨num, t.1⟩ = D at *
  generalize changeF r num t.1 t.2 = C at *
  generalize dueF r ⟨num, t.1⟩ most = U at *
  refine triple_of tB_ok Tryz.func7 rfl Tryz.call7 rfl ?_
  intro ρ w hH
  conv=>whnf
  refine call_step hFew rfl rfl ?_
  conv=>whnf
  refine ⟨?_, ?_, ?_⟩
  iterate 2 · repeat' (first | exact trivial | exact rfl | refine And.intro ?_ ?_ | ((conv=>whnf); first | exact trivial | exact rfl | refine And.intro ?_ ?_ | omega))
  conv=>whnf
  refine ⟨fun hc => absurd hc (by simp), fun hc => ?_⟩
  conv=>whnf
  refine call_step m1 rfl rfl ?_
  conv=>whnf
  refine ⟨?_, ?_, ?_⟩
  iterate 2 · repeat' (first | exact trivial | exact rfl | refine And.intro ?_ ?_ | ((conv=>whnf); first | exact trivial | exact rfl | refine And.intro ?_ ?_ | omega))
  conv=>whnf
  refine call_step m2 rfl rfl ?_
  conv=>whnf
  refine ⟨?_, ?_, ?_⟩
  iterate 2 · repeat' (first | exact trivial | exact rfl | refine And.intro ?_ ?_ | ((conv=>whnf); first | exact trivial | exact rfl | refine And.intro ?_ ?_ | omega))
  conv=>whnf
  refine call_step l1 rfl rfl ?_
  conv=>whnf
  refine ⟨?_, ?_, ?_⟩
  iterate 2 · repeat' (first | exact trivial | exact rfl | refine And.intro ?_ ?_ | ((conv=>whnf); first | exact trivial | exact rfl | refine And.intro ?_ ?_ | omega))
  conv=>whnf
  refine call_step l2 rfl rfl ?_
  conv=>whnf
  refine ⟨?_, ?_, ?_⟩
  iterate 2 · repeat' (first | exact trivial | exact rfl | refine And.intro ?_ ?_ | ((conv=>whnf); first | exact trivial | exact rfl | refine And.intro ?_ ?_ | omega))
  conv=>whnf
  refine ⟨fun hc => absurd (show ([M.1.1, M.1.2] != [M.1.1, M.1.2]) = true from hc) (by simp), fun hc => ?_⟩
  conv=>whnf
  refine ⟨fun hc => absurd (show (M.2 != M.2) = true from hc) (by simp), fun hc => ?_⟩
  conv=>whnf
  refine ⟨fun hc => absurd (show ([L.1.1, L.1.2] != [L.1.1, L.1.2]) = true from hc) (by simp), fun hc => ?_⟩
  conv=>whnf
  refine ⟨fun hc => absurd (show (L.2 != L.2) = true from hc) (by simp), fun hc => ?_⟩
  conv=>whnf
  refine call_step d1 rfl rfl ?_
  conv=>whnf
  refine ⟨?_, ?_, ?_⟩
  iterate 2 · repeat' (first | exact trivial | exact rfl | refine And.intro ?_ ?_ | ((conv=>whnf); first | exact trivial | exact rfl | refine And.intro ?_ ?_ | omega))
  conv=>whnf
  refine call_step d2 rfl rfl ?_
  conv=>whnf
  refine ⟨?_, ?_, ?_⟩
  iterate 2 · repeat' (first | exact trivial | exact rfl | refine And.intro ?_ ?_ | ((conv=>whnf); first | exact trivial | exact rfl | refine And.intro ?_ ?_ | omega))
  conv=>whnf
  refine call_step c1 rfl rfl ?_
  conv=>whnf
  refine ⟨?_, ?_, ?_⟩
  iterate 2 · repeat' (first | exact trivial | exact rfl | refine And.intro ?_ ?_ | ((conv=>whnf); first | exact trivial | exact rfl | refine And.intro ?_ ?_ | omega))
  conv=>whnf
  refine call_step c2 rfl rfl ?_
  conv=>whnf
  refine ⟨?_, ?_, ?_⟩
  iterate 2 · repeat' (first | exact trivial | exact rfl | refine And.intro ?_ ?_ | ((conv=>whnf); first | exact trivial | exact rfl | refine And.intro ?_ ?_ | omega))
  conv=>whnf
  refine call_step u1 rfl rfl ?_
  conv=>whnf
  refine ⟨?_, ?_, ?_⟩
  iterate 2 · repeat' (first | exact trivial | exact rfl | refine And.intro ?_ ?_ | ((conv=>whnf); first | exact trivial | exact rfl | refine And.intro ?_ ?_ | omega))
  conv=>whnf
  refine call_step u2 rfl rfl ?_
  conv=>whnf
  refine ⟨?_, ?_, ?_⟩
  iterate 2 · repeat' (first | exact trivial | exact rfl | refine And.intro ?_ ?_ | ((conv=>whnf); first | exact trivial | exact rfl | refine And.intro ?_ ?_ | omega))
  conv=>whnf
  refine call_step sanity_t rfl rfl ?_
  conv=>whnf
  refine ⟨?_, ?_, ?_⟩
  iterate 2 · repeat' (first | exact trivial | exact rfl | refine And.intro ?_ ?_ | ((conv=>whnf); first | exact trivial | exact rfl | refine And.intro ?_ ?_ | omega))
  conv=>whnf
  refine ⟨fun hc => ?_, fun hc => absurd hc (by simp)⟩
  conv=>whnf
  refine ⟨fun hc => ?_, fun hc => absurd (show ([D.1.1, D.1.2] == [D.1.1, D.1.2]) = false from hc) (by simp)⟩
  conv=>whnf
  refine ⟨fun hc => ?_, fun hc => absurd (show (D.2 == D.2) = false from hc) (by simp)⟩
  conv=>whnf
  refine ⟨fun hc => ?_, fun hc => absurd (show ([C.1.1, C.1.2] == [C.1.1, C.1.2]) = false from hc) (by simp)⟩
  conv=>whnf
  refine ⟨fun hc => ?_, fun hc => absurd (show (C.2 == C.2) = false from hc) (by simp)⟩
  conv=>whnf
  refine ⟨fun hc => ?_, fun hc => absurd (show (U.1 == U.1) = false from hc) (by simp)⟩
  conv=>whnf
  exact ⟨(by simp : (U.2 == U.2) = true), trivial⟩

end Go.Proofs

