/-
  A part of the proof that a law answers true: lemmas of a symbolic walk, plain functions, or contracts of the functions walked (Ry). Conditions: none.
-/
import Derived.Test.YtagedjfjcnemoaaGreatPart30
set_option maxRecDepth 100000
set_option linter.unusedVariables false
set_option linter.unusedSimpArgs false
namespace Go.Proofs
open Go.Sx

theorem sus_len (r : Rd) : (suspectsF r).1.length ≤ 1000000 := by
  unfold suspectsF
  split
  · rename_i h0
    split
    · simp
    · have h := checkR_ok.1 h0
      have := idsR_len r h
      have := List.length_filter_le (fun i => decide (Calm (boxR (lessR r [i]) []) (lnkR (lessR r [i]) []) 0)) (idsR r)
      dsimp only; omega
  · simp

theorem need_len (r : Rd) (o : Thg) : (neededF r o).1.length ≤ 1000000 := by
  unfold neededF
  split
  · rename_i h0
    have hck : checkR r = 0 := by
      unfold massF at h0
      by_cases h1 : checkR r = 0
      · exact h1
      · rw [if_neg h1] at h0; exact h0
    have := idsR_len r (checkR_ok.1 hck)
    have := List.length_filter_le (fun i => !(decide (massV (lessR r [i]) o = massF r o))) (idsR r)
    dsimp only; omega
  · simp

theorem balanceSuspects_t (r : Rd) (hw : Wide r) (o : Thg) : Triple Tryz.prog 4 [rdA r, svThg o] (rdH r) 4 (bv true) [] := by
  have hFew := few_rd_t r hw
  by_cases hfew : fewRd r = true
  rotate_left
  · rw [Bool.not_eq_true] at hfew
    rw [hfew] at hFew
    refine triple_of tB_ok Tryz.func4 rfl Tryz.call4 rfl ?_
    intro ρ w hH
    conv=>whnf
    refine call_step hFew rfl rfl ?_
    conv=>whnf
    refine ⟨?_, ?_, ?_⟩
    iterate 2 · repeat' (first | exact trivial | exact rfl | refine And.intro ?_ ?_ | ((conv=>whnf); first | exact trivial | exact rfl | refine And.intro ?_ ?_ | omega))
    conv=>whnf
    refine ⟨fun hc => ?_, fun hc => absurd hc (by simp)⟩
    conv=>whnf
    refine call_step sanity_t rfl rfl ?_
    conv=>whnf
    refine ⟨?_, ?_, ?_⟩
    iterate 2 · repeat' (first | exact trivial | exact rfl | refine And.intro ?_ ?_ | ((conv=>whnf); first | exact trivial | exact rfl | refine And.intro ?_ ?_ | omega))
    conv=>whnf
    repeat' (first | exact trivial | exact rfl | refine And.intro ?_ ?_ | ((conv=>whnf); first | exact trivial | exact rfl | refine And.intro ?_ ?_ | omega))
  rw [hfew] at hFew
  have hf := (fewRd_bd hfew).2
  have hs := few_sml hfew
  have s1 := suspects_t r hs
  have s2 := rSuspects_t r hs hf
  have n1 := needed_t r o hs
  have n2 := rNeeded_t r o hs hf
  have i1 := bInts_t (suspectsF r).1 (suspectsF r).1 (sus_len r)
  have i2 := bInts_t (neededF r o).1 (neededF r o).1 (need_len r o)
  have e1 : ∀ l : List Int, (l == l) = true := fun l => by simp
  generalize suspectsF r = S at *
  generalize neededF r o = N at *
  refine triple_of tB_ok Tryz.func4 rfl Tryz.call4 rfl ?_
  intro ρ w hH
  conv=>whnf
  refine call_step hFew rfl rfl ?_
  conv=>whnf
  refine ⟨?_, ?_, ?_⟩
  iterate 2 · repeat' (first | exact trivial | exact rfl | refine And.intro ?_ ?_ | ((conv=>whnf); first | exact trivial | exact rfl | refine And.intro ?_ ?_ | omega))
  conv=>whnf
  refine ⟨fun hc => absurd hc (by simp), fun hc => ?_⟩
  conv=>whnf
  refine call_step s1 rfl rfl ?_
  conv=>whnf
  refine ⟨?_, ?_, ?_⟩
  iterate 2 · repeat' (first | exact trivial | exact rfl | refine And.intro ?_ ?_ | ((conv=>whnf); first | exact trivial | exact rfl | refine And.intro ?_ ?_ | omega))
  conv=>whnf
  refine call_step s2 rfl rfl ?_
  conv=>whnf
  refine ⟨?_, ?_, ?_⟩
  iterate 2 · repeat' (first | exact trivial | exact rfl | refine And.intro ?_ ?_ | ((conv=>whnf); first | exact trivial | exact rfl | refine And.intro ?_ ?_ | omega))
  conv=>whnf
  refine call_step n1 rfl rfl ?_
  conv=>whnf
  refine ⟨?_, ?_, ?_⟩
  iterate 2 · repeat' (first | exact trivial | exact rfl | refine And.intro ?_ ?_ | ((conv=>whnf); first | exact trivial | exact rfl | refine And.intro ?_ ?_ | omega))
  conv=>whnf
  refine call_step n2 rfl rfl ?_
  conv=>whnf
  refine ⟨?_, ?_, ?_⟩
  iterate 2 · repeat' (first | exact trivial | exact rfl | refine And.intro ?_ ?_ | ((conv=>whnf); first | exact trivial | exact rfl | refine And.intro ?_ ?_ | omega))
  conv=>whnf
  refine call_step sanity_t rfl rfl ?_
  conv=>whnf
  refine ⟨?_, ?_, ?_⟩
  iterate 2 · repeat' (first | exact trivial | exact rfl | refine And.intro ?_ ?_ | ((conv=>whnf); first | exact trivial | exact rfl | refine And.intro ?_ ?_ | omega))
  conv=>whnf
  refine ⟨fun hc => ?_, fun hc => absurd hc (by simp)⟩
  conv=>whnf
  refine ⟨fun hc => ?_, fun hc => absurd (show (S.2 == S.2) = false from hc) (by simp)⟩
  conv=>whnf
  rw [e1] at i1 i2
  refine call_step i1 rfl rfl ?_
  conv=>whnf
  refine ⟨?_, ?_, ?_⟩
  iterate 2 · repeat' (first | exact trivial | exact rfl | refine And.intro ?_ ?_ | ((conv=>whnf); first | exact trivial | exact rfl | refine And.intro ?_ ?_ | omega))
  conv=>whnf
  refine ⟨fun hc => ?_, fun hc => absurd hc (by simp)⟩
  conv=>whnf
  refine ⟨fun hc => ?_, fun hc => absurd (show (N.2 == N.2) = false from hc) (by simp)⟩
  conv=>whnf
  refine call_step i2 rfl rfl ?_
  conv=>whnf
  refine ⟨?_, ?_, ?_⟩
  iterate 2 · repeat' (first | exact trivial | exact rfl | refine And.intro ?_ ?_ | ((conv=>whnf); first | exact trivial | exact rfl | refine And.intro ?_ ?_ | omega))
  conv=>whnf
  repeat' (first | exact trivial | exact rfl | refine And.intro ?_ ?_ | ((conv=>whnf); first | exact trivial | exact rfl | refine And.intro ?_ ?_ | omega))

end Go.Proofs

