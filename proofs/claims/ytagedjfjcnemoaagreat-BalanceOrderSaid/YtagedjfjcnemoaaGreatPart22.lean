/-
  A part of the proof that a law answers true: lemmas of a symbolic walk, plain functions, or contracts of the functions walked (Rd1, Rf). Conditions: none.
-/
import Derived.Test.YtagedjfjcnemoaaGreatPart21
set_option maxRecDepth 100000
set_option linter.unusedVariables false
set_option linter.unusedSimpArgs false
namespace Go.Proofs
open Go.Sx

theorem agree_t (r : Rd) (h : RdOK r) : Triple Tryz.prog 106 [rdA r] (rdH r) 4 (bv (decide (Calm (boxR r []) (lnkR r []) 0))) [] := by
  have hsh := sheet_ok h (more := []) (by simp) (by simp)
  have hsy : SysOK (boxR r []) (lnkR r []) := rd_sys h (by simp) (by simp)
  have hSp := spreadNil_t r h.sml
  have hS : Triple Tryz.prog 83 [.c (.p 4 0 0 0)] (shH r (objsF r) (momsF r [])) 9
      (.agg [.s 9 0 (boxR r []).length 2, .s 10 0 (lnkR r []).length 4]) [(9, true, .arr (aSpan (boxR r []))), (10, true, .arr (aLink (lnkR r [])))] := sysOf_t r _ _ hsh
  generalize boxR r [] = bs at *
  generalize lnkR r [] = ls at *
  generalize objsF r = os at *
  generalize momsF r [] = ms at *
  by_cases hc : Calm bs ls 0
  · rw [decide_eq_true hc]
    refine triple_of tB_ok Tryz.func106 rfl Tryz.call106 rfl ?_
    intro ρ w hH
    conv=>whnf
    refine call_step hSp rfl rfl ?_
    conv=>whnf
    refine ⟨?_, ?_, ?_⟩
    iterate 2 · repeat' (first | exact trivial | exact rfl | refine And.intro ?_ ?_ | ((conv=>whnf); first | exact trivial | exact rfl | refine And.intro ?_ ?_ | omega))
    conv=>whnf
    refine call_step hS rfl rfl ?_
    conv=>whnf
    refine ⟨?_, ?_, ?_⟩
    iterate 2 · repeat' (first | exact trivial | exact rfl | refine And.intro ?_ ?_ | ((conv=>whnf); first | exact trivial | exact rfl | refine And.intro ?_ ?_ | omega))
    conv=>whnf
    refine call_step (newNone_t bs ls hsy hc) rfl rfl ?_
    conv=>whnf
    refine ⟨?_, ?_, ?_⟩
    iterate 2 · repeat' (first | exact trivial | exact rfl | refine And.intro ?_ ?_ | ((conv=>whnf); first | exact trivial | exact rfl | refine And.intro ?_ ?_ | omega))
    conv=>whnf
    repeat' (first | exact trivial | exact rfl | refine And.intro ?_ ?_ | ((conv=>whnf); first | exact trivial | exact rfl | refine And.intro ?_ ?_ | omega))
  · rw [decide_eq_false hc]
    refine triple_of tB_ok Tryz.func106 rfl Tryz.call106 rfl ?_
    intro ρ w hH
    conv=>whnf
    refine call_step hSp rfl rfl ?_
    conv=>whnf
    refine ⟨?_, ?_, ?_⟩
    iterate 2 · repeat' (first | exact trivial | exact rfl | refine And.intro ?_ ?_ | ((conv=>whnf); first | exact trivial | exact rfl | refine And.intro ?_ ?_ | omega))
    conv=>whnf
    refine call_step hS rfl rfl ?_
    conv=>whnf
    refine ⟨?_, ?_, ?_⟩
    iterate 2 · repeat' (first | exact trivial | exact rfl | refine And.intro ?_ ?_ | ((conv=>whnf); first | exact trivial | exact rfl | refine And.intro ?_ ?_ | omega))
    conv=>whnf
    refine call_step (newClash_t bs ls hsy hc) rfl rfl ?_
    conv=>whnf
    refine ⟨?_, ?_, ?_⟩
    iterate 2 · repeat' (first | exact trivial | exact rfl | refine And.intro ?_ ?_ | ((conv=>whnf); first | exact trivial | exact rfl | refine And.intro ?_ ?_ | omega))
    conv=>whnf
    repeat' (first | exact trivial | exact rfl | refine And.intro ?_ ?_ | ((conv=>whnf); first | exact trivial | exact rfl | refine And.intro ?_ ?_ | omega))

def suspectsF (r : Rd) : List Int × Int :=
  if checkR r = 0 then (if Calm (boxR r []) (lnkR r []) 0 then ([], 0) else ((idsR r).filter (fun i => decide (Calm (boxR (lessR r [i]) []) (lnkR (lessR r [i]) []) 0)), 0)) else ([], checkR r)
def neededF (r : Rd) (o : Thg) : List Int × Int :=
  if (massF r o).2 = 0 then ((idsR r).filter (fun i => !(decide (massV (lessR r [i]) o = massF r o))), 0) else ([], (massF r o).2)

theorem idsR_len (r : Rd) (h : RdOK r) : (idsR r).length ≤ 100 := by
  have h1 := distS_len intLt_ok (allIds r)
  have h2 : (allIds r).length ≤ 100 := by have := h.nr; simp [allIds]; omega
  unfold idsR
  omega

abbrev listT (k : Nat) (R : List Int × Int) : SV := .tup [.inl (.s k 0 R.1.length 1), .inl (.v (.int .i64 R.2))]

theorem suspects_t (r : Rd) (hs : Sml r) : Triple Tryz.prog 21 [rdA r] (rdH r) 4 (listT 4 (suspectsF r)) [(4, true, .arr (aInt (suspectsF r).1))] := by
  have hC := check_rd_t r (Nat.le_trans hs.bs (by decide)) (Nat.le_trans hs.cs (by decide)) (Nat.le_trans hs.ns (by decide)) (Nat.le_trans hs.ws (by decide))
  have e : suspectsF r = if checkR r = 0 then (if Calm (boxR r []) (lnkR r []) 0 then ([], 0) else ((idsR r).filter (fun i => decide (Calm (boxR (lessR r [i]) []) (lnkR (lessR r [i]) []) 0)), 0)) else ([], checkR r) := rfl
  by_cases h0 : checkR r = 0
  · rw [if_pos h0] at e
    rw [h0] at hC
    have h := checkR_ok.1 h0
    have hA := agree_t r h
    by_cases hc : Calm (boxR r []) (lnkR r []) 0
    · rw [if_pos hc] at e
      rw [decide_eq_true hc] at hA
      rw [e]
      refine triple_of tB_ok Tryz.func21 rfl Tryz.call21 rfl ?_
      intro ρ w hH
      conv=>whnf
      refine call_step hC rfl rfl ?_
      conv=>whnf
      refine ⟨?_, ?_, ?_⟩
      iterate 2 · repeat' (first | exact trivial | exact rfl | refine And.intro ?_ ?_ | ((conv=>whnf); first | exact trivial | exact rfl | refine And.intro ?_ ?_ | omega))
      conv=>whnf
      refine ⟨fun hc => absurd hc (by simp), fun hc => ?_⟩
      conv=>whnf
      refine call_step hA rfl rfl ?_
      conv=>whnf
      refine ⟨?_, ?_, ?_⟩
      iterate 2 · repeat' (first | exact trivial | exact rfl | refine And.intro ?_ ?_ | ((conv=>whnf); first | exact trivial | exact rfl | refine And.intro ?_ ?_ | omega))
      conv=>whnf
      refine ⟨fun hc => ?_, fun hc => absurd hc (by simp)⟩
      conv=>whnf
      repeat' (first | exact trivial | exact rfl | refine And.intro ?_ ?_ | ((conv=>whnf); first | exact trivial | exact rfl | refine And.intro ?_ ?_ | omega))
    · rw [if_neg hc] at e
      rw [decide_eq_false hc] at hA
      rw [e]
      have hI := bIds_t r hs
      have hil := idsR_len r h
      have hW := fun i : Int => without_t r [i] hs (by simp)
      have hAg := fun i : Int => agree_t (lessR r [i]) (less_ok h [i])
      have hpe : ∀ i : Int, decide (Calm (boxR (lessR r [i]) []) (lnkR (lessR r [i]) []) 0) = (fun i : Int => decide (Calm (boxR (lessR r [i]) []) (lnkR (lessR r [i]) []) 0)) i := fun i => rfl
      generalize (fun i : Int => decide (Calm (boxR (lessR r [i]) []) (lnkR (lessR r [i]) []) 0)) = p at *
      generalize idsR r = L at *
      generalize hq : lessR r = q at *
      refine triple_of tB_ok Tryz.func21 rfl Tryz.call21 rfl ?_
      intro ρ w hH
      conv=>whnf
      refine call_step hC rfl rfl ?_
      conv=>whnf
      refine ⟨?_, ?_, ?_⟩
      iterate 2 · repeat' (first | exact trivial | exact rfl | refine And.intro ?_ ?_ | ((conv=>whnf); first | exact trivial | exact rfl | refine And.intro ?_ ?_ | omega))
      conv=>whnf
      refine ⟨fun hc => absurd hc (by simp), fun hc => ?_⟩
      conv=>whnf
      refine call_step hA rfl rfl ?_
      conv=>whnf
      refine ⟨?_, ?_, ?_⟩
      iterate 2 · repeat' (first | exact trivial | exact rfl | refine And.intro ?_ ?_ | ((conv=>whnf); first | exact trivial | exact rfl | refine And.intro ?_ ?_ | omega))
      conv=>whnf
      refine ⟨fun hc => absurd hc (by simp), fun hc => ?_⟩
      conv=>whnf
      refine call_step hI rfl rfl ?_
      conv=>whnf
      refine ⟨?_, ?_, ?_⟩
      iterate 2 · repeat' (first | exact trivial | exact rfl | refine And.intro ?_ ?_ | ((conv=>whnf); first | exact trivial | exact rfl | refine And.intro ?_ ?_ | omega))
      conv=>whnf
      refine loop_step tB_ok (G := Nat) 1 [] (fun i => [(20, iv .i64 i), (5, .c (.s 6 0 ((L.take i).filter p).length 1))]) (fun i => [(6, true, .arr (aInt ((L.take i).filter p)))]) (fun i => i ≤ L.length) (fun i => L.length - i) ?_
      conv=>whnf
      refine ⟨⟨0, Nat.zero_le _, ?_⟩, ?_⟩
      · conv=>whnf
        repeat' (first | exact trivial | exact rfl | refine And.intro ?_ ?_ | ((conv=>whnf); first | exact trivial | exact rfl | refine And.intro ?_ ?_ | omega))
      intro i hi ρ1 t1 hρ1
      conv=>whnf
      refine ⟨fun hc => ?_, fun hc => ?_⟩
      · have hlt : i < L.length := by simpa using hc
        have hM : ((L.take i).filter p).length ≤ 100 := by
          have := List.length_filter_le p (L.take i)
          rw [List.length_take] at this; omega
        have hnx := filter_take_succ (p := p) hlt
        generalize (L.take i).filter p = M at *
        conv=>whnf
        refine ⟨i, rfl, hlt, hlt, ?_⟩
        conv=>whnf
        refine bs_step tB_ok (aInt [L[i]]) rfl rfl ?_
        conv=>whnf
        refine ⟨⟨rfl, (by repeat' (first | exact trivial | exact rfl | refine And.intro ?_ ?_ | ((conv=>whnf); first | exact trivial | exact rfl | refine And.intro ?_ ?_ | omega)))⟩, ?_⟩
        conv=>whnf
        refine call_step (hW L[i]) rfl rfl ?_
        conv=>whnf
        refine ⟨?_, ?_, ?_⟩
        iterate 2 · repeat' (first | exact trivial | exact rfl | refine And.intro ?_ ?_ | ((conv=>whnf); first | exact trivial | exact rfl | refine And.intro ?_ ?_ | omega))
        conv=>whnf
        refine call_step (hAg L[i]) rfl rfl ?_
        conv=>whnf
        refine ⟨?_, ?_, ?_⟩
        iterate 2 · repeat' (first | exact trivial | exact rfl | refine And.intro ?_ ?_ | ((conv=>whnf); first | exact trivial | exact rfl | refine And.intro ?_ ?_ | omega))
        conv=>whnf
        refine ⟨fun hc => ?_, fun hc => ?_⟩
        · skip
          have h1 : p L[i] = true := (hpe _).symm.trans hc
          rw [h1] at hnx
          have hnx : (L.take (i + 1)).filter p = M ++ [L[i]] := hnx
          conv=>whnf
          refine bs_step tB_ok (aInt [L[i]]) rfl rfl ?_
          conv=>whnf
          refine ⟨⟨rfl, (by repeat' (first | exact trivial | exact rfl | refine And.intro ?_ ?_ | ((conv=>whnf); first | exact trivial | exact rfl | refine And.intro ?_ ?_ | omega)))⟩, ?_⟩
          conv=>whnf
          refine app_step tB_ok (aInt M) [L[i]] (fun _ => rfl) rfl rfl rfl rfl ?_
          conv=>whnf
          refine ⟨⟨rfl, rfl, Nat.le_refl _, Nat.le_refl _, by show (M.length + 1) * 9 ≤ _; omega⟩, ?_⟩
          conv=>whnf
          refine ⟨_, wrapId ⟨by omega, by omega⟩, ?_⟩
          refine ⟨i + 1, hlt, by show L.length - (i + 1) < L.length - i; omega, ?_⟩
          dsimp only
          rw [hnx]
          conv=>whnf
          refine ⟨rfl, ?_⟩
          conv=>whnf
          repeat' (first | exact trivial | exact rfl | refine And.intro ?_ ?_ | ((conv=>whnf); first | exact trivial | exact rfl | refine And.intro ?_ ?_ | omega))
          all_goals first | exact (congrArg aInt app1.symm : _) | exact (congrArg aInt app1 : _) | simp
        · skip
          have h1 : p L[i] = false := (hpe _).symm.trans hc
          rw [h1] at hnx
          have hnx : (L.take (i + 1)).filter p = M := by rw [hnx]; simp
          conv=>whnf
          refine ⟨_, wrapId ⟨by omega, by omega⟩, ?_⟩
          refine ⟨i + 1, hlt, by show L.length - (i + 1) < L.length - i; omega, ?_⟩
          dsimp only
          rw [hnx]
          conv=>whnf
          refine ⟨rfl, ?_⟩
          conv=>whnf
          repeat' (first | exact trivial | exact rfl | refine And.intro ?_ ?_ | ((conv=>whnf); first | exact trivial | exact rfl | refine And.intro ?_ ?_ | omega))
      have hie : i = L.length := by simp at hc; omega
      subst hie
      rw [List.take_length]
      conv=>whnf
      repeat' (first | exact trivial | exact rfl | refine And.intro ?_ ?_ | ((conv=>whnf); first | exact trivial | exact rfl | refine And.intro ?_ ?_ | omega))
  · rw [if_neg h0] at e
    rw [e]
    generalize checkR r = c at *
    have hcb : (c != 0) = true := by simpa using h0
    refine triple_of tB_ok Tryz.func21 rfl Tryz.call21 rfl ?_
    intro ρ w hH
    conv=>whnf
    refine call_step hC rfl rfl ?_
    conv=>whnf
    refine ⟨?_, ?_, ?_⟩
    iterate 2 · repeat' (first | exact trivial | exact rfl | refine And.intro ?_ ?_ | ((conv=>whnf); first | exact trivial | exact rfl | refine And.intro ?_ ?_ | omega))
    conv=>whnf
    refine ⟨fun hcc => ?_, fun hcc => absurd (show (c != 0) = false from hcc) (by rw [hcb]; simp)⟩
    conv=>whnf
    repeat' (first | exact trivial | exact rfl | refine And.intro ?_ ?_ | ((conv=>whnf); first | exact trivial | exact rfl | refine And.intro ?_ ?_ | omega))

theorem ne_pair {a b c d : Int} : ([a, b] != [c, d]) = !(decide ((a, b) = (c, d))) := by
  rw [Bool.eq_iff_iff]
  simp
  exact Decidable.imp_iff_not_or

theorem needed_t (r : Rd) (o : Thg) (hs : Sml r) : Triple Tryz.prog 23 [rdA r, svThg o] (rdH r) 4 (listT 4 (neededF r o)) [(4, true, .arr (aInt (neededF r o).1))] := by
  have hM := mass_t r o hs
  have e : neededF r o = if (massF r o).2 = 0 then ((idsR r).filter (fun i => !(decide (massV (lessR r [i]) o = massF r o))), 0) else ([], (massF r o).2) := rfl
  have hck : (massF r o).2 = 0 → checkR r = 0 := by
    unfold massF
    intro hh
    by_cases h0 : checkR r = 0
    · exact h0
    · rw [if_neg h0] at hh; exact hh
  by_cases h0 : (massF r o).2 = 0
  · rw [if_pos h0] at e
    have h := checkR_ok.1 (hck h0)
    have hI := bIds_t r hs
    have hil := idsR_len r h
    have hW := fun i : Int => without_t r [i] hs (by simp)
    have hAg := fun i : Int => massV_t (lessR r [i]) o (less_ok h [i])
    rw [e]
    clear e hck
    generalize massF r o = w at *
    obtain ⟨⟨wl, wh⟩, we⟩ := w
    have h0 : we = 0 := h0
    subst h0
    have hpe : ∀ i : Int, (fun i : Int => !(decide (massV (lessR r [i]) o = ((wl, wh), 0)))) i = !(decide (massV (lessR r [i]) o = ((wl, wh), 0))) := fun i => rfl
    generalize (fun i : Int => !(decide (massV (lessR r [i]) o = ((wl, wh), 0)))) = p at *
    generalize idsR r = L at *
    generalize hq : lessR r = q at *
    generalize hmm : (fun i : Int => massV (q [i]) o) = mv at *
    have hmv : ∀ i, massV (q [i]) o = mv i := fun i => by rw [← hmm]
    simp only [hmv] at hAg hpe
    clear hmm hmv
    refine triple_of tB_ok Tryz.func23 rfl Tryz.call23 rfl ?_
    intro ρ w hH
    conv=>whnf
    refine call_step hM rfl rfl ?_
    conv=>whnf
    refine ⟨?_, ?_, ?_⟩
    iterate 2 · repeat' (first | exact trivial | exact rfl | refine And.intro ?_ ?_ | ((conv=>whnf); first | exact trivial | exact rfl | refine And.intro ?_ ?_ | omega))
    conv=>whnf
    refine ⟨fun hc => absurd hc (by simp), fun hc => ?_⟩
    conv=>whnf
    refine call_step hI rfl rfl ?_
    conv=>whnf
    refine ⟨?_, ?_, ?_⟩
    iterate 2 · repeat' (first | exact trivial | exact rfl | refine And.intro ?_ ?_ | ((conv=>whnf); first | exact trivial | exact rfl | refine And.intro ?_ ?_ | omega))
    conv=>whnf
    refine loop_step tB_ok (G := Nat) 1 [] (fun i => [(25, iv .i64 i), (8, .c (.s 8 0 ((L.take i).filter p).length 1))]) (fun i => [(8, true, .arr (aInt ((L.take i).filter p)))]) (fun i => i ≤ L.length) (fun i => L.length - i) ?_
    conv=>whnf
    refine ⟨⟨0, Nat.zero_le _, ?_⟩, ?_⟩
    · conv=>whnf
      repeat' (first | exact trivial | exact rfl | refine And.intro ?_ ?_ | ((conv=>whnf); first | exact trivial | exact rfl | refine And.intro ?_ ?_ | omega))
    intro i hi ρ1 t1 hρ1
    conv=>whnf
    refine ⟨fun hc => ?_, fun hc => ?_⟩
    · have hlt : i < L.length := by simpa using hc
      have hM : ((L.take i).filter p).length ≤ 100 := by
        have := List.length_filter_le p (L.take i)
        rw [List.length_take] at this; omega
      have hnx := filter_take_succ (p := p) hlt
      generalize (L.take i).filter p = M at *
      have hA1 := hAg L[i]
      have hp1 := hpe L[i]
      generalize mv L[i] = v at *
      obtain ⟨⟨vl, vh⟩, ve⟩ := v
      conv=>whnf
      refine ⟨i, rfl, hlt, hlt, ?_⟩
      conv=>whnf
      refine bs_step tB_ok (aInt [L[i]]) rfl rfl ?_
      conv=>whnf
      refine ⟨⟨rfl, (by repeat' (first | exact trivial | exact rfl | refine And.intro ?_ ?_ | ((conv=>whnf); first | exact trivial | exact rfl | refine And.intro ?_ ?_ | omega)))⟩, ?_⟩
      conv=>whnf
      refine call_step (hW L[i]) rfl rfl ?_
      conv=>whnf
      refine ⟨?_, ?_, ?_⟩
      iterate 2 · repeat' (first | exact trivial | exact rfl | refine And.intro ?_ ?_ | ((conv=>whnf); first | exact trivial | exact rfl | refine And.intro ?_ ?_ | omega))
      conv=>whnf
      refine call_step hA1 rfl rfl ?_
      conv=>whnf
      refine ⟨?_, ?_, ?_⟩
      iterate 2 · repeat' (first | exact trivial | exact rfl | refine And.intro ?_ ?_ | ((conv=>whnf); first | exact trivial | exact rfl | refine And.intro ?_ ?_ | omega))
      conv=>whnf
      refine ⟨fun hc => ?_, fun hc => ?_⟩
      · have hve : ¬ ve = 0 := by simpa using (show (ve != 0) = true from hc)
        have hpt : p L[i] = true := by rw [hp1]; simp [hve]
        have h1 : p L[i] = true := hpt
        rw [h1] at hnx
        have hnx : (L.take (i + 1)).filter p = M ++ [L[i]] := hnx
        conv=>whnf
        refine bs_step tB_ok (aInt [L[i]]) rfl rfl ?_
        conv=>whnf
        refine ⟨⟨rfl, (by repeat' (first | exact trivial | exact rfl | refine And.intro ?_ ?_ | ((conv=>whnf); first | exact trivial | exact rfl | refine And.intro ?_ ?_ | omega)))⟩, ?_⟩
        conv=>whnf
        refine app_step tB_ok (aInt M) [L[i]] (fun _ => rfl) rfl rfl rfl rfl ?_
        conv=>whnf
        refine ⟨⟨rfl, rfl, Nat.le_refl _, Nat.le_refl _, by show (M.length + 1) * 9 ≤ _; omega⟩, ?_⟩
        conv=>whnf
        refine ⟨_, wrapId ⟨by omega, by omega⟩, ?_⟩
        refine ⟨i + 1, hlt, by show L.length - (i + 1) < L.length - i; omega, ?_⟩
        dsimp only
        rw [hnx]
        conv=>whnf
        refine ⟨rfl, ?_⟩
        conv=>whnf
        repeat' (first | exact trivial | exact rfl | refine And.intro ?_ ?_ | ((conv=>whnf); first | exact trivial | exact rfl | refine And.intro ?_ ?_ | omega))
        all_goals first | exact (congrArg aInt app1.symm : _) | exact (congrArg aInt app1 : _) | simp
      have hve : ve = 0 := by simpa using (show (ve != 0) = false from hc)
      subst hve
      conv=>whnf
      refine ⟨fun hc => ?_, fun hc => ?_⟩
      · have hne : (!(decide ((vl, vh) = (wl, wh)))) = true := by rw [← ne_pair]; exact hc
        have hpt : p L[i] = true := by rw [hp1]; simpa using hne
        have h1 : p L[i] = true := hpt
        rw [h1] at hnx
        have hnx : (L.take (i + 1)).filter p = M ++ [L[i]] := hnx
        conv=>whnf
        refine bs_step tB_ok (aInt [L[i]]) rfl rfl ?_
        conv=>whnf
        refine ⟨⟨rfl, (by repeat' (first | exact trivial | exact rfl | refine And.intro ?_ ?_ | ((conv=>whnf); first | exact trivial | exact rfl | refine And.intro ?_ ?_ | omega)))⟩, ?_⟩
        conv=>whnf
        refine app_step tB_ok (aInt M) [L[i]] (fun _ => rfl) rfl rfl rfl rfl ?_
        conv=>whnf
        refine ⟨⟨rfl, rfl, Nat.le_refl _, Nat.le_refl _, by show (M.length + 1) * 9 ≤ _; omega⟩, ?_⟩
        conv=>whnf
        refine ⟨_, wrapId ⟨by omega, by omega⟩, ?_⟩
        refine ⟨i + 1, hlt, by show L.length - (i + 1) < L.length - i; omega, ?_⟩
        dsimp only
        rw [hnx]
        conv=>whnf
        refine ⟨rfl, ?_⟩
        conv=>whnf
        repeat' (first | exact trivial | exact rfl | refine And.intro ?_ ?_ | ((conv=>whnf); first | exact trivial | exact rfl | refine And.intro ?_ ?_ | omega))
        all_goals first | exact (congrArg aInt app1.symm : _) | exact (congrArg aInt app1 : _) | simp
      · have hne : (!(decide ((vl, vh) = (wl, wh)))) = false := by rw [← ne_pair]; exact hc
        have hpt : p L[i] = false := by rw [hp1]; simpa using hne
        have h1 : p L[i] = false := hpt
        rw [h1] at hnx
        have hnx : (L.take (i + 1)).filter p = M := by rw [hnx]; simp
        conv=>whnf
        refine ⟨_, wrapId ⟨by omega, by omega⟩, ?_⟩
        refine ⟨i + 1, hlt, by show L.length - (i + 1) < L.length - i; omega, ?_⟩
        dsimp only
        rw [hnx]
        conv=>whnf
        refine ⟨rfl, ?_⟩
        conv=>whnf
        repeat' (first | exact trivial | exact rfl | refine And.intro ?_ ?_ | ((conv=>whnf); first | exact trivial | exact rfl | refine And.intro ?_ ?_ | omega))
    have hie : i = L.length := by simp at hc; omega
    subst hie
    rw [List.take_length]
    conv=>whnf
    repeat' (first | exact trivial | exact rfl | refine And.intro ?_ ?_ | ((conv=>whnf); first | exact trivial | exact rfl | refine And.intro ?_ ?_ | omega))
  · rw [if_neg h0] at e
    rw [e]
    generalize massF r o = w at *
    obtain ⟨⟨wl, wh⟩, we⟩ := w
    have h0 : ¬ we = 0 := h0
    have hcb : (we != 0) = true := by simpa using h0
    refine triple_of tB_ok Tryz.func23 rfl Tryz.call23 rfl ?_
    intro ρ w hH
    conv=>whnf
    refine call_step hM rfl rfl ?_
    conv=>whnf
    refine ⟨?_, ?_, ?_⟩
    iterate 2 · repeat' (first | exact trivial | exact rfl | refine And.intro ?_ ?_ | ((conv=>whnf); first | exact trivial | exact rfl | refine And.intro ?_ ?_ | omega))
    conv=>whnf
    refine ⟨fun hcc => ?_, fun hcc => absurd (show (we != 0) = false from hcc) (by rw [hcb]; simp)⟩
    conv=>whnf
    repeat' (first | exact trivial | exact rfl | refine And.intro ?_ ?_ | ((conv=>whnf); first | exact trivial | exact rfl | refine And.intro ?_ ?_ | omega))

end Go.Proofs

namespace Go.Proofs
open Go.Sx

theorem foreseeV_t (r : Rd) (u : Wgh) (hs : Sml r) : Triple Tryz.prog 17 [rdA r, svWgh u] (rdH r) 4 (rngT (foreseeF r u)) [] := by
  have hC := check_rd_t r (Nat.le_trans hs.bs (by decide)) (Nat.le_trans hs.cs (by decide)) (Nat.le_trans hs.ns (by decide)) (Nat.le_trans hs.ws (by decide))
  have e : foreseeF r u = if checkR r = 0 then (if momOK r (wMom u) = true ∧ thgF u.o = true then (if u.o ∈ objsF r then (if Calm (boxW r u) (lnkR r [wMom u]) 0 then foreseeV r u else ((0, 0), 9)) else ((0, 0), 5)) else ((0, 0), 1)) else ((0, 0), checkR r) := rfl
  have hMo := bMoment_t r (wMom u) (Nat.le_trans hs.bs (by decide))
  have hT := thing_t u.o
  by_cases h0 : checkR r = 0
  rotate_left
  · rw [if_neg h0] at e
    rw [e]
    generalize checkR r = c at *
    refine triple_of tB_ok Tryz.func17 rfl Tryz.call17 rfl ?_
    intro ρ w hH
    conv=>whnf
    refine call_step hC rfl rfl ?_
    conv=>whnf
    refine ⟨?_, ?_, ?_⟩
    iterate 2 · repeat' (first | exact trivial | exact rfl | refine And.intro ?_ ?_ | ((conv=>whnf); first | exact trivial | exact rfl | refine And.intro ?_ ?_ | omega))
    conv=>whnf
    refine ⟨fun hcc => ?_, fun hcc => absurd (by simpa using (show (c != 0) = false from hcc)) h0⟩
    conv=>whnf
    repeat' (first | exact trivial | exact rfl | refine And.intro ?_ ?_ | ((conv=>whnf); first | exact trivial | exact rfl | refine And.intro ?_ ?_ | omega))
  rw [if_pos h0] at e
  rw [h0] at hC
  have h := checkR_ok.1 h0
  by_cases hm : momOK r (wMom u) = true
  rotate_left
  · rw [if_neg (fun hh => hm hh.1)] at e
    have hm2 : momOK r (wMom u) = false := by simpa using hm
    rw [hm2] at hMo
    rw [e]
    refine triple_of tB_ok Tryz.func17 rfl Tryz.call17 rfl ?_
    intro ρ w hH
    conv=>whnf
    refine call_step hC rfl rfl ?_
    conv=>whnf
    refine ⟨?_, ?_, ?_⟩
    iterate 2 · repeat' (first | exact trivial | exact rfl | refine And.intro ?_ ?_ | ((conv=>whnf); first | exact trivial | exact rfl | refine And.intro ?_ ?_ | omega))
    conv=>whnf
    refine ⟨fun hc => absurd hc (by simp), fun hc => ?_⟩
    conv=>whnf
    refine call_step hMo rfl rfl ?_
    conv=>whnf
    refine ⟨?_, ?_, ?_⟩
    iterate 2 · repeat' (first | exact trivial | exact rfl | refine And.intro ?_ ?_ | ((conv=>whnf); first | exact trivial | exact rfl | refine And.intro ?_ ?_ | omega))
    conv=>whnf
    refine ⟨fun hc => ?_, fun hc => absurd hc (by simp)⟩
    conv=>whnf
    repeat' (first | exact trivial | exact rfl | refine And.intro ?_ ?_ | ((conv=>whnf); first | exact trivial | exact rfl | refine And.intro ?_ ?_ | omega))
  rw [hm] at hMo
  by_cases ht : thgF u.o = true
  rotate_left
  · rw [if_neg (fun hh => ht hh.2)] at e
    have ht2 : thgF u.o = false := by simpa using ht
    rw [ht2] at hT
    rw [e]
    refine triple_of tB_ok Tryz.func17 rfl Tryz.call17 rfl ?_
    intro ρ w hH
    conv=>whnf
    refine call_step hC rfl rfl ?_
    conv=>whnf
    refine ⟨?_, ?_, ?_⟩
    iterate 2 · repeat' (first | exact trivial | exact rfl | refine And.intro ?_ ?_ | ((conv=>whnf); first | exact trivial | exact rfl | refine And.intro ?_ ?_ | omega))
    conv=>whnf
    refine ⟨fun hc => absurd hc (by simp), fun hc => ?_⟩
    conv=>whnf
    refine call_step hMo rfl rfl ?_
    conv=>whnf
    refine ⟨?_, ?_, ?_⟩
    iterate 2 · repeat' (first | exact trivial | exact rfl | refine And.intro ?_ ?_ | ((conv=>whnf); first | exact trivial | exact rfl | refine And.intro ?_ ?_ | omega))
    conv=>whnf
    refine ⟨fun hc => absurd hc (by simp), fun hc => ?_⟩
    conv=>whnf
    refine call_step hT rfl rfl ?_
    conv=>whnf
    refine ⟨?_, ?_, ?_⟩
    iterate 2 · repeat' (first | exact trivial | exact rfl | refine And.intro ?_ ?_ | ((conv=>whnf); first | exact trivial | exact rfl | refine And.intro ?_ ?_ | omega))
    conv=>whnf
    refine ⟨fun hc => ?_, fun hc => absurd hc (by simp)⟩
    conv=>whnf
    repeat' (first | exact trivial | exact rfl | refine And.intro ?_ ?_ | ((conv=>whnf); first | exact trivial | exact rfl | refine And.intro ?_ ?_ | omega))
  rw [if_pos ⟨hm, ht⟩] at e
  rw [ht] at hT
  have hmo : ∀ x ∈ [wMom u], momOK r x = true := by simpa using hm
  have hsh := sheet_ok h (more := [wMom u]) (by simp) hmo
  have hSp := spread_t r [wMom u] (by simp) hs.ws hs.cs
  by_cases ho : u.o ∈ objsF r
  rotate_left
  · rw [if_neg ho] at e
    have hl := look_noobj ho
    rw [e]
    generalize objsF r = os at *
    generalize momsF r [wMom u] = ms at *
    refine triple_of tB_ok Tryz.func17 rfl Tryz.call17 rfl ?_
    intro ρ w hH
    conv=>whnf
    refine call_step hC rfl rfl ?_
    conv=>whnf
    refine ⟨?_, ?_, ?_⟩
    iterate 2 · repeat' (first | exact trivial | exact rfl | refine And.intro ?_ ?_ | ((conv=>whnf); first | exact trivial | exact rfl | refine And.intro ?_ ?_ | omega))
    conv=>whnf
    refine ⟨fun hc => absurd hc (by simp), fun hc => ?_⟩
    conv=>whnf
    refine call_step hMo rfl rfl ?_
    conv=>whnf
    refine ⟨?_, ?_, ?_⟩
    iterate 2 · repeat' (first | exact trivial | exact rfl | refine And.intro ?_ ?_ | ((conv=>whnf); first | exact trivial | exact rfl | refine And.intro ?_ ?_ | omega))
    conv=>whnf
    refine ⟨fun hc => absurd hc (by simp), fun hc => ?_⟩
    conv=>whnf
    refine call_step hT rfl rfl ?_
    conv=>whnf
    refine ⟨?_, ?_, ?_⟩
    iterate 2 · repeat' (first | exact trivial | exact rfl | refine And.intro ?_ ?_ | ((conv=>whnf); first | exact trivial | exact rfl | refine And.intro ?_ ?_ | omega))
    conv=>whnf
    refine ⟨fun hc => absurd hc (by simp), fun hc => ?_⟩
    conv=>whnf
    refine bs_step tB_ok (aMom [wMom u]) rfl rfl ?_
    conv=>whnf
    refine ⟨⟨rfl, (by repeat' (first | exact trivial | exact rfl | refine And.intro ?_ ?_ | ((conv=>whnf); first | exact trivial | exact rfl | refine And.intro ?_ ?_ | omega)))⟩, ?_⟩
    conv=>whnf
    refine call_step hSp rfl rfl ?_
    conv=>whnf
    refine ⟨?_, ?_, ?_⟩
    iterate 2 · repeat' (first | exact trivial | exact rfl | refine And.intro ?_ ?_ | ((conv=>whnf); first | exact trivial | exact rfl | refine And.intro ?_ ?_ | omega))
    conv=>whnf
    refine lookKV_step tB_ok 30 3 true false 4 [0] keyThg zeroInt_ok rfl ?_
    conv=>whnf
    refine ⟨_, _, _, rfl, hl, ?_⟩
    conv=>whnf
    refine ⟨fun hc => ?_, fun hc => absurd hc (by simp)⟩
    conv=>whnf
    repeat' (first | exact trivial | exact rfl | refine And.intro ?_ ?_ | ((conv=>whnf); first | exact trivial | exact rfl | refine And.intro ?_ ?_ | omega))
  rw [if_pos ho] at e
  have hl := look_obj ho
  have hsy := boxW_sys h ho hm
  have hin : wMom u ∈ momsF r [wMom u] := momsF_mem.2 (.inr (.inr (by simp)))
  have lm := look_mom (n := (objsF r).length) hin
  obtain ⟨e1, l1⟩ := plF_mem ho
  obtain ⟨e2, l2⟩ := plF_mem hin
  obtain ⟨hat, hkl⟩ := boxW_at ho
  have hbw := boxW_len r u
  have hbl := boxR_len r [wMom u]
  have hF := find_t r u.bal (Nat.le_trans hs.bs (by decide))
  have hwb : hasB r.bs u.bal = true := by unfold momOK at hm; exact (Bool.and_eq_true _ _ ▸ hm).1
  obtain ⟨_, hhalf, _, _, _⟩ := valid_bd (h.findD hwb)
  have hS : Triple Tryz.prog 83 [.c (.p 4 0 0 0)] (shH r (objsF r) (momsF r [wMom u])) 9
      (.agg [.s 9 0 (boxR r [wMom u]).length 2, .s 10 0 (lnkR r [wMom u]).length 4]) [(9, true, .arr (aSpan (boxR r [wMom u]))), (10, true, .arr (aLink (lnkR r [wMom u])))] := sysOf_t r _ _ hsh
  have eV : foreseeV r u = if min 10000000 ((rangeW r u).2 + (findD r.bs u.bal).half) < max 0 ((rangeW r u).1 - (findD r.bs u.bal).half) then ((0, 0), 3)
    else ((max 0 ((rangeW r u).1 - (findD r.bs u.bal).half), min 10000000 ((rangeW r u).2 + (findD r.bs u.bal).half)), 0) := rfl
  have hset : (boxR r [wMom u]).set (plF (objsF r) u.o).toNat (((boxR r [wMom u])[(plF (objsF r) u.o).toNat]'hkl).1, min ((boxR r [wMom u])[(plF (objsF r) u.o).toNat]'hkl).2 (findD r.bs u.bal).cap) = boxW r u := by
    have : (boxR r [wMom u])[(plF (objsF r) u.o).toNat]'hkl = (0, capF r u.o) := by
      rw [List.getElem?_eq_getElem hkl] at hat
      exact Option.some.inj hat
    rw [this]; rfl
  have hRr := range_t (boxW r u) (lnkR r [wMom u]) ((objsF r).length + plF (momsF r [wMom u]) (wMom u)) (plF (objsF r) u.o) hsy (by omega) (by omega) (placeIn ⟨by omega, by omega⟩) (placeIn ⟨by omega, by omega⟩) (rangeW r u).1 (rangeW r u).2 rfl rfl
  have hgl := graphF_len hsy 0
  have hnb := hsy.nb
  have hb1 : -700000000000000 ≤ (rangeW r u).1 ∧ (rangeW r u).1 ≤ 700000000000000 := by
    have := mostF_bd (boxW r u).length (graphF (boxW r u) (lnkR r [wMom u]) 0) (plF (objsF r) u.o) ((objsF r).length + plF (momsF r [wMom u]) (wMom u)) (by omega) (by omega) (graphF_ok hsy 0)
    unfold rangeW; dsimp only; omega
  have hb2 : -700000000000000 ≤ (rangeW r u).2 ∧ (rangeW r u).2 ≤ 700000000000000 := by
    have := mostF_bd (boxW r u).length (graphF (boxW r u) (lnkR r [wMom u]) 0) ((objsF r).length + plF (momsF r [wMom u]) (wMom u)) (plF (objsF r) u.o) (by omega) (by omega) (graphF_ok hsy 0)
    unfold rangeW; dsimp only; omega
  have hN0 : Calm (boxW r u) (lnkR r [wMom u]) 0 → ∀ n, (boxW r u).length = n → Triple Tryz.prog 71 [sysA n (lnkR r [wMom u]).length] (sysH (boxW r u) (lnkR r [wMom u])) 2 (.tup [.inl (.p 2 0 0 0), .inl (.v (.int .i64 0))])
      [(2, true, netC 3 4 n (lnkR r [wMom u]).length), (3, true, .arr (aSpan (boxW r u))), (4, true, .arr (aLink (lnkR r [wMom u])))] := by
    rintro hc _ rfl; exact newNone_t (boxW r u) (lnkR r [wMom u]) hsy hc
  have hN1 : ¬ Calm (boxW r u) (lnkR r [wMom u]) 0 → ∀ n, (boxW r u).length = n → Triple Tryz.prog 71 [sysA n (lnkR r [wMom u]).length] (sysH (boxW r u) (lnkR r [wMom u])) 2 (.tup [.inl (.v (.pointer none)), .inl (.v (.int .i64 9))]) [] := by
    rintro hc _ rfl; exact newClash_t (boxW r u) (lnkR r [wMom u]) hsy hc
  have hR2 : ∀ n, (boxW r u).length = n → Triple Tryz.prog 84 [.c (.p 0 0 0 0), iv .i64 ((objsF r).length + plF (momsF r [wMom u]) (wMom u)), iv .i64 (plF (objsF r) u.o)] [(0, false, netC 1 2 n (lnkR r [wMom u]).length), (1, false, .arr (aSpan (boxW r u))), (2, false, .arr (aLink (lnkR r [wMom u])))] 3 (.tup [.inr [.v (.int .i64 (rangeW r u).1), .v (.int .i64 (rangeW r u).2)], .inl (.v (.int .i64 0))]) [] := by
    rintro _ rfl; exact hRr
  have hN0 := fun hc => hN0 hc _ hbw
  have hN1 := fun hc => hN1 hc _ hbw
  have hR2 := hR2 _ hbw
  rw [e]
  clear e hat hgl hnb hRr hsh hmo h hbl hsy
  have e1b : (plF (objsF r) u.o).toNat = (objsF r).idxOf u.o := by omega
  have hkl2 : (objsF r).idxOf u.o < (boxR r [wMom u]).length := by rw [← e1b]; exact hkl
  have hset2 : (boxR r [wMom u]).set ((objsF r).idxOf u.o) (((boxR r [wMom u])[(objsF r).idxOf u.o]'hkl2).1, min ((boxR r [wMom u])[(objsF r).idxOf u.o]'hkl2).2 (findD r.bs u.bal).cap) = boxW r u := by
    rw [← hset]; simp only [e1b]
  rw [e1] at hl hR2
  clear hset e1b hkl
  generalize (objsF r).idxOf u.o = k at *
  generalize plF (momsF r [wMom u]) (wMom u) = q at *
  generalize rangeW r u = R at *
  generalize foreseeV r u = V at *
  generalize boxW r u = bw at *
  generalize boxR r [wMom u] = bs at *
  generalize lnkR r [wMom u] = ls at *
  generalize objsF r = os at *
  generalize momsF r [wMom u] = ms at *
  generalize hasB r.bs u.bal = ok at *
  generalize findD r.bs u.bal = d at *
  obtain ⟨lo, hi⟩ := R
  dsimp only at hb1 hb2 hR2 eV
  by_cases hc : Calm bw ls 0
  · have hN0 := hN0 hc
    rw [if_pos hc]
    refine triple_of tB_ok Tryz.func17 rfl Tryz.call17 rfl ?_
    intro ρ w hH
    conv=>whnf
    refine call_step hC rfl rfl ?_
    conv=>whnf
    refine ⟨?_, ?_, ?_⟩
    iterate 2 · repeat' (first | exact trivial | exact rfl | refine And.intro ?_ ?_ | ((conv=>whnf); first | exact trivial | exact rfl | refine And.intro ?_ ?_ | omega))
    conv=>whnf
    refine ⟨fun hc => absurd hc (by simp), fun hc => ?_⟩
    conv=>whnf
    refine call_step hMo rfl rfl ?_
    conv=>whnf
    refine ⟨?_, ?_, ?_⟩
    iterate 2 · repeat' (first | exact trivial | exact rfl | refine And.intro ?_ ?_ | ((conv=>whnf); first | exact trivial | exact rfl | refine And.intro ?_ ?_ | omega))
    conv=>whnf
    refine ⟨fun hc => absurd hc (by simp), fun hc => ?_⟩
    conv=>whnf
    refine call_step hT rfl rfl ?_
    conv=>whnf
    refine ⟨?_, ?_, ?_⟩
    iterate 2 · repeat' (first | exact trivial | exact rfl | refine And.intro ?_ ?_ | ((conv=>whnf); first | exact trivial | exact rfl | refine And.intro ?_ ?_ | omega))
    conv=>whnf
    refine ⟨fun hc => absurd hc (by simp), fun hc => ?_⟩
    conv=>whnf
    refine bs_step tB_ok (aMom [wMom u]) rfl rfl ?_
    conv=>whnf
    refine ⟨⟨rfl, (by repeat' (first | exact trivial | exact rfl | refine And.intro ?_ ?_ | ((conv=>whnf); first | exact trivial | exact rfl | refine And.intro ?_ ?_ | omega)))⟩, ?_⟩
    conv=>whnf
    refine call_step hSp rfl rfl ?_
    conv=>whnf
    refine ⟨?_, ?_, ?_⟩
    iterate 2 · repeat' (first | exact trivial | exact rfl | refine And.intro ?_ ?_ | ((conv=>whnf); first | exact trivial | exact rfl | refine And.intro ?_ ?_ | omega))
    conv=>whnf
    refine lookKV_step tB_ok 30 3 true false 4 [0] keyThg zeroInt_ok rfl ?_
    conv=>whnf
    refine ⟨_, _, _, rfl, hl, ?_⟩
    conv=>whnf
    refine ⟨fun hc => absurd hc (by simp), fun hc => ?_⟩
    conv=>whnf
    refine call_step hF rfl rfl ?_
    conv=>whnf
    refine ⟨?_, ?_, ?_⟩
    iterate 2 · repeat' (first | exact trivial | exact rfl | refine And.intro ?_ ?_ | ((conv=>whnf); first | exact trivial | exact rfl | refine And.intro ?_ ?_ | omega))
    conv=>whnf
    refine call_step hS rfl rfl ?_
    conv=>whnf
    refine ⟨?_, ?_, ?_⟩
    iterate 2 · repeat' (first | exact trivial | exact rfl | refine And.intro ?_ ?_ | ((conv=>whnf); first | exact trivial | exact rfl | refine And.intro ?_ ?_ | omega))
    conv=>whnf
    refine ⟨k, rfl, hkl2, hkl2, ?_⟩
    conv=>whnf
    refine ⟨k, rfl, hkl2, hkl2, (bs[k].1, min bs[k].2 d.cap), rfl, ?_⟩
    conv=>whnf
    refine call_step hN0 rfl rfl ?_
    conv=>whnf
    refine ⟨(by repeat' (first | exact trivial | exact rfl | refine And.intro ?_ ?_ | ((conv=>whnf); first | exact trivial | exact rfl | refine And.intro ?_ ?_ | omega))), ?_, ?_⟩
    · repeat' (first | exact trivial | exact rfl | refine And.intro ?_ ?_ | ((conv=>whnf); first | exact trivial | exact rfl | refine And.intro ?_ ?_ | omega))
      all_goals exact congrArg aSpan hset2
    conv=>whnf
    refine ⟨fun hc => absurd hc (by simp), fun hc => ?_⟩
    conv=>whnf
    refine lookKV_step tB_ok 53 3 true false 2 [0] keyMom zeroInt_ok rfl ?_
    conv=>whnf
    refine ⟨_, _, _, rfl, lm, ?_⟩
    conv=>whnf
    refine call_step hR2 rfl rfl ?_
    conv=>whnf
    refine ⟨?_, ?_, ?_⟩
    iterate 2 · repeat' (first | exact trivial | exact rfl | refine And.intro ?_ ?_ | ((conv=>whnf); first | exact trivial | exact rfl | refine And.intro ?_ ?_ | omega))
    conv=>whnf
    refine ⟨fun hc => absurd hc (by simp), fun hc => ?_⟩
    conv=>whnf
    refine ⟨lo - d.half, wrapId (z := lo - d.half) ⟨by omega, by omega⟩, ?_⟩
    conv=>whnf
    refine ⟨hi + d.half, wrapId (z := hi + d.half) ⟨by omega, by omega⟩, ?_⟩
    conv=>whnf
    refine ⟨fun hcc => ?_, fun hcc => ?_⟩
    · rw [if_pos (of_decide_eq_true (show decide (min 10000000 (hi + d.half) < max 0 (lo - d.half)) = true from hcc))] at eV
      subst eV
      conv=>whnf
      repeat' (first | exact trivial | exact rfl | refine And.intro ?_ ?_ | ((conv=>whnf); first | exact trivial | exact rfl | refine And.intro ?_ ?_ | omega))
    · rw [if_neg (of_decide_eq_false (show decide (min 10000000 (hi + d.half) < max 0 (lo - d.half)) = false from hcc))] at eV
      subst eV
      conv=>whnf
      repeat' (first | exact trivial | exact rfl | refine And.intro ?_ ?_ | ((conv=>whnf); first | exact trivial | exact rfl | refine And.intro ?_ ?_ | omega))
  · have hN1 := hN1 hc
    rw [if_neg hc]
    refine triple_of tB_ok Tryz.func17 rfl Tryz.call17 rfl ?_
    intro ρ w hH
    conv=>whnf
    refine call_step hC rfl rfl ?_
    conv=>whnf
    refine ⟨?_, ?_, ?_⟩
    iterate 2 · repeat' (first | exact trivial | exact rfl | refine And.intro ?_ ?_ | ((conv=>whnf); first | exact trivial | exact rfl | refine And.intro ?_ ?_ | omega))
    conv=>whnf
    refine ⟨fun hc => absurd hc (by simp), fun hc => ?_⟩
    conv=>whnf
    refine call_step hMo rfl rfl ?_
    conv=>whnf
    refine ⟨?_, ?_, ?_⟩
    iterate 2 · repeat' (first | exact trivial | exact rfl | refine And.intro ?_ ?_ | ((conv=>whnf); first | exact trivial | exact rfl | refine And.intro ?_ ?_ | omega))
    conv=>whnf
    refine ⟨fun hc => absurd hc (by simp), fun hc => ?_⟩
    conv=>whnf
    refine call_step hT rfl rfl ?_
    conv=>whnf
    refine ⟨?_, ?_, ?_⟩
    iterate 2 · repeat' (first | exact trivial | exact rfl | refine And.intro ?_ ?_ | ((conv=>whnf); first | exact trivial | exact rfl | refine And.intro ?_ ?_ | omega))
    conv=>whnf
    refine ⟨fun hc => absurd hc (by simp), fun hc => ?_⟩
    conv=>whnf
    refine bs_step tB_ok (aMom [wMom u]) rfl rfl ?_
    conv=>whnf
    refine ⟨⟨rfl, (by repeat' (first | exact trivial | exact rfl | refine And.intro ?_ ?_ | ((conv=>whnf); first | exact trivial | exact rfl | refine And.intro ?_ ?_ | omega)))⟩, ?_⟩
    conv=>whnf
    refine call_step hSp rfl rfl ?_
    conv=>whnf
    refine ⟨?_, ?_, ?_⟩
    iterate 2 · repeat' (first | exact trivial | exact rfl | refine And.intro ?_ ?_ | ((conv=>whnf); first | exact trivial | exact rfl | refine And.intro ?_ ?_ | omega))
    conv=>whnf
    refine lookKV_step tB_ok 30 3 true false 4 [0] keyThg zeroInt_ok rfl ?_
    conv=>whnf
    refine ⟨_, _, _, rfl, hl, ?_⟩
    conv=>whnf
    refine ⟨fun hc => absurd hc (by simp), fun hc => ?_⟩
    conv=>whnf
    refine call_step hF rfl rfl ?_
    conv=>whnf
    refine ⟨?_, ?_, ?_⟩
    iterate 2 · repeat' (first | exact trivial | exact rfl | refine And.intro ?_ ?_ | ((conv=>whnf); first | exact trivial | exact rfl | refine And.intro ?_ ?_ | omega))
    conv=>whnf
    refine call_step hS rfl rfl ?_
    conv=>whnf
    refine ⟨?_, ?_, ?_⟩
    iterate 2 · repeat' (first | exact trivial | exact rfl | refine And.intro ?_ ?_ | ((conv=>whnf); first | exact trivial | exact rfl | refine And.intro ?_ ?_ | omega))
    conv=>whnf
    refine ⟨k, rfl, hkl2, hkl2, ?_⟩
    conv=>whnf
    refine ⟨k, rfl, hkl2, hkl2, (bs[k].1, min bs[k].2 d.cap), rfl, ?_⟩
    conv=>whnf
    refine call_step hN1 rfl rfl ?_
    conv=>whnf
    refine ⟨(by repeat' (first | exact trivial | exact rfl | refine And.intro ?_ ?_ | ((conv=>whnf); first | exact trivial | exact rfl | refine And.intro ?_ ?_ | omega))), ?_, ?_⟩
    · repeat' (first | exact trivial | exact rfl | refine And.intro ?_ ?_ | ((conv=>whnf); first | exact trivial | exact rfl | refine And.intro ?_ ?_ | omega))
      all_goals exact congrArg aSpan hset2
    conv=>whnf
    refine ⟨fun hc => ?_, fun hc => absurd hc (by simp)⟩
    conv=>whnf
    repeat' (first | exact trivial | exact rfl | refine And.intro ?_ ?_ | ((conv=>whnf); first | exact trivial | exact rfl | refine And.intro ?_ ?_ | omega))

end Go.Proofs

