/-
  A part of the proof that a law answers true: lemmas of a symbolic walk, plain functions, or contracts of the functions walked (RF, RG). Conditions: none.
-/
import Derived.Test.YtagedjfjcnemoaaGreatPart30
import Derived.Test.YtagedjfjcnemoaaGreatPart14
set_option maxRecDepth 100000
set_option linter.unusedVariables false
set_option linter.unusedSimpArgs false
namespace Go.Proofs
open Go.Sx

theorem rPoint_t (ma sh : List Int) (h1 : ma.length ≤ 1000) (h2 : sh.length ≤ 1000) : Triple Tryz.prog 151 [.agg [.s 0 0 ma.length 1, .s 1 0 sh.length 1]] [(0, false, .arr (aInt ma)), (1, false, .arr (aInt sh))] 2 (.c (.s 2 0 (ma ++ sh).length 1)) [(2, true, .arr (aInt (ma ++ sh)))] := by
  refine triple_of tB_ok Tryz.func151 rfl Tryz.call151 rfl ?_
  intro ρ w hH
  conv=>whnf
  refine bs_step tB_ok (aInt []) rfl rfl ?_
  conv=>whnf
  refine ⟨⟨rfl, trivial⟩, ?_⟩
  conv=>whnf
  refine app_step tB_ok (aInt []) ma (fun _ => rfl) rfl rfl rfl rfl ?_
  conv=>whnf
  refine ⟨⟨rfl, rfl, Nat.le_refl _, by rw [Nat.zero_add]; exact Nat.le_refl _, by show (0 + ma.length) * 9 ≤ _; omega⟩, ?_⟩
  conv=>whnf
  refine app_step tB_ok (aInt (([] : List Int).take 0 ++ (ma.drop 0).take ma.length)) sh (fun _ => rfl) rfl rfl rfl rfl ?_
  conv=>whnf
  refine ⟨⟨rfl, rfl, (by show 0 + ma.length ≤ (([] : List Int).take 0 ++ (ma.drop 0).take ma.length).length; simp), by rw [Nat.zero_add]; exact Nat.le_refl _, by show (0 + ma.length + sh.length) * 9 ≤ _; omega⟩, ?_⟩
  conv=>whnf
  repeat' (first | exact trivial | exact rfl | refine And.intro ?_ ?_ | ((conv=>whnf); first | exact trivial | exact rfl | refine And.intro ?_ ?_ | omega))
  all_goals first | exact congrArg aInt (show (([] : List Int).take 0 ++ (ma.drop 0).take ma.length).take (0 + ma.length) ++ (sh.drop 0).take sh.length = ma ++ sh by simp) | simp

set_option maxHeartbeats 1000000 in
theorem rFits_t (r : Rd) (ma sh : List Int) (hs : Sml r) : Triple Tryz.prog 73 (trA r ma sh) (trH r ma sh) 6 (.tup [.inl (.v (.int .i64 (fitsF r ma sh).1)), .inl (.v (.bool (fitsF r ma sh).2))]) [] := by
  have e := fits_eq r ma sh
  have e2 := fun h => fits_allows (r := r) (ma := ma) (sh := sh) h
  have hC := rCheck_t r hs
  have hO := rObjects_t r hs
  have hM := rMoments_t r hs
  by_cases h0 : checkR r = 0
  rotate_left
  · rw [if_neg h0] at e
    rw [e]
    generalize checkR r = c at *
    refine triple_of tB_ok Tryz.func73 rfl Tryz.call73 rfl ?_
    intro ρ w hH
    conv=>whnf
    refine call_step hC rfl rfl ?_
    conv=>whnf
    refine ⟨?_, ?_, ?_⟩
    iterate 2 · repeat' (first | exact trivial | exact rfl | refine And.intro ?_ ?_ | ((conv=>whnf); first | exact trivial | exact rfl | refine And.intro ?_ ?_ | omega))
    conv=>whnf
    refine ⟨fun hcc => ?_, fun hcc => absurd (by simpa using (show (c != 0) = false from hcc)) h0⟩
    conv=>whnf
    repeat' (first | exact trivial | exact rfl | refine And.intro ?_ ?_ | ((conv=>whnf); first | exact trivial | exact rfl | refine And.intro ?_ ?_ | omega))
  rw [if_pos h0] at e
  rw [h0] at hC
  have h := checkR_ok.1 h0
  by_cases h1 : ma.length = (objsF r).length
  rotate_left
  · rw [if_neg h1] at e
    rw [e]
    generalize objsF r = os at *
    refine triple_of tB_ok Tryz.func73 rfl Tryz.call73 rfl ?_
    intro ρ w hH
    conv=>whnf
    refine call_step hC rfl rfl ?_
    conv=>whnf
    refine ⟨?_, ?_, ?_⟩
    iterate 2 · repeat' (first | exact trivial | exact rfl | refine And.intro ?_ ?_ | ((conv=>whnf); first | exact trivial | exact rfl | refine And.intro ?_ ?_ | omega))
    conv=>whnf
    refine ⟨fun hc => absurd hc (by simp), fun hc => ?_⟩
    conv=>whnf
    refine call_step hO rfl rfl ?_
    conv=>whnf
    refine ⟨?_, ?_, ?_⟩
    iterate 2 · repeat' (first | exact trivial | exact rfl | refine And.intro ?_ ?_ | ((conv=>whnf); first | exact trivial | exact rfl | refine And.intro ?_ ?_ | omega))
    conv=>whnf
    refine ⟨fun hc => ?_, fun hc => absurd (show ma.length = os.length by have := (show ((ma.length : Int) != os.length) = false from hc); simp at this; omega) h1⟩
    conv=>whnf
    repeat' (first | exact trivial | exact rfl | refine And.intro ?_ ?_ | ((conv=>whnf); first | exact trivial | exact rfl | refine And.intro ?_ ?_ | omega))
  rw [if_pos h1] at e
  by_cases h2 : sh.length = (momsF r []).length
  rotate_left
  · rw [if_neg h2] at e
    rw [e]
    generalize objsF r = os at *
    generalize momsF r [] = ms at *
    refine triple_of tB_ok Tryz.func73 rfl Tryz.call73 rfl ?_
    intro ρ w hH
    conv=>whnf
    refine call_step hC rfl rfl ?_
    conv=>whnf
    refine ⟨?_, ?_, ?_⟩
    iterate 2 · repeat' (first | exact trivial | exact rfl | refine And.intro ?_ ?_ | ((conv=>whnf); first | exact trivial | exact rfl | refine And.intro ?_ ?_ | omega))
    conv=>whnf
    refine ⟨fun hc => absurd hc (by simp), fun hc => ?_⟩
    conv=>whnf
    refine call_step hO rfl rfl ?_
    conv=>whnf
    refine ⟨?_, ?_, ?_⟩
    iterate 2 · repeat' (first | exact trivial | exact rfl | refine And.intro ?_ ?_ | ((conv=>whnf); first | exact trivial | exact rfl | refine And.intro ?_ ?_ | omega))
    conv=>whnf
    refine ⟨fun hc => absurd (show ((ma.length : Int) != os.length) = true from hc) (by rw [h1]; simp), fun hc => ?_⟩
    conv=>whnf
    refine call_step hM rfl rfl ?_
    conv=>whnf
    refine ⟨?_, ?_, ?_⟩
    iterate 2 · repeat' (first | exact trivial | exact rfl | refine And.intro ?_ ?_ | ((conv=>whnf); first | exact trivial | exact rfl | refine And.intro ?_ ?_ | omega))
    conv=>whnf
    refine ⟨fun hc => ?_, fun hc => absurd (show sh.length = ms.length by have := (show ((sh.length : Int) != ms.length) = false from hc); simp at this; omega) h2⟩
    conv=>whnf
    repeat' (first | exact trivial | exact rfl | refine And.intro ?_ ?_ | ((conv=>whnf); first | exact trivial | exact rfl | refine And.intro ?_ ?_ | omega))
  rw [e2 h h1 h2]
  have hsy : SysOK (boxR r []) (lnkR r []) := rd_sys h (by simp) (by simp)
  have hnb := hsy.nb
  have hpl : (ma ++ sh).length = (boxR r []).length := by rw [List.length_append, h1, h2, boxR_len]
  have hml : ma.length + sh.length ≤ 240 := by rw [List.length_append] at hpl; omega
  have hP := rPoint_t ma sh (by omega) (by omega)
  have hA := refAllows_t _ _ (ma ++ sh) hsy (by omega)
  have hCo := rCompile_t r h
  clear e e2 hpl hnb hsy
  generalize allowsF (boxR r []) (lnkR r []) (ma ++ sh) = A at *
  generalize boxR r [] = bx at *
  generalize lnkR r [] = lk at *
  generalize ma ++ sh = pt at *
  generalize objsF r = os at *
  generalize momsF r [] = ms at *
  refine triple_of tB_ok Tryz.func73 rfl Tryz.call73 rfl ?_
  intro ρ w hH
  conv=>whnf
  refine call_step hC rfl rfl ?_
  conv=>whnf
  refine ⟨?_, ?_, ?_⟩
  iterate 2 · repeat' (first | exact trivial | exact rfl | refine And.intro ?_ ?_ | ((conv=>whnf); first | exact trivial | exact rfl | refine And.intro ?_ ?_ | omega))
  conv=>whnf
  refine ⟨fun hc => absurd hc (by simp), fun hc => ?_⟩
  conv=>whnf
  refine call_step hO rfl rfl ?_
  conv=>whnf
  refine ⟨?_, ?_, ?_⟩
  iterate 2 · repeat' (first | exact trivial | exact rfl | refine And.intro ?_ ?_ | ((conv=>whnf); first | exact trivial | exact rfl | refine And.intro ?_ ?_ | omega))
  conv=>whnf
  refine ⟨fun hc => absurd (show ((ma.length : Int) != os.length) = true from hc) (by rw [h1]; simp), fun hc => ?_⟩
  conv=>whnf
  refine call_step hM rfl rfl ?_
  conv=>whnf
  refine ⟨?_, ?_, ?_⟩
  iterate 2 · repeat' (first | exact trivial | exact rfl | refine And.intro ?_ ?_ | ((conv=>whnf); first | exact trivial | exact rfl | refine And.intro ?_ ?_ | omega))
  conv=>whnf
  refine ⟨fun hc => absurd (show ((sh.length : Int) != ms.length) = true from hc) (by rw [h2]; simp), fun hc => ?_⟩
  conv=>whnf
  refine call_step hCo rfl rfl ?_
  conv=>whnf
  refine ⟨?_, ?_, ?_⟩
  iterate 2 · repeat' (first | exact trivial | exact rfl | refine And.intro ?_ ?_ | ((conv=>whnf); first | exact trivial | exact rfl | refine And.intro ?_ ?_ | omega))
  conv=>whnf
  refine call_step hP rfl rfl ?_
  conv=>whnf
  refine ⟨?_, ?_, ?_⟩
  iterate 2 · repeat' (first | exact trivial | exact rfl | refine And.intro ?_ ?_ | ((conv=>whnf); first | exact trivial | exact rfl | refine And.intro ?_ ?_ | omega))
  conv=>whnf
  refine call_step hA rfl rfl ?_
  conv=>whnf
  refine ⟨?_, ?_, ?_⟩
  iterate 2 · repeat' (first | exact trivial | exact rfl | refine And.intro ?_ ?_ | ((conv=>whnf); first | exact trivial | exact rfl | refine And.intro ?_ ?_ | omega))
  conv=>whnf
  repeat' (first | exact trivial | exact rfl | refine And.intro ?_ ?_ | ((conv=>whnf); first | exact trivial | exact rfl | refine And.intro ?_ ?_ | omega))

theorem cloneAt_t (xs : List Int) (st n : Nat) (h : st + n ≤ xs.length) (hb : xs.length ≤ 1000000) : Triple Tryz.prog 152 [.c (.s 0 st n 1)] [(0, false, .arr (aInt xs))] 1 (.c (.s 1 0 n 1)) [(1, true, .arr (aInt ((xs.drop st).take n)))] := by
  refine triple_of tB_ok Tryz.func152 rfl Tryz.call152 rfl ?_
  intro ρ w hH
  conv=>whnf
  have go : aInt (([] : List Int).take 0 ++ (xs.drop st).take n) = aInt ((xs.drop st).take n) := by simp
  refine ⟨fun h0 => ?_, fun h0 => ?_⟩
  · conv=>whnf
    refine ⟨?_, ?_⟩
    · conv=>whnf
      repeat' (first | exact trivial | exact rfl | refine And.intro ?_ ?_ | ((conv=>whnf); first | exact trivial | exact rfl | refine And.intro ?_ ?_ | omega))
      all_goals first | exact h0 | (subst h0; rfl) | (subst h0; exact (List.take_zero ..).symm)
    · conv=>whnf
      refine bs_step tB_ok (aInt []) rfl rfl ?_
      conv=>whnf
      refine ⟨⟨rfl, trivial⟩, ?_⟩
      conv=>whnf
      refine app_step tB_ok (aInt []) xs (fun _ => rfl) rfl rfl rfl rfl ?_
      conv=>whnf
      refine ⟨⟨rfl, rfl, Nat.le_refl _, h, by show (0 + n) * 9 ≤ _; omega⟩, ?_⟩
      conv=>whnf
      repeat' (first | exact trivial | exact rfl | refine And.intro ?_ ?_ | ((conv=>whnf); first | exact trivial | exact rfl | refine And.intro ?_ ?_ | omega))
      all_goals first | exact go | simp
  · conv=>whnf
    refine bs_step tB_ok (aInt []) rfl rfl ?_
    conv=>whnf
    refine ⟨⟨rfl, trivial⟩, ?_⟩
    conv=>whnf
    refine app_step tB_ok (aInt []) xs (fun _ => rfl) rfl rfl rfl rfl ?_
    conv=>whnf
    refine ⟨⟨rfl, rfl, Nat.le_refl _, h, by show (0 + n) * 9 ≤ _; omega⟩, ?_⟩
    conv=>whnf
    repeat' (first | exact trivial | exact rfl | refine And.intro ?_ ?_ | ((conv=>whnf); first | exact trivial | exact rfl | refine And.intro ?_ ?_ | omega))
    all_goals first | exact go | simp

def witR (r : Rd) : List Int := witF (shortF (boxR r []).length noRev (graphF (boxR r []) (lnkR r []) 0) (plc (boxR r []).length (-1))).1 (boxR r []).length
def exF (r : Rd) : (List Int × List Int) × Int :=
  if checkR r = 0 then (if Calm (boxR r []) (lnkR r []) 0 then ((((witR r).drop 0).take (objsF r).length, ((witR r).drop (objsF r).length).take ((witR r).length - (objsF r).length)), 0) else (([], []), 9)) else (([], []), checkR r)

theorem wit_len (r : Rd) : (witR r).length = (boxR r []).length := by simp [witR, witF]

set_option maxHeartbeats 1000000 in
theorem bExample_t (r : Rd) (hs : Sml r) : Triple Tryz.prog 74 [rdA r] (rdH r) 4 (.tup [.inr [.s 4 0 (exF r).1.1.length 1, .s 5 0 (exF r).1.2.length 1], .inl (.v (.int .i64 (exF r).2))]) [(4, true, .arr (aInt (exF r).1.1)), (5, true, .arr (aInt (exF r).1.2))] := by
  have e : exF r = if checkR r = 0 then (if Calm (boxR r []) (lnkR r []) 0 then ((((witR r).drop 0).take (objsF r).length, ((witR r).drop (objsF r).length).take ((witR r).length - (objsF r).length)), 0) else (([], []), 9)) else (([], []), checkR r) := rfl
  have hC := check_rd_t r (Nat.le_trans hs.bs (by decide)) (Nat.le_trans hs.cs (by decide)) (Nat.le_trans hs.ns (by decide)) (Nat.le_trans hs.ws (by decide))
  by_cases h0 : checkR r = 0
  rotate_left
  · rw [if_neg h0] at e
    rw [e]
    generalize checkR r = c at *
    refine triple_of tB_ok Tryz.func74 rfl Tryz.call74 rfl ?_
    intro ρ w hH
    conv=>whnf
    refine call_step hC rfl rfl ?_
    conv=>whnf
    refine ⟨?_, ?_, ?_⟩
    iterate 2 · repeat' (first | exact trivial | exact rfl | refine And.intro ?_ ?_ | ((conv=>whnf); first | exact trivial | exact rfl | refine And.intro ?_ ?_ | omega))
    conv=>whnf
    refine ⟨fun hcc => ?_, fun hcc => absurd (by simpa using (show (c != 0) = false from hcc)) h0⟩
    conv=>whnf
    repeat' (first | exact trivial | exact rfl | refine And.intro ?_ ?_ | ((conv=>whnf); first | exact trivial | exact rfl | refine And.intro ?_ ?_ | omega))
  rw [if_pos h0] at e
  rw [h0] at hC
  have h := checkR_ok.1 h0
  have hsh := sheet_ok h (more := []) (by simp) (by simp)
  have hsy : SysOK (boxR r []) (lnkR r []) := rd_sys h (by simp) (by simp)
  have hSp := spreadNil_t r h.sml
  have hS : Triple Tryz.prog 83 [.c (.p 4 0 0 0)] (shH r (objsF r) (momsF r [])) 9
      (.agg [.s 9 0 (boxR r []).length 2, .s 10 0 (lnkR r []).length 4]) [(9, true, .arr (aSpan (boxR r []))), (10, true, .arr (aLink (lnkR r [])))] := sysOf_t r _ _ hsh
  by_cases hc : Calm (boxR r []) (lnkR r []) 0
  · rw [if_pos hc] at e
    rw [e]
    have hN := newNone_t _ _ hsy hc
    have hpl : withinF (-1) (-1) (((boxR r []).length : Int) - 1) = true := by simp [withinF]; omega
    have hW := witness_t (boxR r []) (lnkR r []) (-1) (-1) hsy (by omega) hpl hpl
    have hwl := wit_len r
    have hW : Triple Tryz.prog 72 [.c (.p 0 0 0 0), iv .i64 (-1), iv .i64 (-1)] (netH (boxR r []) (lnkR r [])) 3 (.tup [.inl (.s 3 0 (witR r).length 1), .inl (.v (.int .i64 0))]) [(3, true, .arr (aInt (witR r)))] := hW
    have hbl := boxR_len r []
    have hkl : (objsF r).length ≤ (witR r).length := by omega
    have hnb := hsy.nb
    have c1 := cloneAt_t (witR r) 0 (objsF r).length (by omega) (by omega)
    have c2 := cloneAt_t (witR r) (objsF r).length ((witR r).length - (objsF r).length) (by omega) (by omega)
    have l1 : (((witR r).drop 0).take (objsF r).length).length = (objsF r).length := by rw [List.length_take, List.drop_zero]; omega
    have l2 : (((witR r).drop (objsF r).length).take ((witR r).length - (objsF r).length)).length = (witR r).length - (objsF r).length := by rw [List.length_take, List.length_drop]; omega
    clear hwl hbl hsy hc hpl e
    generalize ((witR r).drop 0).take (objsF r).length = W1 at *
    generalize ((witR r).drop (objsF r).length).take ((witR r).length - (objsF r).length) = W2 at *
    generalize witR r = W at *
    generalize boxR r [] = bx at *
    generalize lnkR r [] = lk at *
    generalize objsF r = os at *
    generalize momsF r [] = ms at *
    refine triple_of tB_ok Tryz.func74 rfl Tryz.call74 rfl ?_
    intro ρ w hH
    conv=>whnf
    refine call_step hC rfl rfl ?_
    conv=>whnf
    refine ⟨?_, ?_, ?_⟩
    iterate 2 · repeat' (first | exact trivial | exact rfl | refine And.intro ?_ ?_ | ((conv=>whnf); first | exact trivial | exact rfl | refine And.intro ?_ ?_ | omega))
    conv=>whnf
    refine ⟨fun hc => absurd hc (by simp), fun hc => ?_⟩
    conv=>whnf
    refine call_step hSp rfl rfl ?_
    conv=>whnf
    refine ⟨?_, ?_, ?_⟩
    iterate 2 · repeat' (first | exact trivial | exact rfl | refine And.intro ?_ ?_ | ((conv=>whnf); first | exact trivial | exact rfl | refine And.intro ?_ ?_ | omega))
    conv=>whnf
    refine call_step hS rfl rfl ?_
    conv=>whnf
    refine ⟨?_, ?_, ?_⟩
    iterate 2 · repeat' (first | exact trivial | exact rfl | refine And.intro ?_ ?_ | ((conv=>whnf); first | exact trivial | exact rfl | refine And.intro ?_ ?_ | omega))
    conv=>whnf
    refine call_step hN rfl rfl ?_
    conv=>whnf
    refine ⟨?_, ?_, ?_⟩
    iterate 2 · repeat' (first | exact trivial | exact rfl | refine And.intro ?_ ?_ | ((conv=>whnf); first | exact trivial | exact rfl | refine And.intro ?_ ?_ | omega))
    conv=>whnf
    refine ⟨fun hc => absurd hc (by simp), fun hc => ?_⟩
    conv=>whnf
    refine call_step hW rfl rfl ?_
    conv=>whnf
    refine ⟨?_, ?_, ?_⟩
    iterate 2 · repeat' (first | exact trivial | exact rfl | refine And.intro ?_ ?_ | ((conv=>whnf); first | exact trivial | exact rfl | refine And.intro ?_ ?_ | omega))
    conv=>whnf
    refine ⟨fun hc => absurd hc (by simp), fun hc => ?_⟩
    conv=>whnf
    refine ⟨os.length, rfl, hkl, ?_⟩
    conv=>whnf
    refine ⟨Nat.zero_le _, ?_⟩
    conv=>whnf
    refine call_step c1 rfl rfl ?_
    conv=>whnf
    refine ⟨?_, ?_, ?_⟩
    iterate 2 · repeat' (first | exact trivial | exact rfl | refine And.intro ?_ ?_ | ((conv=>whnf); first | exact trivial | exact rfl | refine And.intro ?_ ?_ | omega))
    conv=>whnf
    refine ⟨Nat.le_refl _, ?_⟩
    conv=>whnf
    refine ⟨os.length, rfl, hkl, ?_⟩
    conv=>whnf
    refine call_step c2 rfl rfl ?_
    conv=>whnf
    refine ⟨?_, (by repeat' (first | exact trivial | exact rfl | refine And.intro ?_ ?_ | ((conv=>whnf); first | exact trivial | exact rfl | refine And.intro ?_ ?_ | omega))), ?_⟩
    · repeat' (first | exact trivial | exact rfl | refine And.intro ?_ ?_ | ((conv=>whnf); first | exact trivial | exact rfl | refine And.intro ?_ ?_ | omega))
      all_goals rw [subN_eq]
    conv=>whnf
    repeat' (first | exact trivial | exact rfl | refine And.intro ?_ ?_ | ((conv=>whnf); first | exact trivial | exact rfl | refine And.intro ?_ ?_ | omega))
    all_goals first | exact l1.symm | exact l2.symm | omega
  · rw [if_neg hc] at e
    rw [e]
    have hN := newClash_t _ _ hsy hc
    generalize boxR r [] = bx at *
    generalize lnkR r [] = lk at *
    generalize objsF r = os at *
    generalize momsF r [] = ms at *
    refine triple_of tB_ok Tryz.func74 rfl Tryz.call74 rfl ?_
    intro ρ w hH
    conv=>whnf
    refine call_step hC rfl rfl ?_
    conv=>whnf
    refine ⟨?_, ?_, ?_⟩
    iterate 2 · repeat' (first | exact trivial | exact rfl | refine And.intro ?_ ?_ | ((conv=>whnf); first | exact trivial | exact rfl | refine And.intro ?_ ?_ | omega))
    conv=>whnf
    refine ⟨fun hc => absurd hc (by simp), fun hc => ?_⟩
    conv=>whnf
    refine call_step hSp rfl rfl ?_
    conv=>whnf
    refine ⟨?_, ?_, ?_⟩
    iterate 2 · repeat' (first | exact trivial | exact rfl | refine And.intro ?_ ?_ | ((conv=>whnf); first | exact trivial | exact rfl | refine And.intro ?_ ?_ | omega))
    conv=>whnf
    refine call_step hS rfl rfl ?_
    conv=>whnf
    refine ⟨?_, ?_, ?_⟩
    iterate 2 · repeat' (first | exact trivial | exact rfl | refine And.intro ?_ ?_ | ((conv=>whnf); first | exact trivial | exact rfl | refine And.intro ?_ ?_ | omega))
    conv=>whnf
    refine call_step hN rfl rfl ?_
    conv=>whnf
    refine ⟨?_, ?_, ?_⟩
    iterate 2 · repeat' (first | exact trivial | exact rfl | refine And.intro ?_ ?_ | ((conv=>whnf); first | exact trivial | exact rfl | refine And.intro ?_ ?_ | omega))
    conv=>whnf
    refine ⟨fun hc => ?_, fun hc => absurd hc (by simp)⟩
    conv=>whnf
    repeat' (first | exact trivial | exact rfl | refine And.intro ?_ ?_ | ((conv=>whnf); first | exact trivial | exact rfl | refine And.intro ?_ ?_ | omega))

end Go.Proofs

namespace Go.Proofs
open Go.Sx Go.ChangeShapes Go.WideShapes Go.RowKit Go.Deep

theorem A_undTr : Tryz.prog.underlying 100 = some (.struct (Tryz.prog.fieldsOf 100)) := by kernel_rfl
theorem A_fldTr : ∃ f0 f1, Tryz.prog.fieldsOf 100 = #[f0, f1] ∧ (f0.type = 43 ∧ f0.offset = 0) ∧ f1.type = 43 ∧ f1.offset = 1 :=
  ⟨(Tryz.prog.fieldsOf 100)[0]!, (Tryz.prog.fieldsOf 100)[1]!, by kernel_rfl, ⟨by kernel_rfl, by kernel_rfl⟩, by kernel_rfl, by kernel_rfl⟩

theorem came_truth {base : Nat} {H : Type} {enc : TypeId × Value → H} {w : World} {v : Value} {d : DataW H} {p : List MemPlace} (hok : Value.okWide Tryz.prog w .any base 100 v)
    (h : DataW.Trod enc Tryz.prog w 0 (fun _ => true) true 100 v d p) (hw : ∀ y ∈ d.weights Tryz.prog 100, y ≤ reachBytes) (k0 k1 : Nat) :
    ∃ (xs ys : List Int) (q0 q1 : Rg), (xs.length ≤ 140737488351232 ∧ ys.length ≤ 140737488351232) ∧ Came w v (.agg [.s k0 0 xs.length 1, .s k1 0 ys.length 1]) [(k0, false, .arr (aInt xs)), (k1, false, .arr (aInt ys))] [(k0, q0), (k1, q1)] := by
  obtain ⟨cs, rfl, hcs⟩ := okWide_struct A_undTr hok
  obtain ⟨fuel, hf⟩ := h
  have hc4 : Tryz.prog.cellsOf 100 = 2 := by kernel_rfl
  rw [hc4] at hcs
  obtain ⟨l⟩ := cs
  match l, hcs with
  | [a, b], _ =>
    obtain ⟨xs, m, _, hd, _, hxl, hff⟩ := DataW.trod_struct A_undTr hf
    have hd : d = .agg (xs.map (·.1)) := congrArg Prod.fst hd
    subst hd
    have hwp := fun {i : Nat} {f : Field} {d : DataW H} => weights_part (i := i) (f := f) (d := d) A_undTr hw
    obtain ⟨f0, f1, hfs, ⟨t0, o0⟩, t1, o1⟩ := A_fldTr
    rw [hfs] at hff hxl hwp
    have hxl : xs.length = 2 := hxl
    match xs, hxl with
    | [x0, x1], _ =>
    have h0 := hff 0 f0 rfl
    have h1 := hff 1 f1 rfl
    have w0 := hwp (i := 0) (f := f0) (d := x0.1) rfl rfl
    have w1 := hwp (i := 1) (f := f1) (d := x1.1) rfl rfl
    have c0 : Tryz.prog.cellsOf 43 = 1 := by kernel_rfl
    rw [t0, o0, c0] at h0
    rw [t1, o1, c0] at h1
    rw [t0] at w0
    rw [t1] at w1
    have h0 : DataW.trod enc Tryz.prog w 0 (fun _ => true) true m 43 [a] = some x0 := h0
    have h1 : DataW.trod enc Tryz.prog w 0 (fun _ => true) true m 43 [b] = some x1 := h1
    obtain ⟨ms, q0, l0, g0⟩ := key_sl (fun x : Int => [x]) (fun _ => rfl) (fun V => V 0) (fun V j z hz => by
      match j, hz with
      | 0, hz => simp at hz; exact ⟨by decide, hz.symm⟩) (by kernel_rfl : Tryz.prog.underlying 43 = some (.slice 3)) I_int (by decide) (by decide +kernel) w0 h0 k0
    obtain ⟨ss, q1, l1, g1⟩ := key_sl (fun x : Int => [x]) (fun _ => rfl) (fun V => V 0) (fun V j z hz => by
      match j, hz with
      | 0, hz => simp at hz; exact ⟨by decide, hz.symm⟩) (by kernel_rfl : Tryz.prog.underlying 43 = some (.slice 3)) I_int (by decide) (by decide +kernel) w1 h1 k1
    refine ⟨ms, ss, q0, q1, ⟨l0, l1⟩, fun ρ hρ => ?_⟩
    have e0 := hρ (k0, q0) (by simp)
    have e1 := hρ (k1, q1) (by simp)
    obtain ⟨u0, v0, r0⟩ := g0 ρ e0
    obtain ⟨u1, v1, r1⟩ := g1 ρ e1
    refine ⟨⟨#[a, b], rfl, u0, u1, trivial⟩, fun y hy => ?_⟩
    simp only [List.mem_cons, List.not_mem_nil, or_false] at hy
    rcases hy with rfl | rfl
    · exact ⟨rfl, v0, room_pos (f := fun x : Int => [x]) (hf := fun _ => rfl) (xs := ms) e0 r0⟩
    · exact ⟨rfl, v1, room_pos (f := fun x : Int => [x]) (hf := fun _ => rfl) (xs := ss) e1 r1⟩

theorem ex_fits {r : Rd} (h : RdOK r) (hc : Calm (boxR r []) (lnkR r []) 0) : (fitsF r (((witR r).drop 0).take (objsF r).length) (((witR r).drop (objsF r).length).take ((witR r).length - (objsF r).length))).2 = true := by
  have hbl := boxR_len r []
  have hwl := wit_len r
  have hsy : SysOK (boxR r []) (lnkR r []) := rd_sys h (by simp) (by simp)
  have l1 : (((witR r).drop 0).take (objsF r).length).length = (objsF r).length := by rw [List.length_take, List.drop_zero]; omega
  have l2 : (((witR r).drop (objsF r).length).take ((witR r).length - (objsF r).length)).length = (momsF r []).length := by rw [List.length_take, List.length_drop]; omega
  have e : ((witR r).drop 0).take (objsF r).length ++ ((witR r).drop (objsF r).length).take ((witR r).length - (objsF r).length) = witR r := by
    rw [List.drop_zero, List.take_of_length_le (l := (witR r).drop (objsF r).length) (by rw [List.length_drop]; omega), List.take_append_drop]
  rw [fits_pnt h l1 l2, e]
  exact (wit_pnt hsy hc (a := -1) (b := -1) ⟨by omega, by omega⟩ ⟨by omega, by omega⟩).1

set_option maxHeartbeats 4000000 in
theorem balanceFits_t (r : Rd) (hw : Wide r) (ma sh : List Int) (hx : ma.length ≤ 140737488351232 ∧ sh.length ≤ 140737488351232) : Triple Tryz.prog 14 (trA r ma sh) (trH r ma sh) 6 (bv true) [] := by
  have hFew := few_rd_t r hw
  by_cases hfew : fewRd r = true
  rotate_left
  · rw [Bool.not_eq_true] at hfew
    rw [hfew] at hFew
    refine triple_of tB_ok Tryz.func14 rfl Tryz.call14 rfl ?_
    intro ρ w hH
    conv=>whnf
    refine call_step hFew rfl rfl ?_
    conv=>whnf
    refine ⟨?_, ?_, ?_⟩
    iterate 2 · repeat' (first | exact trivial | exact rfl | refine And.intro ?_ ?_ | ((conv=>whnf); first | exact trivial | exact rfl | refine And.intro ?_ ?_ | omega))
    conv=>whnf
    refine ⟨fun hc => ?_, fun hc => absurd hc (by simp)⟩
    conv=>whnf
    refine call_step sanity_t rfl rfl ?_
    conv=>whnf
    refine ⟨?_, ?_, ?_⟩
    iterate 2 · repeat' (first | exact trivial | exact rfl | refine And.intro ?_ ?_ | ((conv=>whnf); first | exact trivial | exact rfl | refine And.intro ?_ ?_ | omega))
    conv=>whnf
    repeat' (first | exact trivial | exact rfl | refine And.intro ?_ ?_ | ((conv=>whnf); first | exact trivial | exact rfl | refine And.intro ?_ ?_ | omega))
  rw [hfew] at hFew
  by_cases g1 : 60 < ma.length
  · skip
    refine triple_of tB_ok Tryz.func14 rfl Tryz.call14 rfl ?_
    intro ρ w hH
    conv=>whnf
    refine call_step hFew rfl rfl ?_
    conv=>whnf
    refine ⟨?_, ?_, ?_⟩
    iterate 2 · repeat' (first | exact trivial | exact rfl | refine And.intro ?_ ?_ | ((conv=>whnf); first | exact trivial | exact rfl | refine And.intro ?_ ?_ | omega))
    conv=>whnf
    refine ⟨fun hc => absurd hc (by simp), fun hc => ?_⟩
    conv=>whnf
    refine ⟨fun hc => ?_, fun hc => absurd (of_decide_eq_false (show decide ((60 : Int) < ma.length) = false from hc)) (by omega)⟩
    conv=>whnf
    refine call_step sanity_t rfl rfl ?_
    conv=>whnf
    refine ⟨?_, ?_, ?_⟩
    iterate 2 · repeat' (first | exact trivial | exact rfl | refine And.intro ?_ ?_ | ((conv=>whnf); first | exact trivial | exact rfl | refine And.intro ?_ ?_ | omega))
    conv=>whnf
    repeat' (first | exact trivial | exact rfl | refine And.intro ?_ ?_ | ((conv=>whnf); first | exact trivial | exact rfl | refine And.intro ?_ ?_ | omega))
  by_cases g2 : 60 < sh.length
  · skip
    refine triple_of tB_ok Tryz.func14 rfl Tryz.call14 rfl ?_
    intro ρ w hH
    conv=>whnf
    refine call_step hFew rfl rfl ?_
    conv=>whnf
    refine ⟨?_, ?_, ?_⟩
    iterate 2 · repeat' (first | exact trivial | exact rfl | refine And.intro ?_ ?_ | ((conv=>whnf); first | exact trivial | exact rfl | refine And.intro ?_ ?_ | omega))
    conv=>whnf
    refine ⟨fun hc => absurd hc (by simp), fun hc => ?_⟩
    conv=>whnf
    refine ⟨fun hc => absurd (of_decide_eq_true (show decide ((60 : Int) < ma.length) = true from hc)) (by omega), fun hc => ?_⟩
    conv=>whnf
    refine ⟨fun hc => ?_, fun hc => absurd (of_decide_eq_false (show decide ((60 : Int) < sh.length) = false from hc)) (by omega)⟩
    conv=>whnf
    refine call_step sanity_t rfl rfl ?_
    conv=>whnf
    refine ⟨?_, ?_, ?_⟩
    iterate 2 · repeat' (first | exact trivial | exact rfl | refine And.intro ?_ ?_ | ((conv=>whnf); first | exact trivial | exact rfl | refine And.intro ?_ ?_ | omega))
    conv=>whnf
    repeat' (first | exact trivial | exact rfl | refine And.intro ?_ ?_ | ((conv=>whnf); first | exact trivial | exact rfl | refine And.intro ?_ ?_ | omega))
  have hf := (fewRd_bd hfew).2
  have hs := few_sml hfew
  have f1 := bFits_t r ma sh hs
  have f2 := rFits_t r ma sh hs
  have hEx := bExample_t r hs
  have hC := rCheck_t r hs
  have e : exF r = if checkR r = 0 then (if Calm (boxR r []) (lnkR r []) 0 then ((((witR r).drop 0).take (objsF r).length, ((witR r).drop (objsF r).length).take ((witR r).length - (objsF r).length)), 0) else (([], []), 9)) else (([], []), checkR r) := rfl
  generalize fitsF r ma sh = F at *
  by_cases h0 : checkR r = 0
  rotate_left
  · rw [if_neg h0] at e
    rw [e] at hEx
    clear e
    generalize checkR r = c at *
    refine triple_of tB_ok Tryz.func14 rfl Tryz.call14 rfl ?_
    intro ρ w hH
    conv=>whnf
    refine call_step hFew rfl rfl ?_
    conv=>whnf
    refine ⟨?_, ?_, ?_⟩
    iterate 2 · repeat' (first | exact trivial | exact rfl | refine And.intro ?_ ?_ | ((conv=>whnf); first | exact trivial | exact rfl | refine And.intro ?_ ?_ | omega))
    conv=>whnf
    refine ⟨fun hc => absurd hc (by simp), fun hc => ?_⟩
    conv=>whnf
    refine ⟨fun hc => absurd (of_decide_eq_true (show decide ((60 : Int) < ma.length) = true from hc)) (by omega), fun hc => ?_⟩
    conv=>whnf
    refine ⟨fun hc => absurd (of_decide_eq_true (show decide ((60 : Int) < sh.length) = true from hc)) (by omega), fun hc => ?_⟩
    conv=>whnf
    refine call_step f1 rfl rfl ?_
    conv=>whnf
    refine ⟨?_, ?_, ?_⟩
    iterate 2 · repeat' (first | exact trivial | exact rfl | refine And.intro ?_ ?_ | ((conv=>whnf); first | exact trivial | exact rfl | refine And.intro ?_ ?_ | omega))
    conv=>whnf
    refine call_step f2 rfl rfl ?_
    conv=>whnf
    refine ⟨?_, ?_, ?_⟩
    iterate 2 · repeat' (first | exact trivial | exact rfl | refine And.intro ?_ ?_ | ((conv=>whnf); first | exact trivial | exact rfl | refine And.intro ?_ ?_ | omega))
    conv=>whnf
    refine ⟨fun hc => absurd (show (F.1 != F.1) = true from hc) (by simp), fun hc => ?_⟩
    conv=>whnf
    refine ⟨fun hc => absurd (show (F.2 != F.2) = true from hc) (by simp), fun hc => ?_⟩
    conv=>whnf
    refine call_step hEx rfl rfl ?_
    conv=>whnf
    refine ⟨?_, ?_, ?_⟩
    iterate 2 · repeat' (first | exact trivial | exact rfl | refine And.intro ?_ ?_ | ((conv=>whnf); first | exact trivial | exact rfl | refine And.intro ?_ ?_ | omega))
    conv=>whnf
    refine call_step hC rfl rfl ?_
    conv=>whnf
    refine ⟨?_, ?_, ?_⟩
    iterate 2 · repeat' (first | exact trivial | exact rfl | refine And.intro ?_ ?_ | ((conv=>whnf); first | exact trivial | exact rfl | refine And.intro ?_ ?_ | omega))
    conv=>whnf
    refine ⟨fun hcc => absurd (by simpa using (show (c == 0) = true from hcc)) h0, fun hcc => ?_⟩
    conv=>whnf
    refine ⟨fun hc => absurd (show (c != c) = true from hc) (by simp), fun hc => ?_⟩
    conv=>whnf
    refine ⟨fun hcc => ?_, fun hcc => absurd (by simpa using (show (c != 0) = false from hcc)) h0⟩
    conv=>whnf
    refine call_step sanity_t rfl rfl ?_
    conv=>whnf
    refine ⟨?_, ?_, ?_⟩
    iterate 2 · repeat' (first | exact trivial | exact rfl | refine And.intro ?_ ?_ | ((conv=>whnf); first | exact trivial | exact rfl | refine And.intro ?_ ?_ | omega))
    conv=>whnf
    refine ⟨fun hc => ?_, fun hc => absurd hc (by simp)⟩
    conv=>whnf
    refine ⟨fun hc => ?_, fun hc => absurd hc (by simp)⟩
    conv=>whnf
    repeat' (first | exact trivial | exact rfl | refine And.intro ?_ ?_ | ((conv=>whnf); first | exact trivial | exact rfl | refine And.intro ?_ ?_ | omega))
  rw [if_pos h0] at e
  rw [h0] at hC
  have h := checkR_ok.1 h0
  have hA := rAgrees_t r h hf
  by_cases hc : Calm (boxR r []) (lnkR r []) 0
  · rw [if_pos hc] at e
    rw [e] at hEx
    rw [decide_eq_true hc] at hA
    have x0 := ex_fits h hc
    have x1 := bFits_t r (((witR r).drop 0).take (objsF r).length) (((witR r).drop (objsF r).length).take ((witR r).length - (objsF r).length)) hs
    have x2 := rFits_t r (((witR r).drop 0).take (objsF r).length) (((witR r).drop (objsF r).length).take ((witR r).length - (objsF r).length)) hs
    clear e hc
    generalize fitsF r (((witR r).drop 0).take (objsF r).length) (((witR r).drop (objsF r).length).take ((witR r).length - (objsF r).length)) = X at *
    generalize ((witR r).drop 0).take (objsF r).length = W1 at *
    generalize ((witR r).drop (objsF r).length).take ((witR r).length - (objsF r).length) = W2 at *
    obtain ⟨X1, X2⟩ := X
    have x0 : X2 = true := x0
    subst x0
    refine triple_of tB_ok Tryz.func14 rfl Tryz.call14 rfl ?_
    intro ρ w hH
    conv=>whnf
    refine call_step hFew rfl rfl ?_
    conv=>whnf
    refine ⟨?_, ?_, ?_⟩
    iterate 2 · repeat' (first | exact trivial | exact rfl | refine And.intro ?_ ?_ | ((conv=>whnf); first | exact trivial | exact rfl | refine And.intro ?_ ?_ | omega))
    conv=>whnf
    refine ⟨fun hc => absurd hc (by simp), fun hc => ?_⟩
    conv=>whnf
    refine ⟨fun hc => absurd (of_decide_eq_true (show decide ((60 : Int) < ma.length) = true from hc)) (by omega), fun hc => ?_⟩
    conv=>whnf
    refine ⟨fun hc => absurd (of_decide_eq_true (show decide ((60 : Int) < sh.length) = true from hc)) (by omega), fun hc => ?_⟩
    conv=>whnf
    refine call_step f1 rfl rfl ?_
    conv=>whnf
    refine ⟨?_, ?_, ?_⟩
    iterate 2 · repeat' (first | exact trivial | exact rfl | refine And.intro ?_ ?_ | ((conv=>whnf); first | exact trivial | exact rfl | refine And.intro ?_ ?_ | omega))
    conv=>whnf
    refine call_step f2 rfl rfl ?_
    conv=>whnf
    refine ⟨?_, ?_, ?_⟩
    iterate 2 · repeat' (first | exact trivial | exact rfl | refine And.intro ?_ ?_ | ((conv=>whnf); first | exact trivial | exact rfl | refine And.intro ?_ ?_ | omega))
    conv=>whnf
    refine ⟨fun hc => absurd (show (F.1 != F.1) = true from hc) (by simp), fun hc => ?_⟩
    conv=>whnf
    refine ⟨fun hc => absurd (show (F.2 != F.2) = true from hc) (by simp), fun hc => ?_⟩
    conv=>whnf
    refine call_step hEx rfl rfl ?_
    conv=>whnf
    refine ⟨?_, ?_, ?_⟩
    iterate 2 · repeat' (first | exact trivial | exact rfl | refine And.intro ?_ ?_ | ((conv=>whnf); first | exact trivial | exact rfl | refine And.intro ?_ ?_ | omega))
    conv=>whnf
    refine call_step hC rfl rfl ?_
    conv=>whnf
    refine ⟨?_, ?_, ?_⟩
    iterate 2 · repeat' (first | exact trivial | exact rfl | refine And.intro ?_ ?_ | ((conv=>whnf); first | exact trivial | exact rfl | refine And.intro ?_ ?_ | omega))
    conv=>whnf
    refine ⟨fun hc => ?_, fun hc => absurd hc (by simp)⟩
    conv=>whnf
    refine call_step hA rfl rfl ?_
    conv=>whnf
    refine ⟨?_, ?_, ?_⟩
    iterate 2 · repeat' (first | exact trivial | exact rfl | refine And.intro ?_ ?_ | ((conv=>whnf); first | exact trivial | exact rfl | refine And.intro ?_ ?_ | omega))
    conv=>whnf
    refine ⟨fun hc => absurd hc (by simp), fun hc => ?_⟩
    conv=>whnf
    refine ⟨fun hc => absurd hc (by simp), fun hc => ?_⟩
    conv=>whnf
    refine ⟨fun hc => absurd hc (by simp), fun hc => ?_⟩
    conv=>whnf
    refine call_step x1 rfl rfl ?_
    conv=>whnf
    refine ⟨?_, ?_, ?_⟩
    iterate 2 · repeat' (first | exact trivial | exact rfl | refine And.intro ?_ ?_ | ((conv=>whnf); first | exact trivial | exact rfl | refine And.intro ?_ ?_ | omega))
    conv=>whnf
    refine call_step x2 rfl rfl ?_
    conv=>whnf
    refine ⟨?_, ?_, ?_⟩
    iterate 2 · repeat' (first | exact trivial | exact rfl | refine And.intro ?_ ?_ | ((conv=>whnf); first | exact trivial | exact rfl | refine And.intro ?_ ?_ | omega))
    conv=>whnf
    refine call_step sanity_t rfl rfl ?_
    conv=>whnf
    refine ⟨?_, ?_, ?_⟩
    iterate 2 · repeat' (first | exact trivial | exact rfl | refine And.intro ?_ ?_ | ((conv=>whnf); first | exact trivial | exact rfl | refine And.intro ?_ ?_ | omega))
    conv=>whnf
    refine ⟨fun hc => ?_, fun hc => absurd hc (by simp)⟩
    conv=>whnf
    refine ⟨fun hc => ?_, fun hc => absurd hc (by simp)⟩
    conv=>whnf
    repeat' (first | exact trivial | exact rfl | refine And.intro ?_ ?_ | ((conv=>whnf); first | exact trivial | exact rfl | refine And.intro ?_ ?_ | omega))
  · rw [if_neg hc] at e
    rw [e] at hEx
    rw [decide_eq_false hc] at hA
    clear e
    refine triple_of tB_ok Tryz.func14 rfl Tryz.call14 rfl ?_
    intro ρ w hH
    conv=>whnf
    refine call_step hFew rfl rfl ?_
    conv=>whnf
    refine ⟨?_, ?_, ?_⟩
    iterate 2 · repeat' (first | exact trivial | exact rfl | refine And.intro ?_ ?_ | ((conv=>whnf); first | exact trivial | exact rfl | refine And.intro ?_ ?_ | omega))
    conv=>whnf
    refine ⟨fun hc => absurd hc (by simp), fun hc => ?_⟩
    conv=>whnf
    refine ⟨fun hc => absurd (of_decide_eq_true (show decide ((60 : Int) < ma.length) = true from hc)) (by omega), fun hc => ?_⟩
    conv=>whnf
    refine ⟨fun hc => absurd (of_decide_eq_true (show decide ((60 : Int) < sh.length) = true from hc)) (by omega), fun hc => ?_⟩
    conv=>whnf
    refine call_step f1 rfl rfl ?_
    conv=>whnf
    refine ⟨?_, ?_, ?_⟩
    iterate 2 · repeat' (first | exact trivial | exact rfl | refine And.intro ?_ ?_ | ((conv=>whnf); first | exact trivial | exact rfl | refine And.intro ?_ ?_ | omega))
    conv=>whnf
    refine call_step f2 rfl rfl ?_
    conv=>whnf
    refine ⟨?_, ?_, ?_⟩
    iterate 2 · repeat' (first | exact trivial | exact rfl | refine And.intro ?_ ?_ | ((conv=>whnf); first | exact trivial | exact rfl | refine And.intro ?_ ?_ | omega))
    conv=>whnf
    refine ⟨fun hc => absurd (show (F.1 != F.1) = true from hc) (by simp), fun hc => ?_⟩
    conv=>whnf
    refine ⟨fun hc => absurd (show (F.2 != F.2) = true from hc) (by simp), fun hc => ?_⟩
    conv=>whnf
    refine call_step hEx rfl rfl ?_
    conv=>whnf
    refine ⟨?_, ?_, ?_⟩
    iterate 2 · repeat' (first | exact trivial | exact rfl | refine And.intro ?_ ?_ | ((conv=>whnf); first | exact trivial | exact rfl | refine And.intro ?_ ?_ | omega))
    conv=>whnf
    refine call_step hC rfl rfl ?_
    conv=>whnf
    refine ⟨?_, ?_, ?_⟩
    iterate 2 · repeat' (first | exact trivial | exact rfl | refine And.intro ?_ ?_ | ((conv=>whnf); first | exact trivial | exact rfl | refine And.intro ?_ ?_ | omega))
    conv=>whnf
    refine ⟨fun hc => ?_, fun hc => absurd hc (by simp)⟩
    conv=>whnf
    refine call_step hA rfl rfl ?_
    conv=>whnf
    refine ⟨?_, ?_, ?_⟩
    iterate 2 · repeat' (first | exact trivial | exact rfl | refine And.intro ?_ ?_ | ((conv=>whnf); first | exact trivial | exact rfl | refine And.intro ?_ ?_ | omega))
    conv=>whnf
    refine ⟨fun hc => ?_, fun hc => absurd hc (by simp)⟩
    conv=>whnf
    refine ⟨fun hc => absurd hc (by simp), fun hc => ?_⟩
    conv=>whnf
    refine ⟨fun hc => ?_, fun hc => absurd hc (by simp)⟩
    conv=>whnf
    refine call_step sanity_t rfl rfl ?_
    conv=>whnf
    refine ⟨?_, ?_, ?_⟩
    iterate 2 · repeat' (first | exact trivial | exact rfl | refine And.intro ?_ ?_ | ((conv=>whnf); first | exact trivial | exact rfl | refine And.intro ?_ ?_ | omega))
    conv=>whnf
    refine ⟨fun hc => ?_, fun hc => absurd hc (by simp)⟩
    conv=>whnf
    refine ⟨fun hc => ?_, fun hc => absurd hc (by simp)⟩
    conv=>whnf
    repeat' (first | exact trivial | exact rfl | refine And.intro ?_ ?_ | ((conv=>whnf); first | exact trivial | exact rfl | refine And.intro ?_ ?_ | omega))

end Go.Proofs

