/-
  A part of the proof that a law answers true: lemmas of a symbolic walk, plain functions, or contracts of the functions walked (RI). Conditions: none.
-/
import Derived.Test.YtagedjfjcnemoaaGreatPart27
set_option maxRecDepth 100000
set_option linter.unusedVariables false
set_option linter.unusedSimpArgs false
namespace Go.Proofs
open Go.Sx

theorem parts_fit {r : Rd} (h : RdOK r) {p : List Int} (hp : Pnt (boxR r []) (lnkR r []) p) : (fitsF r (p.take (objsF r).length) (p.drop (objsF r).length)).2 = true := by
  have hbl := boxR_len r []
  have hpl := hp.1
  rw [fits_pnt h (by rw [List.length_take]; omega) (by rw [List.length_drop]; omega), List.take_append_drop]
  exact hp

abbrev witA (r : Rd) (a : Int) : List Int := witF (shortF (boxR r []).length noRev (graphF (boxR r []) (lnkR r []) 0) (plc (boxR r []).length a)).1 (boxR r []).length

theorem sharp_says {r : Rd} (h : RdOK r) (hc : Calm (boxR r []) (lnkR r []) 0) {a : Nat} (ha : a < (objsF r).length) :
    ∃ (h1 : a < (witA r (-1)).length) (h2 : a < (witA r a).length), (massF r (objsF r)[a]).2 = 0 ∧ (witA r (-1))[a] = (massF r (objsF r)[a]).1.2 ∧ (witA r a)[a] = (massF r (objsF r)[a]).1.1 ∧
      (fitsF r ((witA r (-1)).take (objsF r).length) ((witA r (-1)).drop (objsF r).length)).2 = true ∧ (fitsF r ((witA r a).take (objsF r).length) ((witA r a).drop (objsF r).length)).2 = true := by
  have hsy : SysOK (boxR r []) (lnkR r []) := rd_sys h (by simp) (by simp)
  have hbl := boxR_len r []
  have hb0 : -1 ≤ (-1 : Int) ∧ (-1 : Int) < (boxR r []).length := by omega
  have hba : -1 ≤ (a : Int) ∧ (a : Int) < (boxR r []).length := by omega
  obtain ⟨p1, v1⟩ := wit_pnt hsy hc hb0 hba
  obtain ⟨p2, v2⟩ := wit_pnt hsy hc hba hb0
  have hl1 := p1.1
  have hl2 := p2.1
  have ho : (objsF r)[a] ∈ objsF r := List.getElem_mem ha
  have hpl : plF (objsF r) (objsF r)[a] = a := plF_at (objsF_nodup r) (List.getElem?_eq_getElem ha)
  have em : massF r (objsF r)[a] = ((-mostF (boxR r []).length (graphF (boxR r []) (lnkR r []) 0) a (-1), mostF (boxR r []).length (graphF (boxR r []) (lnkR r []) 0) (-1) a), 0) := by
    unfold massF massV betweenF
    rw [if_pos (checkR_ok.2 h), if_pos ho, if_pos hc, hpl]
  have at1 : ∀ (p : List Int) (hp : a < p.length), atF p (a : Int) = p[a] := fun p hp => by
    unfold atF
    rw [if_neg (by omega), Int.toNat_natCast, List.getD_eq_getElem?_getD, List.getElem?_eq_getElem hp]; rfl
  have at0 : ∀ p : List Int, atF p (-1) = 0 := fun p => by unfold atF; rw [if_pos (by decide)]
  have g1 : a < (witA r (-1)).length := by rw [hl1]; omega
  have g2 : a < (witA r a).length := by rw [hl2]; omega
  rw [at1 _ g1, at0] at v1
  rw [at1 _ g2, at0] at v2
  refine ⟨g1, g2, ?_, ?_, ?_, parts_fit h p1, parts_fit h p2⟩
  · rw [em]
  · rw [em]; dsimp only; omega
  · rw [em]; dsimp only; omega

set_option maxHeartbeats 4000000 in
theorem balanceIsSharp_t (r : Rd) (hw : Wide r) (z : Int) (hz : 0 ≤ z ∧ z < 256) : Triple Tryz.prog 13 [rdA r, iv .u8 z] (rdH r) 4 (bv true) [] := by
  have hFew := few_rd_t r hw
  by_cases hfew : fewRd r = true
  rotate_left
  · rw [Bool.not_eq_true] at hfew
    rw [hfew] at hFew
    refine triple_of tW_ok Tryz.func13 rfl Tryz.call13 rfl ?_
    intro ρ w hH
    conv=>whnf
    refine call_step hFew rfl rfl ?_
    conv=>whnf
    refine ⟨?_, ?_, ?_⟩
    iterate 2 · repeat' (first | exact trivial | exact rfl | refine And.intro ?_ ?_ | ((conv=>whnf); first | exact trivial | exact rfl | refine And.intro ?_ ?_ | omega))
    conv=>whnf
    refine ⟨fun hc => ?_, fun hc => absurd hc (by simp)⟩
    conv=>whnf
    refine call_step sanity_t rfl rfl ?_
    conv=>whnf
    refine ⟨?_, ?_, ?_⟩
    iterate 2 · repeat' (first | exact trivial | exact rfl | refine And.intro ?_ ?_ | ((conv=>whnf); first | exact trivial | exact rfl | refine And.intro ?_ ?_ | omega))
    conv=>whnf
    repeat' (first | exact trivial | exact rfl | refine And.intro ?_ ?_ | ((conv=>whnf); first | exact trivial | exact rfl | refine And.intro ?_ ?_ | omega))
  rw [hfew] at hFew
  have hf := (fewRd_bd hfew).2
  have hs := few_sml hfew
  have hC := rCheck_t r hs
  by_cases h0 : checkR r = 0
  rotate_left
  · generalize checkR r = c at *
    refine triple_of tW_ok Tryz.func13 rfl Tryz.call13 rfl ?_
    intro ρ w hH
    conv=>whnf
    refine call_step hFew rfl rfl ?_
    conv=>whnf
    refine ⟨?_, ?_, ?_⟩
    iterate 2 · repeat' (first | exact trivial | exact rfl | refine And.intro ?_ ?_ | ((conv=>whnf); first | exact trivial | exact rfl | refine And.intro ?_ ?_ | omega))
    conv=>whnf
    refine ⟨fun hc => absurd hc (by simp), fun hc => ?_⟩
    conv=>whnf
    refine call_step hC rfl rfl ?_
    conv=>whnf
    refine ⟨?_, ?_, ?_⟩
    iterate 2 · repeat' (first | exact trivial | exact rfl | refine And.intro ?_ ?_ | ((conv=>whnf); first | exact trivial | exact rfl | refine And.intro ?_ ?_ | omega))
    conv=>whnf
    refine ⟨fun hcc => ?_, fun hcc => absurd (by simpa using (show (c != 0) = false from hcc)) h0⟩
    conv=>whnf
    refine call_step sanity_t rfl rfl ?_
    conv=>whnf
    refine ⟨?_, ?_, ?_⟩
    iterate 2 · repeat' (first | exact trivial | exact rfl | refine And.intro ?_ ?_ | ((conv=>whnf); first | exact trivial | exact rfl | refine And.intro ?_ ?_ | omega))
    conv=>whnf
    repeat' (first | exact trivial | exact rfl | refine And.intro ?_ ?_ | ((conv=>whnf); first | exact trivial | exact rfl | refine And.intro ?_ ?_ | omega))
  rw [h0] at hC
  by_cases hwl : r.ws.length = 0
  · obtain ⟨bs, cs, ns, ws⟩ := r
    dsimp only at *
    refine triple_of tW_ok Tryz.func13 rfl Tryz.call13 rfl ?_
    intro ρ w hH
    conv=>whnf
    refine call_step hFew rfl rfl ?_
    conv=>whnf
    refine ⟨?_, ?_, ?_⟩
    iterate 2 · repeat' (first | exact trivial | exact rfl | refine And.intro ?_ ?_ | ((conv=>whnf); first | exact trivial | exact rfl | refine And.intro ?_ ?_ | omega))
    conv=>whnf
    refine ⟨fun hc => absurd hc (by simp), fun hc => ?_⟩
    conv=>whnf
    refine call_step hC rfl rfl ?_
    conv=>whnf
    refine ⟨?_, ?_, ?_⟩
    iterate 2 · repeat' (first | exact trivial | exact rfl | refine And.intro ?_ ?_ | ((conv=>whnf); first | exact trivial | exact rfl | refine And.intro ?_ ?_ | omega))
    conv=>whnf
    refine ⟨fun hc => absurd hc (by simp), fun hc => ?_⟩
    conv=>whnf
    refine ⟨fun hc => ?_, fun hc => absurd (show (ws.length : Int) = 0 by omega) (by simpa using (show ((ws.length : Int) == 0) = false from hc))⟩
    conv=>whnf
    refine call_step sanity_t rfl rfl ?_
    conv=>whnf
    refine ⟨?_, ?_, ?_⟩
    iterate 2 · repeat' (first | exact trivial | exact rfl | refine And.intro ?_ ?_ | ((conv=>whnf); first | exact trivial | exact rfl | refine And.intro ?_ ?_ | omega))
    conv=>whnf
    repeat' (first | exact trivial | exact rfl | refine And.intro ?_ ?_ | ((conv=>whnf); first | exact trivial | exact rfl | refine And.intro ?_ ?_ | omega))
  have h := checkR_ok.1 h0
  have hsy : SysOK (boxR r []) (lnkR r []) := rd_sys h (by simp) (by simp)
  have p3 := bCompile_t r hs
  have e3 : pSys r = ((boxR r [], lnkR r []), 0) := by unfold pSys; rw [if_pos h0]
  rw [e3] at p3
  have hO := rObjects_t r hs
  have hol : 0 < (objsF r).length := by
    obtain ⟨u, hu⟩ : ∃ u, u ∈ r.ws := by
      cases hh : r.ws with
      | nil => rw [hh] at hwl; exact absurd rfl hwl
      | cons u l => exact ⟨u, by simp⟩
    exact List.length_pos_of_mem (objsF_mem.2 ⟨u, hu, rfl⟩)
  have hws := hs.ws
  have hob := objsF_len r
  have ha : z.toNat % (objsF r).length < (objsF r).length := Nat.mod_lt _ hol
  have hrem : z.tmod (objsF r).length = ((z.toNat % (objsF r).length : Nat) : Int) := by
    obtain ⟨zn, rfl⟩ : ∃ n : Nat, z = n := ⟨z.toNat, by omega⟩
    rfl
  have hM := mass_t r (objsF r)[z.toNat % (objsF r).length] hs
  generalize z.toNat % (objsF r).length = a at *
  have hmc : ¬ Calm (boxR r []) (lnkR r []) 0 → (massF r (objsF r)[a]).2 = 9 := fun hc => mass_clash h (List.getElem_mem ha) hc
  by_cases hc : Calm (boxR r []) (lnkR r []) 0
  rotate_left
  · have hN := newClash_t _ _ hsy hc
    have hmc9 := hmc hc
    clear hmc
    generalize massF r (objsF r)[a] = M at *
    generalize boxR r [] = bx at *
    generalize lnkR r [] = lk at *
    generalize objsF r = os at *
    obtain ⟨bs, cs, ns, ws⟩ := r
    dsimp only at *
    refine triple_of tW_ok Tryz.func13 rfl Tryz.call13 rfl ?_
    intro ρ w hH
    conv=>whnf
    refine call_step hFew rfl rfl ?_
    conv=>whnf
    refine ⟨?_, ?_, ?_⟩
    iterate 2 · repeat' (first | exact trivial | exact rfl | refine And.intro ?_ ?_ | ((conv=>whnf); first | exact trivial | exact rfl | refine And.intro ?_ ?_ | omega))
    conv=>whnf
    refine ⟨fun hc => absurd hc (by simp), fun hc => ?_⟩
    conv=>whnf
    refine call_step hC rfl rfl ?_
    conv=>whnf
    refine ⟨?_, ?_, ?_⟩
    iterate 2 · repeat' (first | exact trivial | exact rfl | refine And.intro ?_ ?_ | ((conv=>whnf); first | exact trivial | exact rfl | refine And.intro ?_ ?_ | omega))
    conv=>whnf
    refine ⟨fun hc => absurd hc (by simp), fun hc => ?_⟩
    conv=>whnf
    refine ⟨fun hc => absurd (show (ws.length : Int) = 0 by simpa using (show ((ws.length : Int) == 0) = true from hc)) (by omega), fun hc => ?_⟩
    conv=>whnf
    refine call_step p3 rfl rfl ?_
    conv=>whnf
    refine ⟨?_, ?_, ?_⟩
    iterate 2 · repeat' (first | exact trivial | exact rfl | refine And.intro ?_ ?_ | ((conv=>whnf); first | exact trivial | exact rfl | refine And.intro ?_ ?_ | omega))
    conv=>whnf
    refine call_step hN rfl rfl ?_
    conv=>whnf
    refine ⟨?_, ?_, ?_⟩
    iterate 2 · repeat' (first | exact trivial | exact rfl | refine And.intro ?_ ?_ | ((conv=>whnf); first | exact trivial | exact rfl | refine And.intro ?_ ?_ | omega))
    conv=>whnf
    refine call_step hO rfl rfl ?_
    conv=>whnf
    refine ⟨?_, ?_, ?_⟩
    iterate 2 · repeat' (first | exact trivial | exact rfl | refine And.intro ?_ ?_ | ((conv=>whnf); first | exact trivial | exact rfl | refine And.intro ?_ ?_ | omega))
    conv=>whnf
    refine ⟨z, wrapId (z := z) ⟨by omega, by omega⟩, ?_⟩
    conv=>whnf
    refine ⟨by omega, (a : Int), hrem, ?_⟩
    conv=>whnf
    refine ⟨a, rfl, ha, ha, ?_⟩
    conv=>whnf
    refine call_step hM rfl rfl ?_
    conv=>whnf
    refine ⟨?_, ?_, ?_⟩
    iterate 2 · repeat' (first | exact trivial | exact rfl | refine And.intro ?_ ?_ | ((conv=>whnf); first | exact trivial | exact rfl | refine And.intro ?_ ?_ | omega))
    conv=>whnf
    refine ⟨fun hc => absurd hc (by simp), fun hc => ?_⟩
    conv=>whnf
    refine ⟨fun hc => ?_, fun hc => absurd hc (by simp)⟩
    conv=>whnf
    refine call_step sanity_t rfl rfl ?_
    conv=>whnf
    refine ⟨?_, ?_, ?_⟩
    iterate 2 · repeat' (first | exact trivial | exact rfl | refine And.intro ?_ ?_ | ((conv=>whnf); first | exact trivial | exact rfl | refine And.intro ?_ ?_ | omega))
    conv=>whnf
    refine ⟨fun hc => ?_, fun hc => absurd hc (by simp)⟩
    conv=>whnf
    refine ⟨fun hc => ?_, fun hc => absurd hc (by simp)⟩
    conv=>whnf
    exact ⟨(by rw [hmc9]; rfl : (M.2 == 9) = true), trivial⟩
  have hN := newNone_t _ _ hsy hc
  obtain ⟨g1, g2, s1, s2, s3, s4, s5⟩ := sharp_says h hc ha
  have hbl := boxR_len r []
  have hl1 : (witA r (-1)).length = (boxR r []).length := by simp [witA, witF]
  have hl2 : (witA r (a : Int)).length = (boxR r []).length := by simp [witA, witF]
  have hp0 : withinF (-1) (-1) (((boxR r []).length : Int) - 1) = true := by simp [withinF]; omega
  have hpa : withinF (a : Int) (-1) (((boxR r []).length : Int) - 1) = true := by simp [withinF]; omega
  have hW1 : Triple Tryz.prog 72 [.c (.p 0 0 0 0), iv .i64 (-1), iv .i64 (a : Int)] (netH (boxR r []) (lnkR r [])) 3 (.tup [.inl (.s 3 0 (witA r (-1)).length 1), .inl (.v (.int .i64 0))]) [(3, true, .arr (aInt (witA r (-1))))] := witness_t (boxR r []) (lnkR r []) (-1) _ hsy (by omega) hp0 hpa
  have hW2 : Triple Tryz.prog 72 [.c (.p 0 0 0 0), iv .i64 (a : Int), iv .i64 (-1)] (netH (boxR r []) (lnkR r [])) 3 (.tup [.inl (.s 3 0 (witA r (a : Int)).length 1), .inl (.v (.int .i64 0))]) [(3, true, .arr (aInt (witA r (a : Int))))] := witness_t (boxR r []) (lnkR r []) _ (-1) hsy (by omega) hpa hp0
  have f1 := bFitsP_t r (witA r (-1)) (objsF r).length (momsF r []).length h (by omega) rfl rfl
  have f2 := bFitsP_t r (witA r (a : Int)) (objsF r).length (momsF r []).length h (by omega) rfl rfl
  have hkl : (objsF r).length ≤ (boxR r []).length := by omega
  have hsub : (boxR r []).length - (objsF r).length = (momsF r []).length := by omega
  clear hmc hp0 hpa hc hsy hbl h
  generalize fitsF r ((witA r (-1)).take (objsF r).length) ((witA r (-1)).drop (objsF r).length) = F1 at *
  generalize fitsF r ((witA r (a : Int)).take (objsF r).length) ((witA r (a : Int)).drop (objsF r).length) = F2 at *
  generalize massF r (objsF r)[a] = M at *
  generalize witA r (-1) = W1 at *
  generalize witA r (a : Int) = W2 at *
  generalize boxR r [] = bx at *
  generalize lnkR r [] = lk at *
  generalize objsF r = os at *
  generalize momsF r [] = ms at *
  obtain ⟨F1a, F1b⟩ := F1
  obtain ⟨F2a, F2b⟩ := F2
  have s4 : F1b = true := s4
  have s5 : F2b = true := s5
  subst s4
  subst s5
  obtain ⟨bs, cs, ns, ws⟩ := r
  dsimp only at *
  refine triple_of tW_ok Tryz.func13 rfl Tryz.call13 rfl ?_
  intro ρ w hH
  conv=>whnf
  refine call_step hFew rfl rfl ?_
  conv=>whnf
  refine ⟨?_, ?_, ?_⟩
  iterate 2 · repeat' (first | exact trivial | exact rfl | refine And.intro ?_ ?_ | ((conv=>whnf); first | exact trivial | exact rfl | refine And.intro ?_ ?_ | omega))
  conv=>whnf
  refine ⟨fun hc => absurd hc (by simp), fun hc => ?_⟩
  conv=>whnf
  refine call_step hC rfl rfl ?_
  conv=>whnf
  refine ⟨?_, ?_, ?_⟩
  iterate 2 · repeat' (first | exact trivial | exact rfl | refine And.intro ?_ ?_ | ((conv=>whnf); first | exact trivial | exact rfl | refine And.intro ?_ ?_ | omega))
  conv=>whnf
  refine ⟨fun hc => absurd hc (by simp), fun hc => ?_⟩
  conv=>whnf
  refine ⟨fun hc => absurd (show (ws.length : Int) = 0 by simpa using (show ((ws.length : Int) == 0) = true from hc)) (by omega), fun hc => ?_⟩
  conv=>whnf
  refine call_step p3 rfl rfl ?_
  conv=>whnf
  refine ⟨?_, ?_, ?_⟩
  iterate 2 · repeat' (first | exact trivial | exact rfl | refine And.intro ?_ ?_ | ((conv=>whnf); first | exact trivial | exact rfl | refine And.intro ?_ ?_ | omega))
  conv=>whnf
  refine call_step hN rfl rfl ?_
  conv=>whnf
  refine ⟨?_, ?_, ?_⟩
  iterate 2 · repeat' (first | exact trivial | exact rfl | refine And.intro ?_ ?_ | ((conv=>whnf); first | exact trivial | exact rfl | refine And.intro ?_ ?_ | omega))
  conv=>whnf
  refine call_step hO rfl rfl ?_
  conv=>whnf
  refine ⟨?_, ?_, ?_⟩
  iterate 2 · repeat' (first | exact trivial | exact rfl | refine And.intro ?_ ?_ | ((conv=>whnf); first | exact trivial | exact rfl | refine And.intro ?_ ?_ | omega))
  conv=>whnf
  refine ⟨z, wrapId (z := z) ⟨by omega, by omega⟩, ?_⟩
  conv=>whnf
  refine ⟨by omega, (a : Int), hrem, ?_⟩
  conv=>whnf
  refine ⟨a, rfl, ha, ha, ?_⟩
  conv=>whnf
  refine call_step hM rfl rfl ?_
  conv=>whnf
  refine ⟨?_, ?_, ?_⟩
  iterate 2 · repeat' (first | exact trivial | exact rfl | refine And.intro ?_ ?_ | ((conv=>whnf); first | exact trivial | exact rfl | refine And.intro ?_ ?_ | omega))
  conv=>whnf
  refine ⟨fun hc => absurd hc (by simp), fun hc => ?_⟩
  conv=>whnf
  refine ⟨fun hc => absurd hc (by simp), fun hc => ?_⟩
  conv=>whnf
  refine ⟨fun hc => absurd hc (by simp), fun hc => ?_⟩
  conv=>whnf
  refine ⟨fun hc => absurd s1 (by simpa using (show (M.2 != 0) = true from hc)), fun hc => ?_⟩
  conv=>whnf
  refine call_step hW1 rfl rfl ?_
  conv=>whnf
  refine ⟨?_, ?_, ?_⟩
  iterate 2 · repeat' (first | exact trivial | exact rfl | refine And.intro ?_ ?_ | ((conv=>whnf); first | exact trivial | exact rfl | refine And.intro ?_ ?_ | omega))
  conv=>whnf
  refine call_step hW2 rfl rfl ?_
  conv=>whnf
  refine ⟨?_, ?_, ?_⟩
  iterate 2 · repeat' (first | exact trivial | exact rfl | refine And.intro ?_ ?_ | ((conv=>whnf); first | exact trivial | exact rfl | refine And.intro ?_ ?_ | omega))
  conv=>whnf
  refine ⟨fun hc => absurd hc (by simp), fun hc => ?_⟩
  conv=>whnf
  refine ⟨fun hc => absurd hc (by simp), fun hc => ?_⟩
  conv=>whnf
  refine ⟨fun hc => absurd (show ((W1.length : Int) != bx.length) = true from hc) (by rw [hl1]; simp), fun hc => ?_⟩
  conv=>whnf
  refine ⟨fun hc => absurd (show ((W2.length : Int) != bx.length) = true from hc) (by rw [hl2]; simp), fun hc => ?_⟩
  conv=>whnf
  refine ⟨a, rfl, g1, g1, ?_⟩
  conv=>whnf
  refine ⟨fun hc => absurd s2 (by simpa using (show (W1[a] != M.1.2) = true from hc)), fun hc => ?_⟩
  conv=>whnf
  refine ⟨a, rfl, g2, g2, ?_⟩
  conv=>whnf
  refine ⟨fun hc => absurd s3 (by simpa using (show (W2[a] != M.1.1) = true from hc)), fun hc => ?_⟩
  conv=>whnf
  refine bsN_step tW_ok (aRows 1 [13, 14] [[.s 13 0 W1.length 1], [.s 14 0 W2.length 1]]) rfl ?_
  conv=>whnf
  refine ⟨(by repeat' (first | exact trivial | exact rfl | refine And.intro ?_ ?_ | ((conv=>whnf); first | exact trivial | exact rfl | refine And.intro ?_ ?_ | omega))), ?_⟩
  conv=>whnf
  refine loop_step tW_ok (G := Nat) 0 [] (fun i => [(141, iv .i64 i)]) (fun _ => []) (fun i => i ≤ 2) (fun i => 2 - i) ?_
  conv=>whnf
  refine ⟨⟨0, by decide, ?_⟩, ?_⟩
  · conv=>whnf
    repeat' (first | exact trivial | exact rfl | refine And.intro ?_ ?_ | ((conv=>whnf); first | exact trivial | exact rfl | refine And.intro ?_ ?_ | omega))
  intro i hi ρ1 t1 hρ1
  rcases (by omega : i = 0 ∨ i = 1 ∨ i = 2) with rfl | rfl | rfl
  · skip
    conv=>whnf
    refine ⟨fun hc => ?_, fun hc => absurd (show decide (((0 : Nat) : Int) < 2) = false from hc) (by decide)⟩
    conv=>whnf
    refine ⟨0, rfl, by decide, by show 0 < 2; decide, ?_⟩
    conv=>whnf
    refine ⟨os.length, rfl, (by show os.length ≤ W1.length; omega), ?_⟩
    conv=>whnf
    refine ⟨Nat.zero_le _, ?_⟩
    conv=>whnf
    refine ⟨Nat.le_refl _, ?_⟩
    conv=>whnf
    refine ⟨os.length, rfl, (by show os.length ≤ W1.length; omega), ?_⟩
    conv=>whnf
    refine call_step f1 rfl rfl ?_
    conv=>whnf
    refine ⟨?_, (by repeat' (first | exact trivial | exact rfl | refine And.intro ?_ ?_ | ((conv=>whnf); first | exact trivial | exact rfl | refine And.intro ?_ ?_ | omega))), ?_⟩
    · repeat' (first | exact trivial | exact rfl | refine And.intro ?_ ?_ | ((conv=>whnf); first | exact trivial | exact rfl | refine And.intro ?_ ?_ | omega))
      all_goals (rw [subN_eq, hl1]; exact hsub)
    conv=>whnf
    refine ⟨fun hc => absurd hc (by simp), fun hc => ?_⟩
    conv=>whnf
    refine ⟨1, rfl, ?_⟩
    refine ⟨1, by decide, by decide, ?_⟩
    conv=>whnf
    refine ⟨rfl, ?_⟩
    conv=>whnf
    repeat' (first | exact trivial | exact rfl | refine And.intro ?_ ?_ | ((conv=>whnf); first | exact trivial | exact rfl | refine And.intro ?_ ?_ | omega))
  · skip
    conv=>whnf
    refine ⟨fun hc => ?_, fun hc => absurd (show decide (((1 : Nat) : Int) < 2) = false from hc) (by decide)⟩
    conv=>whnf
    refine ⟨1, rfl, by decide, by show 1 < 2; decide, ?_⟩
    conv=>whnf
    refine ⟨os.length, rfl, (by show os.length ≤ W2.length; omega), ?_⟩
    conv=>whnf
    refine ⟨Nat.zero_le _, ?_⟩
    conv=>whnf
    refine ⟨Nat.le_refl _, ?_⟩
    conv=>whnf
    refine ⟨os.length, rfl, (by show os.length ≤ W2.length; omega), ?_⟩
    conv=>whnf
    refine call_step f2 rfl rfl ?_
    conv=>whnf
    refine ⟨?_, (by repeat' (first | exact trivial | exact rfl | refine And.intro ?_ ?_ | ((conv=>whnf); first | exact trivial | exact rfl | refine And.intro ?_ ?_ | omega))), ?_⟩
    · repeat' (first | exact trivial | exact rfl | refine And.intro ?_ ?_ | ((conv=>whnf); first | exact trivial | exact rfl | refine And.intro ?_ ?_ | omega))
      all_goals (rw [subN_eq, hl2]; exact hsub)
    conv=>whnf
    refine ⟨fun hc => absurd hc (by simp), fun hc => ?_⟩
    conv=>whnf
    refine ⟨2, rfl, ?_⟩
    refine ⟨2, by decide, by decide, ?_⟩
    conv=>whnf
    refine ⟨rfl, ?_⟩
    conv=>whnf
    repeat' (first | exact trivial | exact rfl | refine And.intro ?_ ?_ | ((conv=>whnf); first | exact trivial | exact rfl | refine And.intro ?_ ?_ | omega))
  conv=>whnf
  refine ⟨fun hc => absurd (show decide (((2 : Nat) : Int) < 2) = true from hc) (by decide), fun hc => ?_⟩
  conv=>whnf
  refine call_step sanity_t rfl rfl ?_
  conv=>whnf
  refine ⟨?_, ?_, ?_⟩
  iterate 2 · repeat' (first | exact trivial | exact rfl | refine And.intro ?_ ?_ | ((conv=>whnf); first | exact trivial | exact rfl | refine And.intro ?_ ?_ | omega))
  conv=>whnf
  repeat' (first | exact trivial | exact rfl | refine And.intro ?_ ?_ | ((conv=>whnf); first | exact trivial | exact rfl | refine And.intro ?_ ?_ | omega))

theorem u8_of {z : Int} (h : (Lit.int .u8 z).wf = true) : 0 ≤ z ∧ z < 256 := by
  simp [Lit.wf] at h
  have h1 : IntKind.u8.min = 0 := rfl
  have h2 : IntKind.u8.max = 255 := rfl
  omega

end Go.Proofs

