/-
  A part of the proof that a law answers true: lemmas of a symbolic walk, plain functions, or contracts of the functions walked (Rk). Conditions: none.
-/
import Derived.Test.YtagedjfjcnemoaaGreatPart26
set_option maxRecDepth 100000
set_option linter.unusedVariables false
set_option linter.unusedSimpArgs false
namespace Go.Proofs
open Go.Sx

/-! ### Few readings; BalanceNarrows -/

def fewRd (r : Rd) : Bool := decide (r.bs.length ≤ 10) && decide (cntR r ≤ 24)

theorem few_rd_t (r : Rd) (hw : Wide r) : Triple Tryz.prog 15 [rdA r] (rdH r) 4 (bv (fewRd r)) [] := by
  obtain ⟨w1, w2, w3, w4⟩ := hw
  have e : fewRd r = (decide (r.bs.length ≤ 10) && decide (r.cs.length + r.ns.length + r.ws.length ≤ 24)) := rfl
  generalize fewRd r = R at *
  obtain ⟨bs, cs, ns, ws⟩ := r
  dsimp only at *
  refine triple_of tB_ok Tryz.func15 rfl Tryz.call15 rfl ?_
  intro ρ w hH
  conv => whnf
  refine ⟨fun hc => ?_, fun hc => ?_⟩
  rotate_left
  · have h1 : ¬ bs.length ≤ 10 := by have := of_decide_eq_false (show decide ((bs.length : Int) ≤ 10) = false from hc); omega
    rw [decide_eq_false h1, Bool.false_and] at e
    subst e
    conv => whnf
    repeat' (first | exact trivial | exact rfl | refine And.intro ?_ ?_ | ((conv => whnf); first | exact trivial | exact rfl | refine And.intro ?_ ?_ | omega))
  have h1 : bs.length ≤ 10 := by have := of_decide_eq_true (show decide ((bs.length : Int) ≤ 10) = true from hc); omega
  rw [decide_eq_true h1, Bool.true_and] at e
  conv => whnf
  refine ⟨((cs.length + ns.length : Nat) : Int), (show IntKind.i64.wrap ((cs.length : Int) + ns.length) = ((cs.length + ns.length : Nat) : Int) by rw [wrapId ⟨by omega, by omega⟩]; omega), ?_⟩
  conv => whnf
  refine ⟨((cs.length + ns.length + ws.length : Nat) : Int), (show IntKind.i64.wrap (((cs.length + ns.length : Nat) : Int) + ws.length) = ((cs.length + ns.length + ws.length : Nat) : Int) by rw [wrapId ⟨by omega, by omega⟩]; omega), ?_⟩
  conv => whnf
  generalize cs.length + ns.length + ws.length = n at *
  have h4 : decide ((n : Int) ≤ 24) = R := by rw [e]; exact decide_eq_decide.2 (by omega)
  rw [← h4]
  conv => whnf
  repeat' (first | exact trivial | exact rfl | refine And.intro ?_ ?_ | ((conv => whnf); first | exact trivial | exact rfl | refine And.intro ?_ ?_ | omega))

theorem few_sml {r : Rd} (h : fewRd r = true) : Sml r := by
  unfold fewRd cntR at h
  simp at h
  exact ⟨by omega, by omega, by omega, by omega⟩

theorem fewRd_bd {r : Rd} (h : fewRd r = true) : r.bs.length ≤ 10 ∧ r.cs.length + r.ns.length + r.ws.length ≤ 24 := by
  unfold fewRd cntR at h
  simp at h
  exact h

theorem cmp_of {r r' : Rd} {E : (Int × Int) × Int} {G : (Int × Int) × Int} (h : ∀ a, E = (a, 0) → G.2 = 9 ∨ (G.2 = 0 ∧ a.1 ≤ G.1.1 ∧ G.1.2 ≤ a.2 ∧ G.1.1 ≤ G.1.2)) :
    E.2 ≠ 0 ∨ (E.2 = 0 ∧ G.2 = 9) ∨ (E.2 = 0 ∧ G.2 = 0 ∧ E.1.1 ≤ G.1.1 ∧ G.1.2 ≤ E.1.2 ∧ G.1.1 ≤ G.1.2) := by
  by_cases h0 : E.2 = 0
  · rcases h E.1 (by rw [← h0]) with h1 | ⟨h1, h2, h3, h4⟩
    · exact .inr (.inl ⟨h0, h1⟩)
    · exact .inr (.inr ⟨h0, h1, h2, h3, h4⟩)
  · exact .inl h0

/-- What the law finds out. -/
structure NarW (r r' : Rd) (o : Thg) (m : Mom) : Prop where
  mass : (massF r o).2 ≠ 0 ∨ ((massF r o).2 = 0 ∧ (massF r' o).2 = 9) ∨ ((massF r o).2 = 0 ∧ (massF r' o).2 = 0 ∧ (massF r o).1.1 ≤ (massF r' o).1.1 ∧ (massF r' o).1.2 ≤ (massF r o).1.2 ∧ (massF r' o).1.1 ≤ (massF r' o).1.2)
  drift : (driftedF r m).2 ≠ 0 ∨ ((driftedF r m).2 = 0 ∧ (driftedF r' m).2 = 9) ∨ ((driftedF r m).2 = 0 ∧ (driftedF r' m).2 = 0 ∧ (driftedF r m).1.1 ≤ (driftedF r' m).1.1 ∧ (driftedF r' m).1.2 ≤ (driftedF r m).1.2 ∧ (driftedF r' m).1.1 ≤ (driftedF r' m).1.2)

theorem narC {r : Rd} {c : Chk} (h : checkR (addC r c) = 0) (o : Thg) (m : Mom) : NarW r (addC r c) o m :=
  have h1 := checkR_ok.1 h
  have h0 := addC_ok h1
  ⟨cmp_of (r := r) (r' := r) fun a ha => narrow_mass (s := (0, 0)) h0 h1 rfl rfl (fun k hk => List.mem_append.2 (.inl hk)) (fun _ h => h) ha,
   cmp_of (r := r) (r' := r) fun a ha => narrow_drift h0 h1 rfl rfl (fun k hk => List.mem_append.2 (.inl hk)) (fun _ h => h) ha⟩

theorem narW {r : Rd} {w : Wgh} (h : checkR (addW r w) = 0) (o : Thg) (m : Mom) : NarW r (addW r w) o m :=
  have h1 := checkR_ok.1 h
  have h0 := addW_ok h1
  ⟨cmp_of (r := r) (r' := r) fun a ha => narrow_mass (s := (0, 0)) h0 h1 rfl rfl (fun _ h => h) (fun k hk => List.mem_append.2 (.inl hk)) ha,
   cmp_of (r := r) (r' := r) fun a ha => narrow_drift h0 h1 rfl rfl (fun _ h => h) (fun k hk => List.mem_append.2 (.inl hk)) ha⟩

theorem narX {r : Rd} {c : Chk} (h : checkR (addC r c) = 0) : (driftedF (addC r c) (cMom c)).2 = 0 ∨ (driftedF (addC r c) (cMom c)).2 = 9 := by
  have hc := (checkR_ok.1 h).c (c := c) (List.mem_append.2 (.inr (by simp)))
  have hm : momOK (addC r c) (cMom c) = true := by
    unfold momOK withinF cMom
    simp [hc.1]
    exact hc.2.2.1
  unfold driftedF
  rw [if_pos h, if_pos hm]
  unfold betweenF
  split
  · exact .inl rfl
  · exact .inr rfl

theorem narL {r : Rd} {c : Chk} (h : checkR (addC r c) = 0) (h0 : (driftedF (addC r c) (cMom c)).2 = 0) (x : Bal) (hx : x ∈ r.bs) (hi : x.id = c.bal) :
    ((0 ≤ c.mass ∧ c.mass ≤ 10000000) ∧ (0 ≤ c.shown ∧ c.shown ≤ 10000000) ∧ (0 ≤ x.half ∧ x.half ≤ 1000)) ∧ c.mass - c.shown - x.half ≤ (driftedF (addC r c) (cMom c)).1.1 ∧ (driftedF (addC r c) (cMom c)).1.2 ≤ c.mass - c.shown + x.half := by
  have hk := checkR_ok.1 h
  have hc := hk.c (c := c) (List.mem_append.2 (.inr (by simp)))
  have hf : findB r.bs c.bal = some x := (findB_iff (b := x) (id := c.bal) hk.balN).2 ⟨hx, hi⟩
  have hd : findD r.bs c.bal = x := by unfold findD; rw [hf]; rfl
  have hD := drift_check hk (k := c) (List.mem_append.2 (.inr (by simp))) (d := (driftedF (addC r c) (cMom c)).1) (by rw [← h0])
  have hD : c.mass - c.shown - (findD r.bs c.bal).half ≤ _ ∧ _ ≤ c.mass - c.shown + (findD r.bs c.bal).half := hD
  have hc2 : 0 ≤ c.mass ∧ c.mass ≤ (findD r.bs c.bal).cap := hc.2.2.2.1
  rw [hd] at hD hc2
  have hv := valid_bd (hk.bal x hx)
  refine ⟨⟨by omega, hc.2.2.2.2, hv.2.1⟩, hD⟩

theorem addC_A (r : Rd) (c : Chk) : rdA (addC r c) = .agg [.s 0 0 r.bs.length 6, .s 2 0 (r.cs.length + 1) 5, .s 3 0 r.ns.length 6, .s 1 0 r.ws.length 8] := by
  show SV.agg [.s 0 0 r.bs.length 6, .s 2 0 (r.cs ++ [c]).length 5, .s 3 0 r.ns.length 6, .s 1 0 r.ws.length 8] = _
  rw [List.length_append]; rfl

theorem addW_A (r : Rd) (w : Wgh) : rdA (addW r w) = .agg [.s 0 0 r.bs.length 6, .s 2 0 r.cs.length 5, .s 3 0 r.ns.length 6, .s 1 0 (r.ws.length + 1) 8] := by
  show SV.agg [.s 0 0 r.bs.length 6, .s 2 0 r.cs.length 5, .s 3 0 r.ns.length 6, .s 1 0 (r.ws ++ [w]).length 8] = _
  rw [List.length_append]; rfl

theorem addC_sml {r : Rd} {c : Chk} (h : fewRd r = true) : Sml (addC r c) := by
  have h := fewRd_bd h
  exact ⟨by simp [addC]; omega, by simp [addC]; omega, by simp [addC]; omega, by simp [addC]; omega⟩

theorem addW_sml {r : Rd} {c : Wgh} (h : fewRd r = true) : Sml (addW r c) := by
  have h := fewRd_bd h
  exact ⟨by simp [addW]; omega, by simp [addW]; omega, by simp [addW]; omega, by simp [addW]; omega⟩

set_option maxHeartbeats 4000000 in
theorem balanceNarrows_t (r : Rd) (hw : Wide r) (c : Chk) (u : Wgh) (o : Thg) (m : Mom) : Triple Tryz.prog 5 [rdA r, svChk c, svWgh u, svThg o, svMom m] (rdH r) 4 (bv true) [] := by
  have hFew := few_rd_t r hw
  by_cases hfew : fewRd r = true
  rotate_left
  · rw [Bool.not_eq_true] at hfew
    rw [hfew] at hFew
    refine triple_of tB_ok Tryz.func5 rfl Tryz.call5 rfl ?_
    intro ρ w hH
    conv => whnf
    refine call_step hFew rfl rfl ?_
    conv => whnf
    refine ⟨(by repeat' (first | exact trivial | exact rfl | refine And.intro ?_ ?_ | ((conv => whnf); first | exact trivial | exact rfl | refine And.intro ?_ ?_ | omega))), (by repeat' (first | exact trivial | exact rfl | refine And.intro ?_ ?_ | ((conv => whnf); first | exact trivial | exact rfl | refine And.intro ?_ ?_ | omega))), ?_⟩
    conv => whnf
    refine ⟨fun hc => ?_, fun hc => absurd hc (by simp)⟩
    conv => whnf
    refine call_step sanity_t rfl rfl ?_
    conv => whnf
    refine ⟨(by repeat' (first | exact trivial | exact rfl | refine And.intro ?_ ?_ | ((conv => whnf); first | exact trivial | exact rfl | refine And.intro ?_ ?_ | omega))), (by repeat' (first | exact trivial | exact rfl | refine And.intro ?_ ?_ | ((conv => whnf); first | exact trivial | exact rfl | refine And.intro ?_ ?_ | omega))), ?_⟩
    conv => whnf
    repeat' (first | exact trivial | exact rfl | refine And.intro ?_ ?_ | ((conv => whnf); first | exact trivial | exact rfl | refine And.intro ?_ ?_ | omega))
  rw [hfew] at hFew
  have hbd := fewRd_bd hfew
  by_cases hn : 23 < r.cs.length + r.ns.length + r.ws.length
  · obtain ⟨bs, cs, ns, ws⟩ := r
    dsimp only at *
    refine triple_of tB_ok Tryz.func5 rfl Tryz.call5 rfl ?_
    intro ρ w hH
    conv => whnf
    refine call_step hFew rfl rfl ?_
    conv => whnf
    refine ⟨(by repeat' (first | exact trivial | exact rfl | refine And.intro ?_ ?_ | ((conv => whnf); first | exact trivial | exact rfl | refine And.intro ?_ ?_ | omega))), (by repeat' (first | exact trivial | exact rfl | refine And.intro ?_ ?_ | ((conv => whnf); first | exact trivial | exact rfl | refine And.intro ?_ ?_ | omega))), ?_⟩
    conv => whnf
    refine ⟨fun hc => absurd hc (by simp), fun hc => ?_⟩
    conv => whnf
    refine ⟨((cs.length + ns.length : Nat) : Int), (show IntKind.i64.wrap ((cs.length : Int) + ns.length) = ((cs.length + ns.length : Nat) : Int) by rw [wrapId ⟨by omega, by omega⟩]; omega), ?_⟩
    conv => whnf
    refine ⟨((cs.length + ns.length + ws.length : Nat) : Int), (show IntKind.i64.wrap (((cs.length + ns.length : Nat) : Int) + ws.length) = ((cs.length + ns.length + ws.length : Nat) : Int) by rw [wrapId ⟨by omega, by omega⟩]; omega), ?_⟩
    conv => whnf
    refine ⟨fun hc => ?_, fun hc => absurd (of_decide_eq_false (show decide ((23 : Int) < ((cs.length + ns.length + ws.length : Nat) : Int)) = false from hc)) (by omega)⟩
    conv => whnf
    refine call_step sanity_t rfl rfl ?_
    conv => whnf
    refine ⟨(by repeat' (first | exact trivial | exact rfl | refine And.intro ?_ ?_ | ((conv => whnf); first | exact trivial | exact rfl | refine And.intro ?_ ?_ | omega))), (by repeat' (first | exact trivial | exact rfl | refine And.intro ?_ ?_ | ((conv => whnf); first | exact trivial | exact rfl | refine And.intro ?_ ?_ | omega))), ?_⟩
    conv => whnf
    repeat' (first | exact trivial | exact rfl | refine And.intro ?_ ?_ | ((conv => whnf); first | exact trivial | exact rfl | refine And.intro ?_ ?_ | omega))
  have hs := few_sml hfew
  have hsC := addC_sml (c := c) hfew
  have hsW := addW_sml (c := u) hfew
  have kC := check_rd_t (addC r c) (Nat.le_trans hsC.bs (by decide)) (Nat.le_trans hsC.cs (by decide)) (Nat.le_trans hsC.ns (by decide)) (Nat.le_trans hsC.ws (by decide))
  have kW := check_rd_t (addW r u) (Nat.le_trans hsW.bs (by decide)) (Nat.le_trans hsW.cs (by decide)) (Nat.le_trans hsW.ns (by decide)) (Nat.le_trans hsW.ws (by decide))
  have m0 := mass_t r o hs
  have mC := mass_t (addC r c) o hsC
  have mW := mass_t (addW r u) o hsW
  have d0 := drifted_t r m hs
  have dC := drifted_t (addC r c) m hsC
  have dW := drifted_t (addW r u) m hsW
  have dL := drifted_t (addC r c) (cMom c) hsC
  have nC := fun h => And.intro (narC (r := r) (c := c) h o m).mass (narC (r := r) (c := c) h o m).drift
  have nW := fun h => And.intro (narW (r := r) (w := u) h o m).mass (narW (r := r) (w := u) h o m).drift
  have hL : checkR (addC r c) = 0 → (driftedF (addC r c) (cMom c)).2 = 0 → ∀ x ∈ r.bs, x.id = c.bal → ((0 ≤ c.mass ∧ c.mass ≤ 10000000) ∧ (0 ≤ c.shown ∧ c.shown ≤ 10000000) ∧ (0 ≤ x.half ∧ x.half ≤ 1000)) ∧ c.mass - c.shown - x.half ≤ (driftedF (addC r c) (cMom c)).1.1 ∧ (driftedF (addC r c) (cMom c)).1.2 ≤ c.mass - c.shown + x.half := narL
  have hX : checkR (addC r c) = 0 → (driftedF (addC r c) (cMom c)).2 = 0 ∨ (driftedF (addC r c) (cMom c)).2 = 9 := narX
  rw [addC_A] at kC mC dC dL
  rw [addW_A] at kW mW dW
  obtain ⟨bs, cs, ns, ws⟩ := r
  dsimp only at *
  generalize checkR (addC ⟨bs, cs, ns, ws⟩ c) = KC at *
  generalize checkR (addW ⟨bs, cs, ns, ws⟩ u) = KW at *
  generalize massF ⟨bs, cs, ns, ws⟩ o = M0 at *
  generalize massF (addC ⟨bs, cs, ns, ws⟩ c) o = MC at *
  generalize massF (addW ⟨bs, cs, ns, ws⟩ u) o = MW at *
  generalize driftedF ⟨bs, cs, ns, ws⟩ m = D0 at *
  generalize driftedF (addC ⟨bs, cs, ns, ws⟩ c) m = DC at *
  generalize driftedF (addW ⟨bs, cs, ns, ws⟩ u) m = DW at *
  generalize driftedF (addC ⟨bs, cs, ns, ws⟩ c) (cMom c) = DL at *
  refine triple_of tB_ok Tryz.func5 rfl Tryz.call5 rfl ?_
  intro ρ w hH
  conv => whnf
  refine call_step hFew rfl rfl ?_
  conv => whnf
  refine ⟨(by repeat' (first | exact trivial | exact rfl | refine And.intro ?_ ?_ | ((conv => whnf); first | exact trivial | exact rfl | refine And.intro ?_ ?_ | omega))), (by repeat' (first | exact trivial | exact rfl | refine And.intro ?_ ?_ | ((conv => whnf); first | exact trivial | exact rfl | refine And.intro ?_ ?_ | omega))), ?_⟩
  conv => whnf
  refine ⟨fun hc => absurd hc (by simp), fun hc => ?_⟩
  conv => whnf
  refine ⟨((cs.length + ns.length : Nat) : Int), (show IntKind.i64.wrap ((cs.length : Int) + ns.length) = ((cs.length + ns.length : Nat) : Int) by rw [wrapId ⟨by omega, by omega⟩]; omega), ?_⟩
  conv => whnf
  refine ⟨((cs.length + ns.length + ws.length : Nat) : Int), (show IntKind.i64.wrap (((cs.length + ns.length : Nat) : Int) + ws.length) = ((cs.length + ns.length + ws.length : Nat) : Int) by rw [wrapId ⟨by omega, by omega⟩]; omega), ?_⟩
  conv => whnf
  refine ⟨fun hc => absurd (of_decide_eq_true (show decide ((23 : Int) < ((cs.length + ns.length + ws.length : Nat) : Int)) = true from hc)) (by omega), fun hc => ?_⟩
  conv => whnf
  refine call_step m0 rfl rfl ?_
  conv => whnf
  refine ⟨(by repeat' (first | exact trivial | exact rfl | refine And.intro ?_ ?_ | ((conv => whnf); first | exact trivial | exact rfl | refine And.intro ?_ ?_ | omega))), (by repeat' (first | exact trivial | exact rfl | refine And.intro ?_ ?_ | ((conv => whnf); first | exact trivial | exact rfl | refine And.intro ?_ ?_ | omega))), ?_⟩
  conv => whnf
  refine call_step d0 rfl rfl ?_
  conv => whnf
  refine ⟨(by repeat' (first | exact trivial | exact rfl | refine And.intro ?_ ?_ | ((conv => whnf); first | exact trivial | exact rfl | refine And.intro ?_ ?_ | omega))), (by repeat' (first | exact trivial | exact rfl | refine And.intro ?_ ?_ | ((conv => whnf); first | exact trivial | exact rfl | refine And.intro ?_ ?_ | omega))), ?_⟩
  conv => whnf
  refine slC_step tB_ok rfl ?_
  conv => whnf
  refine ⟨cs.length, rfl, rfl, Nat.le_refl _, ?_⟩
  conv => whnf
  refine bs_step tB_ok (aChk [c]) rfl rfl ?_
  conv => whnf
  refine ⟨⟨rfl, (by repeat' (first | exact trivial | exact rfl | refine And.intro ?_ ?_ | ((conv => whnf); first | exact trivial | exact rfl | refine And.intro ?_ ?_ | omega)))⟩, ?_⟩
  conv => whnf
  refine appC1_step tB_ok (aChk cs) c (fun _ => rfl) rfl rfl rfl rfl ?_
  conv => whnf
  refine ⟨⟨rfl, rfl, rfl, (by show (cs.length + 1) * (40 + 1) ≤ 140737488355328; omega)⟩, ?_⟩
  conv => whnf
  refine slC_step tB_ok rfl ?_
  conv => whnf
  refine ⟨ws.length, rfl, rfl, Nat.le_refl _, ?_⟩
  conv => whnf
  refine bs_step tB_ok (aWgh [u]) rfl rfl ?_
  conv => whnf
  refine ⟨⟨rfl, (by repeat' (first | exact trivial | exact rfl | refine And.intro ?_ ?_ | ((conv => whnf); first | exact trivial | exact rfl | refine And.intro ?_ ?_ | omega)))⟩, ?_⟩
  conv => whnf
  refine appC1_step tB_ok (aWgh ws) u (fun _ => rfl) rfl rfl rfl rfl ?_
  conv => whnf
  refine ⟨⟨rfl, rfl, rfl, (by show (ws.length + 1) * (64 + 1) ≤ 140737488355328; omega)⟩, ?_⟩
  conv => whnf
  refine bsN_step tB_ok (aRows 4 [0, 1, 2, 3, 14, 16] [[.s 0 0 bs.length 6, .s 14 0 (cs.length + 1) 5, .s 3 0 ns.length 6, .s 1 0 ws.length 8], [.s 0 0 bs.length 6, .s 2 0 cs.length 5, .s 3 0 ns.length 6, .s 16 0 (ws.length + 1) 8]]) rfl ?_
  conv => whnf
  refine ⟨(by repeat' (first | exact trivial | exact rfl | refine And.intro ?_ ?_ | ((conv => whnf); first | exact trivial | exact rfl | refine And.intro ?_ ?_ | omega))), ?_⟩
  conv => whnf
  refine loop_step tB_ok (G := Nat) 0 [] (fun i => [(89, iv .i64 i)]) (fun _ => []) (fun i => i ≤ 2) (fun i => 2 - i) ?_
  conv => whnf
  refine ⟨⟨0, by decide, ?_⟩, ?_⟩
  · conv => whnf
    repeat' (first | exact trivial | exact rfl | refine And.intro ?_ ?_ | ((conv => whnf); first | exact trivial | exact rfl | refine And.intro ?_ ?_ | omega))
  intro i hi ρ1 t1 hρ1
  rcases (by omega : i = 0 ∨ i = 1 ∨ i = 2) with rfl | rfl | rfl
  · skip
    conv => whnf
    refine ⟨fun hc => ?_, fun hc => absurd (show decide (((0 : Nat) : Int) < 2) = false from hc) (by decide)⟩
    conv => whnf
    refine ⟨0, rfl, by decide, by show 0 < 2; decide, ?_⟩
    conv => whnf
    refine call_step kC rfl rfl ?_
    conv => whnf
    refine ⟨(by repeat' (first | exact trivial | exact rfl | refine And.intro ?_ ?_ | ((conv => whnf); first | exact trivial | exact rfl | refine And.intro ?_ ?_ | omega))), (by repeat' (first | exact trivial | exact rfl | refine And.intro ?_ ?_ | ((conv => whnf); first | exact trivial | exact rfl | refine And.intro ?_ ?_ | omega))), ?_⟩
    conv => whnf
    by_cases h0 : KC = 0
    · refine ⟨fun hc => absurd h0 (by simpa using (show (KC != 0) = true from hc)), fun hc => ?_⟩
      obtain ⟨n1, n2⟩ := nC h0
      conv => whnf
      refine call_step mC rfl rfl ?_
      conv => whnf
      refine ⟨(by repeat' (first | exact trivial | exact rfl | refine And.intro ?_ ?_ | ((conv => whnf); first | exact trivial | exact rfl | refine And.intro ?_ ?_ | omega))), (by repeat' (first | exact trivial | exact rfl | refine And.intro ?_ ?_ | ((conv => whnf); first | exact trivial | exact rfl | refine And.intro ?_ ?_ | omega))), ?_⟩
      conv => whnf
      refine call_step dC rfl rfl ?_
      conv => whnf
      refine ⟨(by repeat' (first | exact trivial | exact rfl | refine And.intro ?_ ?_ | ((conv => whnf); first | exact trivial | exact rfl | refine And.intro ?_ ?_ | omega))), (by repeat' (first | exact trivial | exact rfl | refine And.intro ?_ ?_ | ((conv => whnf); first | exact trivial | exact rfl | refine And.intro ?_ ?_ | omega))), ?_⟩
      conv => whnf
      rcases n1 with hE | ⟨hE, hG⟩ | ⟨hE, hG, q1, q2, q3⟩
      · refine ⟨fun hc => absurd (by simpa using (show (M0.2 == 0) = true from hc)) hE, fun hc => ?_⟩
        conv => whnf
        rcases n2 with hE | ⟨hE, hG⟩ | ⟨hE, hG, q1, q2, q3⟩
        · refine ⟨fun hc => absurd (by simpa using (show (D0.2 == 0) = true from hc)) hE, fun hc => ?_⟩
          conv => whnf
          refine ⟨1, rfl, ?_⟩
          refine ⟨1, by decide, by decide, ?_⟩
          conv => whnf
          refine ⟨rfl, ?_⟩
          conv => whnf
          repeat' (first | exact trivial | exact rfl | refine And.intro ?_ ?_ | ((conv => whnf); first | exact trivial | exact rfl | refine And.intro ?_ ?_ | omega))
        · refine ⟨fun hc => ?_, fun hc => absurd hE (by simpa using (show (D0.2 == 0) = false from hc))⟩
          conv => whnf
          refine ⟨fun hc => absurd hG (by simpa using (show (DC.2 != 9) = true from hc)), fun hc => ?_⟩
          conv => whnf
          refine ⟨1, rfl, ?_⟩
          refine ⟨1, by decide, by decide, ?_⟩
          conv => whnf
          refine ⟨rfl, ?_⟩
          conv => whnf
          repeat' (first | exact trivial | exact rfl | refine And.intro ?_ ?_ | ((conv => whnf); first | exact trivial | exact rfl | refine And.intro ?_ ?_ | omega))
        · refine ⟨fun hc => ?_, fun hc => absurd hE (by simpa using (show (D0.2 == 0) = false from hc))⟩
          conv => whnf
          refine ⟨fun hc => ?_, fun hc => absurd (show DC.2 = 9 by simpa using (show (DC.2 != 9) = false from hc)) (by omega)⟩
          conv => whnf
          refine ⟨fun hc => absurd hG (by simpa using (show (DC.2 != 0) = true from hc)), fun hc => ?_⟩
          conv => whnf
          refine ⟨fun hc => absurd (of_decide_eq_true (show decide (DC.1.1 < D0.1.1) = true from hc)) (by omega), fun hc => ?_⟩
          conv => whnf
          refine ⟨fun hc => absurd (of_decide_eq_true (show decide (D0.1.2 < DC.1.2) = true from hc)) (by omega), fun hc => ?_⟩
          conv => whnf
          refine ⟨fun hc => absurd (of_decide_eq_true (show decide (DC.1.2 < DC.1.1) = true from hc)) (by omega), fun hc => ?_⟩
          conv => whnf
          refine ⟨1, rfl, ?_⟩
          refine ⟨1, by decide, by decide, ?_⟩
          conv => whnf
          refine ⟨rfl, ?_⟩
          conv => whnf
          repeat' (first | exact trivial | exact rfl | refine And.intro ?_ ?_ | ((conv => whnf); first | exact trivial | exact rfl | refine And.intro ?_ ?_ | omega))
      · refine ⟨fun hc => ?_, fun hc => absurd hE (by simpa using (show (M0.2 == 0) = false from hc))⟩
        conv => whnf
        refine ⟨fun hc => absurd hG (by simpa using (show (MC.2 != 9) = true from hc)), fun hc => ?_⟩
        conv => whnf
        rcases n2 with hE | ⟨hE, hG⟩ | ⟨hE, hG, q1, q2, q3⟩
        · refine ⟨fun hc => absurd (by simpa using (show (D0.2 == 0) = true from hc)) hE, fun hc => ?_⟩
          conv => whnf
          refine ⟨1, rfl, ?_⟩
          refine ⟨1, by decide, by decide, ?_⟩
          conv => whnf
          refine ⟨rfl, ?_⟩
          conv => whnf
          repeat' (first | exact trivial | exact rfl | refine And.intro ?_ ?_ | ((conv => whnf); first | exact trivial | exact rfl | refine And.intro ?_ ?_ | omega))
        · refine ⟨fun hc => ?_, fun hc => absurd hE (by simpa using (show (D0.2 == 0) = false from hc))⟩
          conv => whnf
          refine ⟨fun hc => absurd hG (by simpa using (show (DC.2 != 9) = true from hc)), fun hc => ?_⟩
          conv => whnf
          refine ⟨1, rfl, ?_⟩
          refine ⟨1, by decide, by decide, ?_⟩
          conv => whnf
          refine ⟨rfl, ?_⟩
          conv => whnf
          repeat' (first | exact trivial | exact rfl | refine And.intro ?_ ?_ | ((conv => whnf); first | exact trivial | exact rfl | refine And.intro ?_ ?_ | omega))
        · refine ⟨fun hc => ?_, fun hc => absurd hE (by simpa using (show (D0.2 == 0) = false from hc))⟩
          conv => whnf
          refine ⟨fun hc => ?_, fun hc => absurd (show DC.2 = 9 by simpa using (show (DC.2 != 9) = false from hc)) (by omega)⟩
          conv => whnf
          refine ⟨fun hc => absurd hG (by simpa using (show (DC.2 != 0) = true from hc)), fun hc => ?_⟩
          conv => whnf
          refine ⟨fun hc => absurd (of_decide_eq_true (show decide (DC.1.1 < D0.1.1) = true from hc)) (by omega), fun hc => ?_⟩
          conv => whnf
          refine ⟨fun hc => absurd (of_decide_eq_true (show decide (D0.1.2 < DC.1.2) = true from hc)) (by omega), fun hc => ?_⟩
          conv => whnf
          refine ⟨fun hc => absurd (of_decide_eq_true (show decide (DC.1.2 < DC.1.1) = true from hc)) (by omega), fun hc => ?_⟩
          conv => whnf
          refine ⟨1, rfl, ?_⟩
          refine ⟨1, by decide, by decide, ?_⟩
          conv => whnf
          refine ⟨rfl, ?_⟩
          conv => whnf
          repeat' (first | exact trivial | exact rfl | refine And.intro ?_ ?_ | ((conv => whnf); first | exact trivial | exact rfl | refine And.intro ?_ ?_ | omega))
      · refine ⟨fun hc => ?_, fun hc => absurd hE (by simpa using (show (M0.2 == 0) = false from hc))⟩
        conv => whnf
        refine ⟨fun hc => ?_, fun hc => absurd (show MC.2 = 9 by simpa using (show (MC.2 != 9) = false from hc)) (by omega)⟩
        conv => whnf
        refine ⟨fun hc => absurd hG (by simpa using (show (MC.2 != 0) = true from hc)), fun hc => ?_⟩
        conv => whnf
        refine ⟨fun hc => absurd (of_decide_eq_true (show decide (MC.1.1 < M0.1.1) = true from hc)) (by omega), fun hc => ?_⟩
        conv => whnf
        refine ⟨fun hc => absurd (of_decide_eq_true (show decide (M0.1.2 < MC.1.2) = true from hc)) (by omega), fun hc => ?_⟩
        conv => whnf
        refine ⟨fun hc => absurd (of_decide_eq_true (show decide (MC.1.2 < MC.1.1) = true from hc)) (by omega), fun hc => ?_⟩
        conv => whnf
        rcases n2 with hE | ⟨hE, hG⟩ | ⟨hE, hG, q1, q2, q3⟩
        · refine ⟨fun hc => absurd (by simpa using (show (D0.2 == 0) = true from hc)) hE, fun hc => ?_⟩
          conv => whnf
          refine ⟨1, rfl, ?_⟩
          refine ⟨1, by decide, by decide, ?_⟩
          conv => whnf
          refine ⟨rfl, ?_⟩
          conv => whnf
          repeat' (first | exact trivial | exact rfl | refine And.intro ?_ ?_ | ((conv => whnf); first | exact trivial | exact rfl | refine And.intro ?_ ?_ | omega))
        · refine ⟨fun hc => ?_, fun hc => absurd hE (by simpa using (show (D0.2 == 0) = false from hc))⟩
          conv => whnf
          refine ⟨fun hc => absurd hG (by simpa using (show (DC.2 != 9) = true from hc)), fun hc => ?_⟩
          conv => whnf
          refine ⟨1, rfl, ?_⟩
          refine ⟨1, by decide, by decide, ?_⟩
          conv => whnf
          refine ⟨rfl, ?_⟩
          conv => whnf
          repeat' (first | exact trivial | exact rfl | refine And.intro ?_ ?_ | ((conv => whnf); first | exact trivial | exact rfl | refine And.intro ?_ ?_ | omega))
        · refine ⟨fun hc => ?_, fun hc => absurd hE (by simpa using (show (D0.2 == 0) = false from hc))⟩
          conv => whnf
          refine ⟨fun hc => ?_, fun hc => absurd (show DC.2 = 9 by simpa using (show (DC.2 != 9) = false from hc)) (by omega)⟩
          conv => whnf
          refine ⟨fun hc => absurd hG (by simpa using (show (DC.2 != 0) = true from hc)), fun hc => ?_⟩
          conv => whnf
          refine ⟨fun hc => absurd (of_decide_eq_true (show decide (DC.1.1 < D0.1.1) = true from hc)) (by omega), fun hc => ?_⟩
          conv => whnf
          refine ⟨fun hc => absurd (of_decide_eq_true (show decide (D0.1.2 < DC.1.2) = true from hc)) (by omega), fun hc => ?_⟩
          conv => whnf
          refine ⟨fun hc => absurd (of_decide_eq_true (show decide (DC.1.2 < DC.1.1) = true from hc)) (by omega), fun hc => ?_⟩
          conv => whnf
          refine ⟨1, rfl, ?_⟩
          refine ⟨1, by decide, by decide, ?_⟩
          conv => whnf
          refine ⟨rfl, ?_⟩
          conv => whnf
          repeat' (first | exact trivial | exact rfl | refine And.intro ?_ ?_ | ((conv => whnf); first | exact trivial | exact rfl | refine And.intro ?_ ?_ | omega))
    · refine ⟨fun hc => ?_, fun hc => absurd (show KC = 0 by simpa using (show (KC != 0) = false from hc)) h0⟩
      conv => whnf
      refine ⟨1, rfl, ?_⟩
      refine ⟨1, by decide, by decide, ?_⟩
      conv => whnf
      refine ⟨rfl, ?_⟩
      conv => whnf
      repeat' (first | exact trivial | exact rfl | refine And.intro ?_ ?_ | ((conv => whnf); first | exact trivial | exact rfl | refine And.intro ?_ ?_ | omega))
  · skip
    conv => whnf
    refine ⟨fun hc => ?_, fun hc => absurd (show decide (((1 : Nat) : Int) < 2) = false from hc) (by decide)⟩
    conv => whnf
    refine ⟨1, rfl, by decide, by show 1 < 2; decide, ?_⟩
    conv => whnf
    refine call_step kW rfl rfl ?_
    conv => whnf
    refine ⟨(by repeat' (first | exact trivial | exact rfl | refine And.intro ?_ ?_ | ((conv => whnf); first | exact trivial | exact rfl | refine And.intro ?_ ?_ | omega))), (by repeat' (first | exact trivial | exact rfl | refine And.intro ?_ ?_ | ((conv => whnf); first | exact trivial | exact rfl | refine And.intro ?_ ?_ | omega))), ?_⟩
    conv => whnf
    by_cases h0 : KW = 0
    · refine ⟨fun hc => absurd h0 (by simpa using (show (KW != 0) = true from hc)), fun hc => ?_⟩
      obtain ⟨n1, n2⟩ := nW h0
      conv => whnf
      refine call_step mW rfl rfl ?_
      conv => whnf
      refine ⟨(by repeat' (first | exact trivial | exact rfl | refine And.intro ?_ ?_ | ((conv => whnf); first | exact trivial | exact rfl | refine And.intro ?_ ?_ | omega))), (by repeat' (first | exact trivial | exact rfl | refine And.intro ?_ ?_ | ((conv => whnf); first | exact trivial | exact rfl | refine And.intro ?_ ?_ | omega))), ?_⟩
      conv => whnf
      refine call_step dW rfl rfl ?_
      conv => whnf
      refine ⟨(by repeat' (first | exact trivial | exact rfl | refine And.intro ?_ ?_ | ((conv => whnf); first | exact trivial | exact rfl | refine And.intro ?_ ?_ | omega))), (by repeat' (first | exact trivial | exact rfl | refine And.intro ?_ ?_ | ((conv => whnf); first | exact trivial | exact rfl | refine And.intro ?_ ?_ | omega))), ?_⟩
      conv => whnf
      rcases n1 with hE | ⟨hE, hG⟩ | ⟨hE, hG, q1, q2, q3⟩
      · refine ⟨fun hc => absurd (by simpa using (show (M0.2 == 0) = true from hc)) hE, fun hc => ?_⟩
        conv => whnf
        rcases n2 with hE | ⟨hE, hG⟩ | ⟨hE, hG, q1, q2, q3⟩
        · refine ⟨fun hc => absurd (by simpa using (show (D0.2 == 0) = true from hc)) hE, fun hc => ?_⟩
          conv => whnf
          refine ⟨2, rfl, ?_⟩
          refine ⟨2, by decide, by decide, ?_⟩
          conv => whnf
          refine ⟨rfl, ?_⟩
          conv => whnf
          repeat' (first | exact trivial | exact rfl | refine And.intro ?_ ?_ | ((conv => whnf); first | exact trivial | exact rfl | refine And.intro ?_ ?_ | omega))
        · refine ⟨fun hc => ?_, fun hc => absurd hE (by simpa using (show (D0.2 == 0) = false from hc))⟩
          conv => whnf
          refine ⟨fun hc => absurd hG (by simpa using (show (DW.2 != 9) = true from hc)), fun hc => ?_⟩
          conv => whnf
          refine ⟨2, rfl, ?_⟩
          refine ⟨2, by decide, by decide, ?_⟩
          conv => whnf
          refine ⟨rfl, ?_⟩
          conv => whnf
          repeat' (first | exact trivial | exact rfl | refine And.intro ?_ ?_ | ((conv => whnf); first | exact trivial | exact rfl | refine And.intro ?_ ?_ | omega))
        · refine ⟨fun hc => ?_, fun hc => absurd hE (by simpa using (show (D0.2 == 0) = false from hc))⟩
          conv => whnf
          refine ⟨fun hc => ?_, fun hc => absurd (show DW.2 = 9 by simpa using (show (DW.2 != 9) = false from hc)) (by omega)⟩
          conv => whnf
          refine ⟨fun hc => absurd hG (by simpa using (show (DW.2 != 0) = true from hc)), fun hc => ?_⟩
          conv => whnf
          refine ⟨fun hc => absurd (of_decide_eq_true (show decide (DW.1.1 < D0.1.1) = true from hc)) (by omega), fun hc => ?_⟩
          conv => whnf
          refine ⟨fun hc => absurd (of_decide_eq_true (show decide (D0.1.2 < DW.1.2) = true from hc)) (by omega), fun hc => ?_⟩
          conv => whnf
          refine ⟨fun hc => absurd (of_decide_eq_true (show decide (DW.1.2 < DW.1.1) = true from hc)) (by omega), fun hc => ?_⟩
          conv => whnf
          refine ⟨2, rfl, ?_⟩
          refine ⟨2, by decide, by decide, ?_⟩
          conv => whnf
          refine ⟨rfl, ?_⟩
          conv => whnf
          repeat' (first | exact trivial | exact rfl | refine And.intro ?_ ?_ | ((conv => whnf); first | exact trivial | exact rfl | refine And.intro ?_ ?_ | omega))
      · refine ⟨fun hc => ?_, fun hc => absurd hE (by simpa using (show (M0.2 == 0) = false from hc))⟩
        conv => whnf
        refine ⟨fun hc => absurd hG (by simpa using (show (MW.2 != 9) = true from hc)), fun hc => ?_⟩
        conv => whnf
        rcases n2 with hE | ⟨hE, hG⟩ | ⟨hE, hG, q1, q2, q3⟩
        · refine ⟨fun hc => absurd (by simpa using (show (D0.2 == 0) = true from hc)) hE, fun hc => ?_⟩
          conv => whnf
          refine ⟨2, rfl, ?_⟩
          refine ⟨2, by decide, by decide, ?_⟩
          conv => whnf
          refine ⟨rfl, ?_⟩
          conv => whnf
          repeat' (first | exact trivial | exact rfl | refine And.intro ?_ ?_ | ((conv => whnf); first | exact trivial | exact rfl | refine And.intro ?_ ?_ | omega))
        · refine ⟨fun hc => ?_, fun hc => absurd hE (by simpa using (show (D0.2 == 0) = false from hc))⟩
          conv => whnf
          refine ⟨fun hc => absurd hG (by simpa using (show (DW.2 != 9) = true from hc)), fun hc => ?_⟩
          conv => whnf
          refine ⟨2, rfl, ?_⟩
          refine ⟨2, by decide, by decide, ?_⟩
          conv => whnf
          refine ⟨rfl, ?_⟩
          conv => whnf
          repeat' (first | exact trivial | exact rfl | refine And.intro ?_ ?_ | ((conv => whnf); first | exact trivial | exact rfl | refine And.intro ?_ ?_ | omega))
        · refine ⟨fun hc => ?_, fun hc => absurd hE (by simpa using (show (D0.2 == 0) = false from hc))⟩
          conv => whnf
          refine ⟨fun hc => ?_, fun hc => absurd (show DW.2 = 9 by simpa using (show (DW.2 != 9) = false from hc)) (by omega)⟩
          conv => whnf
          refine ⟨fun hc => absurd hG (by simpa using (show (DW.2 != 0) = true from hc)), fun hc => ?_⟩
          conv => whnf
          refine ⟨fun hc => absurd (of_decide_eq_true (show decide (DW.1.1 < D0.1.1) = true from hc)) (by omega), fun hc => ?_⟩
          conv => whnf
          refine ⟨fun hc => absurd (of_decide_eq_true (show decide (D0.1.2 < DW.1.2) = true from hc)) (by omega), fun hc => ?_⟩
          conv => whnf
          refine ⟨fun hc => absurd (of_decide_eq_true (show decide (DW.1.2 < DW.1.1) = true from hc)) (by omega), fun hc => ?_⟩
          conv => whnf
          refine ⟨2, rfl, ?_⟩
          refine ⟨2, by decide, by decide, ?_⟩
          conv => whnf
          refine ⟨rfl, ?_⟩
          conv => whnf
          repeat' (first | exact trivial | exact rfl | refine And.intro ?_ ?_ | ((conv => whnf); first | exact trivial | exact rfl | refine And.intro ?_ ?_ | omega))
      · refine ⟨fun hc => ?_, fun hc => absurd hE (by simpa using (show (M0.2 == 0) = false from hc))⟩
        conv => whnf
        refine ⟨fun hc => ?_, fun hc => absurd (show MW.2 = 9 by simpa using (show (MW.2 != 9) = false from hc)) (by omega)⟩
        conv => whnf
        refine ⟨fun hc => absurd hG (by simpa using (show (MW.2 != 0) = true from hc)), fun hc => ?_⟩
        conv => whnf
        refine ⟨fun hc => absurd (of_decide_eq_true (show decide (MW.1.1 < M0.1.1) = true from hc)) (by omega), fun hc => ?_⟩
        conv => whnf
        refine ⟨fun hc => absurd (of_decide_eq_true (show decide (M0.1.2 < MW.1.2) = true from hc)) (by omega), fun hc => ?_⟩
        conv => whnf
        refine ⟨fun hc => absurd (of_decide_eq_true (show decide (MW.1.2 < MW.1.1) = true from hc)) (by omega), fun hc => ?_⟩
        conv => whnf
        rcases n2 with hE | ⟨hE, hG⟩ | ⟨hE, hG, q1, q2, q3⟩
        · refine ⟨fun hc => absurd (by simpa using (show (D0.2 == 0) = true from hc)) hE, fun hc => ?_⟩
          conv => whnf
          refine ⟨2, rfl, ?_⟩
          refine ⟨2, by decide, by decide, ?_⟩
          conv => whnf
          refine ⟨rfl, ?_⟩
          conv => whnf
          repeat' (first | exact trivial | exact rfl | refine And.intro ?_ ?_ | ((conv => whnf); first | exact trivial | exact rfl | refine And.intro ?_ ?_ | omega))
        · refine ⟨fun hc => ?_, fun hc => absurd hE (by simpa using (show (D0.2 == 0) = false from hc))⟩
          conv => whnf
          refine ⟨fun hc => absurd hG (by simpa using (show (DW.2 != 9) = true from hc)), fun hc => ?_⟩
          conv => whnf
          refine ⟨2, rfl, ?_⟩
          refine ⟨2, by decide, by decide, ?_⟩
          conv => whnf
          refine ⟨rfl, ?_⟩
          conv => whnf
          repeat' (first | exact trivial | exact rfl | refine And.intro ?_ ?_ | ((conv => whnf); first | exact trivial | exact rfl | refine And.intro ?_ ?_ | omega))
        · refine ⟨fun hc => ?_, fun hc => absurd hE (by simpa using (show (D0.2 == 0) = false from hc))⟩
          conv => whnf
          refine ⟨fun hc => ?_, fun hc => absurd (show DW.2 = 9 by simpa using (show (DW.2 != 9) = false from hc)) (by omega)⟩
          conv => whnf
          refine ⟨fun hc => absurd hG (by simpa using (show (DW.2 != 0) = true from hc)), fun hc => ?_⟩
          conv => whnf
          refine ⟨fun hc => absurd (of_decide_eq_true (show decide (DW.1.1 < D0.1.1) = true from hc)) (by omega), fun hc => ?_⟩
          conv => whnf
          refine ⟨fun hc => absurd (of_decide_eq_true (show decide (D0.1.2 < DW.1.2) = true from hc)) (by omega), fun hc => ?_⟩
          conv => whnf
          refine ⟨fun hc => absurd (of_decide_eq_true (show decide (DW.1.2 < DW.1.1) = true from hc)) (by omega), fun hc => ?_⟩
          conv => whnf
          refine ⟨2, rfl, ?_⟩
          refine ⟨2, by decide, by decide, ?_⟩
          conv => whnf
          refine ⟨rfl, ?_⟩
          conv => whnf
          repeat' (first | exact trivial | exact rfl | refine And.intro ?_ ?_ | ((conv => whnf); first | exact trivial | exact rfl | refine And.intro ?_ ?_ | omega))
    · refine ⟨fun hc => ?_, fun hc => absurd (show KW = 0 by simpa using (show (KW != 0) = false from hc)) h0⟩
      conv => whnf
      refine ⟨2, rfl, ?_⟩
      refine ⟨2, by decide, by decide, ?_⟩
      conv => whnf
      refine ⟨rfl, ?_⟩
      conv => whnf
      repeat' (first | exact trivial | exact rfl | refine And.intro ?_ ?_ | ((conv => whnf); first | exact trivial | exact rfl | refine And.intro ?_ ?_ | omega))
  conv => whnf
  refine ⟨fun hc => absurd (show decide (((2 : Nat) : Int) < 2) = true from hc) (by decide), fun hc => ?_⟩
  conv => whnf
  refine call_step kC rfl rfl ?_
  conv => whnf
  refine ⟨(by repeat' (first | exact trivial | exact rfl | refine And.intro ?_ ?_ | ((conv => whnf); first | exact trivial | exact rfl | refine And.intro ?_ ?_ | omega))), (by repeat' (first | exact trivial | exact rfl | refine And.intro ?_ ?_ | ((conv => whnf); first | exact trivial | exact rfl | refine And.intro ?_ ?_ | omega))), ?_⟩
  conv => whnf
  by_cases h0 : KC = 0
  rotate_left
  · refine ⟨fun hc => ?_, fun hc => absurd (show KC = 0 by simpa using (show (KC != 0) = false from hc)) h0⟩
    conv => whnf
    refine call_step sanity_t rfl rfl ?_
    conv => whnf
    refine ⟨(by repeat' (first | exact trivial | exact rfl | refine And.intro ?_ ?_ | ((conv => whnf); first | exact trivial | exact rfl | refine And.intro ?_ ?_ | omega))), (by repeat' (first | exact trivial | exact rfl | refine And.intro ?_ ?_ | ((conv => whnf); first | exact trivial | exact rfl | refine And.intro ?_ ?_ | omega))), ?_⟩
    conv => whnf
    repeat' (first | exact trivial | exact rfl | refine And.intro ?_ ?_ | ((conv => whnf); first | exact trivial | exact rfl | refine And.intro ?_ ?_ | omega))
  refine ⟨fun hc => absurd h0 (by simpa using (show (KC != 0) = true from hc)), fun hc => ?_⟩
  conv => whnf
  refine call_step dL rfl rfl ?_
  conv => whnf
  refine ⟨(by repeat' (first | exact trivial | exact rfl | refine And.intro ?_ ?_ | ((conv => whnf); first | exact trivial | exact rfl | refine And.intro ?_ ?_ | omega))), (by repeat' (first | exact trivial | exact rfl | refine And.intro ?_ ?_ | ((conv => whnf); first | exact trivial | exact rfl | refine And.intro ?_ ?_ | omega))), ?_⟩
  conv => whnf
  have hL := hL h0
  rcases hX h0 with hx0 | hx9
  rotate_left
  · refine ⟨fun hc => ?_, fun hc => absurd (show DL.2 = 0 by simpa using (show (DL.2 != 0) = false from hc)) (by omega)⟩
    conv => whnf
    refine call_step sanity_t rfl rfl ?_
    conv => whnf
    refine ⟨(by repeat' (first | exact trivial | exact rfl | refine And.intro ?_ ?_ | ((conv => whnf); first | exact trivial | exact rfl | refine And.intro ?_ ?_ | omega))), (by repeat' (first | exact trivial | exact rfl | refine And.intro ?_ ?_ | ((conv => whnf); first | exact trivial | exact rfl | refine And.intro ?_ ?_ | omega))), ?_⟩
    conv => whnf
    refine ⟨fun hc => ?_, fun hc => absurd hc (by simp)⟩
    conv => whnf
    exact ⟨(by rw [hx9]; rfl : (DL.2 == 9) = true), trivial⟩
  refine ⟨fun hc => absurd hx0 (by simpa using (show (DL.2 != 0) = true from hc)), fun hc => ?_⟩
  have hL := hL hx0
  conv => whnf
  refine loop_step tB_ok (G := Nat) 0 [] (fun i => [(195, iv .i64 i)]) (fun _ => []) (fun i => i ≤ bs.length) (fun i => bs.length - i) ?_
  conv => whnf
  refine ⟨⟨0, Nat.zero_le _, ?_⟩, ?_⟩
  · conv => whnf
    repeat' (first | exact trivial | exact rfl | refine And.intro ?_ ?_ | ((conv => whnf); first | exact trivial | exact rfl | refine And.intro ?_ ?_ | omega))
  rintro i hi ρ2 t2 hρ2
  conv => whnf
  refine ⟨fun hc => ?_, fun hc => ?_⟩
  · have hlt : i < bs.length := by simpa using hc
    have hB := hL bs[i] (List.getElem_mem hlt)
    conv => whnf
    refine ⟨i, rfl, hlt, hlt, ?_⟩
    conv => whnf
    refine ⟨fun hc => ?_, fun hc => ?_⟩
    · have hB := hB (by simpa using (show (bs[i].id == c.bal) = true from hc))
      conv => whnf
      refine ⟨c.mass - c.shown, wrapId (z := c.mass - c.shown) ⟨by omega, by omega⟩, ?_⟩
      conv => whnf
      refine ⟨c.mass - c.shown - bs[i].half, wrapId (z := c.mass - c.shown - bs[i].half) ⟨by omega, by omega⟩, ?_⟩
      conv => whnf
      refine ⟨fun hc => absurd (of_decide_eq_true (show decide (DL.1.1 < c.mass - c.shown - bs[i].half) = true from hc)) (by omega), fun hc => ?_⟩
      conv => whnf
      refine ⟨c.mass - c.shown, wrapId (z := c.mass - c.shown) ⟨by omega, by omega⟩, ?_⟩
      conv => whnf
      refine ⟨c.mass - c.shown + bs[i].half, wrapId (z := c.mass - c.shown + bs[i].half) ⟨by omega, by omega⟩, ?_⟩
      conv => whnf
      refine ⟨fun hc => absurd (of_decide_eq_true (show decide (c.mass - c.shown + bs[i].half < DL.1.2) = true from hc)) (by omega), fun hc => ?_⟩
      conv => whnf
      refine ⟨_, wrapId ⟨by omega, by omega⟩, ?_⟩
      refine ⟨i + 1, hlt, by show bs.length - (i + 1) < bs.length - i; omega, ?_⟩
      conv => whnf
      refine ⟨rfl, ?_⟩
      conv => whnf
      repeat' (first | exact trivial | exact rfl | refine And.intro ?_ ?_ | ((conv => whnf); first | exact trivial | exact rfl | refine And.intro ?_ ?_ | omega))
    · conv => whnf
      refine ⟨_, wrapId ⟨by omega, by omega⟩, ?_⟩
      refine ⟨i + 1, hlt, by show bs.length - (i + 1) < bs.length - i; omega, ?_⟩
      conv => whnf
      refine ⟨rfl, ?_⟩
      conv => whnf
      repeat' (first | exact trivial | exact rfl | refine And.intro ?_ ?_ | ((conv => whnf); first | exact trivial | exact rfl | refine And.intro ?_ ?_ | omega))
  · have hie : i = bs.length := by simp at hc; omega
    conv => whnf
    refine call_step sanity_t rfl rfl ?_
    conv => whnf
    refine ⟨(by repeat' (first | exact trivial | exact rfl | refine And.intro ?_ ?_ | ((conv => whnf); first | exact trivial | exact rfl | refine And.intro ?_ ?_ | omega))), (by repeat' (first | exact trivial | exact rfl | refine And.intro ?_ ?_ | ((conv => whnf); first | exact trivial | exact rfl | refine And.intro ?_ ?_ | omega))), ?_⟩
    conv => whnf
    repeat' (first | exact trivial | exact rfl | refine And.intro ?_ ?_ | ((conv => whnf); first | exact trivial | exact rfl | refine And.intro ?_ ?_ | omega))

end Go.Proofs

