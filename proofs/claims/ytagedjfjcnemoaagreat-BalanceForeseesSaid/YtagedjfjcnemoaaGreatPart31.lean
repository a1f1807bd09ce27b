/-
  A part of the proof that a law answers true: lemmas of a symbolic walk, plain functions, or contracts of the functions walked (Rv). Conditions: none.
-/
import Derived.Test.YtagedjfjcnemoaaGreatPart30
set_option maxRecDepth 100000
set_option linter.unusedVariables false
set_option linter.unusedSimpArgs false
namespace Go.Proofs
open Go.Sx

theorem mass_full {r : Rd} (h : RdOK r) {o : Thg} (ho : o ∈ objsF r) (hc : Calm (boxR r []) (lnkR r []) 0) : (massF r o).2 = 0 ∧ (massF r o).1.1 ≤ (massF r o).1.2 := by
  have c0 : checkR r = 0 := checkR_ok.2 h
  unfold massF massV betweenF
  rw [if_pos c0, if_pos ho, if_pos hc]
  refine ⟨rfl, ?_⟩
  obtain ⟨d1, ⟨x1, e1, s1, v1⟩, _⟩ := range_sem h (more := []) (by simp) (by simp) hc (a := .zero) (b := .obj o) trivial ho
  have t3 := d1 x1 e1 s1
  simp only [Var.pl, Var.val, mostR] at *
  omega

theorem mass_clash {r : Rd} (h : RdOK r) {o : Thg} (ho : o ∈ objsF r) (hc : ¬ Calm (boxR r []) (lnkR r []) 0) : (massF r o).2 = 9 := by
  have c0 : checkR r = 0 := checkR_ok.2 h
  unfold massF massV betweenF
  rw [if_pos c0, if_pos ho, if_neg hc]

theorem foresee_says {r : Rd} {u : Wgh} (h0 : checkR (addW r u) = 0) (he : (foreseeF r u).2 = 0) :
    (0 ≤ (foreseeF r u).1.1 ∧ (foreseeF r u).1.1 ≤ (foreseeF r u).1.2 ∧ (foreseeF r u).1.2 ≤ 10000000) ∧
    (∀ n, (foreseeF r u).1.1 ≤ n → n ≤ (foreseeF r u).1.2 → (massF (addW r { u with shown := n }) u.o).2 = 0 ∧ (massF (addW r { u with shown := n }) u.o).1.1 ≤ (massF (addW r { u with shown := n }) u.o).1.2) ∧
    (∀ n, 0 ≤ n → n ≤ 10000000 → (n = (foreseeF r u).1.1 - 1 ∨ n = (foreseeF r u).1.2 + 1) → (massF (addW r { u with shown := n }) u.o).2 = 9) := by
  have hr := checkR_ok.1 h0
  obtain ⟨⟨a1, a2, a3, ho⟩, g1, g2⟩ := foresee_law hr (lo := (foreseeF r u).1.1) (hi := (foreseeF r u).1.2) (by rw [← he])
  have hob : ∀ n, u.o ∈ objsF (addW r { u with shown := n }) := fun n => by rw [addW_objs (w := { u with shown := n }) ho]; exact ho
  exact ⟨⟨a1, a2, a3⟩, fun n h1 h2 => mass_full (addW_shown hr (by omega)) (hob n) (g1 n h1 h2), fun n h1 h2 h3 => mass_clash (addW_shown hr ⟨h1, h2⟩) (hob n) (g2 n h1 h2 h3)⟩

theorem set_last {α : Type} (l : List α) (x y : α) : (l ++ [x]).set l.length y = l ++ [y] := by
  rw [List.set_append_right _ _ (Nat.le_refl _), Nat.sub_self]; rfl

theorem enc_last (ws : List Wgh) (u : Wgh) (x : Int) (h : ws.length < (ws ++ [u]).length) : (aWgh ws).enc { u with shown := x } = splice ((aWgh ws).enc ((ws ++ [u])[ws.length]'h)) 7 (nrmL [.v (.int .i64 x)]) := by
  rw [show (ws ++ [u])[ws.length]'h = u by simp]; rfl

def tU : List (Nat × TI) := (33, ⟨.int .u16, 1, 2, [.int .u16 0]⟩) :: tT
theorem tU_ok : TabOK Tryz.prog tU := tabOK_cons (by kernel_rfl) tT_ok
def tV : Tabs := ⟨tU, tB.2⟩
theorem tV_ok : TabsOK Tryz.prog tV := ⟨tU_ok, by kernel_rfl, by kernel_rfl, eq_ok, by kernel_rfl⟩

set_option maxHeartbeats 4000000 in
theorem balanceForesees_t (r : Rd) (hw : Wide r) (u : Wgh) (z : Int) (hz : 0 ≤ z ∧ z < 65536) : Triple Tryz.prog 3 [rdA r, svWgh u, iv .u16 z] (rdH r) 4 (bv true) [] := by
  have hFew := few_rd_t r hw
  by_cases hfew : fewRd r = true
  rotate_left
  · rw [Bool.not_eq_true] at hfew
    rw [hfew] at hFew
    refine triple_of tV_ok Tryz.func3 rfl Tryz.call3 rfl ?_
    intro ρ w hH
    conv=>whnf
    refine call_step hFew rfl rfl ?_
    conv=>whnf
    refine ⟨?_, ?_, ?_⟩
    iterate 2 · repeat' (first | exact trivial | exact rfl | refine And.intro ?_ ?_ | ((conv=>whnf); first | exact trivial | exact rfl | refine And.intro ?_ ?_ | omega))
    conv=>whnf
    refine ⟨fun hc => ?_, fun hc => absurd hc (by simp)⟩
    conv=>whnf
    refine call_step sanity_t rfl rfl ?_
    conv=>whnf
    refine ⟨?_, ?_, ?_⟩
    iterate 2 · repeat' (first | exact trivial | exact rfl | refine And.intro ?_ ?_ | ((conv=>whnf); first | exact trivial | exact rfl | refine And.intro ?_ ?_ | omega))
    conv=>whnf
    repeat' (first | exact trivial | exact rfl | refine And.intro ?_ ?_ | ((conv=>whnf); first | exact trivial | exact rfl | refine And.intro ?_ ?_ | omega))
  rw [hfew] at hFew
  have hbd := fewRd_bd hfew
  by_cases hn : 23 < r.cs.length + r.ns.length + r.ws.length
  · obtain ⟨bs, cs, ns, ws⟩ := r
    dsimp only at *
    refine triple_of tV_ok Tryz.func3 rfl Tryz.call3 rfl ?_
    intro ρ w hH
    conv=>whnf
    refine call_step hFew rfl rfl ?_
    conv=>whnf
    refine ⟨?_, ?_, ?_⟩
    iterate 2 · repeat' (first | exact trivial | exact rfl | refine And.intro ?_ ?_ | ((conv=>whnf); first | exact trivial | exact rfl | refine And.intro ?_ ?_ | omega))
    conv=>whnf
    refine ⟨fun hc => absurd hc (by simp), fun hc => ?_⟩
    conv=>whnf
    refine ⟨((cs.length + ns.length : Nat) : Int), (show IntKind.i64.wrap ((cs.length : Int) + ns.length) = ((cs.length + ns.length : Nat) : Int) by rw [wrapId ⟨by omega, by omega⟩]; omega), ?_⟩
    conv=>whnf
    refine ⟨((cs.length + ns.length + ws.length : Nat) : Int), (show IntKind.i64.wrap (((cs.length + ns.length : Nat) : Int) + ws.length) = ((cs.length + ns.length + ws.length : Nat) : Int) by rw [wrapId ⟨by omega, by omega⟩]; omega), ?_⟩
    conv=>whnf
    refine ⟨fun hc => ?_, fun hc => absurd (of_decide_eq_false (show decide ((23 : Int) < ((cs.length + ns.length + ws.length : Nat) : Int)) = false from hc)) (by omega)⟩
    conv=>whnf
    refine call_step sanity_t rfl rfl ?_
    conv=>whnf
    refine ⟨?_, ?_, ?_⟩
    iterate 2 · repeat' (first | exact trivial | exact rfl | refine And.intro ?_ ?_ | ((conv=>whnf); first | exact trivial | exact rfl | refine And.intro ?_ ?_ | omega))
    conv=>whnf
    repeat' (first | exact trivial | exact rfl | refine And.intro ?_ ?_ | ((conv=>whnf); first | exact trivial | exact rfl | refine And.intro ?_ ?_ | omega))
  have hs := few_sml hfew
  have hsW := fun n => addW_sml (c := { u with shown := n }) hfew
  have hsU := addW_sml (c := u) hfew
  have kW := check_rd_t (addW r u) (Nat.le_trans hsU.bs (by decide)) (Nat.le_trans hsU.cs (by decide)) (Nat.le_trans hsU.ns (by decide)) (Nat.le_trans hsU.ws (by decide))
  have mW := fun n => mass_t (addW r { u with shown := n }) u.o (hsW n)
  have f1 := foreseeV_t r u hs
  have f2 := rForesee_t r u hs (by omega)
  have hS := foresee_says (r := r) (u := u)
  rw [addW_A] at kW
  have mW := fun n => by have := mW n; rw [addW_A] at this; exact this
  obtain ⟨bs, cs, ns, ws⟩ := r
  dsimp only at *
  generalize checkR (addW ⟨bs, cs, ns, ws⟩ u) = KW at *
  generalize foreseeF ⟨bs, cs, ns, ws⟩ u = F at *
  refine triple_of tV_ok Tryz.func3 rfl Tryz.call3 rfl ?_
  intro ρ w hH
  conv=>whnf
  refine call_step hFew rfl rfl ?_
  conv=>whnf
  refine ⟨?_, ?_, ?_⟩
  iterate 2 · repeat' (first | exact trivial | exact rfl | refine And.intro ?_ ?_ | ((conv=>whnf); first | exact trivial | exact rfl | refine And.intro ?_ ?_ | omega))
  conv=>whnf
  refine ⟨fun hc => absurd hc (by simp), fun hc => ?_⟩
  conv=>whnf
  refine ⟨((cs.length + ns.length : Nat) : Int), (show IntKind.i64.wrap ((cs.length : Int) + ns.length) = ((cs.length + ns.length : Nat) : Int) by rw [wrapId ⟨by omega, by omega⟩]; omega), ?_⟩
  conv=>whnf
  refine ⟨((cs.length + ns.length + ws.length : Nat) : Int), (show IntKind.i64.wrap (((cs.length + ns.length : Nat) : Int) + ws.length) = ((cs.length + ns.length + ws.length : Nat) : Int) by rw [wrapId ⟨by omega, by omega⟩]; omega), ?_⟩
  conv=>whnf
  refine ⟨fun hc => absurd (of_decide_eq_true (show decide ((23 : Int) < ((cs.length + ns.length + ws.length : Nat) : Int)) = true from hc)) (by omega), fun hc => ?_⟩
  conv=>whnf
  refine call_step f1 rfl rfl ?_
  conv=>whnf
  refine ⟨?_, ?_, ?_⟩
  iterate 2 · repeat' (first | exact trivial | exact rfl | refine And.intro ?_ ?_ | ((conv=>whnf); first | exact trivial | exact rfl | refine And.intro ?_ ?_ | omega))
  conv=>whnf
  refine call_step f2 rfl rfl ?_
  conv=>whnf
  refine ⟨?_, ?_, ?_⟩
  iterate 2 · repeat' (first | exact trivial | exact rfl | refine And.intro ?_ ?_ | ((conv=>whnf); first | exact trivial | exact rfl | refine And.intro ?_ ?_ | omega))
  conv=>whnf
  refine ⟨fun hc => absurd (show ([F.1.1, F.1.2] != [F.1.1, F.1.2]) = true from hc) (by simp), fun hc => ?_⟩
  conv=>whnf
  refine ⟨fun hc => absurd (show (F.2 != F.2) = true from hc) (by simp), fun hc => ?_⟩
  conv=>whnf
  refine slC_step tV_ok rfl ?_
  conv=>whnf
  refine ⟨ws.length, rfl, rfl, Nat.le_refl _, ?_⟩
  conv=>whnf
  refine bs_step tV_ok (aWgh [u]) rfl rfl ?_
  conv=>whnf
  refine ⟨⟨rfl, (by repeat' (first | exact trivial | exact rfl | refine And.intro ?_ ?_ | ((conv=>whnf); first | exact trivial | exact rfl | refine And.intro ?_ ?_ | omega)))⟩, ?_⟩
  conv=>whnf
  refine appC1_step tV_ok (aWgh ws) u (fun _ => rfl) rfl rfl rfl rfl ?_
  conv=>whnf
  refine ⟨⟨rfl, rfl, rfl, (by show (ws.length + 1) * (64 + 1) ≤ 140737488355328; omega)⟩, ?_⟩
  conv=>whnf
  by_cases he : F.2 = 0
  rotate_left
  · refine ⟨fun hc => ?_, fun hc => absurd (show F.2 = 0 by simpa using (show (F.2 != 0) = false from hc)) he⟩
    conv=>whnf
    refine call_step sanity_t rfl rfl ?_
    conv=>whnf
    refine ⟨?_, ?_, ?_⟩
    iterate 2 · repeat' (first | exact trivial | exact rfl | refine And.intro ?_ ?_ | ((conv=>whnf); first | exact trivial | exact rfl | refine And.intro ?_ ?_ | omega))
    conv=>whnf
    repeat' (first | exact trivial | exact rfl | refine And.intro ?_ ?_ | ((conv=>whnf); first | exact trivial | exact rfl | refine And.intro ?_ ?_ | omega))
  refine ⟨fun hc => absurd he (by simpa using (show (F.2 != 0) = true from hc)), fun hc => ?_⟩
  conv=>whnf
  refine call_step kW rfl rfl ?_
  conv=>whnf
  refine ⟨?_, ?_, ?_⟩
  iterate 2 · repeat' (first | exact trivial | exact rfl | refine And.intro ?_ ?_ | ((conv=>whnf); first | exact trivial | exact rfl | refine And.intro ?_ ?_ | omega))
  conv=>whnf
  by_cases hk : KW = 0
  rotate_left
  · refine ⟨fun hc => ?_, fun hc => absurd (show KW = 0 by simpa using (show (KW != 0) = false from hc)) hk⟩
    conv=>whnf
    refine call_step sanity_t rfl rfl ?_
    conv=>whnf
    refine ⟨?_, ?_, ?_⟩
    iterate 2 · repeat' (first | exact trivial | exact rfl | refine And.intro ?_ ?_ | ((conv=>whnf); first | exact trivial | exact rfl | refine And.intro ?_ ?_ | omega))
    conv=>whnf
    repeat' (first | exact trivial | exact rfl | refine And.intro ?_ ?_ | ((conv=>whnf); first | exact trivial | exact rfl | refine And.intro ?_ ?_ | omega))
  refine ⟨fun hc => absurd hk (by simpa using (show (KW != 0) = true from hc)), fun hc => ?_⟩
  obtain ⟨⟨a1, a2, a3⟩, g1, g2⟩ := hS hk he
  conv=>whnf
  refine ⟨z, wrapId (z := z) ⟨by omega, by omega⟩, ?_⟩
  conv=>whnf
  refine ⟨F.1.2 - F.1.1, wrapId (z := F.1.2 - F.1.1) ⟨by omega, by omega⟩, ?_⟩
  conv=>whnf
  refine ⟨F.1.2 - F.1.1 + 1, wrapId (z := F.1.2 - F.1.1 + 1) ⟨by omega, by omega⟩, ?_⟩
  conv=>whnf
  have hq1 := Int.tmod_nonneg (F.1.2 - F.1.1 + 1) hz.1
  have hq2 := Int.tmod_lt_of_pos z (show 0 < F.1.2 - F.1.1 + 1 by omega)
  refine ⟨by omega, z.tmod (F.1.2 - F.1.1 + 1), rfl, ?_⟩
  generalize z.tmod (F.1.2 - F.1.1 + 1) = q at *
  conv=>whnf
  refine ⟨F.1.1 + q, wrapId (z := F.1.1 + q) ⟨by omega, by omega⟩, ?_⟩
  conv=>whnf
  have hl1 : ws.length < ws.length + 1 := Nat.lt_succ_self _
  have hl2 : ∀ x : Wgh, ws.length < (ws ++ [x]).length := fun x => by rw [List.length_append]; exact hl1
  refine ⟨ws.length, rfl, hl1, hl2 u, { u with shown := F.1.1 + q }, enc_last ws u (F.1.1 + q) (hl2 u), ?_⟩
  conv=>whnf
  obtain ⟨g3, g4⟩ := g1 (F.1.1 + q) (by omega) (by omega)
  have m1 := mW (F.1.1 + q)
  generalize massF (addW ⟨bs, cs, ns, ws⟩ { u with shown := F.1.1 + q }) u.o = M1 at *
  refine call_step m1 rfl rfl ?_
  conv=>whnf
  refine ⟨(by repeat' (first | exact trivial | exact rfl | refine And.intro ?_ ?_ | ((conv=>whnf); first | exact trivial | exact rfl | refine And.intro ?_ ?_ | omega))), ?_, ?_⟩
  · repeat' (first | exact trivial | exact rfl | refine And.intro ?_ ?_ | ((conv=>whnf); first | exact trivial | exact rfl | refine And.intro ?_ ?_ | omega))
    all_goals exact congrArg aWgh (set_last ws u _)
  conv=>whnf
  refine ⟨fun hc => absurd g3 (by simpa using (show (M1.2 != 0) = true from hc)), fun hc => ?_⟩
  conv=>whnf
  refine ⟨fun hc => absurd (of_decide_eq_true (show decide (M1.1.2 < M1.1.1) = true from hc)) (by omega), fun hc => ?_⟩
  conv=>whnf
  refine ⟨F.1.1 - 1, wrapId (z := F.1.1 - 1) ⟨by omega, by omega⟩, ?_⟩
  conv=>whnf
  refine ⟨F.1.2 + 1, wrapId (z := F.1.2 + 1) ⟨by omega, by omega⟩, ?_⟩
  conv=>whnf
  refine bs_step tV_ok (aInt [F.1.1 - 1, F.1.2 + 1]) rfl rfl ?_
  conv=>whnf
  refine ⟨⟨rfl, (by repeat' (first | exact trivial | exact rfl | refine And.intro ?_ ?_ | ((conv=>whnf); first | exact trivial | exact rfl | refine And.intro ?_ ?_ | omega)))⟩, ?_⟩
  conv=>whnf
  refine loop_step tV_ok (G := Nat × Int) 0 [] (fun g => [(123, iv .i64 g.1)]) (fun g => [(10, true, .arr (aWgh (ws ++ [{ u with shown := g.2 }])))]) (fun g => g.1 ≤ 2) (fun g => 2 - g.1) ?_
  conv=>whnf
  refine ⟨⟨(0, F.1.1 + q), (by show 0 ≤ 2; decide), ?_⟩, ?_⟩
  · conv=>whnf
    repeat' (first | exact trivial | exact rfl | refine And.intro ?_ ?_ | ((conv=>whnf); first | exact trivial | exact rfl | refine And.intro ?_ ?_ | omega))
    all_goals exact congrArg aWgh (set_last ws u _)
  rintro ⟨i, v⟩ hi ρ1 t1 hρ1
  dsimp only at hi ⊢
  rcases (by omega : i = 0 ∨ i = 1 ∨ i = 2) with rfl | rfl | rfl
  · skip
    conv=>whnf
    refine ⟨fun hc => ?_, fun hc => absurd (show decide (((0 : Nat) : Int) < 2) = false from hc) (by decide)⟩
    conv=>whnf
    refine ⟨0, rfl, by decide, by show 0 < 2; decide, ?_⟩
    conv=>whnf
    refine ⟨fun hc => ?_, fun hc => ?_⟩
    · conv=>whnf
      refine ⟨1, rfl, ?_⟩
      refine ⟨(1, v), (by show 1 ≤ 2; decide), (by show 2 - 1 < 2 - 0; decide), ?_⟩
      try dsimp only
      conv=>whnf
      refine ⟨rfl, ?_⟩
      conv=>whnf
      repeat' (first | exact trivial | exact rfl | refine And.intro ?_ ?_ | ((conv=>whnf); first | exact trivial | exact rfl | refine And.intro ?_ ?_ | omega))
    have n1 : ¬ F.1.1 - 1 < 0 := of_decide_eq_false (show decide (F.1.1 - 1 < 0) = false from hc)
    conv=>whnf
    refine ⟨fun hc => ?_, fun hc => ?_⟩
    · conv=>whnf
      refine ⟨1, rfl, ?_⟩
      refine ⟨(1, v), (by show 1 ≤ 2; decide), (by show 2 - 1 < 2 - 0; decide), ?_⟩
      try dsimp only
      conv=>whnf
      refine ⟨rfl, ?_⟩
      conv=>whnf
      repeat' (first | exact trivial | exact rfl | refine And.intro ?_ ?_ | ((conv=>whnf); first | exact trivial | exact rfl | refine And.intro ?_ ?_ | omega))
    have n2 : ¬ 10000000 < F.1.1 - 1 := of_decide_eq_false (show decide (10000000 < F.1.1 - 1) = false from hc)
    conv=>whnf
    refine ⟨ws.length, rfl, hl1, hl2 _, { u with shown := F.1.1 - 1 }, enc_last ws { u with shown := v } (F.1.1 - 1) (hl2 _), ?_⟩
    conv=>whnf
    have g5 := g2 (F.1.1 - 1) (by omega) (by omega) (.inl rfl)
    have m2 := mW (F.1.1 - 1)
    generalize massF (addW ⟨bs, cs, ns, ws⟩ { u with shown := F.1.1 - 1 }) u.o = M2 at *
    refine call_step m2 rfl rfl ?_
    conv=>whnf
    refine ⟨(by repeat' (first | exact trivial | exact rfl | refine And.intro ?_ ?_ | ((conv=>whnf); first | exact trivial | exact rfl | refine And.intro ?_ ?_ | omega))), ?_, ?_⟩
    · repeat' (first | exact trivial | exact rfl | refine And.intro ?_ ?_ | ((conv=>whnf); first | exact trivial | exact rfl | refine And.intro ?_ ?_ | omega))
      all_goals exact congrArg aWgh (set_last ws _ _)
    conv=>whnf
    refine ⟨fun hc => absurd g5 (by simpa using (show (M2.2 != 9) = true from hc)), fun hc => ?_⟩
    conv=>whnf
    refine ⟨1, rfl, ?_⟩
    refine ⟨(1, F.1.1 - 1), (by show 1 ≤ 2; decide), (by show 2 - 1 < 2 - 0; decide), ?_⟩
    try dsimp only
    conv=>whnf
    refine ⟨rfl, ?_⟩
    conv=>whnf
    repeat' (first | exact trivial | exact rfl | refine And.intro ?_ ?_ | ((conv=>whnf); first | exact trivial | exact rfl | refine And.intro ?_ ?_ | omega))
    all_goals exact congrArg aWgh (set_last ws _ _)
  · skip
    conv=>whnf
    refine ⟨fun hc => ?_, fun hc => absurd (show decide (((1 : Nat) : Int) < 2) = false from hc) (by decide)⟩
    conv=>whnf
    refine ⟨1, rfl, by decide, by show 1 < 2; decide, ?_⟩
    conv=>whnf
    refine ⟨fun hc => ?_, fun hc => ?_⟩
    · conv=>whnf
      refine ⟨2, rfl, ?_⟩
      refine ⟨(2, v), (by show 2 ≤ 2; decide), (by show 2 - 2 < 2 - 1; decide), ?_⟩
      try dsimp only
      conv=>whnf
      refine ⟨rfl, ?_⟩
      conv=>whnf
      repeat' (first | exact trivial | exact rfl | refine And.intro ?_ ?_ | ((conv=>whnf); first | exact trivial | exact rfl | refine And.intro ?_ ?_ | omega))
    have n1 : ¬ F.1.2 + 1 < 0 := of_decide_eq_false (show decide (F.1.2 + 1 < 0) = false from hc)
    conv=>whnf
    refine ⟨fun hc => ?_, fun hc => ?_⟩
    · conv=>whnf
      refine ⟨2, rfl, ?_⟩
      refine ⟨(2, v), (by show 2 ≤ 2; decide), (by show 2 - 2 < 2 - 1; decide), ?_⟩
      try dsimp only
      conv=>whnf
      refine ⟨rfl, ?_⟩
      conv=>whnf
      repeat' (first | exact trivial | exact rfl | refine And.intro ?_ ?_ | ((conv=>whnf); first | exact trivial | exact rfl | refine And.intro ?_ ?_ | omega))
    have n2 : ¬ 10000000 < F.1.2 + 1 := of_decide_eq_false (show decide (10000000 < F.1.2 + 1) = false from hc)
    conv=>whnf
    refine ⟨ws.length, rfl, hl1, hl2 _, { u with shown := F.1.2 + 1 }, enc_last ws { u with shown := v } (F.1.2 + 1) (hl2 _), ?_⟩
    conv=>whnf
    have g5 := g2 (F.1.2 + 1) (by omega) (by omega) (.inr rfl)
    have m2 := mW (F.1.2 + 1)
    generalize massF (addW ⟨bs, cs, ns, ws⟩ { u with shown := F.1.2 + 1 }) u.o = M2 at *
    refine call_step m2 rfl rfl ?_
    conv=>whnf
    refine ⟨(by repeat' (first | exact trivial | exact rfl | refine And.intro ?_ ?_ | ((conv=>whnf); first | exact trivial | exact rfl | refine And.intro ?_ ?_ | omega))), ?_, ?_⟩
    · repeat' (first | exact trivial | exact rfl | refine And.intro ?_ ?_ | ((conv=>whnf); first | exact trivial | exact rfl | refine And.intro ?_ ?_ | omega))
      all_goals exact congrArg aWgh (set_last ws _ _)
    conv=>whnf
    refine ⟨fun hc => absurd g5 (by simpa using (show (M2.2 != 9) = true from hc)), fun hc => ?_⟩
    conv=>whnf
    refine ⟨2, rfl, ?_⟩
    refine ⟨(2, F.1.2 + 1), (by show 2 ≤ 2; decide), (by show 2 - 2 < 2 - 1; decide), ?_⟩
    try dsimp only
    conv=>whnf
    refine ⟨rfl, ?_⟩
    conv=>whnf
    repeat' (first | exact trivial | exact rfl | refine And.intro ?_ ?_ | ((conv=>whnf); first | exact trivial | exact rfl | refine And.intro ?_ ?_ | omega))
    all_goals exact congrArg aWgh (set_last ws _ _)
  conv=>whnf
  refine ⟨fun hc => absurd (show decide (((2 : Nat) : Int) < 2) = true from hc) (by decide), fun hc => ?_⟩
  conv=>whnf
  refine call_step sanity_t rfl rfl ?_
  conv=>whnf
  refine ⟨?_, ?_, ?_⟩
  iterate 2 · repeat' (first | exact trivial | exact rfl | refine And.intro ?_ ?_ | ((conv=>whnf); first | exact trivial | exact rfl | refine And.intro ?_ ?_ | omega))
  conv=>whnf
  repeat' (first | exact trivial | exact rfl | refine And.intro ?_ ?_ | ((conv=>whnf); first | exact trivial | exact rfl | refine And.intro ?_ ?_ | omega))

theorem u16_of {z : Int} (h : (Lit.int .u16 z).wf = true) : 0 ≤ z ∧ z < 65536 := by
  simp [Lit.wf] at h
  have h1 : IntKind.u16.min = 0 := rfl
  have h2 : IntKind.u16.max = 65535 := rfl
  omega

end Go.Proofs

