/-
  For every system, forms and the proofs of Best and Top, as they are or changed, CheckBest and CheckTop agree with the reference implementation. Conditions: none.
-/
import Derived.Test.YtjjfadfmdodmnaaPart29
import Derived.Test.YtjjfadfmdodmnaaPart26
set_option maxRecDepth 100000
set_option linter.unusedVariables false
set_option linter.unusedSimpArgs false
namespace Go.Proofs
open Go.Sx Go.ChangeShapes Go.WideShapes Go.RowKit

theorem systemTampers_lifted (os : Os) (started : os.Started) (H : Type) (enc : TypeId × Value → H) :
    ReturnsInHanded {} Try.checked os 18 .any (Ytjjfadfmdodmnaa.Rows.systemTampersSpec.pre6 enc Try.prog Try.f18 Ytjjfadfmdodmnaa.Rows.systemTampersRow.domain false) (Ytjjfadfmdodmnaa.Rows.systemTampersSpec.post enc Try.prog Try.f18 false Ytjjfadfmdodmnaa.Rows.systemTampersRow.fresh Ytjjfadfmdodmnaa.Rows.systemTampersRow.handsOn false) := by
  refine returnsInHanded_of_change (C := Try.checked) A_own started (by kernel_rfl) Try.func18
    (ChangeSpec.witness6 (enc := enc) (C := Try.checked) false ⟨#[], #[.agg #[.slice none 0 0, .slice none 0 0], .slice none 0 0, .slice none 0 0, .agg #[.int .i64 0, .int .i64 0, .int .i64 0, .int .i64 0, .int .i64 0, .int .i64 0, .int .i64 0, .int .i64 0]], []⟩ 8 (by kernel_rfl) (by kernel_rfl) (by kernel_rfl) (by kernel_rfl)) ?_
  intro W base args ds gs before hval0 hW _ _
  have hval : ∀ (j : Nat) t v, Try.f18.params[j]? = some t → args[j]? = some v → Value.okWide Try.prog W .any base t v := hval0
  have hW' := hW
  obtain ⟨p, q, hA0, hV, rfl, _, _⟩ := hW
  have hA : DataW.TrodAll enc Try.prog W 0 (fun _ => true) true Try.f18.params.toList args.toList ds p := hA0
  rw [show Try.f18.params = #[25, 47, 47, 115] from by kernel_rfl] at hA hval
  have hAll := hA
  obtain ⟨p', hB⟩ : ∃ p', DataW.TrodAll enc Try.prog W 0 (fun _ => true) true [25, 47, 47, 115] args.toList ds p' := ⟨p, hA⟩
  obtain ⟨v0, vs0, d0, ds0, p0, q0, e0, rfl, rfl, h0, hR0⟩ := trodAll_cons hB
  obtain ⟨v1, vs1, d1, ds1, p1, q1, e1, rfl, rfl, h1, hR1⟩ := trodAll_cons hR0
  obtain ⟨v2, vs2, d2, ds2, p2, q2, e2, rfl, rfl, h2, hR2⟩ := trodAll_cons hR1
  obtain ⟨v3, vs3, d3, ds3, p3, q3, e3, rfl, rfl, h3, hR3⟩ := trodAll_cons hR2
  obtain ⟨ev, rfl, rfl⟩ := trodAll_nil hR3
  subst ev
  subst e3
  subst e2
  subst e1
  have eargs : args = #[v0, v1, v2, v3] := by cases args; simp_all
  subst eargs
  obtain ⟨rfl, rfl⟩ := trodVars_none hV
  simp only [List.append_nil] at hW'
  have hlt : ∀ x ∈ p, x.block < W.heap.size := fun x hx => by simpa using hW'.lt x hx
  obtain ⟨bs0, ls0, ra0, rb0, hc0⟩ := came_sys (hval 0 25 v0 rfl rfl) h0 0 1
  obtain ⟨xs1, ra1, hc1⟩ := came_terms (hval 1 47 v1 rfl rfl) h1 2
  obtain ⟨xs2, ra2, hc2⟩ := came_terms (hval 2 47 v2 rfl rfl) h2 3
  obtain ⟨x3, hc3⟩ := came_bend (hval 3 115 v3 rfl rfl) h3
  obtain ⟨ρ, hrel, hsat⟩ := came_sat (cameAll_cons hc0 (cameAll_cons hc1 (cameAll_cons hc2 (cameAll_cons hc3 (cameAll_nil W))))) (by show ([0, 1, 2, 3] : List Nat).Nodup; decide)
  refine ((systemTampers_t bs0 ls0 xs1 xs2 x3).h ρ W #[v0, v1, v2, v3] hrel hsat).mono ?_
  rintro e W' ⟨ρ', v, _, rfl, hr, hH⟩
  have hfrm : Frm W W' [] := hH.frm
  have hv : v = .bool true := hr
  subst hv
  refine ⟨_, rfl, _, _, _, [], p, [], hW', ?_, ?_, rfl, ?_, fun h => by cases h⟩
  · exact trodAll_mk1 (shut_bool A_undBool true)
  · show DataW.TrodAll enc Try.prog W' 0 (fun b => decide (b < W.heap.size)) true [25, 47, 47, 115] [v0, v1, v2, v3] [d0, d1, d2, d3] p
    exact DataW.TrodAll.of_heap (w := { W' with tape := W.tape }) (w' := W') rfl (trodAll_keep hfrm (fun t ht => A_read t ((by decide : ∀ t ∈ ([25, 47, 47, 115] : List Nat), t ∈ A_reads) t ht)) hAll hlt)
  · refine ⟨hfrm.io.1, hfrm.io.2, fun i hi => ?_⟩
    rw [hfrm.same i hi (by simp)]
    split <;> simp_all

theorem systemTampers_joined : joinedFacts Try.prog 18 Try.f18 Ytjjfadfmdodmnaa.Rows.systemTampersSpec Ytjjfadfmdodmnaa.Rows.systemTampersRow = true := by
  unfold joinedFacts
  rw [fact_laid, fact_rowed, fact_stops, fact_knobs, fact_heard, fact_keys, fact_enter, fact_lifts, fact_make]
  kernel_rfl

theorem Ytjjfadfmdodmnaa.systemTampers_holds : Ytjjfadfmdodmnaa.Rows.SystemTampersSaid :=
  OpenClaim.holds_of_wide 18 Try.f18 rfl rfl rfl rfl rfl rfl rfl ⟨rfl, rfl, rfl, rfl, rfl⟩ rfl rfl rfl rfl rfl (by kernel_rfl) Try.func18 systemTampers_joined
    (of_decide_eq_true (by kernel_rfl)) (by unfold Func.isWrapper; first | (rw [if_pos (by decide +kernel)]; kernel_rfl) | (rw [if_neg (by decide +kernel)]; exact ⟨rfl, rfl⟩))
    (fun os started H enc _ => systemTampers_lifted os started H enc)

#print axioms Ytjjfadfmdodmnaa.systemTampers_holds
end Go.Proofs

