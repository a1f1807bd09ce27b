/-
  Proves that SystemTop answers true for every system and two forms: Top has the error of the reference, or a proof that the reference accepts. Conditions: none.
-/
import Derived.Test.YtjjfadfmdodmnaaPart21
import Derived.Test.YtjjfadfmdodmnaaPart25
set_option maxRecDepth 100000
set_option linter.unusedVariables false
set_option linter.unusedSimpArgs false
namespace Go.Proofs
open Go.Sx Go.ChangeShapes Go.WideShapes Go.RowKit

theorem systemTop_lifted (os : Os) (started : os.Started) (H : Type) (enc : TypeId × Value → H) :
    ReturnsInHanded {} Try.checked os 12 .any (Ytjjfadfmdodmnaa.Rows.systemTopSpec.pre6 enc Try.prog Try.f12 Ytjjfadfmdodmnaa.Rows.systemTopRow.domain false) (Ytjjfadfmdodmnaa.Rows.systemTopSpec.post enc Try.prog Try.f12 false Ytjjfadfmdodmnaa.Rows.systemTopRow.fresh Ytjjfadfmdodmnaa.Rows.systemTopRow.handsOn false) := by
  refine returnsInHanded_of_change (C := Try.checked) A_own started (by kernel_rfl) Try.func12
    (ChangeSpec.witness6 (enc := enc) (C := Try.checked) false ⟨#[], #[.agg #[.slice none 0 0, .slice none 0 0], .slice none 0 0, .slice none 0 0], []⟩ 8 (by kernel_rfl) (by kernel_rfl) (by kernel_rfl) (by kernel_rfl)) ?_
  intro W base args ds gs before hval0 hW _ _
  have hval : ∀ (j : Nat) t v, Try.f12.params[j]? = some t → args[j]? = some v → Value.okWide Try.prog W .any base t v := hval0
  have hW' := hW
  obtain ⟨p, q, hA0, hV, rfl, _, _⟩ := hW
  have hA : DataW.TrodAll enc Try.prog W 0 (fun _ => true) true Try.f12.params.toList args.toList ds p := hA0
  rw [show Try.f12.params = #[25, 47, 47] from by kernel_rfl] at hA hval
  have hAll := hA
  obtain ⟨p', hB⟩ : ∃ p', DataW.TrodAll enc Try.prog W 0 (fun _ => true) true [25, 47, 47] args.toList ds p' := ⟨p, hA⟩
  obtain ⟨v0, vs0, d0, ds0, p0, q0, e0, rfl, rfl, h0, hR0⟩ := trodAll_cons hB
  obtain ⟨v1, vs1, d1, ds1, p1, q1, e1, rfl, rfl, h1, hR1⟩ := trodAll_cons hR0
  obtain ⟨v2, vs2, d2, ds2, p2, q2, e2, rfl, rfl, h2, hR2⟩ := trodAll_cons hR1
  obtain ⟨ev, rfl, rfl⟩ := trodAll_nil hR2
  subst ev
  subst e2
  subst e1
  have eargs : args = #[v0, v1, v2] := by cases args; simp_all
  subst eargs
  obtain ⟨rfl, rfl⟩ := trodVars_none hV
  simp only [List.append_nil] at hW'
  have hlt : ∀ x ∈ p, x.block < W.heap.size := fun x hx => by simpa using hW'.lt x hx
  obtain ⟨bs0, ls0, ra0, rb0, hc0⟩ := came_sys (hval 0 25 v0 rfl rfl) h0 0 1
  obtain ⟨xs1, ra1, hc1⟩ := came_terms (hval 1 47 v1 rfl rfl) h1 2
  obtain ⟨xs2, ra2, hc2⟩ := came_terms (hval 2 47 v2 rfl rfl) h2 3
  obtain ⟨ρ, hrel, hsat⟩ := came_sat (cameAll_cons hc0 (cameAll_cons hc1 (cameAll_cons hc2 (cameAll_nil W)))) (by show ([0, 1, 2, 3] : List Nat).Nodup; decide)
  refine ((systemTop_t bs0 ls0 xs1 xs2).h ρ W #[v0, v1, v2] hrel hsat).mono ?_
  rintro e W' ⟨ρ', v, _, rfl, hr, hH⟩
  have hfrm : Frm W W' [] := hH.frm
  have hv : v = .bool true := hr
  subst hv
  refine ⟨_, rfl, _, _, _, [], p, [], hW', ?_, ?_, rfl, ?_, fun h => by cases h⟩
  · exact trodAll_mk1 (shut_bool A_undBool true)
  · show DataW.TrodAll enc Try.prog W' 0 (fun b => decide (b < W.heap.size)) true [25, 47, 47] [v0, v1, v2] [d0, d1, d2] p
    exact DataW.TrodAll.of_heap (w := { W' with tape := W.tape }) (w' := W') rfl (trodAll_keep hfrm (fun t ht => A_read t ((by decide : ∀ t ∈ ([25, 47, 47] : List Nat), t ∈ A_reads) t ht)) hAll hlt)
  · refine ⟨hfrm.io.1, hfrm.io.2, fun i hi => ?_⟩
    rw [hfrm.same i hi (by simp)]
    split <;> simp_all

theorem systemTop_joined : joinedFacts Try.prog 12 Try.f12 Ytjjfadfmdodmnaa.Rows.systemTopSpec Ytjjfadfmdodmnaa.Rows.systemTopRow = true := by
  unfold joinedFacts
  rw [fact_laid, fact_rowed, fact_stops, fact_knobs, fact_heard, fact_keys, fact_enter, fact_lifts, fact_make]
  kernel_rfl

theorem Ytjjfadfmdodmnaa.systemTop_holds : Ytjjfadfmdodmnaa.Rows.SystemTopSaid :=
  OpenClaim.holds_of_wide 12 Try.f12 rfl rfl rfl rfl rfl rfl rfl ⟨rfl, rfl, rfl, rfl, rfl⟩ rfl rfl rfl rfl rfl (by kernel_rfl) Try.func12 systemTop_joined
    (of_decide_eq_true (by kernel_rfl)) (by unfold Func.isWrapper; first | (rw [if_pos (by decide +kernel)]; kernel_rfl) | (rw [if_neg (by decide +kernel)]; exact ⟨rfl, rfl⟩))
    (fun os started H enc _ => systemTop_lifted os started H enc)

#print axioms Ytjjfadfmdodmnaa.systemTop_holds
end Go.Proofs

