/-
  Proves that SystemOwned answers true for every system: a net keeps nothing of the lists that it was given, and what it returns can be changed. Conditions: none.
-/
import Derived.Test.YtjjfadfmdodmnaaPart19
import Derived.Test.YtjjfadfmdodmnaaPart23
set_option maxRecDepth 100000
set_option linter.unusedVariables false
set_option linter.unusedSimpArgs false
namespace Go.Proofs
open Go.Sx Go.ChangeShapes Go.WideShapes Go.RowKit

theorem systemOwned_lifted (os : Os) (started : os.Started) (H : Type) (enc : TypeId × Value → H) :
    ReturnsInHanded {} Try.checked os 16 .any (Ytjjfadfmdodmnaa.Rows.systemOwnedSpec.pre6 enc Try.prog Try.f16 Ytjjfadfmdodmnaa.Rows.systemOwnedRow.domain false) (Ytjjfadfmdodmnaa.Rows.systemOwnedSpec.post enc Try.prog Try.f16 false Ytjjfadfmdodmnaa.Rows.systemOwnedRow.fresh Ytjjfadfmdodmnaa.Rows.systemOwnedRow.handsOn false) := by
  refine returnsInHanded_of_change (C := Try.checked) A_own started (by kernel_rfl) Try.func16
    (ChangeSpec.witness6 (enc := enc) (C := Try.checked) false ⟨#[], #[.agg #[.slice none 0 0, .slice none 0 0]], []⟩ 8 (by kernel_rfl) (by kernel_rfl) (by kernel_rfl) (by kernel_rfl)) ?_
  intro W base args ds gs before hval0 hW _ _
  have hval : ∀ (j : Nat) t v, Try.f16.params[j]? = some t → args[j]? = some v → Value.okWide Try.prog W .any base t v := hval0
  have hW' := hW
  obtain ⟨p, q, hA0, hV, rfl, _, _⟩ := hW
  have hA : DataW.TrodAll enc Try.prog W 0 (fun _ => true) true Try.f16.params.toList args.toList ds p := hA0
  rw [show Try.f16.params = #[25] from by kernel_rfl] at hA hval
  have hAll := hA
  obtain ⟨p', hB⟩ : ∃ p', DataW.TrodAll enc Try.prog W 0 (fun _ => true) true [25] args.toList ds p' := ⟨p, hA⟩
  obtain ⟨v0, vs0, d0, ds0, p0, q0, e0, rfl, rfl, h0, hR0⟩ := trodAll_cons hB
  obtain ⟨ev, rfl, rfl⟩ := trodAll_nil hR0
  subst ev
  have eargs : args = #[v0] := by cases args; simp_all
  subst eargs
  obtain ⟨rfl, rfl⟩ := trodVars_none hV
  simp only [List.append_nil] at hW'
  have hlt : ∀ x ∈ p, x.block < W.heap.size := fun x hx => by simpa using hW'.lt x hx
  obtain ⟨bs0, ls0, ra0, rb0, hc0⟩ := came_sys (hval 0 25 v0 rfl rfl) h0 0 1
  obtain ⟨ρ, hrel, hsat⟩ := came_sat (cameAll_cons hc0 (cameAll_nil W)) (by show ([0, 1] : List Nat).Nodup; decide)
  refine ((systemOwned_t bs0 ls0).h ρ W #[v0] hrel hsat).mono ?_
  rintro e W' ⟨ρ', v, _, rfl, hr, hH⟩
  have hfrm : Frm W W' [] := hH.frm
  have hv : v = .bool true := hr
  subst hv
  refine ⟨_, rfl, _, _, _, [], p, [], hW', ?_, ?_, rfl, ?_, fun h => by cases h⟩
  · exact trodAll_mk1 (shut_bool A_undBool true)
  · show DataW.TrodAll enc Try.prog W' 0 (fun b => decide (b < W.heap.size)) true [25] [v0] [d0] p
    exact DataW.TrodAll.of_heap (w := { W' with tape := W.tape }) (w' := W') rfl (trodAll_keep hfrm (fun t ht => A_read t ((by decide : ∀ t ∈ ([25] : List Nat), t ∈ A_reads) t ht)) hAll hlt)
  · refine ⟨hfrm.io.1, hfrm.io.2, fun i hi => ?_⟩
    rw [hfrm.same i hi (by simp)]
    split <;> simp_all

theorem systemOwned_joined : joinedFacts Try.prog 16 Try.f16 Ytjjfadfmdodmnaa.Rows.systemOwnedSpec Ytjjfadfmdodmnaa.Rows.systemOwnedRow = true := by
  unfold joinedFacts
  rw [fact_laid, fact_rowed, fact_stops, fact_knobs, fact_heard, fact_keys, fact_enter, fact_lifts, fact_make]
  kernel_rfl

theorem Ytjjfadfmdodmnaa.systemOwned_holds : Ytjjfadfmdodmnaa.Rows.SystemOwnedSaid :=
  OpenClaim.holds_of_wide 16 Try.f16 rfl rfl rfl rfl rfl rfl rfl ⟨rfl, rfl, rfl, rfl, rfl⟩ rfl rfl rfl rfl rfl (by kernel_rfl) Try.func16 systemOwned_joined
    (of_decide_eq_true (by kernel_rfl)) (by unfold Func.isWrapper; first | (rw [if_pos (by decide +kernel)]; kernel_rfl) | (rw [if_neg (by decide +kernel)]; exact ⟨rfl, rfl⟩))
    (fun os started H enc _ => systemOwned_lifted os started H enc)

#print axioms Ytjjfadfmdodmnaa.systemOwned_holds
end Go.Proofs

