/-
  Proves that SystemNets answers true for every system and list of steps: each Put and Take has the error of the reference, a contradiction is a cycle that it accepts, and Links and Boxes agree with it. Conditions: none.
-/
import Derived.Test.YtjjfadfmdodmnaaPart24
set_option maxRecDepth 100000
set_option linter.unusedVariables false
set_option linter.unusedSimpArgs false
namespace Go.Proofs
open Go.Sx Go.ChangeShapes Go.WideShapes Go.RowKit

theorem systemNets_lifted (os : Os) (started : os.Started) (H : Type) (enc : TypeId × Value → H) :
    ReturnsInHanded {} Try.checked os 14 .any (Ytjjfadfmdodmnaa.Rows.systemNetsSpec.pre6 enc Try.prog Try.f14 Ytjjfadfmdodmnaa.Rows.systemNetsRow.domain false) (Ytjjfadfmdodmnaa.Rows.systemNetsSpec.post enc Try.prog Try.f14 false Ytjjfadfmdodmnaa.Rows.systemNetsRow.fresh Ytjjfadfmdodmnaa.Rows.systemNetsRow.handsOn false) := by
  refine returnsInHanded_of_change (C := Try.checked) A_own started (by kernel_rfl) Try.func14
    (ChangeSpec.witness6 (enc := enc) (C := Try.checked) false ⟨#[], #[.agg #[.slice none 0 0, .slice none 0 0], .slice none 0 0], []⟩ 8 (by kernel_rfl) (by kernel_rfl) (by kernel_rfl) (by kernel_rfl)) ?_
  intro W base args ds gs before hval0 hW _ _
  have hval : ∀ (j : Nat) t v, Try.f14.params[j]? = some t → args[j]? = some v → Value.okWide Try.prog W .any base t v := hval0
  have hW' := hW
  obtain ⟨p, q, hA0, hV, rfl, _, _⟩ := hW
  have hA : DataW.TrodAll enc Try.prog W 0 (fun _ => true) true Try.f14.params.toList args.toList ds p := hA0
  rw [show Try.f14.params = #[25, 97] from by kernel_rfl] at hA hval
  have hAll := hA
  obtain ⟨p', hB⟩ : ∃ p', DataW.TrodAll enc Try.prog W 0 (fun _ => true) true [25, 97] args.toList ds p' := ⟨p, hA⟩
  obtain ⟨v0, vs0, d0, ds0, p0, q0, e0, rfl, rfl, h0, hR0⟩ := trodAll_cons hB
  obtain ⟨v1, vs1, d1, ds1, p1, q1, e1, rfl, rfl, h1, hR1⟩ := trodAll_cons hR0
  obtain ⟨ev, rfl, rfl⟩ := trodAll_nil hR1
  subst ev
  subst e1
  have eargs : args = #[v0, v1] := by cases args; simp_all
  subst eargs
  obtain ⟨rfl, rfl⟩ := trodVars_none hV
  simp only [List.append_nil] at hW'
  have hlt : ∀ x ∈ p, x.block < W.heap.size := fun x hx => by simpa using hW'.lt x hx
  obtain ⟨bs0, ls0, ra0, rb0, hc0⟩ := came_sys (hval 0 25 v0 rfl rfl) h0 0 1
  obtain ⟨xs1, ra1, hc1, hx1⟩ := came_steps (hval 1 97 v1 rfl rfl) h1 2
  obtain ⟨ρ, hrel, hsat⟩ := came_sat (cameAll_cons hc0 (cameAll_cons hc1 (cameAll_nil W))) (by show ([0, 1, 2] : List Nat).Nodup; decide)
  refine ((systemNets_t bs0 ls0 xs1).h ρ W #[v0, v1] hrel hsat hx1).mono ?_
  rintro e W' ⟨ρ', v, _, rfl, hr, hH⟩
  have hfrm : Frm W W' [] := hH.frm
  have hv : v = .bool true := hr
  subst hv
  refine ⟨_, rfl, _, _, _, [], p, [], hW', ?_, ?_, rfl, ?_, fun h => by cases h⟩
  · exact trodAll_mk1 (shut_bool A_undBool true)
  · show DataW.TrodAll enc Try.prog W' 0 (fun b => decide (b < W.heap.size)) true [25, 97] [v0, v1] [d0, d1] p
    exact DataW.TrodAll.of_heap (w := { W' with tape := W.tape }) (w' := W') rfl (trodAll_keep hfrm (fun t ht => A_read t ((by decide : ∀ t ∈ ([25, 97] : List Nat), t ∈ A_reads) t ht)) hAll hlt)
  · refine ⟨hfrm.io.1, hfrm.io.2, fun i hi => ?_⟩
    rw [hfrm.same i hi (by simp)]
    split <;> simp_all

theorem systemNets_joined : joinedFacts Try.prog 14 Try.f14 Ytjjfadfmdodmnaa.Rows.systemNetsSpec Ytjjfadfmdodmnaa.Rows.systemNetsRow = true := by
  unfold joinedFacts
  rw [fact_laid, fact_rowed, fact_stops, fact_knobs, fact_heard, fact_keys, fact_enter, fact_lifts, fact_make]
  kernel_rfl

theorem Ytjjfadfmdodmnaa.systemNets_holds : Ytjjfadfmdodmnaa.Rows.SystemNetsSaid :=
  OpenClaim.holds_of_wide 14 Try.f14 rfl rfl rfl rfl rfl rfl rfl ⟨rfl, rfl, rfl, rfl, rfl⟩ rfl rfl rfl rfl rfl (by kernel_rfl) Try.func14 systemNets_joined
    (of_decide_eq_true (by kernel_rfl)) (by unfold Func.isWrapper; first | (rw [if_pos (by decide +kernel)]; kernel_rfl) | (rw [if_neg (by decide +kernel)]; exact ⟨rfl, rfl⟩))
    (fun os started H enc _ => systemNets_lifted os started H enc)

#print axioms Ytjjfadfmdodmnaa.systemNets_holds
end Go.Proofs

