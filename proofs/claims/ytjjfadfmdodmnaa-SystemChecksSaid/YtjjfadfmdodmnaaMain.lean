/-
  The law dryweightlaw03.SystemChecks returns true for every system, and the system reads as it did. Conditions: none.
-/
import Derived.Test.YtjjfadfmdodmnaaPart16
import Derived.Test.YtjjfadfmdodmnaaPart20
set_option maxRecDepth 100000
namespace Go.Proofs
open Go.Sx Go.ChangeShapes Go.WideShapes Go.RowKit

theorem systemChecks_lifted (os : Os) (started : os.Started) (H : Type) (enc : TypeId × Value → H) :
    ReturnsInHanded {} Try.checked os 7 .any (Ytjjfadfmdodmnaa.Rows.systemChecksSpec.pre6 enc Try.prog Try.f7 Ytjjfadfmdodmnaa.Rows.systemChecksRow.domain false) (Ytjjfadfmdodmnaa.Rows.systemChecksSpec.post enc Try.prog Try.f7 false Ytjjfadfmdodmnaa.Rows.systemChecksRow.fresh Ytjjfadfmdodmnaa.Rows.systemChecksRow.handsOn false) := by
  refine returnsInHanded_of_change (C := Try.checked) A_own started (by kernel_rfl) Try.func7
    (ChangeSpec.witness6 (enc := enc) (C := Try.checked) false ⟨#[], #[.agg #[.slice none 0 0, .slice none 0 0]], []⟩ 8 (by kernel_rfl) (by kernel_rfl) (by kernel_rfl) (by kernel_rfl)) ?_
  intro W base args ds gs before hval0 hW _ _
  have hval : ∀ (j : Nat) t v, Try.f7.params[j]? = some t → args[j]? = some v → Value.okWide Try.prog W .any base t v := hval0
  have hW' := hW
  obtain ⟨p, q, hA0, hV, rfl, _, _⟩ := hW
  have hA : DataW.TrodAll enc Try.prog W 0 (fun _ => true) true Try.f7.params.toList args.toList ds p := hA0
  rw [show Try.f7.params = #[25] from by kernel_rfl] at hA hval
  obtain ⟨v0, d0, rfl, rfl, h0⟩ := trodAll_one hA
  obtain ⟨rfl, rfl⟩ := trodVars_none hV
  simp only [List.append_nil] at hW'
  have hlt : ∀ x ∈ p, x.block < W.heap.size := fun x hx => by simpa using hW'.lt x hx
  obtain ⟨bs, ls, r0, r1, hopen⟩ := open_sys (okWide_struct A_undSys (hval 0 25 v0 rfl rfl)) h0 0 1
  obtain ⟨ρ, hρ0, hρ1⟩ : ∃ ρ : Asg, ρ 0 = r0 ∧ ρ 1 = r1 := ⟨fun k => if k = 0 then r0 else r1, rfl, rfl⟩
  obtain ⟨hrel, hs0, hs1, hb0, hb1⟩ := hopen ρ hρ0 hρ1
  have hsat := satH_came hs0 hs1 (by rw [hρ0]; exact hb0) (by rw [hρ1]; exact hb1)
  refine ((systemChecks_t bs ls).h ρ W #[v0] ⟨hrel, trivial⟩ hsat).mono ?_
  rintro e W' ⟨ρ', v, _, rfl, hr, hH⟩
  have hfrm : Frm W W' [] := hH.frm
  have hv : v = .bool true := hr
  subst hv
  refine ⟨_, rfl, _, _, _, [], p, [], hW', ?_, ?_, rfl, ?_, fun h => by cases h⟩
  · exact trodAll_mk1 (shut_bool A_undBool true)
  · show DataW.TrodAll enc Try.prog W' 0 (fun b => decide (b < W.heap.size)) true [25] [v0] [d0] p
    exact DataW.TrodAll.of_heap (w := { W' with tape := W.tape }) (w' := W') rfl (trodAll_mk1 (Below.trod A_laidOut (by kernel_rfl) (of_decide_eq_true (by kernel_rfl)) h0 (below_of hfrm) hlt))
  · refine ⟨hfrm.io.1, hfrm.io.2, fun i hi => ?_⟩
    rw [hfrm.same i hi (by simp)]
    split <;> simp_all

theorem systemChecks_joined : joinedFacts Try.prog 7 Try.f7 Ytjjfadfmdodmnaa.Rows.systemChecksSpec Ytjjfadfmdodmnaa.Rows.systemChecksRow = true := by
  unfold joinedFacts
  rw [fact_laid, fact_rowed, fact_stops, fact_knobs, fact_heard, fact_keys, fact_enter, fact_lifts, fact_make]
  kernel_rfl

theorem Ytjjfadfmdodmnaa.systemChecks_holds : Ytjjfadfmdodmnaa.Rows.SystemChecksSaid :=
  OpenClaim.holds_of_wide 7 Try.f7 rfl rfl rfl rfl rfl rfl rfl ⟨rfl, rfl, rfl, rfl, rfl⟩ rfl rfl rfl rfl rfl (by kernel_rfl) Try.func7 systemChecks_joined
    (of_decide_eq_true (by kernel_rfl)) (by unfold Func.isWrapper; first | (rw [if_pos (by decide +kernel)]; kernel_rfl) | (rw [if_neg (by decide +kernel)]; exact ⟨rfl, rfl⟩))
    (fun os started H enc _ => systemChecks_lifted os started H enc)

#print axioms Ytjjfadfmdodmnaa.systemChecks_holds
end Go.Proofs

