/-
  counts Conditions: none.
-/
import Derived.Test.YtagedjfjcnemoaaGreatPart31
import Derived.Test.YtagedjfjcnemoaaGreatPart29
import Derived.SizedLaws
set_option maxRecDepth 100000
set_option linter.unusedVariables false
set_option linter.unusedSimpArgs false
namespace Go.Proofs
open Go.Sx Go.ChangeShapes Go.WideShapes Go.RowKit

theorem balanceCounts_lifted (os : Os) (started : os.Started) (H : Type) (enc : TypeId × Value → H) :
    ReturnsInHanded {} Tryz.checked os 10 .any (YtagedjfjcnemoaaGreat.Rows.balanceCountsSpec.pre6 enc Tryz.prog Tryz.f10 YtagedjfjcnemoaaGreat.Rows.balanceCountsRow.domain false) (YtagedjfjcnemoaaGreat.Rows.balanceCountsSpec.post enc Tryz.prog Tryz.f10 false YtagedjfjcnemoaaGreat.Rows.balanceCountsRow.fresh YtagedjfjcnemoaaGreat.Rows.balanceCountsRow.handsOn false) := by
  refine returnsInHanded_of_change_sized (C := Tryz.checked) A_own started (by kernel_rfl) Tryz.func10
    (ChangeSpec.witness6 (enc := enc) (C := Tryz.checked) false ⟨#[], #[.agg #[.slice none 0 0, .slice none 0 0, .slice none 0 0, .slice none 0 0]], []⟩ 8 (by kernel_rfl) (by kernel_rfl) (by kernel_rfl) (by kernel_rfl)) ?_
  intro W base args ds gs before hval0 hW _ hsz0 _
  have hval : ∀ (j : Nat) t v, Tryz.f10.params[j]? = some t → args[j]? = some v → Value.okWide Tryz.prog W .any base t v := hval0
  have hW' := hW
  obtain ⟨p, q, hA0, hV, rfl, _, _⟩ := hW
  have hA : DataW.TrodAll enc Tryz.prog W 0 (fun _ => true) true Tryz.f10.params.toList args.toList ds p := hA0
  rw [show Tryz.f10.params = #[27] from by kernel_rfl] at hA hval hsz0
  have hAll := hA
  obtain ⟨p', hB⟩ : ∃ p', DataW.TrodAll enc Tryz.prog W 0 (fun _ => true) true [27] args.toList ds p' := ⟨p, hA⟩
  obtain ⟨v0, vs0, d0, ds0, p0, q0, e0, rfl, rfl, h0, hR0⟩ := trodAll_cons hB
  obtain ⟨ev, rfl, rfl⟩ := trodAll_nil hR0
  subst ev
  have eargs : args = #[v0] := by cases args; simp_all
  subst eargs
  obtain ⟨rfl, rfl⟩ := trodVars_none hV
  have hsz : (DataW.weightsEach Tryz.prog [27] [d0]).all (· ≤ reachBytes) = true := hsz0
  simp only [List.append_nil] at hW'
  have hlt : ∀ x ∈ p, x.block < W.heap.size := fun x hx => by simpa using hW'.lt x hx
  obtain ⟨r0, ra0, rb0, rc0, rd0, hx0, hc0⟩ := came_rd (hval 0 27 v0 rfl rfl) h0 (fun y hy => by have := List.all_eq_true.1 hsz y (DataW.weights_mem_each (j := 0) rfl rfl y hy); simpa using this) 0 1 2 3
  obtain ⟨ρ, hrel, hsat⟩ := came_sat (cameAll_cons hc0 (cameAll_nil W)) (by show ([0, 1, 2, 3] : List Nat).Nodup; decide)
  refine ((balanceCounts_t r0 hx0).h ρ W #[v0] hrel hsat).mono ?_
  rintro e W' ⟨ρ', v, _, rfl, hr, hH⟩
  have hfrm : Frm W W' [] := hH.frm
  have hv : v = .bool true := hr
  subst hv
  refine ⟨_, rfl, _, _, _, [], p, [], hW', ?_, ?_, rfl, ?_, fun h => by cases h⟩
  · exact trodAll_mk1 (shut_bool A_undBool true)
  · show DataW.TrodAll enc Tryz.prog W' 0 (fun b => decide (b < W.heap.size)) true [27] [v0] [d0] p
    exact DataW.TrodAll.of_heap (w := { W' with tape := W.tape }) (w' := W') rfl (trodAll_keep hfrm (fun t ht => B_read t ((by decide : ∀ t ∈ ([27] : List Nat), t ∈ B_reads) t ht)) hAll hlt)
  · refine ⟨hfrm.io.1, hfrm.io.2, fun i hi => ?_⟩
    rw [hfrm.same i hi (by simp)]
    split <;> simp_all

theorem balanceCounts_joined : joinedFacts Tryz.prog 10 Tryz.f10 YtagedjfjcnemoaaGreat.Rows.balanceCountsSpec YtagedjfjcnemoaaGreat.Rows.balanceCountsRow = true := by
  unfold joinedFacts
  rw [fact_laid, fact_rowed, fact_stops, fact_knobs, fact_heard, fact_keys, fact_enter, fact_lifts, fact_make]
  kernel_rfl

theorem YtagedjfjcnemoaaGreat.balanceCounts_holds : YtagedjfjcnemoaaGreat.Rows.BalanceCountsSaid :=
  OpenClaim.holds_of_wide 10 Tryz.f10 rfl rfl rfl rfl rfl rfl rfl ⟨rfl, rfl, rfl, rfl, rfl⟩ rfl rfl rfl rfl rfl (by kernel_rfl) Tryz.func10 balanceCounts_joined
    (of_decide_eq_true (by kernel_rfl)) (by unfold Func.isWrapper; first | (rw [if_pos (by decide +kernel)]; kernel_rfl) | (rw [if_neg (by decide +kernel)]; exact ⟨rfl, rfl⟩))
    (fun os started H enc _ => balanceCounts_lifted os started H enc)

#print axioms YtagedjfjcnemoaaGreat.balanceCounts_holds
end Go.Proofs

