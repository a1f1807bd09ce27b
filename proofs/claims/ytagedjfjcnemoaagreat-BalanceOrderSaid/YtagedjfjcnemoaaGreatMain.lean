/-
  BalanceOrder: for every readings, number and object the statement's function returns true. Conditions: none.
-/
import Derived.Test.YtagedjfjcnemoaaGreatPart30
import Derived.Test.YtagedjfjcnemoaaGreatPart27
import Derived.SizedLaws
set_option maxRecDepth 100000
set_option linter.unusedVariables false
set_option linter.unusedSimpArgs false
namespace Go.Proofs
open Go.Sx Go.ChangeShapes Go.WideShapes Go.RowKit

theorem balanceOrder_lifted (os : Os) (started : os.Started) (H : Type) (enc : TypeId × Value → H) :
    ReturnsInHanded {} Tryz.checked os 9 .any (YtagedjfjcnemoaaGreat.Rows.balanceOrderSpec.pre6 enc Tryz.prog Tryz.f9 YtagedjfjcnemoaaGreat.Rows.balanceOrderRow.domain false) (YtagedjfjcnemoaaGreat.Rows.balanceOrderSpec.post enc Tryz.prog Tryz.f9 false YtagedjfjcnemoaaGreat.Rows.balanceOrderRow.fresh YtagedjfjcnemoaaGreat.Rows.balanceOrderRow.handsOn false) := by
  refine returnsInHanded_of_change_sized (C := Tryz.checked) A_own started (by kernel_rfl) Tryz.func9
    (ChangeSpec.witness6 (enc := enc) (C := Tryz.checked) false ⟨#[], #[.agg #[.slice none 0 0, .slice none 0 0, .slice none 0 0, .slice none 0 0], .int .u8 0, .agg #[.int .i64 0, .int .i64 0, .int .i64 0, .int .i64 0]], []⟩ 8 (by kernel_rfl) (by kernel_rfl) (by kernel_rfl) (by kernel_rfl)) ?_
  intro W base args ds gs before hval0 hW _ hsz0 _
  have hval : ∀ (j : Nat) t v, Tryz.f9.params[j]? = some t → args[j]? = some v → Value.okWide Tryz.prog W .any base t v := hval0
  have hW' := hW
  obtain ⟨p, q, hA0, hV, rfl, _, _⟩ := hW
  have hA : DataW.TrodAll enc Tryz.prog W 0 (fun _ => true) true Tryz.f9.params.toList args.toList ds p := hA0
  rw [show Tryz.f9.params = #[27, 5, 30] from by kernel_rfl] at hA hval hsz0
  have hAll := hA
  obtain ⟨p', hB⟩ : ∃ p', DataW.TrodAll enc Tryz.prog W 0 (fun _ => true) true [27, 5, 30] args.toList ds p' := ⟨p, hA⟩
  obtain ⟨v0, vs0, d0, ds0, p0, q0, e0, rfl, rfl, h0, hR0⟩ := trodAll_cons hB
  obtain ⟨v1, vs1, d1, ds1, p1, q1, e1, rfl, rfl, h1, hR1⟩ := trodAll_cons hR0
  obtain ⟨v2, vs2, d2, ds2, p2, q2, e2, rfl, rfl, h2, hR2⟩ := trodAll_cons hR1
  obtain ⟨ev, rfl, rfl⟩ := trodAll_nil hR2
  subst ev
  subst e2
  subst e1
  have eargs : args = #[v0, v1, v2] := by cases args; simp_all
  subst eargs
  obtain ⟨rfl, rfl⟩ := trodVars_none hV
  have hsz : (DataW.weightsEach Tryz.prog [27, 5, 30] [d0, d1, d2]).all (· ≤ reachBytes) = true := hsz0
  simp only [List.append_nil] at hW'
  have hlt : ∀ x ∈ p, x.block < W.heap.size := fun x hx => by simpa using hW'.lt x hx
  obtain ⟨r0, ra0, rb0, rc0, rd0, hx0, hc0⟩ := came_rd (hval 0 27 v0 rfl rfl) h0 (fun y hy => by have := List.all_eq_true.1 hsz y (DataW.weights_mem_each (j := 0) rfl rfl y hy); simpa using this) 0 1 2 3
  obtain ⟨z1, hc1, hw1⟩ := came_int (by kernel_rfl : Tryz.prog.underlying 5 = some (.int .u8)) (hval 1 5 v1 rfl rfl) h1
  obtain ⟨x2, hc2⟩ := came_thg (hval 2 30 v2 rfl rfl) h2
  obtain ⟨ρ, hrel, hsat⟩ := came_sat (cameAll_cons hc0 (cameAll_cons hc1 (cameAll_cons hc2 (cameAll_nil W)))) (by show ([0, 1, 2, 3] : List Nat).Nodup; decide)
  refine ((balanceOrder_t r0 hx0 z1 (u8_of hw1) x2).h ρ W #[v0, v1, v2] hrel hsat).mono ?_
  rintro e W' ⟨ρ', v, _, rfl, hr, hH⟩
  have hfrm : Frm W W' [] := hH.frm
  have hv : v = .bool true := hr
  subst hv
  refine ⟨_, rfl, _, _, _, [], p, [], hW', ?_, ?_, rfl, ?_, fun h => by cases h⟩
  · exact trodAll_mk1 (shut_bool A_undBool true)
  · show DataW.TrodAll enc Tryz.prog W' 0 (fun b => decide (b < W.heap.size)) true [27, 5, 30] [v0, v1, v2] [d0, d1, d2] p
    exact DataW.TrodAll.of_heap (w := { W' with tape := W.tape }) (w' := W') rfl (trodAll_keep hfrm (fun t ht => B_read t ((by decide : ∀ t ∈ ([27, 5, 30] : List Nat), t ∈ B_reads) t ht)) hAll hlt)
  · refine ⟨hfrm.io.1, hfrm.io.2, fun i hi => ?_⟩
    rw [hfrm.same i hi (by simp)]
    split <;> simp_all

theorem balanceOrder_joined : joinedFacts Tryz.prog 9 Tryz.f9 YtagedjfjcnemoaaGreat.Rows.balanceOrderSpec YtagedjfjcnemoaaGreat.Rows.balanceOrderRow = true := by
  unfold joinedFacts
  rw [fact_laid, fact_rowed, fact_stops, fact_knobs, fact_heard, fact_keys, fact_enter, fact_lifts, fact_make]
  kernel_rfl

theorem YtagedjfjcnemoaaGreat.balanceOrder_holds : YtagedjfjcnemoaaGreat.Rows.BalanceOrderSaid :=
  OpenClaim.holds_of_wide 9 Tryz.f9 rfl rfl rfl rfl rfl rfl rfl ⟨rfl, rfl, rfl, rfl, rfl⟩ rfl rfl rfl rfl rfl (by kernel_rfl) Tryz.func9 balanceOrder_joined
    (of_decide_eq_true (by kernel_rfl)) (by unfold Func.isWrapper; first | (rw [if_pos (by decide +kernel)]; kernel_rfl) | (rw [if_neg (by decide +kernel)]; exact ⟨rfl, rfl⟩))
    (fun os started H enc _ => balanceOrder_lifted os started H enc)

#print axioms YtagedjfjcnemoaaGreat.balanceOrder_holds
end Go.Proofs

