/-
  A part of the proof that a law answers true: lemmas of a symbolic walk, plain functions, or contracts of the functions walked (TB). Conditions: none.
-/
import Derived.Test.YtfcdjkeamldkaaaGreatPart26
import Derived.Test.YtfcdjkeamldkaaaGreatPart30
set_option maxRecDepth 100000
set_option linter.unusedVariables false
set_option linter.unusedSimpArgs false
namespace Go.Proofs
open Go.Sx Go.ChangeShapes Go.WideShapes Go.RowKit

theorem topDrawsSurvive_lifted (os:Os) (started:os.Started) (H:Type) (enc:TypeId × Value → H) :
  ReturnsInHanded {} Tryz.checked os 3 .any (YtfcdjkeamldkaaaGreat.Rows.topDrawsSurviveSpec.pre6 enc Tryz.prog Tryz.f3 YtfcdjkeamldkaaaGreat.Rows.topDrawsSurviveRow.domain false) (YtfcdjkeamldkaaaGreat.Rows.topDrawsSurviveSpec.post enc Tryz.prog Tryz.f3 false YtfcdjkeamldkaaaGreat.Rows.topDrawsSurviveRow.fresh YtfcdjkeamldkaaaGreat.Rows.topDrawsSurviveRow.handsOn false):=by
 refine returnsInHanded_of_change_sized (C:=Tryz.checked) A_own started (by kernel_rfl) Tryz.func3
  (ChangeSpec.witness6 (enc:=enc) (C:=Tryz.checked) false ⟨#[],#[.agg #[.int .i64 0, .string ⟨#[]⟩, .slice none 0 0, .int .i64 0], .agg #[.string ⟨#[]⟩, .string ⟨#[]⟩], .agg #[.string ⟨#[]⟩, .string ⟨#[]⟩], .int .i64 0, .slice none 0 0],[]⟩ 8 (by kernel_rfl) (by kernel_rfl) (by kernel_rfl) (by kernel_rfl)) ?_
 intro W base args ds gs before hval0 hW _ hsz0 _
 have hval:∀ (j:Nat) t v,Tryz.f3.params[j]? = some t → args[j]? = some v → Value.okWide Tryz.prog W .any base t v:=hval0
 have hW':=hW
 obtain ⟨p,q,hA0,hV,rfl,_,_⟩:=hW
 have hA:DataW.TrodAll enc Tryz.prog W 0 (fun _=>true) true Tryz.f3.params.toList args.toList ds p:=hA0
 rw [show Tryz.f3.params=#[26,28,28,3,29] from by kernel_rfl] at hA hval hsz0
 have hAll:=hA
 obtain ⟨p',hB⟩:∃ p',DataW.TrodAll enc Tryz.prog W 0 (fun _=>true) true [26,28,28,3,29] args.toList ds p':=⟨p,hA⟩
 obtain ⟨v0,vs0,d0,ds0,p0,q0,e0,rfl,rfl,h0,hR0⟩:=trodAll_cons hB
 obtain ⟨v1,vs1,d1,ds1,p1,q1,e1,rfl,rfl,h1,hR1⟩:=trodAll_cons hR0
 obtain ⟨v2,vs2,d2,ds2,p2,q2,e2,rfl,rfl,h2,hR2⟩:=trodAll_cons hR1
 obtain ⟨v3,vs3,d3,ds3,p3,q3,e3,rfl,rfl,h3,hR3⟩:=trodAll_cons hR2
 obtain ⟨v4,vs4,d4,ds4,p4,q4,e4,rfl,rfl,h4,hR4⟩:=trodAll_cons hR3
 obtain ⟨ev,rfl,rfl⟩:=trodAll_nil hR4
 subst ev
 subst e4
 subst e3
 subst e2
 subst e1
 have eargs:args=#[v0,v1,v2,v3,v4]:=by cases args; simp_all
 subst eargs
 obtain ⟨rfl,rfl⟩:=trodVars_none hV
 have hsz:(DataW.weightsEach Tryz.prog [26,28,28,3,29] [d0,d1,d2,d3,d4]).all (·≤reachBytes)=true:=hsz0
 simp only [List.append_nil] at hW'
 have hlt:∀ x ∈ p,x.block < W.heap.size:=fun x hx=>by simpa using hW'.lt x hx
 obtain ⟨r0,ra0,hx0,hc0⟩:=came_plan (hval 0 26 v0 rfl rfl) h0 (fun y hy=>by have:=List.all_eq_true.1 hsz y (DataW.weights_mem_each (j:=0) rfl rfl y hy); simpa using this) 0
 obtain ⟨s1,hx1,hc1⟩:=came_sec (hval 1 28 v1 rfl rfl) h1 (fun y hy=>by have:=List.all_eq_true.1 hsz y (DataW.weights_mem_each (j:=1) rfl rfl y hy); simpa using this)
 obtain ⟨s2,hx2,hc2⟩:=came_sec (hval 2 28 v2 rfl rfl) h2 (fun y hy=>by have:=List.all_eq_true.1 hsz y (DataW.weights_mem_each (j:=2) rfl rfl y hy); simpa using this)
 obtain ⟨z3,hx3,hc3⟩:=came_int (hval 3 3 v3 rfl rfl) h3
 obtain ⟨xs4,ra4,hx4,hc4⟩:=came_nums (hval 4 29 v4 rfl rfl) h4 (fun y hy=>by have:=List.all_eq_true.1 hsz y (DataW.weights_mem_each (j:=4) rfl rfl y hy); simpa using this) 1
 obtain ⟨ρ,hrel,hsat⟩:=came_sat (cameAll_cons hc0 (cameAll_cons hc1 (cameAll_cons hc2 (cameAll_cons hc3 (cameAll_cons hc4 (cameAll_nil W)))))) (by show ([0,1]:List Nat).Nodup; decide)
 refine ((draws_t r0 hx0.1 hx0.2 s1 s2 hx1 hx2 z3 xs4 hx4.2).h ρ W #[v0,v1,v2,v3,v4] hrel hsat).mono ?_
 rintro e W' ⟨ρ',v,_,rfl,hr,hH⟩
 have hfrm:Frm W W' []:=hH.frm
 have hv:v=.bool true:=hr
 subst hv
 refine⟨_,rfl,_,_,_,[],p,[],hW', ?_, ?_,rfl, ?_,fun h=>by cases h⟩
 ·exact trodAll_mk1 (shut_bool A_undBool true)
 ·show DataW.TrodAll enc Tryz.prog W' 0 (fun b=>decide (b < W.heap.size)) true [26,28,28,3,29] [v0,v1,v2,v3,v4] [d0,d1,d2,d3,d4] p
  exact DataW.TrodAll.of_heap (w:={ W' with tape:=W.tape }) (w':=W') rfl (trodAll_keep hfrm (fun t ht=>A_read t ((by decide:∀ t ∈ ([26,28,28,3,29]:List Nat),t ∈ A_reads) t ht)) hAll hlt)
 ·refine⟨hfrm.io.1,hfrm.io.2,fun i hi=>?_⟩
  rw [hfrm.same i hi (by simp)]
  split <;> simp_all

theorem topDrawsSurvive_joined:joinedFacts Tryz.prog 3 Tryz.f3 YtfcdjkeamldkaaaGreat.Rows.topDrawsSurviveSpec YtfcdjkeamldkaaaGreat.Rows.topDrawsSurviveRow=true:=by
 unfold joinedFacts
 rw [fact_laid,fact_rowed,fact_stops,fact_knobs,fact_heard,fact_keys,fact_enter,fact_lifts,fact_make]
 kernel_rfl

theorem YtfcdjkeamldkaaaGreat.topDrawsSurvive_holds:YtfcdjkeamldkaaaGreat.Rows.TopDrawsSurviveSaid :=
 OpenClaim.holds_of_wide 3 Tryz.f3 rfl rfl rfl rfl rfl rfl rfl ⟨rfl,rfl,rfl,rfl,rfl⟩ rfl rfl rfl rfl rfl (by kernel_rfl) Tryz.func3 topDrawsSurvive_joined
  (of_decide_eq_true (by kernel_rfl)) (by unfold Func.isWrapper; first | (rw [if_pos (by decide +kernel)]; kernel_rfl) | (rw [if_neg (by decide +kernel)]; exact⟨rfl,rfl⟩))
  (fun os started H enc _=>topDrawsSurvive_lifted os started H enc)

#print axioms YtfcdjkeamldkaaaGreat.topDrawsSurvive_holds
end Go.Proofs

