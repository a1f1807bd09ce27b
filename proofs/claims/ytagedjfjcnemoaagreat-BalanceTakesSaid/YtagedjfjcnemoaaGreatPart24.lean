/-
  A part of the proof that a law answers true: lemmas of a symbolic walk, plain functions, or contracts of the functions walked (Ri, Rl, Rm, Rn, Ro, Rp, Rq, Rr, Rt, Sx29, Sx46). Conditions: none.
-/
import Derived.Test.YtagedjfjcnemoaaGreatPart23
import Derived.Test.YtagedjfjcnemoaaGreatPart07
import Derived.Test.YtagedjfjcnemoaaGreatPart11
import Derived.Deep.Slices
import Derived.ChangeArms
import Derived.SizedLaws
set_option maxRecDepth 100000
set_option linter.unusedVariables false
set_option linter.unusedSimpArgs false
namespace Go.Proofs
open Go.Sx

theorem errF_cons (seen:List Int) (p:Int × Bool) (r:List (Int × Bool)):errF seen (p :: r)=bif !p.2 then 1 else bif seen.contains p.1 then 6 else errF (seen ++ [p.1]) r:=by cases p; rfl

theorem find_zero {bs:List Bal} (hv:∀ b ∈ bs,validF b=true) (id:Int):((findD bs id).id == 0)=!hasB bs id:=by
 cases hh:hasB bs id with
 | true =>
  obtain ⟨b,hb,_,_,e⟩:=findB_some hh
  rw [e]
  have:=valid_bd (hv b hb)
  have h0:(b.id == 0)=false:=by
   rw [← Bool.not_eq_true,beq_iff_eq]; omega
  rw [h0]; rfl
 | false =>
  unfold findD
  unfold hasB at hh
  cases hf:findB bs id with
  | some b=>rw [hf] at hh; cases hh
  | none=>rfl

theorem rReadings_t (r:Rd) (hs:Sml r) (hv:∀ b ∈ r.bs,validF b=true):Triple Tryz.prog 116 [rdA r] (rdH r) 4 (iv .i64 (errF [] (rdErrs r))) []:=by
 have hE:errF [] (rdErrs r)=errF [] (r.cs.map (chkP r.bs) ++ (r.ns.map (ntcP r.bs) ++ r.ws.map (wghP r.bs))):=rfl
 generalize errF [] (rdErrs r)=E at *
 obtain ⟨h1,h2,h3,h4⟩:=hs
 obtain ⟨bs,cs,ns,ws⟩:=r
 dsimp only at *
 have hz:=find_zero hv
 have hbs:bs.length≤1000000:=by omega
 generalize hTw:ws.map (wghP bs)=Tw at hE
 generalize hTn:ns.map (ntcP bs) ++ Tw=Tn at hE
 refine triple_of tB_ok Tryz.func116 rfl Tryz.call116 rfl ?_
 intro ρ w hH
 conv=>whnf
 refine loop_step tB_ok (G:=Nat) 1 [] (fun i=>[(4,iv .i64 i),(3, .c (.s 5 0 ((cs.take i).map Chk.id).length 1))]) (fun i=>[(5,true, .arr (aInt ((cs.take i).map Chk.id)))])
  (fun i=>i≤cs.length∧errF ((cs.take i).map Chk.id) ((cs.drop i).map (chkP bs) ++ Tn)=E) (fun i=>cs.length - i) ?_
 conv=>whnf
 refine⟨⟨0,⟨Nat.zero_le _,hE.symm⟩, ?_⟩, ?_⟩
 ·conv=>whnf
  repeat'(first|exact trivial|exact rfl|refine And.intro ?_ ?_|((conv=>whnf);first|exact trivial|exact rfl|refine And.intro ?_ ?_|omega))
 rintro i ⟨hi,hT⟩ ρ1 t1 hρ1
 try dsimp only at hT
 conv=>whnf
 refine⟨fun hc=>?_,fun hc=>?_⟩
 ·have hlt:i < cs.length:=by simpa using hc
  rw [List.drop_eq_getElem_cons hlt,List.map_cons,List.cons_append,errF_cons] at hT
  have e1:(chkP bs cs[i]).1=cs[i].id:=rfl
  have e2:(chkP bs cs[i]).2=(withinF cs[i].id 1 1099511627776 && (hasB bs cs[i].bal && (withinF cs[i].tick 0 1000000 && (withinF cs[i].mass 0 (findD bs cs[i].bal).cap && withinF cs[i].shown 0 10000000)))):=rfl
  rw [e1,e2] at hT
  clear e1 e2
  have hM:( (cs.take i).map Chk.id).length≤100000:=by simp only [List.length_append,List.length_map,List.length_take]; omega
  have hnx: (cs.take (i+1)).map Chk.id=( (cs.take i).map Chk.id) ++ [Chk.id cs[i]]:=by rw [take_snoc hlt,List.map_append]; simp
  generalize  (cs.take i).map Chk.id=M at *
  have hz0:=hz cs[i].bal
  have hF:=rFind_t ⟨bs,cs,ns,ws⟩ cs[i].bal hbs
  try dsimp only at hF
  generalize hasB bs cs[i].bal=ok at *
  generalize findD bs cs[i].bal=d at *
  conv=>whnf
  refine⟨i,rfl,hlt,hlt, ?_⟩
  conv=>whnf
  refine call_step hF rfl rfl ?_
  conv=>whnf
  refine⟨?_, ?_, ?_⟩
  iterate 2 · repeat'(first|exact trivial|exact rfl|refine And.intro ?_ ?_|((conv=>whnf);first|exact trivial|exact rfl|refine And.intro ?_ ?_|omega))
  conv=>whnf
  refine call_step (rIn_t cs[i].id 1 1099511627776) rfl rfl ?_
  conv=>whnf
  refine⟨?_, ?_, ?_⟩
  iterate 2 · repeat'(first|exact trivial|exact rfl|refine And.intro ?_ ?_|((conv=>whnf);first|exact trivial|exact rfl|refine And.intro ?_ ?_|omega))
  conv=>whnf
  refine⟨fun hc=>?_,fun hc=>?_⟩
  ·have hv:withinF cs[i].id 1 1099511627776=false:=by simpa using (show (!withinF cs[i].id 1 1099511627776)=true from hc)
   rw [hv,Bool.false_and,Bool.not_false,cond_true] at hT
   subst hT
   conv=>whnf
   repeat'(first|exact trivial|exact rfl|refine And.intro ?_ ?_|((conv=>whnf);first|exact trivial|exact rfl|refine And.intro ?_ ?_|omega))
  have hv:withinF cs[i].id 1 1099511627776=true:=by simpa using (show (!withinF cs[i].id 1 1099511627776)=false from hc)
  rw [hv,Bool.true_and] at hT
  clear hv hc
  conv=>whnf
  refine⟨fun hc=>?_,fun hc=>?_⟩
  ·have hv:ok=false:=by
    have:(d.id == 0)=true:=hc
    rw [hz0] at this
    simpa using this
   rw [hv,Bool.false_and,Bool.not_false,cond_true] at hT
   subst hT
   conv=>whnf
   repeat'(first|exact trivial|exact rfl|refine And.intro ?_ ?_|((conv=>whnf);first|exact trivial|exact rfl|refine And.intro ?_ ?_|omega))
  have hv:ok=true:=by
   have:(d.id == 0)=false:=hc
   rw [hz0] at this
   simpa using this
  rw [hv,Bool.true_and] at hT
  clear hv hc
  conv=>whnf
  refine call_step (rIn_t cs[i].tick 0 1000000) rfl rfl ?_
  conv=>whnf
  refine⟨?_, ?_, ?_⟩
  iterate 2 · repeat'(first|exact trivial|exact rfl|refine And.intro ?_ ?_|((conv=>whnf);first|exact trivial|exact rfl|refine And.intro ?_ ?_|omega))
  conv=>whnf
  refine⟨fun hc=>?_,fun hc=>?_⟩
  ·have hv:withinF cs[i].tick 0 1000000=false:=by simpa using (show (!withinF cs[i].tick 0 1000000)=true from hc)
   rw [hv,Bool.false_and,Bool.not_false,cond_true] at hT
   subst hT
   conv=>whnf
   repeat'(first|exact trivial|exact rfl|refine And.intro ?_ ?_|((conv=>whnf);first|exact trivial|exact rfl|refine And.intro ?_ ?_|omega))
  have hv:withinF cs[i].tick 0 1000000=true:=by simpa using (show (!withinF cs[i].tick 0 1000000)=false from hc)
  rw [hv,Bool.true_and] at hT
  clear hv hc
  conv=>whnf
  refine call_step (rIn_t cs[i].mass 0 d.cap) rfl rfl ?_
  conv=>whnf
  refine⟨?_, ?_, ?_⟩
  iterate 2 · repeat'(first|exact trivial|exact rfl|refine And.intro ?_ ?_|((conv=>whnf);first|exact trivial|exact rfl|refine And.intro ?_ ?_|omega))
  conv=>whnf
  refine⟨fun hc=>?_,fun hc=>?_⟩
  ·have hv:withinF cs[i].mass 0 d.cap=false:=by simpa using (show (!withinF cs[i].mass 0 d.cap)=true from hc)
   rw [hv,Bool.false_and,Bool.not_false,cond_true] at hT
   subst hT
   conv=>whnf
   repeat'(first|exact trivial|exact rfl|refine And.intro ?_ ?_|((conv=>whnf);first|exact trivial|exact rfl|refine And.intro ?_ ?_|omega))
  have hv:withinF cs[i].mass 0 d.cap=true:=by simpa using (show (!withinF cs[i].mass 0 d.cap)=false from hc)
  rw [hv,Bool.true_and] at hT
  clear hv hc
  conv=>whnf
  refine call_step (rIn_t cs[i].shown 0 10000000) rfl rfl ?_
  conv=>whnf
  refine⟨?_, ?_, ?_⟩
  iterate 2 · repeat'(first|exact trivial|exact rfl|refine And.intro ?_ ?_|((conv=>whnf);first|exact trivial|exact rfl|refine And.intro ?_ ?_|omega))
  conv=>whnf
  refine⟨fun hc=>?_,fun hc=>?_⟩
  ·have hv:withinF cs[i].shown 0 10000000=false:=by simpa using (show (!withinF cs[i].shown 0 10000000)=true from hc)
   rw [hv, Bool.not_false,cond_true] at hT
   subst hT
   conv=>whnf
   repeat'(first|exact trivial|exact rfl|refine And.intro ?_ ?_|((conv=>whnf);first|exact trivial|exact rfl|refine And.intro ?_ ?_|omega))
  have hv:withinF cs[i].shown 0 10000000=true:=by simpa using (show (!withinF cs[i].shown 0 10000000)=false from hc)
  rw [hv,Bool.not_true,cond_false] at hT
  clear hv hc
  conv=>whnf
  refine call_step (rHas_t M cs[i].id (by omega)) rfl rfl ?_
  conv=>whnf
  refine⟨?_, ?_, ?_⟩
  iterate 2 · repeat'(first|exact trivial|exact rfl|refine And.intro ?_ ?_|((conv=>whnf);first|exact trivial|exact rfl|refine And.intro ?_ ?_|omega))
  conv=>whnf
  refine⟨fun hc=>?_,fun hc=>?_⟩
  ·rw [show M.contains cs[i].id=true from hc,cond_true] at hT
   subst hT
   conv=>whnf
   repeat'(first|exact trivial|exact rfl|refine And.intro ?_ ?_|((conv=>whnf);first|exact trivial|exact rfl|refine And.intro ?_ ?_|omega))
  rw [show M.contains cs[i].id=false from hc,cond_false] at hT
  conv=>whnf
  refine bs_step tB_ok (aInt [cs[i].id]) rfl rfl ?_
  conv=>whnf
  refine⟨⟨rfl,(by repeat'(first|exact trivial|exact rfl|refine And.intro ?_ ?_|((conv=>whnf);first|exact trivial|exact rfl|refine And.intro ?_ ?_|omega)))⟩, ?_⟩
  conv=>whnf
  refine app_step tB_ok (aInt M) [cs[i].id] (fun _=>rfl) rfl rfl rfl rfl ?_
  conv=>whnf
  refine⟨⟨rfl,rfl,Nat.le_refl _,Nat.le_refl _,by show (M.length+1) * 9≤_; omega⟩, ?_⟩
  conv=>whnf
  refine⟨_,wrapId ⟨by omega,by omega⟩, ?_⟩
  refine⟨i+1,⟨hlt, ?_⟩,by show cs.length - (i+1) < cs.length - i; omega, ?_⟩
  ·try dsimp only
   rw [hnx]; exact hT
  try dsimp only
  rw [hnx]
  conv=>whnf
  refine⟨rfl, ?_⟩
  conv=>whnf
  repeat'(first|exact trivial|exact rfl|refine And.intro ?_ ?_|((conv=>whnf);first|exact trivial|exact rfl|refine And.intro ?_ ?_|omega))
  all_goals first | exact (congrArg aInt app1.symm:_) | exact (congrArg aInt app1:_) | simp
 have hie:i=cs.length:=by simp at hc; omega
 subst hie
 rw [List.take_length,List.drop_length] at hT
 rw [List.take_length]
 have hL:(cs.map Chk.id).length≤100000:=by rw [List.length_map]; omega
 have hE1:errF (cs.map Chk.id) Tn=E:=hT
 generalize cs.map Chk.id=L1 at *
 rw [← hTn] at hE1
 clear hT hTn hE
 conv=>whnf
 refine loop_step tB_ok (G:=Nat) 1 [5] (fun i=>[(7,iv .i64 i),(3, .c (.s 6 0 (L1 ++ (ns.take i).map Ntc.id).length 1))]) (fun i=>[(6,true, .arr (aInt (L1 ++ (ns.take i).map Ntc.id)))])
  (fun i=>i≤ns.length∧errF (L1 ++ (ns.take i).map Ntc.id) ((ns.drop i).map (ntcP bs) ++ Tw)=E) (fun i=>ns.length - i) ?_
 conv=>whnf
 refine⟨⟨0,⟨Nat.zero_le _,by simpa using hE1⟩, ?_⟩, ?_⟩
 ·conv=>whnf
  repeat'(first|exact trivial|exact rfl|refine And.intro ?_ ?_|((conv=>whnf);first|exact trivial|exact rfl|refine And.intro ?_ ?_|omega))
  all_goals first | (show aInt L1=aInt (L1 ++ []); rw [List.append_nil]) | simp
 rintro i ⟨hi,hT⟩ ρ1 t1 hρ1
 try dsimp only at hT
 conv=>whnf
 refine⟨fun hc=>?_,fun hc=>?_⟩
 ·have hlt:i < ns.length:=by simpa using hc
  rw [List.drop_eq_getElem_cons hlt,List.map_cons,List.cons_append,errF_cons] at hT
  have e1:(ntcP bs ns[i]).1=ns[i].id:=rfl
  have e2:(ntcP bs ns[i]).2=(withinF ns[i].id 1 1099511627776 && (hasB bs ns[i].bal && (insideF ns[i].wlo ns[i].whi 0 1000000 && insideF ns[i].slo ns[i].shi (-1000000) 1000000))):=rfl
  rw [e1,e2] at hT
  clear e1 e2
  have hM:(L1 ++ (ns.take i).map Ntc.id).length≤200000:=by simp only [List.length_append,List.length_map,List.length_take]; omega
  have hnx:L1 ++ (ns.take (i+1)).map Ntc.id=(L1 ++ (ns.take i).map Ntc.id) ++ [Ntc.id ns[i]]:=by rw [take_snoc hlt,List.map_append]; simp
  generalize L1 ++ (ns.take i).map Ntc.id=M at *
  have hz0:=hz ns[i].bal
  have hF:=rFind_t ⟨bs,cs,ns,ws⟩ ns[i].bal hbs
  try dsimp only at hF
  generalize hasB bs ns[i].bal=ok at *
  generalize findD bs ns[i].bal=d at *
  conv=>whnf
  refine⟨i,rfl,hlt,hlt, ?_⟩
  conv=>whnf
  refine call_step hF rfl rfl ?_
  conv=>whnf
  refine⟨?_, ?_, ?_⟩
  iterate 2 · repeat'(first|exact trivial|exact rfl|refine And.intro ?_ ?_|((conv=>whnf);first|exact trivial|exact rfl|refine And.intro ?_ ?_|omega))
  conv=>whnf
  refine call_step (rIn_t ns[i].id 1 1099511627776) rfl rfl ?_
  conv=>whnf
  refine⟨?_, ?_, ?_⟩
  iterate 2 · repeat'(first|exact trivial|exact rfl|refine And.intro ?_ ?_|((conv=>whnf);first|exact trivial|exact rfl|refine And.intro ?_ ?_|omega))
  conv=>whnf
  refine⟨fun hc=>?_,fun hc=>?_⟩
  ·have hv:withinF ns[i].id 1 1099511627776=false:=by simpa using (show (!withinF ns[i].id 1 1099511627776)=true from hc)
   rw [hv,Bool.false_and,Bool.not_false,cond_true] at hT
   subst hT
   conv=>whnf
   repeat'(first|exact trivial|exact rfl|refine And.intro ?_ ?_|((conv=>whnf);first|exact trivial|exact rfl|refine And.intro ?_ ?_|omega))
  have hv:withinF ns[i].id 1 1099511627776=true:=by simpa using (show (!withinF ns[i].id 1 1099511627776)=false from hc)
  rw [hv,Bool.true_and] at hT
  clear hv hc
  conv=>whnf
  refine⟨fun hc=>?_,fun hc=>?_⟩
  ·have hv:ok=false:=by
    have:(d.id == 0)=true:=hc
    rw [hz0] at this
    simpa using this
   rw [hv,Bool.false_and,Bool.not_false,cond_true] at hT
   subst hT
   conv=>whnf
   repeat'(first|exact trivial|exact rfl|refine And.intro ?_ ?_|((conv=>whnf);first|exact trivial|exact rfl|refine And.intro ?_ ?_|omega))
  have hv:ok=true:=by
   have:(d.id == 0)=false:=hc
   rw [hz0] at this
   simpa using this
  rw [hv,Bool.true_and] at hT
  clear hv hc
  conv=>whnf
  refine call_step (rSpan_t ns[i].wlo ns[i].whi 0 1000000) rfl rfl ?_
  conv=>whnf
  refine⟨?_, ?_, ?_⟩
  iterate 2 · repeat'(first|exact trivial|exact rfl|refine And.intro ?_ ?_|((conv=>whnf);first|exact trivial|exact rfl|refine And.intro ?_ ?_|omega))
  conv=>whnf
  refine⟨fun hc=>?_,fun hc=>?_⟩
  ·have hv:insideF ns[i].wlo ns[i].whi 0 1000000=false:=by simpa using (show (!insideF ns[i].wlo ns[i].whi 0 1000000)=true from hc)
   rw [hv,Bool.false_and,Bool.not_false,cond_true] at hT
   subst hT
   conv=>whnf
   repeat'(first|exact trivial|exact rfl|refine And.intro ?_ ?_|((conv=>whnf);first|exact trivial|exact rfl|refine And.intro ?_ ?_|omega))
  have hv:insideF ns[i].wlo ns[i].whi 0 1000000=true:=by simpa using (show (!insideF ns[i].wlo ns[i].whi 0 1000000)=false from hc)
  rw [hv,Bool.true_and] at hT
  clear hv hc
  conv=>whnf
  refine call_step (rSpan_t ns[i].slo ns[i].shi (-1000000) 1000000) rfl rfl ?_
  conv=>whnf
  refine⟨?_, ?_, ?_⟩
  iterate 2 · repeat'(first|exact trivial|exact rfl|refine And.intro ?_ ?_|((conv=>whnf);first|exact trivial|exact rfl|refine And.intro ?_ ?_|omega))
  conv=>whnf
  refine⟨fun hc=>?_,fun hc=>?_⟩
  ·have hv:insideF ns[i].slo ns[i].shi (-1000000) 1000000=false:=by simpa using (show (!insideF ns[i].slo ns[i].shi (-1000000) 1000000)=true from hc)
   rw [hv, Bool.not_false,cond_true] at hT
   subst hT
   conv=>whnf
   repeat'(first|exact trivial|exact rfl|refine And.intro ?_ ?_|((conv=>whnf);first|exact trivial|exact rfl|refine And.intro ?_ ?_|omega))
  have hv:insideF ns[i].slo ns[i].shi (-1000000) 1000000=true:=by simpa using (show (!insideF ns[i].slo ns[i].shi (-1000000) 1000000)=false from hc)
  rw [hv,Bool.not_true,cond_false] at hT
  clear hv hc
  conv=>whnf
  refine call_step (rHas_t M ns[i].id (by omega)) rfl rfl ?_
  conv=>whnf
  refine⟨?_, ?_, ?_⟩
  iterate 2 · repeat'(first|exact trivial|exact rfl|refine And.intro ?_ ?_|((conv=>whnf);first|exact trivial|exact rfl|refine And.intro ?_ ?_|omega))
  conv=>whnf
  refine⟨fun hc=>?_,fun hc=>?_⟩
  ·rw [show M.contains ns[i].id=true from hc,cond_true] at hT
   subst hT
   conv=>whnf
   repeat'(first|exact trivial|exact rfl|refine And.intro ?_ ?_|((conv=>whnf);first|exact trivial|exact rfl|refine And.intro ?_ ?_|omega))
  rw [show M.contains ns[i].id=false from hc,cond_false] at hT
  conv=>whnf
  refine bs_step tB_ok (aInt [ns[i].id]) rfl rfl ?_
  conv=>whnf
  refine⟨⟨rfl,(by repeat'(first|exact trivial|exact rfl|refine And.intro ?_ ?_|((conv=>whnf);first|exact trivial|exact rfl|refine And.intro ?_ ?_|omega)))⟩, ?_⟩
  conv=>whnf
  refine app_step tB_ok (aInt M) [ns[i].id] (fun _=>rfl) rfl rfl rfl rfl ?_
  conv=>whnf
  refine⟨⟨rfl,rfl,Nat.le_refl _,Nat.le_refl _,by show (M.length+1) * 9≤_; omega⟩, ?_⟩
  conv=>whnf
  refine⟨_,wrapId ⟨by omega,by omega⟩, ?_⟩
  refine⟨i+1,⟨hlt, ?_⟩,by show ns.length - (i+1) < ns.length - i; omega, ?_⟩
  ·try dsimp only
   rw [hnx]; exact hT
  try dsimp only
  rw [hnx]
  conv=>whnf
  refine⟨rfl, ?_⟩
  conv=>whnf
  repeat'(first|exact trivial|exact rfl|refine And.intro ?_ ?_|((conv=>whnf);first|exact trivial|exact rfl|refine And.intro ?_ ?_|omega))
  all_goals first | exact (congrArg aInt app1.symm:_) | exact (congrArg aInt app1:_) | simp
 have hie:i=ns.length:=by simp at hc; omega
 subst hie
 rw [List.take_length,List.drop_length] at hT
 rw [List.take_length]
 have hL2:(L1 ++ ns.map Ntc.id).length≤200000:=by rw [List.length_append,List.length_map]; omega
 have hE2:errF (L1 ++ ns.map Ntc.id) Tw=E:=hT
 generalize L1 ++ ns.map Ntc.id=L2 at *
 rw [← hTw] at hE2
 clear hT hTw hE1
 conv=>whnf
 refine loop_step tB_ok (G:=Nat) 1 [6] (fun i=>[(10,iv .i64 i),(3, .c (.s 7 0 (L2 ++ (ws.take i).map Wgh.id).length 1))]) (fun i=>[(7,true, .arr (aInt (L2 ++ (ws.take i).map Wgh.id)))])
  (fun i=>i≤ws.length∧errF (L2 ++ (ws.take i).map Wgh.id) ((ws.drop i).map (wghP bs) ++ [])=E) (fun i=>ws.length - i) ?_
 conv=>whnf
 refine⟨⟨0,⟨Nat.zero_le _,by simpa using hE2⟩, ?_⟩, ?_⟩
 ·conv=>whnf
  repeat'(first|exact trivial|exact rfl|refine And.intro ?_ ?_|((conv=>whnf);first|exact trivial|exact rfl|refine And.intro ?_ ?_|omega))
  all_goals first | (show aInt L2=aInt (L2 ++ []); rw [List.append_nil]) | simp
 rintro i ⟨hi,hT⟩ ρ1 t1 hρ1
 try dsimp only at hT
 conv=>whnf
 refine⟨fun hc=>?_,fun hc=>?_⟩
 ·have hlt:i < ws.length:=by simpa using hc
  rw [List.drop_eq_getElem_cons hlt,List.map_cons,List.cons_append,errF_cons] at hT
  have e1:(wghP bs ws[i]).1=ws[i].id:=rfl
  have e2:(wghP bs ws[i]).2=(withinF ws[i].id 1 1099511627776 && (hasB bs ws[i].bal && (withinF ws[i].tick 0 1000000 && (thgF ws[i].o && withinF ws[i].shown 0 10000000)))):=rfl
  rw [e1,e2] at hT
  clear e1 e2
  have hM:(L2 ++ (ws.take i).map Wgh.id).length≤300000:=by simp only [List.length_append,List.length_map,List.length_take]; omega
  have hnx:L2 ++ (ws.take (i+1)).map Wgh.id=(L2 ++ (ws.take i).map Wgh.id) ++ [Wgh.id ws[i]]:=by rw [take_snoc hlt,List.map_append]; simp
  generalize L2 ++ (ws.take i).map Wgh.id=M at *
  have hz0:=hz ws[i].bal
  have hF:=rFind_t ⟨bs,cs,ns,ws⟩ ws[i].bal hbs
  try dsimp only at hF
  generalize hasB bs ws[i].bal=ok at *
  generalize findD bs ws[i].bal=d at *
  conv=>whnf
  refine⟨i,rfl,hlt,hlt, ?_⟩
  conv=>whnf
  refine call_step hF rfl rfl ?_
  conv=>whnf
  refine⟨?_, ?_, ?_⟩
  iterate 2 · repeat'(first|exact trivial|exact rfl|refine And.intro ?_ ?_|((conv=>whnf);first|exact trivial|exact rfl|refine And.intro ?_ ?_|omega))
  conv=>whnf
  refine call_step (rObject_t ws[i].o) rfl rfl ?_
  conv=>whnf
  refine⟨?_, ?_, ?_⟩
  iterate 2 · repeat'(first|exact trivial|exact rfl|refine And.intro ?_ ?_|((conv=>whnf);first|exact trivial|exact rfl|refine And.intro ?_ ?_|omega))
  conv=>whnf
  refine call_step (rIn_t ws[i].id 1 1099511627776) rfl rfl ?_
  conv=>whnf
  refine⟨?_, ?_, ?_⟩
  iterate 2 · repeat'(first|exact trivial|exact rfl|refine And.intro ?_ ?_|((conv=>whnf);first|exact trivial|exact rfl|refine And.intro ?_ ?_|omega))
  conv=>whnf
  refine⟨fun hc=>?_,fun hc=>?_⟩
  ·have hv:withinF ws[i].id 1 1099511627776=false:=by simpa using (show (!withinF ws[i].id 1 1099511627776)=true from hc)
   rw [hv,Bool.false_and,Bool.not_false,cond_true] at hT
   subst hT
   conv=>whnf
   repeat'(first|exact trivial|exact rfl|refine And.intro ?_ ?_|((conv=>whnf);first|exact trivial|exact rfl|refine And.intro ?_ ?_|omega))
  have hv:withinF ws[i].id 1 1099511627776=true:=by simpa using (show (!withinF ws[i].id 1 1099511627776)=false from hc)
  rw [hv,Bool.true_and] at hT
  clear hv hc
  conv=>whnf
  refine⟨fun hc=>?_,fun hc=>?_⟩
  ·have hv:ok=false:=by
    have:(d.id == 0)=true:=hc
    rw [hz0] at this
    simpa using this
   rw [hv,Bool.false_and,Bool.not_false,cond_true] at hT
   subst hT
   conv=>whnf
   repeat'(first|exact trivial|exact rfl|refine And.intro ?_ ?_|((conv=>whnf);first|exact trivial|exact rfl|refine And.intro ?_ ?_|omega))
  have hv:ok=true:=by
   have:(d.id == 0)=false:=hc
   rw [hz0] at this
   simpa using this
  rw [hv,Bool.true_and] at hT
  clear hv hc
  conv=>whnf
  refine call_step (rIn_t ws[i].tick 0 1000000) rfl rfl ?_
  conv=>whnf
  refine⟨?_, ?_, ?_⟩
  iterate 2 · repeat'(first|exact trivial|exact rfl|refine And.intro ?_ ?_|((conv=>whnf);first|exact trivial|exact rfl|refine And.intro ?_ ?_|omega))
  conv=>whnf
  refine⟨fun hc=>?_,fun hc=>?_⟩
  ·have hv:withinF ws[i].tick 0 1000000=false:=by simpa using (show (!withinF ws[i].tick 0 1000000)=true from hc)
   rw [hv,Bool.false_and,Bool.not_false,cond_true] at hT
   subst hT
   conv=>whnf
   repeat'(first|exact trivial|exact rfl|refine And.intro ?_ ?_|((conv=>whnf);first|exact trivial|exact rfl|refine And.intro ?_ ?_|omega))
  have hv:withinF ws[i].tick 0 1000000=true:=by simpa using (show (!withinF ws[i].tick 0 1000000)=false from hc)
  rw [hv,Bool.true_and] at hT
  clear hv hc
  conv=>whnf
  refine⟨fun hc=>?_,fun hc=>?_⟩
  ·have hv:thgF ws[i].o=false:=by simpa using (show (!thgF ws[i].o)=true from hc)
   rw [hv,Bool.false_and,Bool.not_false,cond_true] at hT
   subst hT
   conv=>whnf
   repeat'(first|exact trivial|exact rfl|refine And.intro ?_ ?_|((conv=>whnf);first|exact trivial|exact rfl|refine And.intro ?_ ?_|omega))
  have hv:thgF ws[i].o=true:=by simpa using (show (!thgF ws[i].o)=false from hc)
  rw [hv,Bool.true_and] at hT
  clear hv hc
  conv=>whnf
  refine call_step (rIn_t ws[i].shown 0 10000000) rfl rfl ?_
  conv=>whnf
  refine⟨?_, ?_, ?_⟩
  iterate 2 · repeat'(first|exact trivial|exact rfl|refine And.intro ?_ ?_|((conv=>whnf);first|exact trivial|exact rfl|refine And.intro ?_ ?_|omega))
  conv=>whnf
  refine⟨fun hc=>?_,fun hc=>?_⟩
  ·have hv:withinF ws[i].shown 0 10000000=false:=by simpa using (show (!withinF ws[i].shown 0 10000000)=true from hc)
   rw [hv, Bool.not_false,cond_true] at hT
   subst hT
   conv=>whnf
   repeat'(first|exact trivial|exact rfl|refine And.intro ?_ ?_|((conv=>whnf);first|exact trivial|exact rfl|refine And.intro ?_ ?_|omega))
  have hv:withinF ws[i].shown 0 10000000=true:=by simpa using (show (!withinF ws[i].shown 0 10000000)=false from hc)
  rw [hv,Bool.not_true,cond_false] at hT
  clear hv hc
  conv=>whnf
  refine call_step (rHas_t M ws[i].id (by omega)) rfl rfl ?_
  conv=>whnf
  refine⟨?_, ?_, ?_⟩
  iterate 2 · repeat'(first|exact trivial|exact rfl|refine And.intro ?_ ?_|((conv=>whnf);first|exact trivial|exact rfl|refine And.intro ?_ ?_|omega))
  conv=>whnf
  refine⟨fun hc=>?_,fun hc=>?_⟩
  ·rw [show M.contains ws[i].id=true from hc,cond_true] at hT
   subst hT
   conv=>whnf
   repeat'(first|exact trivial|exact rfl|refine And.intro ?_ ?_|((conv=>whnf);first|exact trivial|exact rfl|refine And.intro ?_ ?_|omega))
  rw [show M.contains ws[i].id=false from hc,cond_false] at hT
  conv=>whnf
  refine bs_step tB_ok (aInt [ws[i].id]) rfl rfl ?_
  conv=>whnf
  refine⟨⟨rfl,(by repeat'(first|exact trivial|exact rfl|refine And.intro ?_ ?_|((conv=>whnf);first|exact trivial|exact rfl|refine And.intro ?_ ?_|omega)))⟩, ?_⟩
  conv=>whnf
  refine app_step tB_ok (aInt M) [ws[i].id] (fun _=>rfl) rfl rfl rfl rfl ?_
  conv=>whnf
  refine⟨⟨rfl,rfl,Nat.le_refl _,Nat.le_refl _,by show (M.length+1) * 9≤_; omega⟩, ?_⟩
  conv=>whnf
  refine⟨_,wrapId ⟨by omega,by omega⟩, ?_⟩
  refine⟨i+1,⟨hlt, ?_⟩,by show ws.length - (i+1) < ws.length - i; omega, ?_⟩
  ·try dsimp only
   rw [hnx]; exact hT
  try dsimp only
  rw [hnx]
  conv=>whnf
  refine⟨rfl, ?_⟩
  conv=>whnf
  repeat'(first|exact trivial|exact rfl|refine And.intro ?_ ?_|((conv=>whnf);first|exact trivial|exact rfl|refine And.intro ?_ ?_|omega))
  all_goals first | exact (congrArg aInt app1.symm:_) | exact (congrArg aInt app1:_) | simp
 have hie:i=ws.length:=by simp at hc; omega
 subst hie
 rw [List.drop_length] at hT
 have hT:(0:Int)=E:=hT
 subst hT
 conv=>whnf
 repeat'(first|exact trivial|exact rfl|refine And.intro ?_ ?_|((conv=>whnf);first|exact trivial|exact rfl|refine And.intro ?_ ?_|omega))

theorem rCheck_t (r:Rd) (hs:Sml r):Triple Tryz.prog 30 [rdA r] (rdH r) 4 (iv .i64 (checkR r)) []:=by
 have hR:checkR r=bif decide (8 < r.bs.length) || decide (100 < r.cs.length+r.ns.length+r.ws.length) then 2
  else bif errF [] (r.bs.map balP) == 0 then errF [] (rdErrs r) else errF [] (r.bs.map balP):=rfl
 have hRd:=rReadings_t r hs
 have hok:=errF_zero (l:=r.bs.map balP) (seen:=[])
 generalize checkR r=R at *
 generalize errF [] (rdErrs r)=E at *
 obtain ⟨s1,s2,s3,s4⟩:=hs
 obtain ⟨bs,cs,ns,ws⟩:=r
 dsimp only at *
 generalize hB:errF [] (bs.map balP)=B at *
 refine triple_of tB_ok Tryz.func30 rfl Tryz.call30 rfl ?_
 intro ρ w hH
 conv=>whnf
 refine⟨fun hc=>?_,fun hc=>?_⟩
 ·have h8:8 < bs.length:=by have:=of_decide_eq_true (show decide ((8:Int) < bs.length)=true from hc); omega
  rw [decide_eq_true h8,Bool.true_or,cond_true] at hR
  subst hR
  conv=>whnf
  repeat'(first|exact trivial|exact rfl|refine And.intro ?_ ?_|((conv=>whnf);first|exact trivial|exact rfl|refine And.intro ?_ ?_|omega))
 have h8:¬ 8 < bs.length:=by have:=of_decide_eq_false (show decide ((8:Int) < bs.length)=false from hc); omega
 conv=>whnf
 refine⟨((cs.length+ns.length:Nat):Int),(show IntKind.i64.wrap ((cs.length:Int)+ns.length)=((cs.length+ns.length:Nat):Int) by rw [wrapId ⟨by omega,by omega⟩]; omega), ?_⟩
 conv=>whnf
 refine⟨((cs.length+ns.length+ws.length:Nat):Int),(show IntKind.i64.wrap (((cs.length+ns.length:Nat):Int)+ws.length)=((cs.length+ns.length+ws.length:Nat):Int) by rw [wrapId ⟨by omega,by omega⟩]; omega), ?_⟩
 conv=>whnf
 refine⟨fun hc=>?_,fun hc=>?_⟩
 ·have h9:100 < cs.length+ns.length+ws.length:=by have:=of_decide_eq_true (show decide ((100:Int) < (cs.length+ns.length+ws.length:Nat))=true from hc); omega
  rw [decide_eq_true h9,Bool.or_true,cond_true] at hR
  subst hR
  conv=>whnf
  repeat'(first|exact trivial|exact rfl|refine And.intro ?_ ?_|((conv=>whnf);first|exact trivial|exact rfl|refine And.intro ?_ ?_|omega))
 have h9:¬ 100 < cs.length+ns.length+ws.length:=by have:=of_decide_eq_false (show decide ((100:Int) < (cs.length+ns.length+ws.length:Nat))=false from hc); omega
 rw [decide_eq_false h8,decide_eq_false h9,Bool.or_false,cond_false] at hR
 conv=>whnf
 refine loop_step tB_ok (G:=Nat) 1 [] (fun i=>[(4,iv .i64 i),(3, .c (.s 5 0 ((bs.take i).map Bal.id).length 1))]) (fun i=>[(5,true, .arr (aInt ((bs.take i).map Bal.id)))])
  (fun i=>i≤bs.length∧errF ((bs.take i).map Bal.id) ((bs.drop i).map balP)=B) (fun i=>bs.length - i) ?_
 conv=>whnf
 refine⟨⟨0,⟨Nat.zero_le _,hB⟩, ?_⟩, ?_⟩
 ·conv=>whnf
  repeat'(first|exact trivial|exact rfl|refine And.intro ?_ ?_|((conv=>whnf);first|exact trivial|exact rfl|refine And.intro ?_ ?_|omega))
 rintro i ⟨hi,hT⟩ ρ1 t1 hρ1
 conv=>whnf
 refine⟨fun hc=>?_,fun hc=>?_⟩
 ·have hlt:i < bs.length:=by simpa using hc
  rw [List.drop_eq_getElem_cons hlt,List.map_cons,errF_cons] at hT
  have e1:(balP bs[i]).1=bs[i].id:=rfl
  have e2:(balP bs[i]).2=validF bs[i]:=rfl
  rw [e1,e2] at hT
  have hM:((bs.take i).map Bal.id).length≤100000:=by rw [List.length_map,List.length_take]; omega
  have hnx:(bs.take (i+1)).map Bal.id=((bs.take i).map Bal.id) ++ [Bal.id bs[i]]:=by rw [take_snoc hlt,List.map_append]; rfl
  generalize (bs.take i).map Bal.id=M at *
  conv=>whnf
  refine⟨i,rfl,hlt,hlt, ?_⟩
  conv=>whnf
  refine call_step (rValid_t bs[i]) rfl rfl ?_
  conv=>whnf
  refine⟨?_, ?_, ?_⟩
  iterate 2 · repeat'(first|exact trivial|exact rfl|refine And.intro ?_ ?_|((conv=>whnf);first|exact trivial|exact rfl|refine And.intro ?_ ?_|omega))
  conv=>whnf
  refine⟨fun hc=>?_,fun hc=>?_⟩
  ·have hv:validF bs[i]=false:=by simpa using (show (!validF bs[i])=true from hc)
   rw [hv,Bool.not_false,cond_true] at hT
   subst hT
   have hR:R=1:=hR
   subst hR
   conv=>whnf
   repeat'(first|exact trivial|exact rfl|refine And.intro ?_ ?_|((conv=>whnf);first|exact trivial|exact rfl|refine And.intro ?_ ?_|omega))
  have hv:validF bs[i]=true:=by simpa using (show (!validF bs[i])=false from hc)
  rw [hv,Bool.not_true,cond_false] at hT
  conv=>whnf
  refine call_step (rHas_t M bs[i].id (by omega)) rfl rfl ?_
  conv=>whnf
  refine⟨?_, ?_, ?_⟩
  iterate 2 · repeat'(first|exact trivial|exact rfl|refine And.intro ?_ ?_|((conv=>whnf);first|exact trivial|exact rfl|refine And.intro ?_ ?_|omega))
  conv=>whnf
  refine⟨fun hc=>?_,fun hc=>?_⟩
  ·rw [show M.contains bs[i].id=true from hc,cond_true] at hT
   subst hT
   have hR:R=6:=hR
   subst hR
   conv=>whnf
   repeat'(first|exact trivial|exact rfl|refine And.intro ?_ ?_|((conv=>whnf);first|exact trivial|exact rfl|refine And.intro ?_ ?_|omega))
  rw [show M.contains bs[i].id=false from hc,cond_false] at hT
  conv=>whnf
  refine bs_step tB_ok (aInt [bs[i].id]) rfl rfl ?_
  conv=>whnf
  refine⟨⟨rfl,(by repeat'(first|exact trivial|exact rfl|refine And.intro ?_ ?_|((conv=>whnf);first|exact trivial|exact rfl|refine And.intro ?_ ?_|omega)))⟩, ?_⟩
  conv=>whnf
  refine app_step tB_ok (aInt M) [bs[i].id] (fun _=>rfl) rfl rfl rfl rfl ?_
  conv=>whnf
  refine⟨⟨rfl,rfl,Nat.le_refl _,Nat.le_refl _,by show (M.length+1) * 9≤_; omega⟩, ?_⟩
  conv=>whnf
  refine⟨_,wrapId ⟨by omega,by omega⟩, ?_⟩
  refine⟨i+1,⟨hlt, ?_⟩,by show bs.length - (i+1) < bs.length - i; omega, ?_⟩
  ·try dsimp only
   rw [hnx]; exact hT
  try dsimp only
  rw [hnx]
  conv=>whnf
  refine⟨rfl, ?_⟩
  conv=>whnf
  repeat'(first|exact trivial|exact rfl|refine And.intro ?_ ?_|((conv=>whnf);first|exact trivial|exact rfl|refine And.intro ?_ ?_|omega))
  all_goals first | exact (congrArg aInt app1.symm:_) | exact (congrArg aInt app1:_) | simp
 ·have hie:i=bs.length:=by simp at hc; omega
  subst hie
  rw [List.drop_length] at hT
  have hT:(0:Int)=B:=hT
  subst hT
  have hR:R=E:=hR
  subst hR
  have hv:∀ b ∈ bs,validF b=true:=fun b hb=>((hok.1 (by assumption)).1 (balP b) (List.mem_map.2 ⟨b,hb,rfl⟩)).1
  conv=>whnf
  refine call_step (hRd hv) rfl rfl ?_
  conv=>whnf
  refine⟨?_, ?_, ?_⟩
  iterate 2 · repeat'(first|exact trivial|exact rfl|refine And.intro ?_ ?_|((conv=>whnf);first|exact trivial|exact rfl|refine And.intro ?_ ?_|omega))
  conv=>whnf
  repeat'(first|exact trivial|exact rfl|refine And.intro ?_ ?_|((conv=>whnf);first|exact trivial|exact rfl|refine And.intro ?_ ?_|omega))

end Go.Proofs

namespace Go.Proofs
open Go.Sx

end Go.Proofs

namespace Go.Proofs
open Go.Sx

end Go.Proofs

namespace Go.Proofs
open Go.Sx

theorem sortK_take {α:Type} {key:α → Int} {l:List α} {k:Nat} {x:α} (h:(sortK key l)[k]? = some x):(sortK key l).take (k+1)=(sortK key l).take k ++ [x]:=by
 rw [List.take_add_one,h]; rfl

set_option maxHeartbeats 1000000 in
theorem rByWgh_t (l:List Wgh) (hl:l.length≤1000000) (hd:(l.map Wgh.id).Nodup) (hp:∀ x ∈ l,0 < x.id) :
  Triple Tryz.prog 204 [.c (.s 0 0 l.length 8)] [(0,false, .arr (aWgh l))] 1 (.c (.s 1 0 (sortK Wgh.id l).length 8)) [(1,true, .arr (aWgh (sortK Wgh.id l)))]:=by
 have hsl:=sortK_len Wgh.id l
 refine triple_of tB_ok Tryz.func204 rfl Tryz.call204 rfl ?_
 intro ρ w hH
 conv=>whnf
 refine loop_step tB_ok (G:=Nat) 1 [] (fun k=>[(5,iv .i64 k),(4,iv .i64 (lastK Wgh.id l k)),(3, .c (.s 1 0 ((sortK Wgh.id l).take k).length 8))]) (fun k=>[(1,true, .arr (aWgh ((sortK Wgh.id l).take k)))])
  (fun k=>k≤l.length) (fun k=>l.length - k) ?_
 conv=>whnf
 refine⟨⟨0,Nat.zero_le _, ?_⟩, ?_⟩
 ·conv=>whnf
  repeat'(first|exact trivial|exact rfl|refine And.intro ?_ ?_|((conv=>whnf);first|exact trivial|exact rfl|refine And.intro ?_ ?_|omega))
 rintro k hk ρ1 t1 hρ1
 conv=>whnf
 refine⟨fun hc=>?_,fun hc=>?_⟩
 ·have hkl:k < l.length:=by simpa using hc
  have hfa:∀ best,Found Wgh.id l (lastK Wgh.id l k) l.length best → ∃ (j:Nat) (x:Wgh),best=j∧l[j]? = some x∧(sortK Wgh.id l)[k]? = some x:=fun best hf=>found_all hd hp hkl hf
  have hT:=fun x=>sortK_take (key:=Wgh.id) (l:=l) (k:=k) (x:=x)
  have hLs:=fun x=>lastK_succ (key:=Wgh.id) (l:=l) (k:=k) (x:=x)
  have hkO:((sortK Wgh.id l).take k).length≤1000000:=by rw [List.length_take]; omega
  generalize (sortK Wgh.id l).take k=O at *
  generalize lastK Wgh.id l k=last at *
  conv=>whnf
  refine loop_step tB_ok (G:=Nat × Int) 0 [] (fun g=>[(7,iv .i64 g.1),(6,iv .i64 g.2)]) (fun _=>[]) (fun g=>g.1≤l.length∧Found Wgh.id l last g.1 g.2) (fun g=>l.length - g.1) ?_
  conv=>whnf
  refine⟨⟨(0,-1),⟨Nat.zero_le _,found_zero _ _ _⟩, ?_⟩, ?_⟩
  ·conv=>whnf
   repeat'(first|exact trivial|exact rfl|refine And.intro ?_ ?_|((conv=>whnf);first|exact trivial|exact rfl|refine And.intro ?_ ?_|omega))
  rintro ⟨i,best⟩ ⟨hi,hf⟩ ρ2 t2 hρ2
  dsimp only at hi hf ⊢
  conv=>whnf
  refine⟨fun hc2=>?_,fun hc2=>?_⟩
  ·have hlt:i < l.length:=by simpa using hc2
   conv=>whnf
   refine⟨i,rfl,hlt,hlt, ?_⟩
   conv=>whnf
   refine⟨fun hc3=>?_,fun hc3=>?_⟩
   ·have h1:last < l[i].id:=of_decide_eq_true (show decide (last < l[i].id)=true from hc3)
    have hf0:=hf
    rcases hf with ⟨rfl,_⟩ | ⟨j,x,rfl,hj,hx,_⟩
    ·conv=>whnf
     refine⟨fun hc4=>?_,fun hc4=>absurd (show decide ((-1:Int) < 0)=false from hc4) (by decide)⟩
     conv=>whnf
     refine⟨_,wrapId ⟨by omega,by omega⟩, ?_⟩
     refine⟨(i+1,(i:Int)),⟨hlt,found_take hlt hf0 h1 (.inl (by decide))⟩,by show l.length - (i+1) < l.length - i; omega, ?_⟩
     try dsimp only
     conv=>whnf
     refine⟨rfl, ?_⟩
     conv=>whnf
     repeat'(first|exact trivial|exact rfl|refine And.intro ?_ ?_|((conv=>whnf);first|exact trivial|exact rfl|refine And.intro ?_ ?_|omega))
    ·have hjl:j < l.length:=by omega
     have hxe:l[j]=x:=by rw [List.getElem?_eq_getElem hjl] at hx; exact Option.some.inj hx
     have hj0:0≤(j:Int):=by omega
     have hjg:l[(j:Int).toNat]? = some l[j]:=by rw [Int.toNat_natCast]; exact List.getElem?_eq_getElem hjl
     conv=>whnf
     refine⟨fun hc4=>absurd (of_decide_eq_true (show decide ((j:Int) < 0)=true from hc4)) (by omega),fun hc4=>?_⟩
     conv=>whnf
     refine⟨i,rfl,hlt,hlt, ?_⟩
     conv=>whnf
     refine⟨j,rfl,hjl,hjl, ?_⟩
     conv=>whnf
     refine⟨fun hc5=>?_,fun hc5=>?_⟩
     ·have h5:l[i].id < l[j].id:=of_decide_eq_true (show decide (l[i].id < l[j].id)=true from hc5)
      conv=>whnf
      refine⟨_,wrapId ⟨by omega,by omega⟩, ?_⟩
      refine⟨(i+1,(i:Int)),⟨hlt,found_take hlt hf0 h1 (.inr ⟨l[j],hjg,h5⟩)⟩,by show l.length - (i+1) < l.length - i; omega, ?_⟩
      try dsimp only
      conv=>whnf
      refine⟨rfl, ?_⟩
      conv=>whnf
      repeat'(first|exact trivial|exact rfl|refine And.intro ?_ ?_|((conv=>whnf);first|exact trivial|exact rfl|refine And.intro ?_ ?_|omega))
     ·have h5:¬ l[i].id < l[j].id:=of_decide_eq_false (show decide (l[i].id < l[j].id)=false from hc5)
      conv=>whnf
      refine⟨_,wrapId ⟨by omega,by omega⟩, ?_⟩
      refine⟨(i+1,(j:Int)),⟨hlt,found_keep hlt hf0 (.inr ⟨l[j],hj0,hjg,h5⟩)⟩,by show l.length - (i+1) < l.length - i; omega, ?_⟩
      try dsimp only
      conv=>whnf
      refine⟨rfl, ?_⟩
      conv=>whnf
      repeat'(first|exact trivial|exact rfl|refine And.intro ?_ ?_|((conv=>whnf);first|exact trivial|exact rfl|refine And.intro ?_ ?_|omega))
   ·have h1:¬ last < l[i].id:=of_decide_eq_false (show decide (last < l[i].id)=false from hc3)
    conv=>whnf
    refine⟨_,wrapId ⟨by omega,by omega⟩, ?_⟩
    refine⟨(i+1,best),⟨hlt,found_keep hlt hf (.inl h1)⟩,by show l.length - (i+1) < l.length - i; omega, ?_⟩
    try dsimp only
    conv=>whnf
    refine⟨rfl, ?_⟩
    conv=>whnf
    repeat'(first|exact trivial|exact rfl|refine And.intro ?_ ?_|((conv=>whnf);first|exact trivial|exact rfl|refine And.intro ?_ ?_|omega))
  ·have hie:i=l.length:=by simp at hc2; omega
   subst hie
   obtain ⟨j,x,rfl,hx,hsx⟩:=hfa best hf
   have hjl:j < l.length:=(List.getElem?_eq_some_iff.1 hx).1
   have hxe:l[j]=x:=by rw [List.getElem?_eq_getElem hjl] at hx; exact Option.some.inj hx
   subst hxe
   have hT:=hT _ hsx
   have hLs:=hLs _ hsx
   conv=>whnf
   refine⟨j,rfl,hjl,hjl, ?_⟩
   conv=>whnf
   refine bs_step tB_ok (aWgh [l[j]]) rfl rfl ?_
   conv=>whnf
   refine⟨⟨rfl,(by repeat'(first|exact trivial|exact rfl|refine And.intro ?_ ?_|((conv=>whnf);first|exact trivial|exact rfl|refine And.intro ?_ ?_|omega)))⟩, ?_⟩
   conv=>whnf
   refine app_step tB_ok (aWgh O) [l[j]] (fun _=>rfl) rfl rfl rfl rfl ?_
   conv=>whnf
   refine⟨⟨rfl,rfl,Nat.le_refl _,Nat.le_refl _,by show (O.length+1) * 65≤_; omega⟩, ?_⟩
   conv=>whnf
   refine⟨j,rfl,hjl,hjl, ?_⟩
   conv=>whnf
   refine⟨_,wrapId ⟨by omega,by omega⟩, ?_⟩
   refine⟨k+1,hkl,by show l.length - (k+1) < l.length - k; omega, ?_⟩
   try dsimp only
   rw [hT,hLs]
   conv=>whnf
   refine⟨rfl, ?_⟩
   conv=>whnf
   repeat'(first|exact trivial|exact rfl|refine And.intro ?_ ?_|((conv=>whnf);first|exact trivial|exact rfl|refine And.intro ?_ ?_|omega))
   all_goals first | exact (congrArg aWgh app1.symm:_) | exact (congrArg aWgh app1:_) | simp
 ·have hke:k=l.length:=by simp at hc; omega
  subst hke
  rw [List.take_of_length_le (by omega)]
  conv=>whnf
  repeat'(first|exact trivial|exact rfl|refine And.intro ?_ ?_|((conv=>whnf);first|exact trivial|exact rfl|refine And.intro ?_ ?_|omega))
set_option maxHeartbeats 1000000 in
theorem rByChk_t (l:List Chk) (hl:l.length≤1000000) (hd:(l.map Chk.id).Nodup) (hp:∀ x ∈ l,0 < x.id) :
  Triple Tryz.prog 202 [.c (.s 0 0 l.length 5)] [(0,false, .arr (aChk l))] 1 (.c (.s 1 0 (sortK Chk.id l).length 5)) [(1,true, .arr (aChk (sortK Chk.id l)))]:=by
 have hsl:=sortK_len Chk.id l
 refine triple_of tB_ok Tryz.func202 rfl Tryz.call202 rfl ?_
 intro ρ w hH
 conv=>whnf
 refine loop_step tB_ok (G:=Nat) 1 [] (fun k=>[(5,iv .i64 k),(4,iv .i64 (lastK Chk.id l k)),(3, .c (.s 1 0 ((sortK Chk.id l).take k).length 5))]) (fun k=>[(1,true, .arr (aChk ((sortK Chk.id l).take k)))])
  (fun k=>k≤l.length) (fun k=>l.length - k) ?_
 conv=>whnf
 refine⟨⟨0,Nat.zero_le _, ?_⟩, ?_⟩
 ·conv=>whnf
  repeat'(first|exact trivial|exact rfl|refine And.intro ?_ ?_|((conv=>whnf);first|exact trivial|exact rfl|refine And.intro ?_ ?_|omega))
 rintro k hk ρ1 t1 hρ1
 conv=>whnf
 refine⟨fun hc=>?_,fun hc=>?_⟩
 ·have hkl:k < l.length:=by simpa using hc
  have hfa:∀ best,Found Chk.id l (lastK Chk.id l k) l.length best → ∃ (j:Nat) (x:Chk),best=j∧l[j]? = some x∧(sortK Chk.id l)[k]? = some x:=fun best hf=>found_all hd hp hkl hf
  have hT:=fun x=>sortK_take (key:=Chk.id) (l:=l) (k:=k) (x:=x)
  have hLs:=fun x=>lastK_succ (key:=Chk.id) (l:=l) (k:=k) (x:=x)
  have hkO:((sortK Chk.id l).take k).length≤1000000:=by rw [List.length_take]; omega
  generalize (sortK Chk.id l).take k=O at *
  generalize lastK Chk.id l k=last at *
  conv=>whnf
  refine loop_step tB_ok (G:=Nat × Int) 0 [] (fun g=>[(7,iv .i64 g.1),(6,iv .i64 g.2)]) (fun _=>[]) (fun g=>g.1≤l.length∧Found Chk.id l last g.1 g.2) (fun g=>l.length - g.1) ?_
  conv=>whnf
  refine⟨⟨(0,-1),⟨Nat.zero_le _,found_zero _ _ _⟩, ?_⟩, ?_⟩
  ·conv=>whnf
   repeat'(first|exact trivial|exact rfl|refine And.intro ?_ ?_|((conv=>whnf);first|exact trivial|exact rfl|refine And.intro ?_ ?_|omega))
  rintro ⟨i,best⟩ ⟨hi,hf⟩ ρ2 t2 hρ2
  dsimp only at hi hf ⊢
  conv=>whnf
  refine⟨fun hc2=>?_,fun hc2=>?_⟩
  ·have hlt:i < l.length:=by simpa using hc2
   conv=>whnf
   refine⟨i,rfl,hlt,hlt, ?_⟩
   conv=>whnf
   refine⟨fun hc3=>?_,fun hc3=>?_⟩
   ·have h1:last < l[i].id:=of_decide_eq_true (show decide (last < l[i].id)=true from hc3)
    have hf0:=hf
    rcases hf with ⟨rfl,_⟩ | ⟨j,x,rfl,hj,hx,_⟩
    ·conv=>whnf
     refine⟨fun hc4=>?_,fun hc4=>absurd (show decide ((-1:Int) < 0)=false from hc4) (by decide)⟩
     conv=>whnf
     refine⟨_,wrapId ⟨by omega,by omega⟩, ?_⟩
     refine⟨(i+1,(i:Int)),⟨hlt,found_take hlt hf0 h1 (.inl (by decide))⟩,by show l.length - (i+1) < l.length - i; omega, ?_⟩
     try dsimp only
     conv=>whnf
     refine⟨rfl, ?_⟩
     conv=>whnf
     repeat'(first|exact trivial|exact rfl|refine And.intro ?_ ?_|((conv=>whnf);first|exact trivial|exact rfl|refine And.intro ?_ ?_|omega))
    ·have hjl:j < l.length:=by omega
     have hxe:l[j]=x:=by rw [List.getElem?_eq_getElem hjl] at hx; exact Option.some.inj hx
     have hj0:0≤(j:Int):=by omega
     have hjg:l[(j:Int).toNat]? = some l[j]:=by rw [Int.toNat_natCast]; exact List.getElem?_eq_getElem hjl
     conv=>whnf
     refine⟨fun hc4=>absurd (of_decide_eq_true (show decide ((j:Int) < 0)=true from hc4)) (by omega),fun hc4=>?_⟩
     conv=>whnf
     refine⟨i,rfl,hlt,hlt, ?_⟩
     conv=>whnf
     refine⟨j,rfl,hjl,hjl, ?_⟩
     conv=>whnf
     refine⟨fun hc5=>?_,fun hc5=>?_⟩
     ·have h5:l[i].id < l[j].id:=of_decide_eq_true (show decide (l[i].id < l[j].id)=true from hc5)
      conv=>whnf
      refine⟨_,wrapId ⟨by omega,by omega⟩, ?_⟩
      refine⟨(i+1,(i:Int)),⟨hlt,found_take hlt hf0 h1 (.inr ⟨l[j],hjg,h5⟩)⟩,by show l.length - (i+1) < l.length - i; omega, ?_⟩
      try dsimp only
      conv=>whnf
      refine⟨rfl, ?_⟩
      conv=>whnf
      repeat'(first|exact trivial|exact rfl|refine And.intro ?_ ?_|((conv=>whnf);first|exact trivial|exact rfl|refine And.intro ?_ ?_|omega))
     ·have h5:¬ l[i].id < l[j].id:=of_decide_eq_false (show decide (l[i].id < l[j].id)=false from hc5)
      conv=>whnf
      refine⟨_,wrapId ⟨by omega,by omega⟩, ?_⟩
      refine⟨(i+1,(j:Int)),⟨hlt,found_keep hlt hf0 (.inr ⟨l[j],hj0,hjg,h5⟩)⟩,by show l.length - (i+1) < l.length - i; omega, ?_⟩
      try dsimp only
      conv=>whnf
      refine⟨rfl, ?_⟩
      conv=>whnf
      repeat'(first|exact trivial|exact rfl|refine And.intro ?_ ?_|((conv=>whnf);first|exact trivial|exact rfl|refine And.intro ?_ ?_|omega))
   ·have h1:¬ last < l[i].id:=of_decide_eq_false (show decide (last < l[i].id)=false from hc3)
    conv=>whnf
    refine⟨_,wrapId ⟨by omega,by omega⟩, ?_⟩
    refine⟨(i+1,best),⟨hlt,found_keep hlt hf (.inl h1)⟩,by show l.length - (i+1) < l.length - i; omega, ?_⟩
    try dsimp only
    conv=>whnf
    refine⟨rfl, ?_⟩
    conv=>whnf
    repeat'(first|exact trivial|exact rfl|refine And.intro ?_ ?_|((conv=>whnf);first|exact trivial|exact rfl|refine And.intro ?_ ?_|omega))
  ·have hie:i=l.length:=by simp at hc2; omega
   subst hie
   obtain ⟨j,x,rfl,hx,hsx⟩:=hfa best hf
   have hjl:j < l.length:=(List.getElem?_eq_some_iff.1 hx).1
   have hxe:l[j]=x:=by rw [List.getElem?_eq_getElem hjl] at hx; exact Option.some.inj hx
   subst hxe
   have hT:=hT _ hsx
   have hLs:=hLs _ hsx
   conv=>whnf
   refine⟨j,rfl,hjl,hjl, ?_⟩
   conv=>whnf
   refine bs_step tB_ok (aChk [l[j]]) rfl rfl ?_
   conv=>whnf
   refine⟨⟨rfl,(by repeat'(first|exact trivial|exact rfl|refine And.intro ?_ ?_|((conv=>whnf);first|exact trivial|exact rfl|refine And.intro ?_ ?_|omega)))⟩, ?_⟩
   conv=>whnf
   refine app_step tB_ok (aChk O) [l[j]] (fun _=>rfl) rfl rfl rfl rfl ?_
   conv=>whnf
   refine⟨⟨rfl,rfl,Nat.le_refl _,Nat.le_refl _,by show (O.length+1) * 41≤_; omega⟩, ?_⟩
   conv=>whnf
   refine⟨j,rfl,hjl,hjl, ?_⟩
   conv=>whnf
   refine⟨_,wrapId ⟨by omega,by omega⟩, ?_⟩
   refine⟨k+1,hkl,by show l.length - (k+1) < l.length - k; omega, ?_⟩
   try dsimp only
   rw [hT,hLs]
   conv=>whnf
   refine⟨rfl, ?_⟩
   conv=>whnf
   repeat'(first|exact trivial|exact rfl|refine And.intro ?_ ?_|((conv=>whnf);first|exact trivial|exact rfl|refine And.intro ?_ ?_|omega))
   all_goals first | exact (congrArg aChk app1.symm:_) | exact (congrArg aChk app1:_) | simp
 ·have hke:k=l.length:=by simp at hc; omega
  subst hke
  rw [List.take_of_length_le (by omega)]
  conv=>whnf
  repeat'(first|exact trivial|exact rfl|refine And.intro ?_ ?_|((conv=>whnf);first|exact trivial|exact rfl|refine And.intro ?_ ?_|omega))
set_option maxHeartbeats 1000000 in
theorem rByNtc_t (l:List Ntc) (hl:l.length≤1000000) (hd:(l.map Ntc.id).Nodup) (hp:∀ x ∈ l,0 < x.id) :
  Triple Tryz.prog 203 [.c (.s 0 0 l.length 6)] [(0,false, .arr (aNtc l))] 1 (.c (.s 1 0 (sortK Ntc.id l).length 6)) [(1,true, .arr (aNtc (sortK Ntc.id l)))]:=by
 have hsl:=sortK_len Ntc.id l
 refine triple_of tB_ok Tryz.func203 rfl Tryz.call203 rfl ?_
 intro ρ w hH
 conv=>whnf
 refine loop_step tB_ok (G:=Nat) 1 [] (fun k=>[(5,iv .i64 k),(4,iv .i64 (lastK Ntc.id l k)),(3, .c (.s 1 0 ((sortK Ntc.id l).take k).length 6))]) (fun k=>[(1,true, .arr (aNtc ((sortK Ntc.id l).take k)))])
  (fun k=>k≤l.length) (fun k=>l.length - k) ?_
 conv=>whnf
 refine⟨⟨0,Nat.zero_le _, ?_⟩, ?_⟩
 ·conv=>whnf
  repeat'(first|exact trivial|exact rfl|refine And.intro ?_ ?_|((conv=>whnf);first|exact trivial|exact rfl|refine And.intro ?_ ?_|omega))
 rintro k hk ρ1 t1 hρ1
 conv=>whnf
 refine⟨fun hc=>?_,fun hc=>?_⟩
 ·have hkl:k < l.length:=by simpa using hc
  have hfa:∀ best,Found Ntc.id l (lastK Ntc.id l k) l.length best → ∃ (j:Nat) (x:Ntc),best=j∧l[j]? = some x∧(sortK Ntc.id l)[k]? = some x:=fun best hf=>found_all hd hp hkl hf
  have hT:=fun x=>sortK_take (key:=Ntc.id) (l:=l) (k:=k) (x:=x)
  have hLs:=fun x=>lastK_succ (key:=Ntc.id) (l:=l) (k:=k) (x:=x)
  have hkO:((sortK Ntc.id l).take k).length≤1000000:=by rw [List.length_take]; omega
  generalize (sortK Ntc.id l).take k=O at *
  generalize lastK Ntc.id l k=last at *
  conv=>whnf
  refine loop_step tB_ok (G:=Nat × Int) 0 [] (fun g=>[(7,iv .i64 g.1),(6,iv .i64 g.2)]) (fun _=>[]) (fun g=>g.1≤l.length∧Found Ntc.id l last g.1 g.2) (fun g=>l.length - g.1) ?_
  conv=>whnf
  refine⟨⟨(0,-1),⟨Nat.zero_le _,found_zero _ _ _⟩, ?_⟩, ?_⟩
  ·conv=>whnf
   repeat'(first|exact trivial|exact rfl|refine And.intro ?_ ?_|((conv=>whnf);first|exact trivial|exact rfl|refine And.intro ?_ ?_|omega))
  rintro ⟨i,best⟩ ⟨hi,hf⟩ ρ2 t2 hρ2
  dsimp only at hi hf ⊢
  conv=>whnf
  refine⟨fun hc2=>?_,fun hc2=>?_⟩
  ·have hlt:i < l.length:=by simpa using hc2
   conv=>whnf
   refine⟨i,rfl,hlt,hlt, ?_⟩
   conv=>whnf
   refine⟨fun hc3=>?_,fun hc3=>?_⟩
   ·have h1:last < l[i].id:=of_decide_eq_true (show decide (last < l[i].id)=true from hc3)
    have hf0:=hf
    rcases hf with ⟨rfl,_⟩ | ⟨j,x,rfl,hj,hx,_⟩
    ·conv=>whnf
     refine⟨fun hc4=>?_,fun hc4=>absurd (show decide ((-1:Int) < 0)=false from hc4) (by decide)⟩
     conv=>whnf
     refine⟨_,wrapId ⟨by omega,by omega⟩, ?_⟩
     refine⟨(i+1,(i:Int)),⟨hlt,found_take hlt hf0 h1 (.inl (by decide))⟩,by show l.length - (i+1) < l.length - i; omega, ?_⟩
     try dsimp only
     conv=>whnf
     refine⟨rfl, ?_⟩
     conv=>whnf
     repeat'(first|exact trivial|exact rfl|refine And.intro ?_ ?_|((conv=>whnf);first|exact trivial|exact rfl|refine And.intro ?_ ?_|omega))
    ·have hjl:j < l.length:=by omega
     have hxe:l[j]=x:=by rw [List.getElem?_eq_getElem hjl] at hx; exact Option.some.inj hx
     have hj0:0≤(j:Int):=by omega
     have hjg:l[(j:Int).toNat]? = some l[j]:=by rw [Int.toNat_natCast]; exact List.getElem?_eq_getElem hjl
     conv=>whnf
     refine⟨fun hc4=>absurd (of_decide_eq_true (show decide ((j:Int) < 0)=true from hc4)) (by omega),fun hc4=>?_⟩
     conv=>whnf
     refine⟨i,rfl,hlt,hlt, ?_⟩
     conv=>whnf
     refine⟨j,rfl,hjl,hjl, ?_⟩
     conv=>whnf
     refine⟨fun hc5=>?_,fun hc5=>?_⟩
     ·have h5:l[i].id < l[j].id:=of_decide_eq_true (show decide (l[i].id < l[j].id)=true from hc5)
      conv=>whnf
      refine⟨_,wrapId ⟨by omega,by omega⟩, ?_⟩
      refine⟨(i+1,(i:Int)),⟨hlt,found_take hlt hf0 h1 (.inr ⟨l[j],hjg,h5⟩)⟩,by show l.length - (i+1) < l.length - i; omega, ?_⟩
      try dsimp only
      conv=>whnf
      refine⟨rfl, ?_⟩
      conv=>whnf
      repeat'(first|exact trivial|exact rfl|refine And.intro ?_ ?_|((conv=>whnf);first|exact trivial|exact rfl|refine And.intro ?_ ?_|omega))
     ·have h5:¬ l[i].id < l[j].id:=of_decide_eq_false (show decide (l[i].id < l[j].id)=false from hc5)
      conv=>whnf
      refine⟨_,wrapId ⟨by omega,by omega⟩, ?_⟩
      refine⟨(i+1,(j:Int)),⟨hlt,found_keep hlt hf0 (.inr ⟨l[j],hj0,hjg,h5⟩)⟩,by show l.length - (i+1) < l.length - i; omega, ?_⟩
      try dsimp only
      conv=>whnf
      refine⟨rfl, ?_⟩
      conv=>whnf
      repeat'(first|exact trivial|exact rfl|refine And.intro ?_ ?_|((conv=>whnf);first|exact trivial|exact rfl|refine And.intro ?_ ?_|omega))
   ·have h1:¬ last < l[i].id:=of_decide_eq_false (show decide (last < l[i].id)=false from hc3)
    conv=>whnf
    refine⟨_,wrapId ⟨by omega,by omega⟩, ?_⟩
    refine⟨(i+1,best),⟨hlt,found_keep hlt hf (.inl h1)⟩,by show l.length - (i+1) < l.length - i; omega, ?_⟩
    try dsimp only
    conv=>whnf
    refine⟨rfl, ?_⟩
    conv=>whnf
    repeat'(first|exact trivial|exact rfl|refine And.intro ?_ ?_|((conv=>whnf);first|exact trivial|exact rfl|refine And.intro ?_ ?_|omega))
  ·have hie:i=l.length:=by simp at hc2; omega
   subst hie
   obtain ⟨j,x,rfl,hx,hsx⟩:=hfa best hf
   have hjl:j < l.length:=(List.getElem?_eq_some_iff.1 hx).1
   have hxe:l[j]=x:=by rw [List.getElem?_eq_getElem hjl] at hx; exact Option.some.inj hx
   subst hxe
   have hT:=hT _ hsx
   have hLs:=hLs _ hsx
   conv=>whnf
   refine⟨j,rfl,hjl,hjl, ?_⟩
   conv=>whnf
   refine bs_step tB_ok (aNtc [l[j]]) rfl rfl ?_
   conv=>whnf
   refine⟨⟨rfl,(by repeat'(first|exact trivial|exact rfl|refine And.intro ?_ ?_|((conv=>whnf);first|exact trivial|exact rfl|refine And.intro ?_ ?_|omega)))⟩, ?_⟩
   conv=>whnf
   refine app_step tB_ok (aNtc O) [l[j]] (fun _=>rfl) rfl rfl rfl rfl ?_
   conv=>whnf
   refine⟨⟨rfl,rfl,Nat.le_refl _,Nat.le_refl _,by show (O.length+1) * 49≤_; omega⟩, ?_⟩
   conv=>whnf
   refine⟨j,rfl,hjl,hjl, ?_⟩
   conv=>whnf
   refine⟨_,wrapId ⟨by omega,by omega⟩, ?_⟩
   refine⟨k+1,hkl,by show l.length - (k+1) < l.length - k; omega, ?_⟩
   try dsimp only
   rw [hT,hLs]
   conv=>whnf
   refine⟨rfl, ?_⟩
   conv=>whnf
   repeat'(first|exact trivial|exact rfl|refine And.intro ?_ ?_|((conv=>whnf);first|exact trivial|exact rfl|refine And.intro ?_ ?_|omega))
   all_goals first | exact (congrArg aNtc app1.symm:_) | exact (congrArg aNtc app1:_) | simp
 ·have hke:k=l.length:=by simp at hc; omega
  subst hke
  rw [List.take_of_length_le (by omega)]
  conv=>whnf
  repeat'(first|exact trivial|exact rfl|refine And.intro ?_ ?_|((conv=>whnf);first|exact trivial|exact rfl|refine And.intro ?_ ?_|omega))

end Go.Proofs

namespace Go.Proofs
open Go.Sx

end Go.Proofs

namespace Go.Proofs
open Go.Sx

end Go.Proofs

namespace Go.Proofs
open Go.Sx

end Go.Proofs

namespace Go.Proofs
open Go.Sx

end Go.Proofs

namespace Go.Proofs
open Go.Sx


end Go.Proofs

namespace Go
namespace Sx
open Go.Deep Go.ChangeShapes Go.WideShapes

end Sx
end Go

namespace Go
namespace Sx
open Go.Deep Go.ChangeShapes Go.WideShapes

structure AllI (P:Program) (t n:Nat):Prop where
  cells:P.cellsOf t=n
  op:∀ {H:Type} {enc:TypeId × Value → H} {w:World} {held:Bool} {fuel:Nat} {cs:List Value} {x:DataW H × List MemPlace},DataW.trod enc P w 0 (fun _=>true) held fuel t cs=some x →
    cs.length=n∧∃ V:Nat → Int,∀ j,j < n → cs[j]? = some (.int .i64 (V j))

theorem allI_int {P:Program} {t:Nat} (h:P.underlying t=some (.int .i64)) (hc:P.cellsOf t=1):AllI P t 1 where
  cells:=hc
  op:=by
    intro H enc w held fuel cs x hx
    obtain ⟨n,rfl,_,_⟩:=DataW.trod_int h hx
    exact ⟨rfl, fun _ => n, fun j hj => by obtain rfl : j = 0 := by omega
                                           rfl⟩

def AllFs (P:Program):List Field → Nat → Nat → Prop
  | [],j,n=>j=n
  | f :: r,j,n=>∃ m,f.offset=j∧AllI P f.type m∧AllFs P r (j+m) n

theorem allFs_get {P:Program} {H:Type} {enc:TypeId × Value → H} {w:World} {held:Bool} {fuel n:Nat} {cs:List Value} (hl:cs.length=n):∀ {fs:List Field} {j:Nat},AllFs P fs j n →
    (∀ f ∈ fs,∃ x,DataW.trod enc P w 0 (fun _=>true) held fuel f.type ((cs.drop f.offset).take (P.cellsOf f.type))=some x) →
    ∃ V:Nat → Int,∀ i,j≤i → i < n → cs[i]? = some (.int .i64 (V i))
  | [],j,h,_=>⟨fun _=>0,fun i h1 h2=>by have h:j=n:=h; omega⟩
  | f :: r,j,⟨m,ho,hA,hr⟩,hx=>by
    obtain ⟨V2,hV2⟩:=allFs_get hl hr fun g hg=>hx g (List.mem_cons_of_mem _ hg)
    obtain ⟨x,hx⟩:=hx f (List.mem_cons_self ..)
    rw [ho,hA.cells] at hx
    obtain ⟨_,V1,hV1⟩:=hA.op hx
    refine⟨fun i=>if i < j+m then V1 (i - j) else V2 i,fun i h1 h2=>?_⟩
    by_cases hi:i < j+m
    · dsimp only
      rw [if_pos hi]
      have:=hV1 (i - j) (by omega)
      rw [List.getElem?_take,if_pos (by omega),List.getElem?_drop] at this
      rw [← this]; congr 1; omega
    · dsimp only
      rw [if_neg hi]
      exact hV2 i (by omega) h2

theorem allI_struct {P:Program} {t n:Nat} {fs:Array Field} (h:P.underlying t=some (.struct fs)) (hc:P.cellsOf t=n) (hF:AllFs P fs.toList 0 n):AllI P t n where
  cells:=hc
  op:=by
    intro H enc w held fuel cs x hx
    obtain ⟨xs,k,_,_,hl,hxl,hff⟩:=DataW.trod_struct h hx
    rw [hc] at hl
    obtain ⟨V,hV⟩:=allFs_get hl hF fun f hf=>by
      obtain ⟨i,hi⟩:=List.mem_iff_getElem?.1 hf
      have:=hff i f (by simpa using hi)
      have hlt:i < xs.length:=by rw [hxl]; have:=(List.getElem?_eq_some_iff.1 hi).1; simpa using this
      rw [List.getElem?_eq_getElem hlt] at this
      exact⟨_,this⟩
    exact⟨hl,V,fun j hj=>hV j (Nat.zero_le _) hj⟩

theorem open_slI {H:Type} {enc:TypeId × Value → H} {P:Program} {w:World} {held:Bool} {t e n fuel:Nat} {cs:List Value} {x:DataW H × List MemPlace}
    (ht:P.underlying t=some (.slice e)) (he:AllI P e n) (hpos:0 < n) (hby:1≤P.bytesOf e) (hw:∀ y ∈ x.1.weights P t,y≤reachBytes)
    (h:DataW.trod enc P w 0 (fun _=>true) held fuel t cs=some x) :
    (∃ a,cs=[.slice a 0 0]) ∨ ∃ (b off len cap:Nat) (V:Nat → Nat → Int),cs=[.slice (some ⟨b,off,none⟩) len cap]∧len≤cap∧len≤reachBytes∧b < w.heap.size ∧
      ∀ i,i < len → ∀ j,j < n → w.cell? ⟨b,off+(i * n+j),none⟩=some (.int .i64 (V i j)):=by
  rcases open_slice ht h with ⟨h0,_⟩ | ⟨a,len,cap,m,n',D,Pl,rfl,hb,hl,hm,hmm,hxx,hx⟩
  · exact .inl ⟨none,h0⟩
  simp only [if_true] at hmm
  subst hmm
  rcases Nat.eq_zero_or_pos m with rfl | hcp
  · have:len=0:=by omega
    subst this
    exact .inl ⟨some a,rfl⟩
  right
  have hle:len≤reachBytes:=by
    subst hxx
    have:=hw ((len+(m - len)) * P.bytesOf e) (by simp [DataW.weights,ht])
    have h2:len * 1≤(len+(m - len)) * P.bytesOf e:=Nat.mul_le_mul (by omega) hby
    omega
  have each:∀ i,i < m → ∃ V:Nat → Int,∀ j,j < n → w.cell? (a.add (i * n+j))=some (.int .i64 (V j)):=by
    intro i hi
    obtain ⟨cs',g1,g2⟩:=hx i hi
    rw [he.cells] at g1
    obtain ⟨_,hlen,hcell⟩:=World.cells?_some g1
    obtain ⟨_,V,hV⟩:=he.op g2
    refine⟨V,fun j hj=>?_⟩
    have hc:=hcell j hj
    rw [hV j hj,add_add] at hc
    exact hc
  obtain ⟨V,hV⟩:=choose_lt (α:=Nat → Int) (p:=fun i f=>∀ j,j < n → w.cell? (a.add (i * n+j))=some (.int .i64 (f j))) each
  have h00:=hV 0 hcp 0 hpos
  obtain ⟨b,off,spot⟩:=a
  have hs:spot=none:=by simpa [Addr.add] using World.cell?_spot h00
  subst hs
  refine⟨b,off,len,m,V,rfl,hl,hle, ?_,fun i hi j hj=>?_⟩
  · have h00':w.cell? ⟨b,off,none⟩=some (.int .i64 (V 0 0)):=by simpa [Addr.add] using h00
    rcases Nat.lt_or_ge b w.heap.size with hlt | hge
    · exact hlt
    · simp [World.cell?,Array.getElem?_eq_none hge] at h00'
  · have:=hV i (by omega) j hj
    rwa [add_plain] at this

theorem satO_cameR {ρ:Asg} {w:World} {k:Nat} {A:Arr} (hl:A.xs.length≤(ρ k).cap) (h:∀ i x,A.xs[i]? = some x → ∀ j c,(A.enc x)[j]? = some c → ∃ v,w.cell? (adr ρ k (i * A.sz+j))=some v∧c.rel ρ v) :
    SatO ρ w k false (.arr A) where
  wf:=hl
  at_ i j c hc:=by
    rw [Sx.arr_cell?] at hc
    cases hx:A.xs[i]? with
    | none=>rw [hx] at hc; cases hc
    | some x=>rw [hx] at hc; exact h i x hx j c hc
  room h:=by cases h
  off0 h:=by cases h
  keys Φ h:=by cases h

theorem key_sl {α:Type} {H:Type} {enc:TypeId × Value → H} {P:Program} {w:World} {held:Bool} {t e n fuel:Nat} {a:Value} {x:DataW H × List MemPlace} (f:α → List Int) (hf:∀ x,(f x).length=n) (mk:(Nat → Int) → α)
    (hmk:∀ V j z,(f (mk V))[j]? = some z → j < n∧z=V j)
    (ht:P.underlying t=some (.slice e)) (he:AllI P e n) (hpos:0 < n) (hby:1≤P.bytesOf e) (hw:∀ y ∈ x.1.weights P t,y≤reachBytes)
    (h:DataW.trod enc P w 0 (fun _=>true) held fuel t [a]=some x) (k:Nat) :
    ∃ (xs:List α) (r:Rg),xs.length≤reachBytes∧∀ ρ:Asg,ρ k=r → (SC.s k 0 xs.length n).rel ρ a∧SatO ρ w k false (.arr (aRec n f hf xs))∧(0 < r.cap → r.blk < w.heap.size):=by
  rcases open_slI ht he hpos hby hw h with ⟨a0,ha⟩ | ⟨bb,off,len,cap,V,ha,hle,hlr,hblk,hcell⟩
  · simp at ha; subst ha
    exact⟨[],⟨0,0,0⟩,Nat.zero_le _,fun ρ hρ=>⟨⟨a0,by rw [hρ]; rfl,by rw [hρ]; exact Nat.le_refl _,fun h=>by rw [hρ] at h; cases h⟩,satO_cameR (Nat.zero_le _) (fun i x hx=>by cases hx),fun h=>by cases h⟩⟩
  · simp at ha; subst ha
    have hlen:((List.range len).map fun i=>mk (V i)).length=len:=by simp
    refine⟨(List.range len).map fun i=>mk (V i),⟨bb,off,cap⟩,by rw [hlen]; exact hlr,fun ρ hρ=>⟨?_,satO_cameR ?_ ?_,fun _=>hblk⟩⟩
    · rw [hlen]
      exact⟨_,by rw [hρ]; rfl,by rw [hρ]; show 0+len≤cap; omega,fun _=>by simp [adr,hρ]⟩
    · show ((List.range len).map fun i=>mk (V i)).length≤_
      rw [hlen,hρ]; exact hle
    · intro i x hx j c hc
      have hx:((List.range len).map fun i=>mk (V i))[i]? = some x:=hx
      rw [List.getElem?_map] at hx
      obtain ⟨i',hi',rfl⟩:=Option.map_eq_some_iff.1 hx
      obtain ⟨hil,hie⟩:=List.getElem?_eq_some_iff.1 hi'
      have hil:i < len:=by simpa using hil
      have hie:i'=i:=by simpa using hie.symm
      subst hie
      have hc:(encI (f (mk (V i'))))[j]? = some c:=hc
      obtain ⟨z,hz,rfl⟩:=encI_get hc
      obtain ⟨hj,rfl⟩:=hmk (V i') j z hz
      show ∃ v,w.cell? (adr ρ k (i' * n+j))=some v∧_
      rw [show adr ρ k (i' * n+j)=⟨bb,off+(i' * n+j),none⟩ from by simp [adr,hρ]]
      exact⟨_,hcell i' hil j hj,rfl⟩

end Sx
end Go

