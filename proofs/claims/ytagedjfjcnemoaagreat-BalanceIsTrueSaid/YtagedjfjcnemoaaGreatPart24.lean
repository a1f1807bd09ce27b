/-
  A part of the proof that a law answers true: lemmas of a symbolic walk, plain functions, or contracts of the functions walked (Ri, Rl). Conditions: none.
-/
import Derived.Test.YtagedjfjcnemoaaGreatPart23
set_option maxRecDepth 100000
set_option linter.unusedVariables false
set_option linter.unusedSimpArgs false
namespace Go.Proofs
open Go.Sx

theorem errF_cons (seen:List Int) (p:Int × Bool) (r:List (Int × Bool)):errF seen (p :: r)=bif !p.2 then 1 else bif seen.contains p.1 then 6 else errF (seen ++ [p.1]) r:=by cases p; rfl

theorem find_zero {bs:List Bal} (hv:∀ b ∈ bs,validF b=true) (id:Int):((findD bs id).id == 0)=!hasB bs id:=by
 cases hh:hasB bs id with
 | true =>
  obtain ⟨b,hb,_,_,e⟩:=findB_some hh
  rw [e]
  have:=valid_bd (hv b hb)
  have h0:(b.id == 0)=false:=by
   rw [← Bool.not_eq_true,beq_iff_eq]; omega
  rw [h0]; rfl
 | false =>
  unfold findD
  unfold hasB at hh
  cases hf:findB bs id with
  | some b=>rw [hf] at hh; cases hh
  | none=>rfl

theorem rReadings_t (r:Rd) (hs:Sml r) (hv:∀ b ∈ r.bs,validF b=true):Triple Tryz.prog 116 [rdA r] (rdH r) 4 (iv .i64 (errF [] (rdErrs r))) []:=by
 have hE:errF [] (rdErrs r)=errF [] (r.cs.map (chkP r.bs) ++ (r.ns.map (ntcP r.bs) ++ r.ws.map (wghP r.bs))):=rfl
 generalize errF [] (rdErrs r)=E at *
 obtain ⟨h1,h2,h3,h4⟩:=hs
 obtain ⟨bs,cs,ns,ws⟩:=r
 dsimp only at *
 have hz:=find_zero hv
 have hbs:bs.length≤1000000:=by omega
 generalize hTw:ws.map (wghP bs)=Tw at hE
 generalize hTn:ns.map (ntcP bs) ++ Tw=Tn at hE
 refine triple_of tB_ok Tryz.func116 rfl Tryz.call116 rfl ?_
 intro ρ w hH
 conv=>whnf
 refine loop_step tB_ok (G:=Nat) 1 [] (fun i=>[(4,iv .i64 i),(3, .c (.s 5 0 ((cs.take i).map Chk.id).length 1))]) (fun i=>[(5,true, .arr (aInt ((cs.take i).map Chk.id)))])
  (fun i=>i≤cs.length∧errF ((cs.take i).map Chk.id) ((cs.drop i).map (chkP bs) ++ Tn)=E) (fun i=>cs.length - i) ?_
 conv=>whnf
 refine⟨⟨0,⟨Nat.zero_le _,hE.symm⟩, ?_⟩, ?_⟩
 ·conv=>whnf
  repeat'(first|exact trivial|exact rfl|refine And.intro ?_ ?_|((conv=>whnf);first|exact trivial|exact rfl|refine And.intro ?_ ?_|omega))
 rintro i ⟨hi,hT⟩ ρ1 t1 hρ1
 try dsimp only at hT
 conv=>whnf
 refine⟨fun hc=>?_,fun hc=>?_⟩
 ·have hlt:i < cs.length:=by simpa using hc
  rw [List.drop_eq_getElem_cons hlt,List.map_cons,List.cons_append,errF_cons] at hT
  have e1:(chkP bs cs[i]).1=cs[i].id:=rfl
  have e2:(chkP bs cs[i]).2=(withinF cs[i].id 1 1099511627776 && (hasB bs cs[i].bal && (withinF cs[i].tick 0 1000000 && (withinF cs[i].mass 0 (findD bs cs[i].bal).cap && withinF cs[i].shown 0 10000000)))):=rfl
  rw [e1,e2] at hT
  clear e1 e2
  have hM:( (cs.take i).map Chk.id).length≤100000:=by simp only [List.length_append,List.length_map,List.length_take]; omega
  have hnx: (cs.take (i+1)).map Chk.id=( (cs.take i).map Chk.id) ++ [Chk.id cs[i]]:=by rw [take_snoc hlt,List.map_append]; simp
  generalize  (cs.take i).map Chk.id=M at *
  have hz0:=hz cs[i].bal
  have hF:=rFind_t ⟨bs,cs,ns,ws⟩ cs[i].bal hbs
  try dsimp only at hF
  generalize hasB bs cs[i].bal=ok at *
  generalize findD bs cs[i].bal=d at *
  conv=>whnf
  refine⟨i,rfl,hlt,hlt, ?_⟩
  conv=>whnf
  refine call_step hF rfl rfl ?_
  conv=>whnf
  refine⟨?_, ?_, ?_⟩
  iterate 2 · repeat'(first|exact trivial|exact rfl|refine And.intro ?_ ?_|((conv=>whnf);first|exact trivial|exact rfl|refine And.intro ?_ ?_|omega))
  conv=>whnf
  refine call_step (rIn_t cs[i].id 1 1099511627776) rfl rfl ?_
  conv=>whnf
  refine⟨?_, ?_, ?_⟩
  iterate 2 · repeat'(first|exact trivial|exact rfl|refine And.intro ?_ ?_|((conv=>whnf);first|exact trivial|exact rfl|refine And.intro ?_ ?_|omega))
  conv=>whnf
  refine⟨fun hc=>?_,fun hc=>?_⟩
  ·have hv:withinF cs[i].id 1 1099511627776=false:=by simpa using (show (!withinF cs[i].id 1 1099511627776)=true from hc)
   rw [hv,Bool.false_and,Bool.not_false,cond_true] at hT
   subst hT
   conv=>whnf
   repeat'(first|exact trivial|exact rfl|refine And.intro ?_ ?_|((conv=>whnf);first|exact trivial|exact rfl|refine And.intro ?_ ?_|omega))
  have hv:withinF cs[i].id 1 1099511627776=true:=by simpa using (show (!withinF cs[i].id 1 1099511627776)=false from hc)
  rw [hv,Bool.true_and] at hT
  clear hv hc
  conv=>whnf
  refine⟨fun hc=>?_,fun hc=>?_⟩
  ·have hv:ok=false:=by
    have:(d.id == 0)=true:=hc
    rw [hz0] at this
    simpa using this
   rw [hv,Bool.false_and,Bool.not_false,cond_true] at hT
   subst hT
   conv=>whnf
   repeat'(first|exact trivial|exact rfl|refine And.intro ?_ ?_|((conv=>whnf);first|exact trivial|exact rfl|refine And.intro ?_ ?_|omega))
  have hv:ok=true:=by
   have:(d.id == 0)=false:=hc
   rw [hz0] at this
   simpa using this
  rw [hv,Bool.true_and] at hT
  clear hv hc
  conv=>whnf
  refine call_step (rIn_t cs[i].tick 0 1000000) rfl rfl ?_
  conv=>whnf
  refine⟨?_, ?_, ?_⟩
  iterate 2 · repeat'(first|exact trivial|exact rfl|refine And.intro ?_ ?_|((conv=>whnf);first|exact trivial|exact rfl|refine And.intro ?_ ?_|omega))
  conv=>whnf
  refine⟨fun hc=>?_,fun hc=>?_⟩
  ·have hv:withinF cs[i].tick 0 1000000=false:=by simpa using (show (!withinF cs[i].tick 0 1000000)=true from hc)
   rw [hv,Bool.false_and,Bool.not_false,cond_true] at hT
   subst hT
   conv=>whnf
   repeat'(first|exact trivial|exact rfl|refine And.intro ?_ ?_|((conv=>whnf);first|exact trivial|exact rfl|refine And.intro ?_ ?_|omega))
  have hv:withinF cs[i].tick 0 1000000=true:=by simpa using (show (!withinF cs[i].tick 0 1000000)=false from hc)
  rw [hv,Bool.true_and] at hT
  clear hv hc
  conv=>whnf
  refine call_step (rIn_t cs[i].mass 0 d.cap) rfl rfl ?_
  conv=>whnf
  refine⟨?_, ?_, ?_⟩
  iterate 2 · repeat'(first|exact trivial|exact rfl|refine And.intro ?_ ?_|((conv=>whnf);first|exact trivial|exact rfl|refine And.intro ?_ ?_|omega))
  conv=>whnf
  refine⟨fun hc=>?_,fun hc=>?_⟩
  ·have hv:withinF cs[i].mass 0 d.cap=false:=by simpa using (show (!withinF cs[i].mass 0 d.cap)=true from hc)
   rw [hv,Bool.false_and,Bool.not_false,cond_true] at hT
   subst hT
   conv=>whnf
   repeat'(first|exact trivial|exact rfl|refine And.intro ?_ ?_|((conv=>whnf);first|exact trivial|exact rfl|refine And.intro ?_ ?_|omega))
  have hv:withinF cs[i].mass 0 d.cap=true:=by simpa using (show (!withinF cs[i].mass 0 d.cap)=false from hc)
  rw [hv,Bool.true_and] at hT
  clear hv hc
  conv=>whnf
  refine call_step (rIn_t cs[i].shown 0 10000000) rfl rfl ?_
  conv=>whnf
  refine⟨?_, ?_, ?_⟩
  iterate 2 · repeat'(first|exact trivial|exact rfl|refine And.intro ?_ ?_|((conv=>whnf);first|exact trivial|exact rfl|refine And.intro ?_ ?_|omega))
  conv=>whnf
  refine⟨fun hc=>?_,fun hc=>?_⟩
  ·have hv:withinF cs[i].shown 0 10000000=false:=by simpa using (show (!withinF cs[i].shown 0 10000000)=true from hc)
   rw [hv, Bool.not_false,cond_true] at hT
   subst hT
   conv=>whnf
   repeat'(first|exact trivial|exact rfl|refine And.intro ?_ ?_|((conv=>whnf);first|exact trivial|exact rfl|refine And.intro ?_ ?_|omega))
  have hv:withinF cs[i].shown 0 10000000=true:=by simpa using (show (!withinF cs[i].shown 0 10000000)=false from hc)
  rw [hv,Bool.not_true,cond_false] at hT
  clear hv hc
  conv=>whnf
  refine call_step (rHas_t M cs[i].id (by omega)) rfl rfl ?_
  conv=>whnf
  refine⟨?_, ?_, ?_⟩
  iterate 2 · repeat'(first|exact trivial|exact rfl|refine And.intro ?_ ?_|((conv=>whnf);first|exact trivial|exact rfl|refine And.intro ?_ ?_|omega))
  conv=>whnf
  refine⟨fun hc=>?_,fun hc=>?_⟩
  ·rw [show M.contains cs[i].id=true from hc,cond_true] at hT
   subst hT
   conv=>whnf
   repeat'(first|exact trivial|exact rfl|refine And.intro ?_ ?_|((conv=>whnf);first|exact trivial|exact rfl|refine And.intro ?_ ?_|omega))
  rw [show M.contains cs[i].id=false from hc,cond_false] at hT
  conv=>whnf
  refine bs_step tB_ok (aInt [cs[i].id]) rfl rfl ?_
  conv=>whnf
  refine⟨⟨rfl,(by repeat'(first|exact trivial|exact rfl|refine And.intro ?_ ?_|((conv=>whnf);first|exact trivial|exact rfl|refine And.intro ?_ ?_|omega)))⟩, ?_⟩
  conv=>whnf
  refine app_step tB_ok (aInt M) [cs[i].id] (fun _=>rfl) rfl rfl rfl rfl ?_
  conv=>whnf
  refine⟨⟨rfl,rfl,Nat.le_refl _,Nat.le_refl _,by show (M.length+1) * 9≤_; omega⟩, ?_⟩
  conv=>whnf
  refine⟨_,wrapId ⟨by omega,by omega⟩, ?_⟩
  refine⟨i+1,⟨hlt, ?_⟩,by show cs.length - (i+1) < cs.length - i; omega, ?_⟩
  ·try dsimp only
   rw [hnx]; exact hT
  try dsimp only
  rw [hnx]
  conv=>whnf
  refine⟨rfl, ?_⟩
  conv=>whnf
  repeat'(first|exact trivial|exact rfl|refine And.intro ?_ ?_|((conv=>whnf);first|exact trivial|exact rfl|refine And.intro ?_ ?_|omega))
  all_goals first | exact (congrArg aInt app1.symm:_) | exact (congrArg aInt app1:_) | simp
 have hie:i=cs.length:=by simp at hc; omega
 subst hie
 rw [List.take_length,List.drop_length] at hT
 rw [List.take_length]
 have hL:(cs.map Chk.id).length≤100000:=by rw [List.length_map]; omega
 have hE1:errF (cs.map Chk.id) Tn=E:=hT
 generalize cs.map Chk.id=L1 at *
 rw [← hTn] at hE1
 clear hT hTn hE
 conv=>whnf
 refine loop_step tB_ok (G:=Nat) 1 [5] (fun i=>[(7,iv .i64 i),(3, .c (.s 6 0 (L1 ++ (ns.take i).map Ntc.id).length 1))]) (fun i=>[(6,true, .arr (aInt (L1 ++ (ns.take i).map Ntc.id)))])
  (fun i=>i≤ns.length∧errF (L1 ++ (ns.take i).map Ntc.id) ((ns.drop i).map (ntcP bs) ++ Tw)=E) (fun i=>ns.length - i) ?_
 conv=>whnf
 refine⟨⟨0,⟨Nat.zero_le _,by simpa using hE1⟩, ?_⟩, ?_⟩
 ·conv=>whnf
  repeat'(first|exact trivial|exact rfl|refine And.intro ?_ ?_|((conv=>whnf);first|exact trivial|exact rfl|refine And.intro ?_ ?_|omega))
  all_goals first | (show aInt L1=aInt (L1 ++ []); rw [List.append_nil]) | simp
 rintro i ⟨hi,hT⟩ ρ1 t1 hρ1
 try dsimp only at hT
 conv=>whnf
 refine⟨fun hc=>?_,fun hc=>?_⟩
 ·have hlt:i < ns.length:=by simpa using hc
  rw [List.drop_eq_getElem_cons hlt,List.map_cons,List.cons_append,errF_cons] at hT
  have e1:(ntcP bs ns[i]).1=ns[i].id:=rfl
  have e2:(ntcP bs ns[i]).2=(withinF ns[i].id 1 1099511627776 && (hasB bs ns[i].bal && (insideF ns[i].wlo ns[i].whi 0 1000000 && insideF ns[i].slo ns[i].shi (-1000000) 1000000))):=rfl
  rw [e1,e2] at hT
  clear e1 e2
  have hM:(L1 ++ (ns.take i).map Ntc.id).length≤200000:=by simp only [List.length_append,List.length_map,List.length_take]; omega
  have hnx:L1 ++ (ns.take (i+1)).map Ntc.id=(L1 ++ (ns.take i).map Ntc.id) ++ [Ntc.id ns[i]]:=by rw [take_snoc hlt,List.map_append]; simp
  generalize L1 ++ (ns.take i).map Ntc.id=M at *
  have hz0:=hz ns[i].bal
  have hF:=rFind_t ⟨bs,cs,ns,ws⟩ ns[i].bal hbs
  try dsimp only at hF
  generalize hasB bs ns[i].bal=ok at *
  generalize findD bs ns[i].bal=d at *
  conv=>whnf
  refine⟨i,rfl,hlt,hlt, ?_⟩
  conv=>whnf
  refine call_step hF rfl rfl ?_
  conv=>whnf
  refine⟨?_, ?_, ?_⟩
  iterate 2 · repeat'(first|exact trivial|exact rfl|refine And.intro ?_ ?_|((conv=>whnf);first|exact trivial|exact rfl|refine And.intro ?_ ?_|omega))
  conv=>whnf
  refine call_step (rIn_t ns[i].id 1 1099511627776) rfl rfl ?_
  conv=>whnf
  refine⟨?_, ?_, ?_⟩
  iterate 2 · repeat'(first|exact trivial|exact rfl|refine And.intro ?_ ?_|((conv=>whnf);first|exact trivial|exact rfl|refine And.intro ?_ ?_|omega))
  conv=>whnf
  refine⟨fun hc=>?_,fun hc=>?_⟩
  ·have hv:withinF ns[i].id 1 1099511627776=false:=by simpa using (show (!withinF ns[i].id 1 1099511627776)=true from hc)
   rw [hv,Bool.false_and,Bool.not_false,cond_true] at hT
   subst hT
   conv=>whnf
   repeat'(first|exact trivial|exact rfl|refine And.intro ?_ ?_|((conv=>whnf);first|exact trivial|exact rfl|refine And.intro ?_ ?_|omega))
  have hv:withinF ns[i].id 1 1099511627776=true:=by simpa using (show (!withinF ns[i].id 1 1099511627776)=false from hc)
  rw [hv,Bool.true_and] at hT
  clear hv hc
  conv=>whnf
  refine⟨fun hc=>?_,fun hc=>?_⟩
  ·have hv:ok=false:=by
    have:(d.id == 0)=true:=hc
    rw [hz0] at this
    simpa using this
   rw [hv,Bool.false_and,Bool.not_false,cond_true] at hT
   subst hT
   conv=>whnf
   repeat'(first|exact trivial|exact rfl|refine And.intro ?_ ?_|((conv=>whnf);first|exact trivial|exact rfl|refine And.intro ?_ ?_|omega))
  have hv:ok=true:=by
   have:(d.id == 0)=false:=hc
   rw [hz0] at this
   simpa using this
  rw [hv,Bool.true_and] at hT
  clear hv hc
  conv=>whnf
  refine call_step (rSpan_t ns[i].wlo ns[i].whi 0 1000000) rfl rfl ?_
  conv=>whnf
  refine⟨?_, ?_, ?_⟩
  iterate 2 · repeat'(first|exact trivial|exact rfl|refine And.intro ?_ ?_|((conv=>whnf);first|exact trivial|exact rfl|refine And.intro ?_ ?_|omega))
  conv=>whnf
  refine⟨fun hc=>?_,fun hc=>?_⟩
  ·have hv:insideF ns[i].wlo ns[i].whi 0 1000000=false:=by simpa using (show (!insideF ns[i].wlo ns[i].whi 0 1000000)=true from hc)
   rw [hv,Bool.false_and,Bool.not_false,cond_true] at hT
   subst hT
   conv=>whnf
   repeat'(first|exact trivial|exact rfl|refine And.intro ?_ ?_|((conv=>whnf);first|exact trivial|exact rfl|refine And.intro ?_ ?_|omega))
  have hv:insideF ns[i].wlo ns[i].whi 0 1000000=true:=by simpa using (show (!insideF ns[i].wlo ns[i].whi 0 1000000)=false from hc)
  rw [hv,Bool.true_and] at hT
  clear hv hc
  conv=>whnf
  refine call_step (rSpan_t ns[i].slo ns[i].shi (-1000000) 1000000) rfl rfl ?_
  conv=>whnf
  refine⟨?_, ?_, ?_⟩
  iterate 2 · repeat'(first|exact trivial|exact rfl|refine And.intro ?_ ?_|((conv=>whnf);first|exact trivial|exact rfl|refine And.intro ?_ ?_|omega))
  conv=>whnf
  refine⟨fun hc=>?_,fun hc=>?_⟩
  ·have hv:insideF ns[i].slo ns[i].shi (-1000000) 1000000=false:=by simpa using (show (!insideF ns[i].slo ns[i].shi (-1000000) 1000000)=true from hc)
   rw [hv, Bool.not_false,cond_true] at hT
   subst hT
   conv=>whnf
   repeat'(first|exact trivial|exact rfl|refine And.intro ?_ ?_|((conv=>whnf);first|exact trivial|exact rfl|refine And.intro ?_ ?_|omega))
  have hv:insideF ns[i].slo ns[i].shi (-1000000) 1000000=true:=by simpa using (show (!insideF ns[i].slo ns[i].shi (-1000000) 1000000)=false from hc)
  rw [hv,Bool.not_true,cond_false] at hT
  clear hv hc
  conv=>whnf
  refine call_step (rHas_t M ns[i].id (by omega)) rfl rfl ?_
  conv=>whnf
  refine⟨?_, ?_, ?_⟩
  iterate 2 · repeat'(first|exact trivial|exact rfl|refine And.intro ?_ ?_|((conv=>whnf);first|exact trivial|exact rfl|refine And.intro ?_ ?_|omega))
  conv=>whnf
  refine⟨fun hc=>?_,fun hc=>?_⟩
  ·rw [show M.contains ns[i].id=true from hc,cond_true] at hT
   subst hT
   conv=>whnf
   repeat'(first|exact trivial|exact rfl|refine And.intro ?_ ?_|((conv=>whnf);first|exact trivial|exact rfl|refine And.intro ?_ ?_|omega))
  rw [show M.contains ns[i].id=false from hc,cond_false] at hT
  conv=>whnf
  refine bs_step tB_ok (aInt [ns[i].id]) rfl rfl ?_
  conv=>whnf
  refine⟨⟨rfl,(by repeat'(first|exact trivial|exact rfl|refine And.intro ?_ ?_|((conv=>whnf);first|exact trivial|exact rfl|refine And.intro ?_ ?_|omega)))⟩, ?_⟩
  conv=>whnf
  refine app_step tB_ok (aInt M) [ns[i].id] (fun _=>rfl) rfl rfl rfl rfl ?_
  conv=>whnf
  refine⟨⟨rfl,rfl,Nat.le_refl _,Nat.le_refl _,by show (M.length+1) * 9≤_; omega⟩, ?_⟩
  conv=>whnf
  refine⟨_,wrapId ⟨by omega,by omega⟩, ?_⟩
  refine⟨i+1,⟨hlt, ?_⟩,by show ns.length - (i+1) < ns.length - i; omega, ?_⟩
  ·try dsimp only
   rw [hnx]; exact hT
  try dsimp only
  rw [hnx]
  conv=>whnf
  refine⟨rfl, ?_⟩
  conv=>whnf
  repeat'(first|exact trivial|exact rfl|refine And.intro ?_ ?_|((conv=>whnf);first|exact trivial|exact rfl|refine And.intro ?_ ?_|omega))
  all_goals first | exact (congrArg aInt app1.symm:_) | exact (congrArg aInt app1:_) | simp
 have hie:i=ns.length:=by simp at hc; omega
 subst hie
 rw [List.take_length,List.drop_length] at hT
 rw [List.take_length]
 have hL2:(L1 ++ ns.map Ntc.id).length≤200000:=by rw [List.length_append,List.length_map]; omega
 have hE2:errF (L1 ++ ns.map Ntc.id) Tw=E:=hT
 generalize L1 ++ ns.map Ntc.id=L2 at *
 rw [← hTw] at hE2
 clear hT hTw hE1
 conv=>whnf
 refine loop_step tB_ok (G:=Nat) 1 [6] (fun i=>[(10,iv .i64 i),(3, .c (.s 7 0 (L2 ++ (ws.take i).map Wgh.id).length 1))]) (fun i=>[(7,true, .arr (aInt (L2 ++ (ws.take i).map Wgh.id)))])
  (fun i=>i≤ws.length∧errF (L2 ++ (ws.take i).map Wgh.id) ((ws.drop i).map (wghP bs) ++ [])=E) (fun i=>ws.length - i) ?_
 conv=>whnf
 refine⟨⟨0,⟨Nat.zero_le _,by simpa using hE2⟩, ?_⟩, ?_⟩
 ·conv=>whnf
  repeat'(first|exact trivial|exact rfl|refine And.intro ?_ ?_|((conv=>whnf);first|exact trivial|exact rfl|refine And.intro ?_ ?_|omega))
  all_goals first | (show aInt L2=aInt (L2 ++ []); rw [List.append_nil]) | simp
 rintro i ⟨hi,hT⟩ ρ1 t1 hρ1
 try dsimp only at hT
 conv=>whnf
 refine⟨fun hc=>?_,fun hc=>?_⟩
 ·have hlt:i < ws.length:=by simpa using hc
  rw [List.drop_eq_getElem_cons hlt,List.map_cons,List.cons_append,errF_cons] at hT
  have e1:(wghP bs ws[i]).1=ws[i].id:=rfl
  have e2:(wghP bs ws[i]).2=(withinF ws[i].id 1 1099511627776 && (hasB bs ws[i].bal && (withinF ws[i].tick 0 1000000 && (thgF ws[i].o && withinF ws[i].shown 0 10000000)))):=rfl
  rw [e1,e2] at hT
  clear e1 e2
  have hM:(L2 ++ (ws.take i).map Wgh.id).length≤300000:=by simp only [List.length_append,List.length_map,List.length_take]; omega
  have hnx:L2 ++ (ws.take (i+1)).map Wgh.id=(L2 ++ (ws.take i).map Wgh.id) ++ [Wgh.id ws[i]]:=by rw [take_snoc hlt,List.map_append]; simp
  generalize L2 ++ (ws.take i).map Wgh.id=M at *
  have hz0:=hz ws[i].bal
  have hF:=rFind_t ⟨bs,cs,ns,ws⟩ ws[i].bal hbs
  try dsimp only at hF
  generalize hasB bs ws[i].bal=ok at *
  generalize findD bs ws[i].bal=d at *
  conv=>whnf
  refine⟨i,rfl,hlt,hlt, ?_⟩
  conv=>whnf
  refine call_step hF rfl rfl ?_
  conv=>whnf
  refine⟨?_, ?_, ?_⟩
  iterate 2 · repeat'(first|exact trivial|exact rfl|refine And.intro ?_ ?_|((conv=>whnf);first|exact trivial|exact rfl|refine And.intro ?_ ?_|omega))
  conv=>whnf
  refine call_step (rObject_t ws[i].o) rfl rfl ?_
  conv=>whnf
  refine⟨?_, ?_, ?_⟩
  iterate 2 · repeat'(first|exact trivial|exact rfl|refine And.intro ?_ ?_|((conv=>whnf);first|exact trivial|exact rfl|refine And.intro ?_ ?_|omega))
  conv=>whnf
  refine call_step (rIn_t ws[i].id 1 1099511627776) rfl rfl ?_
  conv=>whnf
  refine⟨?_, ?_, ?_⟩
  iterate 2 · repeat'(first|exact trivial|exact rfl|refine And.intro ?_ ?_|((conv=>whnf);first|exact trivial|exact rfl|refine And.intro ?_ ?_|omega))
  conv=>whnf
  refine⟨fun hc=>?_,fun hc=>?_⟩
  ·have hv:withinF ws[i].id 1 1099511627776=false:=by simpa using (show (!withinF ws[i].id 1 1099511627776)=true from hc)
   rw [hv,Bool.false_and,Bool.not_false,cond_true] at hT
   subst hT
   conv=>whnf
   repeat'(first|exact trivial|exact rfl|refine And.intro ?_ ?_|((conv=>whnf);first|exact trivial|exact rfl|refine And.intro ?_ ?_|omega))
  have hv:withinF ws[i].id 1 1099511627776=true:=by simpa using (show (!withinF ws[i].id 1 1099511627776)=false from hc)
  rw [hv,Bool.true_and] at hT
  clear hv hc
  conv=>whnf
  refine⟨fun hc=>?_,fun hc=>?_⟩
  ·have hv:ok=false:=by
    have:(d.id == 0)=true:=hc
    rw [hz0] at this
    simpa using this
   rw [hv,Bool.false_and,Bool.not_false,cond_true] at hT
   subst hT
   conv=>whnf
   repeat'(first|exact trivial|exact rfl|refine And.intro ?_ ?_|((conv=>whnf);first|exact trivial|exact rfl|refine And.intro ?_ ?_|omega))
  have hv:ok=true:=by
   have:(d.id == 0)=false:=hc
   rw [hz0] at this
   simpa using this
  rw [hv,Bool.true_and] at hT
  clear hv hc
  conv=>whnf
  refine call_step (rIn_t ws[i].tick 0 1000000) rfl rfl ?_
  conv=>whnf
  refine⟨?_, ?_, ?_⟩
  iterate 2 · repeat'(first|exact trivial|exact rfl|refine And.intro ?_ ?_|((conv=>whnf);first|exact trivial|exact rfl|refine And.intro ?_ ?_|omega))
  conv=>whnf
  refine⟨fun hc=>?_,fun hc=>?_⟩
  ·have hv:withinF ws[i].tick 0 1000000=false:=by simpa using (show (!withinF ws[i].tick 0 1000000)=true from hc)
   rw [hv,Bool.false_and,Bool.not_false,cond_true] at hT
   subst hT
   conv=>whnf
   repeat'(first|exact trivial|exact rfl|refine And.intro ?_ ?_|((conv=>whnf);first|exact trivial|exact rfl|refine And.intro ?_ ?_|omega))
  have hv:withinF ws[i].tick 0 1000000=true:=by simpa using (show (!withinF ws[i].tick 0 1000000)=false from hc)
  rw [hv,Bool.true_and] at hT
  clear hv hc
  conv=>whnf
  refine⟨fun hc=>?_,fun hc=>?_⟩
  ·have hv:thgF ws[i].o=false:=by simpa using (show (!thgF ws[i].o)=true from hc)
   rw [hv,Bool.false_and,Bool.not_false,cond_true] at hT
   subst hT
   conv=>whnf
   repeat'(first|exact trivial|exact rfl|refine And.intro ?_ ?_|((conv=>whnf);first|exact trivial|exact rfl|refine And.intro ?_ ?_|omega))
  have hv:thgF ws[i].o=true:=by simpa using (show (!thgF ws[i].o)=false from hc)
  rw [hv,Bool.true_and] at hT
  clear hv hc
  conv=>whnf
  refine call_step (rIn_t ws[i].shown 0 10000000) rfl rfl ?_
  conv=>whnf
  refine⟨?_, ?_, ?_⟩
  iterate 2 · repeat'(first|exact trivial|exact rfl|refine And.intro ?_ ?_|((conv=>whnf);first|exact trivial|exact rfl|refine And.intro ?_ ?_|omega))
  conv=>whnf
  refine⟨fun hc=>?_,fun hc=>?_⟩
  ·have hv:withinF ws[i].shown 0 10000000=false:=by simpa using (show (!withinF ws[i].shown 0 10000000)=true from hc)
   rw [hv, Bool.not_false,cond_true] at hT
   subst hT
   conv=>whnf
   repeat'(first|exact trivial|exact rfl|refine And.intro ?_ ?_|((conv=>whnf);first|exact trivial|exact rfl|refine And.intro ?_ ?_|omega))
  have hv:withinF ws[i].shown 0 10000000=true:=by simpa using (show (!withinF ws[i].shown 0 10000000)=false from hc)
  rw [hv,Bool.not_true,cond_false] at hT
  clear hv hc
  conv=>whnf
  refine call_step (rHas_t M ws[i].id (by omega)) rfl rfl ?_
  conv=>whnf
  refine⟨?_, ?_, ?_⟩
  iterate 2 · repeat'(first|exact trivial|exact rfl|refine And.intro ?_ ?_|((conv=>whnf);first|exact trivial|exact rfl|refine And.intro ?_ ?_|omega))
  conv=>whnf
  refine⟨fun hc=>?_,fun hc=>?_⟩
  ·rw [show M.contains ws[i].id=true from hc,cond_true] at hT
   subst hT
   conv=>whnf
   repeat'(first|exact trivial|exact rfl|refine And.intro ?_ ?_|((conv=>whnf);first|exact trivial|exact rfl|refine And.intro ?_ ?_|omega))
  rw [show M.contains ws[i].id=false from hc,cond_false] at hT
  conv=>whnf
  refine bs_step tB_ok (aInt [ws[i].id]) rfl rfl ?_
  conv=>whnf
  refine⟨⟨rfl,(by repeat'(first|exact trivial|exact rfl|refine And.intro ?_ ?_|((conv=>whnf);first|exact trivial|exact rfl|refine And.intro ?_ ?_|omega)))⟩, ?_⟩
  conv=>whnf
  refine app_step tB_ok (aInt M) [ws[i].id] (fun _=>rfl) rfl rfl rfl rfl ?_
  conv=>whnf
  refine⟨⟨rfl,rfl,Nat.le_refl _,Nat.le_refl _,by show (M.length+1) * 9≤_; omega⟩, ?_⟩
  conv=>whnf
  refine⟨_,wrapId ⟨by omega,by omega⟩, ?_⟩
  refine⟨i+1,⟨hlt, ?_⟩,by show ws.length - (i+1) < ws.length - i; omega, ?_⟩
  ·try dsimp only
   rw [hnx]; exact hT
  try dsimp only
  rw [hnx]
  conv=>whnf
  refine⟨rfl, ?_⟩
  conv=>whnf
  repeat'(first|exact trivial|exact rfl|refine And.intro ?_ ?_|((conv=>whnf);first|exact trivial|exact rfl|refine And.intro ?_ ?_|omega))
  all_goals first | exact (congrArg aInt app1.symm:_) | exact (congrArg aInt app1:_) | simp
 have hie:i=ws.length:=by simp at hc; omega
 subst hie
 rw [List.drop_length] at hT
 have hT:(0:Int)=E:=hT
 subst hT
 conv=>whnf
 repeat'(first|exact trivial|exact rfl|refine And.intro ?_ ?_|((conv=>whnf);first|exact trivial|exact rfl|refine And.intro ?_ ?_|omega))

theorem rCheck_t (r:Rd) (hs:Sml r):Triple Tryz.prog 30 [rdA r] (rdH r) 4 (iv .i64 (checkR r)) []:=by
 have hR:checkR r=bif decide (8 < r.bs.length) || decide (100 < r.cs.length+r.ns.length+r.ws.length) then 2
  else bif errF [] (r.bs.map balP) == 0 then errF [] (rdErrs r) else errF [] (r.bs.map balP):=rfl
 have hRd:=rReadings_t r hs
 have hok:=errF_zero (l:=r.bs.map balP) (seen:=[])
 generalize checkR r=R at *
 generalize errF [] (rdErrs r)=E at *
 obtain ⟨s1,s2,s3,s4⟩:=hs
 obtain ⟨bs,cs,ns,ws⟩:=r
 dsimp only at *
 generalize hB:errF [] (bs.map balP)=B at *
 refine triple_of tB_ok Tryz.func30 rfl Tryz.call30 rfl ?_
 intro ρ w hH
 conv=>whnf
 refine⟨fun hc=>?_,fun hc=>?_⟩
 ·have h8:8 < bs.length:=by have:=of_decide_eq_true (show decide ((8:Int) < bs.length)=true from hc); omega
  rw [decide_eq_true h8,Bool.true_or,cond_true] at hR
  subst hR
  conv=>whnf
  repeat'(first|exact trivial|exact rfl|refine And.intro ?_ ?_|((conv=>whnf);first|exact trivial|exact rfl|refine And.intro ?_ ?_|omega))
 have h8:¬ 8 < bs.length:=by have:=of_decide_eq_false (show decide ((8:Int) < bs.length)=false from hc); omega
 conv=>whnf
 refine⟨((cs.length+ns.length:Nat):Int),(show IntKind.i64.wrap ((cs.length:Int)+ns.length)=((cs.length+ns.length:Nat):Int) by rw [wrapId ⟨by omega,by omega⟩]; omega), ?_⟩
 conv=>whnf
 refine⟨((cs.length+ns.length+ws.length:Nat):Int),(show IntKind.i64.wrap (((cs.length+ns.length:Nat):Int)+ws.length)=((cs.length+ns.length+ws.length:Nat):Int) by rw [wrapId ⟨by omega,by omega⟩]; omega), ?_⟩
 conv=>whnf
 refine⟨fun hc=>?_,fun hc=>?_⟩
 ·have h9:100 < cs.length+ns.length+ws.length:=by have:=of_decide_eq_true (show decide ((100:Int) < (cs.length+ns.length+ws.length:Nat))=true from hc); omega
  rw [decide_eq_true h9,Bool.or_true,cond_true] at hR
  subst hR
  conv=>whnf
  repeat'(first|exact trivial|exact rfl|refine And.intro ?_ ?_|((conv=>whnf);first|exact trivial|exact rfl|refine And.intro ?_ ?_|omega))
 have h9:¬ 100 < cs.length+ns.length+ws.length:=by have:=of_decide_eq_false (show decide ((100:Int) < (cs.length+ns.length+ws.length:Nat))=false from hc); omega
 rw [decide_eq_false h8,decide_eq_false h9,Bool.or_false,cond_false] at hR
 conv=>whnf
 refine loop_step tB_ok (G:=Nat) 1 [] (fun i=>[(4,iv .i64 i),(3, .c (.s 5 0 ((bs.take i).map Bal.id).length 1))]) (fun i=>[(5,true, .arr (aInt ((bs.take i).map Bal.id)))])
  (fun i=>i≤bs.length∧errF ((bs.take i).map Bal.id) ((bs.drop i).map balP)=B) (fun i=>bs.length - i) ?_
 conv=>whnf
 refine⟨⟨0,⟨Nat.zero_le _,hB⟩, ?_⟩, ?_⟩
 ·conv=>whnf
  repeat'(first|exact trivial|exact rfl|refine And.intro ?_ ?_|((conv=>whnf);first|exact trivial|exact rfl|refine And.intro ?_ ?_|omega))
 rintro i ⟨hi,hT⟩ ρ1 t1 hρ1
 conv=>whnf
 refine⟨fun hc=>?_,fun hc=>?_⟩
 ·have hlt:i < bs.length:=by simpa using hc
  rw [List.drop_eq_getElem_cons hlt,List.map_cons,errF_cons] at hT
  have e1:(balP bs[i]).1=bs[i].id:=rfl
  have e2:(balP bs[i]).2=validF bs[i]:=rfl
  rw [e1,e2] at hT
  have hM:((bs.take i).map Bal.id).length≤100000:=by rw [List.length_map,List.length_take]; omega
  have hnx:(bs.take (i+1)).map Bal.id=((bs.take i).map Bal.id) ++ [Bal.id bs[i]]:=by rw [take_snoc hlt,List.map_append]; rfl
  generalize (bs.take i).map Bal.id=M at *
  conv=>whnf
  refine⟨i,rfl,hlt,hlt, ?_⟩
  conv=>whnf
  refine call_step (rValid_t bs[i]) rfl rfl ?_
  conv=>whnf
  refine⟨?_, ?_, ?_⟩
  iterate 2 · repeat'(first|exact trivial|exact rfl|refine And.intro ?_ ?_|((conv=>whnf);first|exact trivial|exact rfl|refine And.intro ?_ ?_|omega))
  conv=>whnf
  refine⟨fun hc=>?_,fun hc=>?_⟩
  ·have hv:validF bs[i]=false:=by simpa using (show (!validF bs[i])=true from hc)
   rw [hv,Bool.not_false,cond_true] at hT
   subst hT
   have hR:R=1:=hR
   subst hR
   conv=>whnf
   repeat'(first|exact trivial|exact rfl|refine And.intro ?_ ?_|((conv=>whnf);first|exact trivial|exact rfl|refine And.intro ?_ ?_|omega))
  have hv:validF bs[i]=true:=by simpa using (show (!validF bs[i])=false from hc)
  rw [hv,Bool.not_true,cond_false] at hT
  conv=>whnf
  refine call_step (rHas_t M bs[i].id (by omega)) rfl rfl ?_
  conv=>whnf
  refine⟨?_, ?_, ?_⟩
  iterate 2 · repeat'(first|exact trivial|exact rfl|refine And.intro ?_ ?_|((conv=>whnf);first|exact trivial|exact rfl|refine And.intro ?_ ?_|omega))
  conv=>whnf
  refine⟨fun hc=>?_,fun hc=>?_⟩
  ·rw [show M.contains bs[i].id=true from hc,cond_true] at hT
   subst hT
   have hR:R=6:=hR
   subst hR
   conv=>whnf
   repeat'(first|exact trivial|exact rfl|refine And.intro ?_ ?_|((conv=>whnf);first|exact trivial|exact rfl|refine And.intro ?_ ?_|omega))
  rw [show M.contains bs[i].id=false from hc,cond_false] at hT
  conv=>whnf
  refine bs_step tB_ok (aInt [bs[i].id]) rfl rfl ?_
  conv=>whnf
  refine⟨⟨rfl,(by repeat'(first|exact trivial|exact rfl|refine And.intro ?_ ?_|((conv=>whnf);first|exact trivial|exact rfl|refine And.intro ?_ ?_|omega)))⟩, ?_⟩
  conv=>whnf
  refine app_step tB_ok (aInt M) [bs[i].id] (fun _=>rfl) rfl rfl rfl rfl ?_
  conv=>whnf
  refine⟨⟨rfl,rfl,Nat.le_refl _,Nat.le_refl _,by show (M.length+1) * 9≤_; omega⟩, ?_⟩
  conv=>whnf
  refine⟨_,wrapId ⟨by omega,by omega⟩, ?_⟩
  refine⟨i+1,⟨hlt, ?_⟩,by show bs.length - (i+1) < bs.length - i; omega, ?_⟩
  ·try dsimp only
   rw [hnx]; exact hT
  try dsimp only
  rw [hnx]
  conv=>whnf
  refine⟨rfl, ?_⟩
  conv=>whnf
  repeat'(first|exact trivial|exact rfl|refine And.intro ?_ ?_|((conv=>whnf);first|exact trivial|exact rfl|refine And.intro ?_ ?_|omega))
  all_goals first | exact (congrArg aInt app1.symm:_) | exact (congrArg aInt app1:_) | simp
 ·have hie:i=bs.length:=by simp at hc; omega
  subst hie
  rw [List.drop_length] at hT
  have hT:(0:Int)=B:=hT
  subst hT
  have hR:R=E:=hR
  subst hR
  have hv:∀ b ∈ bs,validF b=true:=fun b hb=>((hok.1 (by assumption)).1 (balP b) (List.mem_map.2 ⟨b,hb,rfl⟩)).1
  conv=>whnf
  refine call_step (hRd hv) rfl rfl ?_
  conv=>whnf
  refine⟨?_, ?_, ?_⟩
  iterate 2 · repeat'(first|exact trivial|exact rfl|refine And.intro ?_ ?_|((conv=>whnf);first|exact trivial|exact rfl|refine And.intro ?_ ?_|omega))
  conv=>whnf
  repeat'(first|exact trivial|exact rfl|refine And.intro ?_ ?_|((conv=>whnf);first|exact trivial|exact rfl|refine And.intro ?_ ?_|omega))

end Go.Proofs

namespace Go.Proofs
open Go.Sx

theorem rBefore_t (a b:Thg):Triple Tryz.prog 182 [svThg a,svThg b] [] 0 (bv (thgLt a b)) []:=by
 have e:thgLt a b=(decide (a.lot < b.lot) || (a.lot == b.lot && (decide (a.bale < b.bale) || (a.bale == b.bale && (decide (a.smp < b.smp) || (a.smp == b.smp && decide (a.st < b.st))))))):=rfl
 generalize thgLt a b=R at *
 refine triple_of tB_ok Tryz.func182 rfl Tryz.call182 rfl ?_
 intro ρ w hH
 conv=>whnf
 refine⟨fun hc=>?_,fun hc=>?_⟩
 ·have h1:¬ a.lot=b.lot:=by simpa using (show (a.lot != b.lot)=true from hc)
  conv=>whnf
  exact⟨(by rw [e]; simp [h1]:decide (a.lot < b.lot)=R),trivial⟩
 have h1:a.lot=b.lot:=by simpa using (show (a.lot != b.lot)=false from hc)
 conv=>whnf
 refine⟨fun hc=>?_,fun hc=>?_⟩
 ·have h2:¬ a.bale=b.bale:=by simpa using (show (a.bale != b.bale)=true from hc)
  conv=>whnf
  exact⟨(by rw [e]; simp [h1,h2]:decide (a.bale < b.bale)=R),trivial⟩
 have h2:a.bale=b.bale:=by simpa using (show (a.bale != b.bale)=false from hc)
 conv=>whnf
 refine⟨fun hc=>?_,fun hc=>?_⟩
 ·have h3:a.smp < b.smp:=of_decide_eq_true (show decide (a.smp < b.smp)=true from hc)
  conv=>whnf
  exact⟨(by rw [e]; simp [h1,h2,h3]:true=R),trivial⟩
 have h3:¬ a.smp < b.smp:=of_decide_eq_false (show decide (a.smp < b.smp)=false from hc)
 conv=>whnf
 refine⟨fun hc=>?_,fun hc=>?_⟩
 ·have h4:a.smp=b.smp:=by simpa using (show (a.smp == b.smp)=true from hc)
  conv=>whnf
  exact⟨(by rw [e]; simp [h1,h2,h4]:decide (a.st < b.st)=R),trivial⟩
 have h4:¬ a.smp=b.smp:=by simpa using (show (a.smp == b.smp)=false from hc)
 conv=>whnf
 exact⟨(by rw [e]; simp [h1,h2,h3,h4]:false=R),trivial⟩

theorem rEarlier_t (a b:Mom):Triple Tryz.prog 183 [svMom a,svMom b] [] 0 (bv (momLt a b)) []:=by
 have e:momLt a b=(decide (a.bal < b.bal) || (a.bal == b.bal && decide (a.tick < b.tick))):=rfl
 generalize momLt a b=R at *
 refine triple_of tB_ok Tryz.func183 rfl Tryz.call183 rfl ?_
 intro ρ w hH
 conv=>whnf
 refine⟨fun hc=>?_,fun hc=>?_⟩
 ·have h3:a.bal < b.bal:=of_decide_eq_true (show decide (a.bal < b.bal)=true from hc)
  conv=>whnf
  exact⟨(by rw [e]; simp [h3]:true=R),trivial⟩
 have h3:¬ a.bal < b.bal:=of_decide_eq_false (show decide (a.bal < b.bal)=false from hc)
 conv=>whnf
 refine⟨fun hc=>?_,fun hc=>?_⟩
 ·have h4:a.bal=b.bal:=by simpa using (show (a.bal == b.bal)=true from hc)
  conv=>whnf
  exact⟨(by rw [e]; simp [h4]:decide (a.tick < b.tick)=R),trivial⟩
 have h4:¬ a.bal=b.bal:=by simpa using (show (a.bal == b.bal)=false from hc)
 conv=>whnf
 exact⟨(by rw [e]; simp [h3,h4]:false=R),trivial⟩

def insQ {α:Type} [DecidableEq α] (lt:α → α → Bool) (done:Bool) (out:List α) (l:List α) (x:α):List α:=bif done then out ++ l else out ++ insS lt l x

theorem insQ_done {α:Type} [DecidableEq α] {lt:α → α → Bool} {out l:List α} {x y:α}:insQ lt true out (y :: l) x=insQ lt true (out ++ [y]) l x:=by simp [insQ]
theorem insQ_same {α:Type} [DecidableEq α] {lt:α → α → Bool} {out l:List α} {x:α}:insQ lt false out (x :: l) x=insQ lt true (out ++ [x]) l x:=by simp [insQ,insS]
theorem insQ_late {α:Type} [DecidableEq α] {lt:α → α → Bool} {out l:List α} {x y:α} (h:¬ y=x) (hl:lt x y=true):insQ lt false out (y :: l) x=insQ lt true ((out ++ [x]) ++ [y]) l x:=by simp [insQ,insS,h,hl]
theorem insQ_on {α:Type} [DecidableEq α] {lt:α → α → Bool} {out l:List α} {x y:α} (h:¬ y=x) (hl:lt x y=false):insQ lt false out (y :: l) x=insQ lt false (out ++ [y]) l x:=by simp [insQ,insS,h,hl]

theorem appTwo {α:Type} (l:List α) (x y:α):(l.take l.length ++ ([x].drop 0).take 1).take (l.length+1) ++ ([y].drop 0).take 1=(l ++ [x]) ++ [y]:=by
 simp [List.take_append,List.take_of_length_le]

set_option maxHeartbeats 1000000 in
theorem rWithThg_t (l:List Thg) (x:Thg) (hl:l.length≤1000000):Triple Tryz.prog 122 [.c (.s 0 0 l.length 4),svThg x] [(0,false, .arr (aThg l))] 1 (.c (.s 1 0 (insS thgLt l x).length 4)) [(1,true, .arr (aThg (insS thgLt l x)))]:=by
 have h0:insQ thgLt false [] l x=insS thgLt l x:=rfl
 generalize insS thgLt l x=R at *
 refine triple_of tB_ok Tryz.func122 rfl Tryz.call122 rfl ?_
 intro ρ w hH
 conv=>whnf
 refine loop_step tB_ok (G:=Nat × Bool × List Thg) 1 [] (fun g=>[(7,iv .i64 g.1),(6,bv g.2.1),(5, .c (.s 2 0 g.2.2.length 4))]) (fun g=>[(2,true, .arr (aThg g.2.2))])
  (fun g=>g.1≤l.length∧g.2.2.length≤g.1+(bif g.2.1 then 1 else 0)∧insQ thgLt g.2.1 g.2.2 (l.drop g.1) x=R) (fun g=>l.length - g.1) ?_
 conv=>whnf
 refine⟨⟨(0,false,[]),⟨Nat.zero_le _,by simp,h0⟩, ?_⟩, ?_⟩
 ·conv=>whnf
  repeat'(first|exact trivial|exact rfl|refine And.intro ?_ ?_|((conv=>whnf);first|exact trivial|exact rfl|refine And.intro ?_ ?_|omega))
 rintro ⟨i,done,out⟩ ⟨hi,hol,hI⟩ ρ1 t1 hρ1
 dsimp only at hi hol hI ⊢
 conv=>whnf
 refine⟨fun hc=>?_,fun hc=>?_⟩
 rotate_left
 ·have hie:i=l.length:=by simp at hc; omega
  subst hie
  rw [List.drop_length] at hI
  cases done with
  | true =>
   rw [cond_true] at hol
   have hR:out=R:=by rw [← hI]; simp [insQ]
   subst hR
   conv=>whnf
   refine⟨fun hc=>absurd hc (by simp),fun hc=>?_⟩
   conv=>whnf
   repeat'(first|exact trivial|exact rfl|refine And.intro ?_ ?_|((conv=>whnf);first|exact trivial|exact rfl|refine And.intro ?_ ?_|omega))
  | false =>
   rw [cond_false] at hol
   have hR:out ++ [x]=R:=by rw [← hI]; simp [insQ,insS]
   subst hR
   conv=>whnf
   refine⟨fun hc=>?_,fun hc=>absurd hc (by simp)⟩
   conv=>whnf
   refine bs_step tB_ok (aThg [x]) rfl rfl ?_
   conv=>whnf
   refine⟨⟨rfl,(by repeat'(first|exact trivial|exact rfl|refine And.intro ?_ ?_|((conv=>whnf);first|exact trivial|exact rfl|refine And.intro ?_ ?_|omega)))⟩, ?_⟩
   conv=>whnf
   refine app_step tB_ok (aThg out) [x] (fun _=>rfl) rfl rfl rfl rfl ?_
   conv=>whnf
   refine⟨⟨rfl,rfl,Nat.le_refl _,Nat.le_refl _,by show (out.length+1) * 33≤_; first | omega | (simp only [List.length_append,List.length_cons,List.length_nil]; omega)⟩, ?_⟩
   conv=>whnf
   repeat'(first|exact trivial|exact rfl|refine And.intro ?_ ?_|((conv=>whnf);first|exact trivial|exact rfl|refine And.intro ?_ ?_|omega))
   all_goals first | exact (congrArg aThg app1.symm:_) | exact (congrArg aThg app1:_) | simp
 have hlt:i < l.length:=by simpa using hc
 rw [List.drop_eq_getElem_cons hlt] at hI
 cases done with
 | true =>
  rw [cond_true] at hol
  rw [insQ_done] at hI
  have hI':=hI
  conv=>whnf
  refine⟨fun hc=>?_,fun hc=>absurd hc (by simp)⟩
  conv=>whnf
  refine⟨i,rfl,hlt,hlt, ?_⟩
  conv=>whnf
  refine call_step (rBefore_t x l[i]) rfl rfl ?_
  conv=>whnf
  refine⟨?_, ?_, ?_⟩
  iterate 2 · repeat'(first|exact trivial|exact rfl|refine And.intro ?_ ?_|((conv=>whnf);first|exact trivial|exact rfl|refine And.intro ?_ ?_|omega))
  conv=>whnf
  refine⟨i,rfl,hlt,hlt, ?_⟩
  conv=>whnf
  refine bs_step tB_ok (aThg [l[i]]) rfl rfl ?_
  conv=>whnf
  refine⟨⟨rfl,(by repeat'(first|exact trivial|exact rfl|refine And.intro ?_ ?_|((conv=>whnf);first|exact trivial|exact rfl|refine And.intro ?_ ?_|omega)))⟩, ?_⟩
  conv=>whnf
  refine app_step tB_ok (aThg out) [l[i]] (fun _=>rfl) rfl rfl rfl rfl ?_
  conv=>whnf
  refine⟨⟨rfl,rfl,Nat.le_refl _,Nat.le_refl _,by show (out.length+1) * 33≤_; first | omega | (simp only [List.length_append,List.length_cons,List.length_nil]; omega)⟩, ?_⟩
  conv=>whnf
  refine⟨_,wrapId ⟨by omega,by omega⟩, ?_⟩
  refine⟨(i+1,true,out ++ [l[i]]),⟨hlt,by simp only [List.length_append,List.length_cons,List.length_nil,cond_true,cond_false]; omega,hI'⟩,by show l.length - (i+1) < l.length - i; omega, ?_⟩
  try dsimp only
  conv=>whnf
  refine⟨rfl, ?_⟩
  conv=>whnf
  repeat'(first|exact trivial|exact rfl|refine And.intro ?_ ?_|((conv=>whnf);first|exact trivial|exact rfl|refine And.intro ?_ ?_|omega))
  all_goals first | exact hb | exact (congrArg aThg app1.symm:_) | exact (congrArg aThg app1:_) | simp
 | false =>
  rw [cond_false] at hol
  conv=>whnf
  refine⟨fun hc=>absurd hc (by simp),fun hc=>?_⟩
  conv=>whnf
  refine⟨i,rfl,hlt,hlt, ?_⟩
  conv=>whnf
  refine⟨i,rfl,hlt,hlt, ?_⟩
  conv=>whnf
  refine call_step (rBefore_t x l[i]) rfl rfl ?_
  conv=>whnf
  refine⟨?_, ?_, ?_⟩
  iterate 2 · repeat'(first|exact trivial|exact rfl|refine And.intro ?_ ?_|((conv=>whnf);first|exact trivial|exact rfl|refine And.intro ?_ ?_|omega))
  conv=>whnf
  refine⟨fun hc=>?_,fun hc=>?_⟩
  rotate_left
  ·have hx:l[i]=x:=eqThg_t (by simpa using (show (!eqThg l[i] x)=false from hc))
   have hI':=hI
   rw [hx,insQ_same,← hx] at hI'
   have hb:eqThg l[i] x=true:=by simpa using (show (!eqThg l[i] x)=false from hc)
   conv=>whnf
   refine⟨i,rfl,hlt,hlt, ?_⟩
   conv=>whnf
   refine bs_step tB_ok (aThg [l[i]]) rfl rfl ?_
   conv=>whnf
   refine⟨⟨rfl,(by repeat'(first|exact trivial|exact rfl|refine And.intro ?_ ?_|((conv=>whnf);first|exact trivial|exact rfl|refine And.intro ?_ ?_|omega)))⟩, ?_⟩
   conv=>whnf
   refine app_step tB_ok (aThg out) [l[i]] (fun _=>rfl) rfl rfl rfl rfl ?_
   conv=>whnf
   refine⟨⟨rfl,rfl,Nat.le_refl _,Nat.le_refl _,by show (out.length+1) * 33≤_; first | omega | (simp only [List.length_append,List.length_cons,List.length_nil]; omega)⟩, ?_⟩
   conv=>whnf
   refine⟨_,wrapId ⟨by omega,by omega⟩, ?_⟩
   refine⟨(i+1,true,out ++ [l[i]]),⟨hlt,by simp only [List.length_append,List.length_cons,List.length_nil,cond_true,cond_false]; omega,hI'⟩,by show l.length - (i+1) < l.length - i; omega, ?_⟩
   try dsimp only
   conv=>whnf
   refine⟨rfl, ?_⟩
   conv=>whnf
   repeat'(first|exact trivial|exact rfl|refine And.intro ?_ ?_|((conv=>whnf);first|exact trivial|exact rfl|refine And.intro ?_ ?_|omega))
   all_goals first | exact hb | exact (congrArg aThg app1.symm:_) | exact (congrArg aThg app1:_) | simp
  have hx:¬ l[i]=x:=fun he=>by
   have h1:(!eqThg l[i] x)=true:=hc
   rw [he,eqThg_r] at h1; cases h1
  have hb:eqThg l[i] x=false:=by simpa using (show (!eqThg l[i] x)=true from hc)
  conv=>whnf
  refine⟨fun hd=>?_,fun hd=>?_⟩
  ·have hI':=hI
   rw [insQ_late hx hd] at hI'
   conv=>whnf
   refine bs_step tB_ok (aThg [x]) rfl rfl ?_
   conv=>whnf
   refine⟨⟨rfl,(by repeat'(first|exact trivial|exact rfl|refine And.intro ?_ ?_|((conv=>whnf);first|exact trivial|exact rfl|refine And.intro ?_ ?_|omega)))⟩, ?_⟩
   conv=>whnf
   refine app_step tB_ok (aThg out) [x] (fun _=>rfl) rfl rfl rfl rfl ?_
   conv=>whnf
   refine⟨⟨rfl,rfl,Nat.le_refl _,Nat.le_refl _,by show (out.length+1) * 33≤_; first | omega | (simp only [List.length_append,List.length_cons,List.length_nil]; omega)⟩, ?_⟩
   conv=>whnf
   refine⟨i,rfl,hlt,hlt, ?_⟩
   conv=>whnf
   refine bs_step tB_ok (aThg [l[i]]) rfl rfl ?_
   conv=>whnf
   refine⟨⟨rfl,(by repeat'(first|exact trivial|exact rfl|refine And.intro ?_ ?_|((conv=>whnf);first|exact trivial|exact rfl|refine And.intro ?_ ?_|omega)))⟩, ?_⟩
   conv=>whnf
   refine app_step tB_ok (aThg (out.take out.length ++ ([x].drop 0).take 1)) [l[i]] (fun _=>rfl) rfl rfl rfl rfl ?_
   conv=>whnf
   refine⟨⟨rfl,rfl,(by show out.length+1≤(out.take out.length ++ ([x].drop 0).take 1).length; simp),Nat.le_refl _,by show (out.length+1+1) * 33≤_; omega⟩, ?_⟩
   conv=>whnf
   refine⟨_,wrapId ⟨by omega,by omega⟩, ?_⟩
   refine⟨(i+1,true,(out ++ [x]) ++ [l[i]]),⟨hlt,by simp only [List.length_append,List.length_cons,List.length_nil,cond_true,cond_false]; omega,hI'⟩,by show l.length - (i+1) < l.length - i; omega, ?_⟩
   try dsimp only
   conv=>whnf
   refine⟨rfl, ?_⟩
   conv=>whnf
   repeat'(first|exact trivial|exact rfl|refine And.intro ?_ ?_|((conv=>whnf);first|exact trivial|exact rfl|refine And.intro ?_ ?_|omega))
   all_goals first | exact congrArg aThg (appTwo out x l[i]) | simp
  ·have hI':=hI
   rw [insQ_on hx hd] at hI'
   conv=>whnf
   refine⟨i,rfl,hlt,hlt, ?_⟩
   conv=>whnf
   refine bs_step tB_ok (aThg [l[i]]) rfl rfl ?_
   conv=>whnf
   refine⟨⟨rfl,(by repeat'(first|exact trivial|exact rfl|refine And.intro ?_ ?_|((conv=>whnf);first|exact trivial|exact rfl|refine And.intro ?_ ?_|omega)))⟩, ?_⟩
   conv=>whnf
   refine app_step tB_ok (aThg out) [l[i]] (fun _=>rfl) rfl rfl rfl rfl ?_
   conv=>whnf
   refine⟨⟨rfl,rfl,Nat.le_refl _,Nat.le_refl _,by show (out.length+1) * 33≤_; first | omega | (simp only [List.length_append,List.length_cons,List.length_nil]; omega)⟩, ?_⟩
   conv=>whnf
   refine⟨_,wrapId ⟨by omega,by omega⟩, ?_⟩
   refine⟨(i+1,false,out ++ [l[i]]),⟨hlt,by simp only [List.length_append,List.length_cons,List.length_nil,cond_true,cond_false]; omega,hI'⟩,by show l.length - (i+1) < l.length - i; omega, ?_⟩
   try dsimp only
   conv=>whnf
   refine⟨rfl, ?_⟩
   conv=>whnf
   repeat'(first|exact trivial|exact rfl|refine And.intro ?_ ?_|((conv=>whnf);first|exact trivial|exact rfl|refine And.intro ?_ ?_|omega))
   all_goals first | exact hb | exact (congrArg aThg app1.symm:_) | exact (congrArg aThg app1:_) | simp
set_option maxHeartbeats 1000000 in
theorem rWithMom_t (l:List Mom) (x:Mom) (hl:l.length≤1000000):Triple Tryz.prog 123 [.c (.s 0 0 l.length 2),svMom x] [(0,false, .arr (aMom l))] 1 (.c (.s 1 0 (insS momLt l x).length 2)) [(1,true, .arr (aMom (insS momLt l x)))]:=by
 have h0:insQ momLt false [] l x=insS momLt l x:=rfl
 generalize insS momLt l x=R at *
 refine triple_of tB_ok Tryz.func123 rfl Tryz.call123 rfl ?_
 intro ρ w hH
 conv=>whnf
 refine loop_step tB_ok (G:=Nat × Bool × List Mom) 1 [] (fun g=>[(7,iv .i64 g.1),(6,bv g.2.1),(5, .c (.s 2 0 g.2.2.length 2))]) (fun g=>[(2,true, .arr (aMom g.2.2))])
  (fun g=>g.1≤l.length∧g.2.2.length≤g.1+(bif g.2.1 then 1 else 0)∧insQ momLt g.2.1 g.2.2 (l.drop g.1) x=R) (fun g=>l.length - g.1) ?_
 conv=>whnf
 refine⟨⟨(0,false,[]),⟨Nat.zero_le _,by simp,h0⟩, ?_⟩, ?_⟩
 ·conv=>whnf
  repeat'(first|exact trivial|exact rfl|refine And.intro ?_ ?_|((conv=>whnf);first|exact trivial|exact rfl|refine And.intro ?_ ?_|omega))
 rintro ⟨i,done,out⟩ ⟨hi,hol,hI⟩ ρ1 t1 hρ1
 dsimp only at hi hol hI ⊢
 conv=>whnf
 refine⟨fun hc=>?_,fun hc=>?_⟩
 rotate_left
 ·have hie:i=l.length:=by simp at hc; omega
  subst hie
  rw [List.drop_length] at hI
  cases done with
  | true =>
   rw [cond_true] at hol
   have hR:out=R:=by rw [← hI]; simp [insQ]
   subst hR
   conv=>whnf
   refine⟨fun hc=>absurd hc (by simp),fun hc=>?_⟩
   conv=>whnf
   repeat'(first|exact trivial|exact rfl|refine And.intro ?_ ?_|((conv=>whnf);first|exact trivial|exact rfl|refine And.intro ?_ ?_|omega))
  | false =>
   rw [cond_false] at hol
   have hR:out ++ [x]=R:=by rw [← hI]; simp [insQ,insS]
   subst hR
   conv=>whnf
   refine⟨fun hc=>?_,fun hc=>absurd hc (by simp)⟩
   conv=>whnf
   refine bs_step tB_ok (aMom [x]) rfl rfl ?_
   conv=>whnf
   refine⟨⟨rfl,(by repeat'(first|exact trivial|exact rfl|refine And.intro ?_ ?_|((conv=>whnf);first|exact trivial|exact rfl|refine And.intro ?_ ?_|omega)))⟩, ?_⟩
   conv=>whnf
   refine app_step tB_ok (aMom out) [x] (fun _=>rfl) rfl rfl rfl rfl ?_
   conv=>whnf
   refine⟨⟨rfl,rfl,Nat.le_refl _,Nat.le_refl _,by show (out.length+1) * 17≤_; first | omega | (simp only [List.length_append,List.length_cons,List.length_nil]; omega)⟩, ?_⟩
   conv=>whnf
   repeat'(first|exact trivial|exact rfl|refine And.intro ?_ ?_|((conv=>whnf);first|exact trivial|exact rfl|refine And.intro ?_ ?_|omega))
   all_goals first | exact (congrArg aMom app1.symm:_) | exact (congrArg aMom app1:_) | simp
 have hlt:i < l.length:=by simpa using hc
 rw [List.drop_eq_getElem_cons hlt] at hI
 cases done with
 | true =>
  rw [cond_true] at hol
  rw [insQ_done] at hI
  have hI':=hI
  conv=>whnf
  refine⟨fun hc=>?_,fun hc=>absurd hc (by simp)⟩
  conv=>whnf
  refine⟨i,rfl,hlt,hlt, ?_⟩
  conv=>whnf
  refine call_step (rEarlier_t x l[i]) rfl rfl ?_
  conv=>whnf
  refine⟨?_, ?_, ?_⟩
  iterate 2 · repeat'(first|exact trivial|exact rfl|refine And.intro ?_ ?_|((conv=>whnf);first|exact trivial|exact rfl|refine And.intro ?_ ?_|omega))
  conv=>whnf
  refine⟨i,rfl,hlt,hlt, ?_⟩
  conv=>whnf
  refine bs_step tB_ok (aMom [l[i]]) rfl rfl ?_
  conv=>whnf
  refine⟨⟨rfl,(by repeat'(first|exact trivial|exact rfl|refine And.intro ?_ ?_|((conv=>whnf);first|exact trivial|exact rfl|refine And.intro ?_ ?_|omega)))⟩, ?_⟩
  conv=>whnf
  refine app_step tB_ok (aMom out) [l[i]] (fun _=>rfl) rfl rfl rfl rfl ?_
  conv=>whnf
  refine⟨⟨rfl,rfl,Nat.le_refl _,Nat.le_refl _,by show (out.length+1) * 17≤_; first | omega | (simp only [List.length_append,List.length_cons,List.length_nil]; omega)⟩, ?_⟩
  conv=>whnf
  refine⟨_,wrapId ⟨by omega,by omega⟩, ?_⟩
  refine⟨(i+1,true,out ++ [l[i]]),⟨hlt,by simp only [List.length_append,List.length_cons,List.length_nil,cond_true,cond_false]; omega,hI'⟩,by show l.length - (i+1) < l.length - i; omega, ?_⟩
  try dsimp only
  conv=>whnf
  refine⟨rfl, ?_⟩
  conv=>whnf
  repeat'(first|exact trivial|exact rfl|refine And.intro ?_ ?_|((conv=>whnf);first|exact trivial|exact rfl|refine And.intro ?_ ?_|omega))
  all_goals first | exact hb | exact (congrArg aMom app1.symm:_) | exact (congrArg aMom app1:_) | simp
 | false =>
  rw [cond_false] at hol
  conv=>whnf
  refine⟨fun hc=>absurd hc (by simp),fun hc=>?_⟩
  conv=>whnf
  refine⟨i,rfl,hlt,hlt, ?_⟩
  conv=>whnf
  refine⟨i,rfl,hlt,hlt, ?_⟩
  conv=>whnf
  refine call_step (rEarlier_t x l[i]) rfl rfl ?_
  conv=>whnf
  refine⟨?_, ?_, ?_⟩
  iterate 2 · repeat'(first|exact trivial|exact rfl|refine And.intro ?_ ?_|((conv=>whnf);first|exact trivial|exact rfl|refine And.intro ?_ ?_|omega))
  conv=>whnf
  refine⟨fun hc=>?_,fun hc=>?_⟩
  rotate_left
  ·have hx:l[i]=x:=eqMom_t (by simpa using (show (!eqMom l[i] x)=false from hc))
   have hI':=hI
   rw [hx,insQ_same,← hx] at hI'
   have hb:eqMom l[i] x=true:=by simpa using (show (!eqMom l[i] x)=false from hc)
   conv=>whnf
   refine⟨i,rfl,hlt,hlt, ?_⟩
   conv=>whnf
   refine bs_step tB_ok (aMom [l[i]]) rfl rfl ?_
   conv=>whnf
   refine⟨⟨rfl,(by repeat'(first|exact trivial|exact rfl|refine And.intro ?_ ?_|((conv=>whnf);first|exact trivial|exact rfl|refine And.intro ?_ ?_|omega)))⟩, ?_⟩
   conv=>whnf
   refine app_step tB_ok (aMom out) [l[i]] (fun _=>rfl) rfl rfl rfl rfl ?_
   conv=>whnf
   refine⟨⟨rfl,rfl,Nat.le_refl _,Nat.le_refl _,by show (out.length+1) * 17≤_; first | omega | (simp only [List.length_append,List.length_cons,List.length_nil]; omega)⟩, ?_⟩
   conv=>whnf
   refine⟨_,wrapId ⟨by omega,by omega⟩, ?_⟩
   refine⟨(i+1,true,out ++ [l[i]]),⟨hlt,by simp only [List.length_append,List.length_cons,List.length_nil,cond_true,cond_false]; omega,hI'⟩,by show l.length - (i+1) < l.length - i; omega, ?_⟩
   try dsimp only
   conv=>whnf
   refine⟨rfl, ?_⟩
   conv=>whnf
   repeat'(first|exact trivial|exact rfl|refine And.intro ?_ ?_|((conv=>whnf);first|exact trivial|exact rfl|refine And.intro ?_ ?_|omega))
   all_goals first | exact hb | exact (congrArg aMom app1.symm:_) | exact (congrArg aMom app1:_) | simp
  have hx:¬ l[i]=x:=fun he=>by
   have h1:(!eqMom l[i] x)=true:=hc
   rw [he,eqMom_r] at h1; cases h1
  have hb:eqMom l[i] x=false:=by simpa using (show (!eqMom l[i] x)=true from hc)
  conv=>whnf
  refine⟨fun hd=>?_,fun hd=>?_⟩
  ·have hI':=hI
   rw [insQ_late hx hd] at hI'
   conv=>whnf
   refine bs_step tB_ok (aMom [x]) rfl rfl ?_
   conv=>whnf
   refine⟨⟨rfl,(by repeat'(first|exact trivial|exact rfl|refine And.intro ?_ ?_|((conv=>whnf);first|exact trivial|exact rfl|refine And.intro ?_ ?_|omega)))⟩, ?_⟩
   conv=>whnf
   refine app_step tB_ok (aMom out) [x] (fun _=>rfl) rfl rfl rfl rfl ?_
   conv=>whnf
   refine⟨⟨rfl,rfl,Nat.le_refl _,Nat.le_refl _,by show (out.length+1) * 17≤_; first | omega | (simp only [List.length_append,List.length_cons,List.length_nil]; omega)⟩, ?_⟩
   conv=>whnf
   refine⟨i,rfl,hlt,hlt, ?_⟩
   conv=>whnf
   refine bs_step tB_ok (aMom [l[i]]) rfl rfl ?_
   conv=>whnf
   refine⟨⟨rfl,(by repeat'(first|exact trivial|exact rfl|refine And.intro ?_ ?_|((conv=>whnf);first|exact trivial|exact rfl|refine And.intro ?_ ?_|omega)))⟩, ?_⟩
   conv=>whnf
   refine app_step tB_ok (aMom (out.take out.length ++ ([x].drop 0).take 1)) [l[i]] (fun _=>rfl) rfl rfl rfl rfl ?_
   conv=>whnf
   refine⟨⟨rfl,rfl,(by show out.length+1≤(out.take out.length ++ ([x].drop 0).take 1).length; simp),Nat.le_refl _,by show (out.length+1+1) * 17≤_; omega⟩, ?_⟩
   conv=>whnf
   refine⟨_,wrapId ⟨by omega,by omega⟩, ?_⟩
   refine⟨(i+1,true,(out ++ [x]) ++ [l[i]]),⟨hlt,by simp only [List.length_append,List.length_cons,List.length_nil,cond_true,cond_false]; omega,hI'⟩,by show l.length - (i+1) < l.length - i; omega, ?_⟩
   try dsimp only
   conv=>whnf
   refine⟨rfl, ?_⟩
   conv=>whnf
   repeat'(first|exact trivial|exact rfl|refine And.intro ?_ ?_|((conv=>whnf);first|exact trivial|exact rfl|refine And.intro ?_ ?_|omega))
   all_goals first | exact congrArg aMom (appTwo out x l[i]) | simp
  ·have hI':=hI
   rw [insQ_on hx hd] at hI'
   conv=>whnf
   refine⟨i,rfl,hlt,hlt, ?_⟩
   conv=>whnf
   refine bs_step tB_ok (aMom [l[i]]) rfl rfl ?_
   conv=>whnf
   refine⟨⟨rfl,(by repeat'(first|exact trivial|exact rfl|refine And.intro ?_ ?_|((conv=>whnf);first|exact trivial|exact rfl|refine And.intro ?_ ?_|omega)))⟩, ?_⟩
   conv=>whnf
   refine app_step tB_ok (aMom out) [l[i]] (fun _=>rfl) rfl rfl rfl rfl ?_
   conv=>whnf
   refine⟨⟨rfl,rfl,Nat.le_refl _,Nat.le_refl _,by show (out.length+1) * 17≤_; first | omega | (simp only [List.length_append,List.length_cons,List.length_nil]; omega)⟩, ?_⟩
   conv=>whnf
   refine⟨_,wrapId ⟨by omega,by omega⟩, ?_⟩
   refine⟨(i+1,false,out ++ [l[i]]),⟨hlt,by simp only [List.length_append,List.length_cons,List.length_nil,cond_true,cond_false]; omega,hI'⟩,by show l.length - (i+1) < l.length - i; omega, ?_⟩
   try dsimp only
   conv=>whnf
   refine⟨rfl, ?_⟩
   conv=>whnf
   repeat'(first|exact trivial|exact rfl|refine And.intro ?_ ?_|((conv=>whnf);first|exact trivial|exact rfl|refine And.intro ?_ ?_|omega))
   all_goals first | exact hb | exact (congrArg aMom app1.symm:_) | exact (congrArg aMom app1:_) | simp

theorem distS_snoc {α:Type} [DecidableEq α] (lt:α → α → Bool) (l:List α) (x:α):distS lt (l ++ [x])=insS lt (distS lt l) x:=by
 unfold distS; rw [List.foldl_append]; rfl

theorem rObjects_t (r:Rd) (hs:Sml r):Triple Tryz.prog 49 [rdA r] (rdH r) 4 (.c (.s 4 0 (objsF r).length 4)) [(4,true, .arr (aThg (objsF r)))]:=by
 have e:objsF r=distS thgLt (r.ws.map Wgh.o):=rfl
 rw [e]
 have hws:=hs.ws
 obtain ⟨bs,cs,ns,ws⟩:=r
 dsimp only at *
 refine triple_of tB_ok Tryz.func49 rfl Tryz.call49 rfl ?_
 intro ρ w hH
 conv=>whnf
 refine loop_step tB_ok (G:=Nat) 1 [] (fun i=>[(4,iv .i64 i),(3, .c (.s 5 0 (distS thgLt ((ws.take i).map Wgh.o)).length 4))]) (fun i=>[(5,true, .arr (aThg (distS thgLt ((ws.take i).map Wgh.o))))])
  (fun i=>i≤ws.length) (fun i=>ws.length - i) ?_
 conv=>whnf
 refine⟨⟨0,Nat.zero_le _, ?_⟩, ?_⟩
 ·conv=>whnf
  repeat'(first|exact trivial|exact rfl|refine And.intro ?_ ?_|((conv=>whnf);first|exact trivial|exact rfl|refine And.intro ?_ ?_|omega))
 rintro i hi ρ1 t1 hρ1
 conv=>whnf
 refine⟨fun hc=>?_,fun hc=>?_⟩
 ·have hlt:i < ws.length:=by simpa using hc
  have hL:=distS_len thgLt_ok ((ws.take i).map Wgh.o)
  rw [List.length_map,List.length_take] at hL
  have hn:distS thgLt ((ws.take (i+1)).map Wgh.o)=insS thgLt (distS thgLt ((ws.take i).map Wgh.o)) ws[i].o:=by
   rw [take_snoc hlt,List.map_append]; exact distS_snoc _ _ _
  generalize distS thgLt ((ws.take i).map Wgh.o)=L at *
  conv=>whnf
  refine⟨i,rfl,hlt,hlt, ?_⟩
  conv=>whnf
  refine call_step (rWithThg_t L ws[i].o (by omega)) rfl rfl ?_
  conv=>whnf
  refine⟨?_, ?_, ?_⟩
  iterate 2 · repeat'(first|exact trivial|exact rfl|refine And.intro ?_ ?_|((conv=>whnf);first|exact trivial|exact rfl|refine And.intro ?_ ?_|omega))
  conv=>whnf
  refine⟨_,wrapId ⟨by omega,by omega⟩, ?_⟩
  refine⟨i+1,hlt,by show ws.length - (i+1) < ws.length - i; omega, ?_⟩
  try dsimp only
  rw [hn]
  conv=>whnf
  refine⟨rfl, ?_⟩
  conv=>whnf
  repeat'(first|exact trivial|exact rfl|refine And.intro ?_ ?_|((conv=>whnf);first|exact trivial|exact rfl|refine And.intro ?_ ?_|omega))
 ·have hie:i=ws.length:=by simp at hc; omega
  subst hie
  rw [List.take_length]
  conv=>whnf
  repeat'(first|exact trivial|exact rfl|refine And.intro ?_ ?_|((conv=>whnf);first|exact trivial|exact rfl|refine And.intro ?_ ?_|omega))

theorem rMoments_t (r:Rd) (hs:Sml r):Triple Tryz.prog 51 [rdA r] (rdH r) 4 (.c (.s 4 0 (momsF r []).length 2)) [(4,true, .arr (aMom (momsF r [])))]:=by
 have e:momsF r []=distS momLt (r.ws.map wMom ++ r.cs.map cMom):=by unfold momsF; rw [List.append_nil]
 rw [e]
 have hws:=hs.ws
 have hcs:=hs.cs
 obtain ⟨bs,cs,ns,ws⟩:=r
 dsimp only at *
 refine triple_of tB_ok Tryz.func51 rfl Tryz.call51 rfl ?_
 intro ρ w hH
 conv=>whnf
 refine loop_step tB_ok (G:=Nat) 1 [] (fun i=>[(4,iv .i64 i),(3, .c (.s 5 0 (distS momLt ([] ++ (ws.take i).map wMom)).length 2))]) (fun i=>[(5,true, .arr (aMom (distS momLt ([] ++ (ws.take i).map wMom))))])
  (fun i=>i≤ws.length) (fun i=>ws.length - i) ?_
 conv=>whnf
 refine⟨⟨0,Nat.zero_le _, ?_⟩, ?_⟩
 ·conv=>whnf
  repeat'(first|exact trivial|exact rfl|refine And.intro ?_ ?_|((conv=>whnf);first|exact trivial|exact rfl|refine And.intro ?_ ?_|omega))
  all_goals first | (show aMom (distS momLt M)=aMom (distS momLt (M ++ [])); rw [List.append_nil]) | simp
 rintro i hi ρ1 t1 hρ1
 conv=>whnf
 refine⟨fun hc=>?_,fun hc=>?_⟩
 ·have hlt:i < ws.length:=by simpa using hc
  have hL:=distS_len momLt_ok ([] ++ (ws.take i).map wMom)
  simp only [List.length_append,List.length_map,List.length_take,List.length_nil] at hL
  have hn:distS momLt ([] ++ (ws.take (i+1)).map wMom)=insS momLt (distS momLt ([] ++ (ws.take i).map wMom)) (wMom ws[i]):=by
   rw [← distS_snoc,take_snoc hlt,List.map_append,← List.append_assoc]; rfl
  generalize distS momLt ([] ++ (ws.take i).map wMom)=L at *
  conv=>whnf
  refine⟨i,rfl,hlt,hlt, ?_⟩
  conv=>whnf
  refine⟨i,rfl,hlt,hlt, ?_⟩
  conv=>whnf
  refine call_step (rWithMom_t L (wMom ws[i]) (by omega)) rfl rfl ?_
  conv=>whnf
  refine⟨?_, ?_, ?_⟩
  iterate 2 · repeat'(first|exact trivial|exact rfl|refine And.intro ?_ ?_|((conv=>whnf);first|exact trivial|exact rfl|refine And.intro ?_ ?_|omega))
  conv=>whnf
  refine⟨_,wrapId ⟨by omega,by omega⟩, ?_⟩
  refine⟨i+1,hlt,by show ws.length - (i+1) < ws.length - i; omega, ?_⟩
  try dsimp only
  rw [hn]
  conv=>whnf
  refine⟨rfl, ?_⟩
  conv=>whnf
  repeat'(first|exact trivial|exact rfl|refine And.intro ?_ ?_|((conv=>whnf);first|exact trivial|exact rfl|refine And.intro ?_ ?_|omega))
 have hie:i=ws.length:=by simp at hc; omega
 subst hie
 rw [List.take_length]
 have hM:([] ++ ws.map wMom).length≤100000:=by simpa using hws
 rw [show distS momLt (ws.map wMom ++ cs.map cMom)=distS momLt ([] ++ ws.map wMom ++ cs.map cMom) from rfl]
 generalize [] ++ ws.map wMom=M at *
 conv=>whnf
 refine loop_step tB_ok (G:=Nat) 1 [5] (fun i=>[(5,iv .i64 i),(3, .c (.s 6 0 (distS momLt (M ++ (cs.take i).map cMom)).length 2))]) (fun i=>[(6,true, .arr (aMom (distS momLt (M ++ (cs.take i).map cMom))))])
  (fun i=>i≤cs.length) (fun i=>cs.length - i) ?_
 conv=>whnf
 refine⟨⟨0,Nat.zero_le _, ?_⟩, ?_⟩
 ·conv=>whnf
  repeat'(first|exact trivial|exact rfl|refine And.intro ?_ ?_|((conv=>whnf);first|exact trivial|exact rfl|refine And.intro ?_ ?_|omega))
  all_goals first | (show aMom (distS momLt M)=aMom (distS momLt (M ++ [])); rw [List.append_nil]) | simp
 rintro i hi ρ2 t2 hρ2
 conv=>whnf
 refine⟨fun hc=>?_,fun hc=>?_⟩
 ·have hlt:i < cs.length:=by simpa using hc
  have hL:=distS_len momLt_ok (M ++ (cs.take i).map cMom)
  simp only [List.length_append,List.length_map,List.length_take,List.length_nil] at hL
  have hn:distS momLt (M ++ (cs.take (i+1)).map cMom)=insS momLt (distS momLt (M ++ (cs.take i).map cMom)) (cMom cs[i]):=by
   rw [← distS_snoc,take_snoc hlt,List.map_append,← List.append_assoc]; rfl
  generalize distS momLt (M ++ (cs.take i).map cMom)=L at *
  conv=>whnf
  refine⟨i,rfl,hlt,hlt, ?_⟩
  conv=>whnf
  refine⟨i,rfl,hlt,hlt, ?_⟩
  conv=>whnf
  refine call_step (rWithMom_t L (cMom cs[i]) (by omega)) rfl rfl ?_
  conv=>whnf
  refine⟨?_, ?_, ?_⟩
  iterate 2 · repeat'(first|exact trivial|exact rfl|refine And.intro ?_ ?_|((conv=>whnf);first|exact trivial|exact rfl|refine And.intro ?_ ?_|omega))
  conv=>whnf
  refine⟨_,wrapId ⟨by omega,by omega⟩, ?_⟩
  refine⟨i+1,hlt,by show cs.length - (i+1) < cs.length - i; omega, ?_⟩
  try dsimp only
  rw [hn]
  conv=>whnf
  refine⟨rfl, ?_⟩
  conv=>whnf
  repeat'(first|exact trivial|exact rfl|refine And.intro ?_ ?_|((conv=>whnf);first|exact trivial|exact rfl|refine And.intro ?_ ?_|omega))
 have hie:i=cs.length:=by simp at hc; omega
 subst hie
 rw [List.take_length]
 conv=>whnf
 repeat'(first|exact trivial|exact rfl|refine And.intro ?_ ?_|((conv=>whnf);first|exact trivial|exact rfl|refine And.intro ?_ ?_|omega))

end Go.Proofs

