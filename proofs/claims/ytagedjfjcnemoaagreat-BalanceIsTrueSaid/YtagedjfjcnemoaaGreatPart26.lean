/-
  A part of the proof that a law answers true: lemmas of a symbolic walk, plain functions, or contracts of the functions walked (Rp, Rq, Rr, Rt, Sx29, Sx46). Conditions: none.
-/
import Derived.Test.YtagedjfjcnemoaaGreatPart25
import Derived.Test.YtagedjfjcnemoaaGreatPart07
import Derived.Test.YtagedjfjcnemoaaGreatPart11
import Derived.Deep.Slices
import Derived.ChangeArms
import Derived.SizedLaws
set_option maxRecDepth 100000
set_option linter.unusedVariables false
set_option linter.unusedSimpArgs false
namespace Go.Proofs
open Go.Sx

theorem appRest {α:Type} (l q s:List α):(l.take l.length ++ (q.drop 0).take q.length).take (l.length+q.length) ++ (s.drop 0).take s.length=(l ++ q) ++ s:=by
 simp [List.take_append,List.take_of_length_le]

set_option maxHeartbeats 4000000 in
theorem rOthers_t (r:Rd) (os:List Thg) (ms:List Mom) (h:ShOK r os ms) :
  Triple Tryz.prog 164 (lsA r os ms) (lsH r os ms) 6 (.c (.s 6 0 ((((ms.flatMap (momLs r os ms)) ++ drfLs r.bs os.length 0 ms) ++ os.flatMap (cvrLs os 1 2)) ++ os.flatMap (cvrLs os 3 4)).length 4))
   [(6,true, .arr (aLink ((((ms.flatMap (momLs r os ms)) ++ drfLs r.bs os.length 0 ms) ++ os.flatMap (cvrLs os 1 2)) ++ os.flatMap (cvrLs os 3 4))))]:=by
 have hnb:=h.rd.nb
 have hnr:=h.rd.nr
 have hol:=h.ol
 have hml:=h.ml
 refine triple_of tB_ok Tryz.func164 rfl Tryz.call164 rfl ?_
 intro ρ w hH
 conv=>whnf
 refine loop_step tB_ok (G:=Nat) 1 [] (fun i=>[(8,iv .i64 i),(7, .c (.s 7 0 ((ms.take i).flatMap (momLs r os ms)).length 4))]) (fun i=>[(7,true, .arr (aLink ((ms.take i).flatMap (momLs r os ms))))]) (fun i=>i≤ms.length) (fun i=>ms.length - i) ?_
 conv=>whnf
 refine⟨⟨0,Nat.zero_le _, ?_⟩, ?_⟩
 ·conv=>whnf
  repeat'(first|exact trivial|exact rfl|refine And.intro ?_ ?_|((conv=>whnf);first|exact trivial|exact rfl|refine And.intro ?_ ?_|omega))
 intro i hi ρ1 t1 hρ1
 conv=>whnf
 refine⟨fun hc=>?_,fun hc=>?_⟩
 ·have hlt:i < ms.length:=by simpa using hc
  have hM:=flat_le2 (momLs r os ms) (fun _=>Nat.le_refl _) (ms.take i)
  rw [List.length_take] at hM
  have hnx:=flat_round2 [] (momLs r os ms) hlt rfl
  simp only [List.nil_append] at hnx
  rw [plF_at h.md (List.getElem?_eq_getElem hlt)] at hnx
  have hmm:=List.getElem_mem hlt
  have hmo:=h.mo _ hmm
  have hmb:hasB r.bs ms[i].bal=true:=by unfold momOK at hmo; exact (Bool.and_eq_true _ _ ▸ hmo).1
  obtain ⟨hlo,hhi,_⟩:=side_bd h.rd ms[i] hmb
  have hF:=rSide_t r ms[i] h.rd.sml
  generalize (ms.take i).flatMap (momLs r os ms)=M at *
  generalize sideF r ms[i]=d at *
  conv=>whnf
  refine⟨i,rfl,hlt,hlt, ?_⟩
  conv=>whnf
  refine call_step hF rfl rfl ?_
  conv=>whnf
  refine⟨?_, ?_, ?_⟩
  iterate 2 · repeat'(first|exact trivial|exact rfl|refine And.intro ?_ ?_|((conv=>whnf);first|exact trivial|exact rfl|refine And.intro ?_ ?_|omega))
  conv=>whnf
  refine⟨(os.length:Int)+i,wrapId (z:=(os.length:Int)+i) ⟨by omega,by omega⟩, ?_⟩
  conv=>whnf
  refine⟨-d.lo,(congrArg IntKind.i64.wrap (show (0:Int) - d.lo=-d.lo by omega)).trans (wrapId ⟨by omega,by omega⟩), ?_⟩
  conv=>whnf
  refine bs_step tB_ok (aLink [⟨-1,(os.length:Int)+i,d.hi,d.hiI⟩,⟨(os.length:Int)+i,-1,-d.lo,d.loI⟩]) rfl rfl ?_
  conv=>whnf
  refine⟨⟨rfl,(by repeat'(first|exact trivial|exact rfl|refine And.intro ?_ ?_|((conv=>whnf);first|exact trivial|exact rfl|refine And.intro ?_ ?_|omega)))⟩, ?_⟩
  conv=>whnf
  refine app_step tB_ok (aLink M) [(⟨-1,(os.length:Int)+i,d.hi,d.hiI⟩:Lnk),⟨(os.length:Int)+i,-1,-d.lo,d.loI⟩] (fun _=>rfl) rfl rfl rfl rfl ?_
  conv=>whnf
  refine⟨⟨rfl,rfl,Nat.le_refl _,Nat.le_refl _,by show (M.length+2) * 33≤_; omega⟩, ?_⟩
  conv=>whnf
  refine⟨_,wrapId ⟨by omega,by omega⟩, ?_⟩
  refine⟨i+1,hlt,by show ms.length - (i+1) < ms.length - i; omega, ?_⟩
  try dsimp only
  rw [hnx]
  conv=>whnf
  refine⟨rfl, ?_⟩
  conv=>whnf
  repeat'(first|exact trivial|exact rfl|refine And.intro ?_ ?_|((conv=>whnf);first|exact trivial|exact rfl|refine And.intro ?_ ?_|omega))
  all_goals first | exact congrArg aLink (appPair M _ _) | simp
 have hie:i=ms.length:=by simp at hc; omega
 subst hie
 rw [List.take_length]
 have hL3:=flat_le2 (momLs r os ms) (fun _=>Nat.le_refl _) ms
 generalize ms.flatMap (momLs r os ms)=L3 at *
 have hd1:drfLs r.bs os.length 0 (ms.take 1)=[]:=by cases ms <;> rfl
 conv=>whnf
 refine loop_step tB_ok (G:=Nat) 1 [7] (fun i=>[(11,iv .i64 i),(7, .c (.s 8 0 (L3 ++ drfLs r.bs os.length 0 (ms.take i)).length 4))]) (fun i=>[(8,true, .arr (aLink (L3 ++ drfLs r.bs os.length 0 (ms.take i))))]) (fun i=>1≤i∧(i=1 ∨ i≤ms.length)) (fun i=>ms.length - i) ?_
 conv=>whnf
 refine⟨⟨1,⟨Nat.le_refl _, .inl rfl⟩, ?_⟩, ?_⟩
 ·conv=>whnf
  repeat'(first|exact trivial|exact rfl|refine And.intro ?_ ?_|((conv=>whnf);first|exact trivial|exact rfl|refine And.intro ?_ ?_|omega))
  all_goals first | (show aLink L3=aLink (L3 ++ drfLs r.bs os.length 0 (ms.take 1)); rw [hd1,List.append_nil]) | (show L3.length=(L3 ++ drfLs r.bs os.length 0 (ms.take 1)).length; rw [hd1,List.append_nil])
 rintro i ⟨hi1,hi⟩ ρ1 t1 hρ1
 conv=>whnf
 refine⟨fun hc=>?_,fun hc=>?_⟩
 ·have hlt:i < ms.length:=by simpa using hc
  have hM2:(L3 ++ drfLs r.bs os.length 0 (ms.take i)).length≤40000:=by
   have:=drf_le r.bs os.length (ms.take i)
   rw [List.length_take] at this
   rw [List.length_append]; omega
  have hdr:=drf_round r.bs os.length hi1 hlt
  obtain ⟨j,rfl⟩:∃ j,i=j+1:=⟨i - 1,by omega⟩
  have hjl:j < ms.length:=by omega
  simp only [Nat.add_sub_cancel] at hdr
  have hDr:=h.dr j ms[j] ms[j+1] (List.getElem?_eq_getElem hjl) (List.getElem?_eq_getElem hlt)
  have hoa:=h.mo _ (List.getElem_mem hjl)
  have hob:=h.mo _ (List.getElem_mem hlt)
  have hF:=rFind_t r ms[j+1].bal (by omega)
  have hj1:IntKind.i64.wrap (((j+1:Nat):Int) - 1)=(j:Int):=by
   have e:((j+1:Nat):Int) - 1=(j:Nat):=by omega
   rw [e]; exact wrapId (z:=(j:Int)) ⟨by omega,by omega⟩
  generalize hM:L3 ++ drfLs r.bs os.length 0 (ms.take (j+1))=M at *
  conv=>whnf
  refine⟨j+1,rfl,hlt,hlt, ?_⟩
  conv=>whnf
  refine⟨(j:Nat),hj1, ?_⟩
  conv=>whnf
  refine⟨j,rfl,hjl,hjl, ?_⟩
  conv=>whnf
  refine⟨fun hc=>?_,fun hc=>?_⟩
  ·have hab:¬ ms[j+1].bal=ms[j].bal:=by simpa using (show (ms[j+1].bal != ms[j].bal)=true from hc)
   have hnx:L3 ++ drfLs r.bs os.length 0 (ms.take (j+1+1))=M:=by
    rw [hdr,show (ms[j].bal == ms[j+1].bal)=false by simpa using (fun he=>hab he.symm),cond_false,List.append_nil,hM]
   conv=>whnf
   refine⟨_,wrapId ⟨by omega,by omega⟩, ?_⟩
   refine⟨j+1+1,⟨by omega, .inr hlt⟩,by show ms.length - (j+1+1) < ms.length - (j+1); omega, ?_⟩
   try dsimp only
   rw [hnx]
   conv=>whnf
   refine⟨rfl, ?_⟩
   conv=>whnf
   repeat'(first|exact trivial|exact rfl|refine And.intro ?_ ?_|((conv=>whnf);first|exact trivial|exact rfl|refine And.intro ?_ ?_|omega))
  ·have hab:ms[j].bal=ms[j+1].bal:=(show ms[j+1].bal=ms[j].bal by simpa using (show (ms[j+1].bal != ms[j].bal)=false from hc)).symm
   obtain ⟨d1,d2⟩:=hDr hab
   have hnx:L3 ++ drfLs r.bs os.length 0 (ms.take (j+1+1))=(M ++ [⟨(os.length:Int)+(j:Nat),(os.length:Int)+((j+1:Nat):Int),min ((findD r.bs ms[j].bal).dr * (ms[j+1].tick - ms[j].tick)) 2000000,0⟩]) ++
     [⟨(os.length:Int)+((j+1:Nat):Int),(os.length:Int)+(j:Nat),min ((findD r.bs ms[j].bal).dr * (ms[j+1].tick - ms[j].tick)) 2000000,0⟩]:=by
    rw [hdr,show (ms[j].bal == ms[j+1].bal)=true by simpa using hab,cond_true,← List.append_assoc,hM,List.append_assoc]; rfl
   have htk:-1000000≤ms[j+1].tick - ms[j].tick∧ms[j+1].tick - ms[j].tick≤1000000:=by
    simp only [momOK,Bool.and_eq_true,withinF,decide_eq_true_eq] at hoa hob
    omega
   rw [hab] at d1 d2 hnx
   generalize findD r.bs ms[j+1].bal=d at *
   conv=>whnf
   refine⟨j+1,rfl,hlt,hlt, ?_⟩
   conv=>whnf
   refine call_step hF rfl rfl ?_
   conv=>whnf
   refine⟨?_, ?_, ?_⟩
   iterate 2 · repeat'(first|exact trivial|exact rfl|refine And.intro ?_ ?_|((conv=>whnf);first|exact trivial|exact rfl|refine And.intro ?_ ?_|omega))
   conv=>whnf
   refine⟨j+1,rfl,hlt,hlt, ?_⟩
   conv=>whnf
   refine⟨(j:Nat),hj1, ?_⟩
   conv=>whnf
   refine⟨j,rfl,hjl,hjl, ?_⟩
   conv=>whnf
   refine⟨ms[j+1].tick - ms[j].tick,wrapId (z:=ms[j+1].tick - ms[j].tick) ⟨by omega,by omega⟩, ?_⟩
   conv=>whnf
   refine⟨d.dr * (ms[j+1].tick - ms[j].tick),wrapId (z:=d.dr * (ms[j+1].tick - ms[j].tick)) ⟨by omega,by omega⟩, ?_⟩
   conv=>whnf
   generalize min (d.dr * (ms[j+1].tick - ms[j].tick)) 2000000=n at *
   refine⟨(os.length:Int)+((j+1:Nat):Int),wrapId (z:=(os.length:Int)+((j+1:Nat):Int)) ⟨by omega,by omega⟩, ?_⟩
   conv=>whnf
   refine⟨(os.length:Int)+(j:Nat),(congrArg IntKind.i64.wrap (show (os.length:Int)+((j+1:Nat):Int) - 1=(os.length:Int)+(j:Nat) by omega)).trans (wrapId ⟨by omega,by omega⟩), ?_⟩
   conv=>whnf
   refine⟨(os.length:Int)+((j+1:Nat):Int),(congrArg IntKind.i64.wrap (show (os.length:Int)+(j:Nat)+1=(os.length:Int)+((j+1:Nat):Int) by omega)).trans (wrapId ⟨by omega,by omega⟩), ?_⟩
   conv=>whnf
   refine⟨(os.length:Int)+((j+1:Nat):Int),(congrArg IntKind.i64.wrap (show (os.length:Int)+(j:Nat)+1=(os.length:Int)+((j+1:Nat):Int) by omega)).trans (wrapId ⟨by omega,by omega⟩), ?_⟩
   conv=>whnf
   refine bs_step tB_ok (aLink [⟨(os.length:Int)+(j:Nat),(os.length:Int)+((j+1:Nat):Int),n,0⟩,⟨(os.length:Int)+((j+1:Nat):Int),(os.length:Int)+(j:Nat),n,0⟩]) rfl rfl ?_
   conv=>whnf
   refine⟨⟨rfl,(by repeat'(first|exact trivial|exact rfl|refine And.intro ?_ ?_|((conv=>whnf);first|exact trivial|exact rfl|refine And.intro ?_ ?_|omega)))⟩, ?_⟩
   conv=>whnf
   refine app_step tB_ok (aLink M) [(⟨(os.length:Int)+(j:Nat),(os.length:Int)+((j+1:Nat):Int),n,0⟩:Lnk),⟨(os.length:Int)+((j+1:Nat):Int),(os.length:Int)+(j:Nat),n,0⟩] (fun _=>rfl) rfl rfl rfl rfl ?_
   conv=>whnf
   refine⟨⟨rfl,rfl,Nat.le_refl _,Nat.le_refl _,by show (M.length+2) * 33≤_; omega⟩, ?_⟩
   conv=>whnf
   refine⟨_,wrapId ⟨by omega,by omega⟩, ?_⟩
   refine⟨j+1+1,⟨by omega, .inr hlt⟩,by show ms.length - (j+1+1) < ms.length - (j+1); omega, ?_⟩
   try dsimp only
   rw [hnx]
   conv=>whnf
   refine⟨rfl, ?_⟩
   conv=>whnf
   repeat'(first|exact trivial|exact rfl|refine And.intro ?_ ?_|((conv=>whnf);first|exact trivial|exact rfl|refine And.intro ?_ ?_|omega))
   all_goals first | exact congrArg aLink (appPair M _ _) | simp
 have hie:drfLs r.bs os.length 0 (ms.take i)=drfLs r.bs os.length 0 ms:=by
  have:¬ i < ms.length:=by simpa using hc
  rw [List.take_of_length_le (by omega)]
 rw [hie]
 have hL4:(L3 ++ drfLs r.bs os.length 0 ms).length≤40000:=by
  have:=drf_le r.bs os.length ms
  rw [List.length_append]; omega
 generalize L3 ++ drfLs r.bs os.length 0 ms=L4 at *
 have hc1:=flat_le2 (cvrLs os 1 2) (fun o=>Nat.le_succ_of_le (cvr_len os 1 2 o)) os
 have hc2:=flat_le2 (cvrLs os 3 4) (fun o=>Nat.le_succ_of_le (cvr_len os 3 4 o)) os
 have hl1:=rLighter_t os 2 1 hol h.od
 have hl2:=rLighter_t os 4 3 hol h.od
 generalize os.flatMap (cvrLs os 1 2)=C1 at *
 generalize os.flatMap (cvrLs os 3 4)=C2 at *
 conv=>whnf
 refine call_step hl1 rfl rfl ?_
 conv=>whnf
 refine⟨?_, ?_, ?_⟩
 iterate 2 · repeat'(first|exact trivial|exact rfl|refine And.intro ?_ ?_|((conv=>whnf);first|exact trivial|exact rfl|refine And.intro ?_ ?_|omega))
 conv=>whnf
 refine app_step tB_ok (aLink L4) C1 (fun _=>rfl) rfl rfl rfl rfl ?_
 conv=>whnf
 refine⟨⟨rfl,rfl,Nat.le_refl _,(by show 0+C1.length≤C1.length; omega),by show (L4.length+C1.length) * 33≤_; omega⟩, ?_⟩
 conv=>whnf
 refine call_step hl2 rfl rfl ?_
 conv=>whnf
 refine⟨?_, ?_, ?_⟩
 iterate 2 · repeat'(first|exact trivial|exact rfl|refine And.intro ?_ ?_|((conv=>whnf);first|exact trivial|exact rfl|refine And.intro ?_ ?_|omega))
 conv=>whnf
 refine app_step tB_ok (aLink (L4.take L4.length ++ (C1.drop 0).take C1.length)) C2 (fun _=>rfl) rfl rfl rfl rfl ?_
 conv=>whnf
 refine⟨⟨rfl,rfl,(by show L4.length+C1.length≤(L4.take L4.length ++ (C1.drop 0).take C1.length).length; simp),(by show 0+C2.length≤C2.length; omega),by show (L4.length+C1.length+C2.length) * 33≤_; omega⟩, ?_⟩
 conv=>whnf
 repeat'(first|exact trivial|exact rfl|refine And.intro ?_ ?_|((conv=>whnf);first|exact trivial|exact rfl|refine And.intro ?_ ?_|omega))
 all_goals first | exact congrArg aLink (appRest L4 C1 C2) | (simp only [List.length_append]) | simp

end Go.Proofs

namespace Go.Proofs
open Go.Sx

abbrev wiA (r:Rd) (more:List Mom):List SV:=[rdA r, .c (.s 4 0 more.length 2)]
abbrev wiH (r:Rd) (more:List Mom):Heap:=rdH r ++ [(4,false, .arr (aMom more))]

set_option maxHeartbeats 4000000 in
theorem rWith_t (r:Rd) (more:List Mom) (h:RdOK r) (hl:more.length≤2) (hm:∀ m ∈ more,momOK r m=true) :
  Triple Tryz.prog 88 (wiA r more) (wiH r more) 5 (.tup [.inr [.s 5 0 (boxR r more).length 2, .s 6 0 (lnkR r more).length 4], .inl (.s 7 0 (momsF r more).length 2)])
   [(5,true, .arr (aSpan (boxR r more))),(6,true, .arr (aLink (lnkR r more))),(7,true, .arr (aMom (momsF r more)))]:=by
 have hsh:=sheet_ok h (more:=more) (by omega) hm
 have hsml:=h.sml
 have hnr:=h.nr
 have hol:=hsh.ol
 have hml:=hsh.ml
 have eL:lnkR r more=((sortK Wgh.id r.ws).flatMap (wghLs r.bs (objsF r) (momsF r more)) ++ (sortK Chk.id r.cs).flatMap (chkLs r.bs (objsF r) (momsF r more))) ++ (((((momsF r more).flatMap (momLs r (objsF r) (momsF r more))) ++ drfLs r.bs (objsF r).length 0 (momsF r more)) ++ (objsF r).flatMap (cvrLs (objsF r) 1 2)) ++ (objsF r).flatMap (cvrLs (objsF r) 3 4)):=by
  unfold lnkR linksR
  simp only [List.append_assoc]
 have eB:boxR r more=(objsF r).map (fun o=>((0:Int),capF r o)) ++ (momsF r more).map (fun _=>((-1000000:Int),(1000000:Int))):=rfl
 have hR:=rReads_t r _ _ hsh
 have hO:=rOthers_t r _ _ hsh
 have hrl:=flat_le2 (wghLs r.bs (objsF r) (momsF r more)) (fun _=>Nat.le_refl _) (sortK Wgh.id r.ws)
 have hrl2:=flat_le2 (chkLs r.bs (objsF r) (momsF r more)) (fun _=>Nat.le_refl _) (sortK Chk.id r.cs)
 rw [sortK_len] at hrl hrl2
 have hrl3:((sortK Wgh.id r.ws).flatMap (wghLs r.bs (objsF r) (momsF r more)) ++ (sortK Chk.id r.cs).flatMap (chkLs r.bs (objsF r) (momsF r more))).length≤400:=by rw [List.length_append]; omega
 have hLl:=rdR_len h hl
 have hLl2:=hLl.2
 rw [eL,List.length_append] at hLl2
 rw [eL,eB]
 clear eL eB
 generalize (sortK Wgh.id r.ws).flatMap (wghLs r.bs (objsF r) (momsF r more)) ++ (sortK Chk.id r.cs).flatMap (chkLs r.bs (objsF r) (momsF r more))=L1 at *
 generalize ((((momsF r more).flatMap (momLs r (objsF r) (momsF r more))) ++ drfLs r.bs (objsF r).length 0 (momsF r more)) ++ (objsF r).flatMap (cvrLs (objsF r) 1 2)) ++ (objsF r).flatMap (cvrLs (objsF r) 3 4)=L2 at *
 have hOb:=rObjects_t r hsml
 have hMo:=rMoments_t r hsml
 have em0:momsF r []=distS momLt ((r.ws.map wMom ++ r.cs.map cMom) ++ more.take 0):=by unfold momsF; simp
 have em1:momsF r more=distS momLt ((r.ws.map wMom ++ r.cs.map cMom) ++ more):=by unfold momsF; rw [List.append_assoc]
 rw [em0] at hMo
 have hMl:(r.ws.map wMom ++ r.cs.map cMom).length≤1000:=by simp; omega
 generalize r.ws.map wMom ++ r.cs.map cMom=M0 at *
 generalize objsF r=os at *
 refine triple_of tB_ok Tryz.func88 rfl Tryz.call88 rfl ?_
 intro ρ w hH
 conv=>whnf
 refine call_step hOb rfl rfl ?_
 conv=>whnf
 refine⟨?_, ?_, ?_⟩
 iterate 2 · repeat'(first|exact trivial|exact rfl|refine And.intro ?_ ?_|((conv=>whnf);first|exact trivial|exact rfl|refine And.intro ?_ ?_|omega))
 conv=>whnf
 refine call_step hMo rfl rfl ?_
 conv=>whnf
 refine⟨?_, ?_, ?_⟩
 iterate 2 · repeat'(first|exact trivial|exact rfl|refine And.intro ?_ ?_|((conv=>whnf);first|exact trivial|exact rfl|refine And.intro ?_ ?_|omega))
 conv=>whnf
 refine loop_step tB_ok (G:=Nat) 1 [8] (fun i=>[(8,iv .i64 i),(7, .c (.s 9 0 (distS momLt (M0 ++ more.take i)).length 2))]) (fun i=>[(9,true, .arr (aMom (distS momLt (M0 ++ more.take i))))]) (fun i=>i≤more.length) (fun i=>more.length - i) ?_
 conv=>whnf
 refine⟨⟨0,Nat.zero_le _, ?_⟩, ?_⟩
 ·conv=>whnf
  repeat'(first|exact trivial|exact rfl|refine And.intro ?_ ?_|((conv=>whnf);first|exact trivial|exact rfl|refine And.intro ?_ ?_|omega))
 intro i hi ρ1 t1 hρ1
 conv=>whnf
 refine⟨fun hc=>?_,fun hc=>?_⟩
 ·have hlt:i < more.length:=by simpa using hc
  have hL:=distS_len momLt_ok (M0 ++ more.take i)
  rw [List.length_append,List.length_take] at hL
  have hnx:distS momLt (M0 ++ more.take (i+1))=insS momLt (distS momLt (M0 ++ more.take i)) more[i]:=by
   rw [← distS_snoc,take_snoc hlt,← List.append_assoc]
  generalize distS momLt (M0 ++ more.take i)=L at *
  conv=>whnf
  refine⟨i,rfl,hlt,hlt, ?_⟩
  conv=>whnf
  refine call_step (rWithMom_t L more[i] (by omega)) rfl rfl ?_
  conv=>whnf
  refine⟨?_, ?_, ?_⟩
  iterate 2 · repeat'(first|exact trivial|exact rfl|refine And.intro ?_ ?_|((conv=>whnf);first|exact trivial|exact rfl|refine And.intro ?_ ?_|omega))
  conv=>whnf
  refine⟨_,wrapId ⟨by omega,by omega⟩, ?_⟩
  refine⟨i+1,hlt,by show more.length - (i+1) < more.length - i; omega, ?_⟩
  try dsimp only
  rw [hnx]
  conv=>whnf
  refine⟨rfl, ?_⟩
  conv=>whnf
  repeat'(first|exact trivial|exact rfl|refine And.intro ?_ ?_|((conv=>whnf);first|exact trivial|exact rfl|refine And.intro ?_ ?_|omega))
 have hie:i=more.length:=by simp at hc; omega
 subst hie
 rw [List.take_length,← em1]
 generalize momsF r more=ms at *
 conv=>whnf
 -- the boxes
 refine loop_step tB_ok (G:=Nat) 2 [] (fun i=>[(10,iv .i64 i)]) (fun i=>[(10,true, .cells [.s 11 0 ((os.take i).map fun o=>((0:Int),capF r o)).length 2, .s 12 0 0 4]),(11,true, .arr (aSpan ((os.take i).map fun o=>((0:Int),capF r o)))),(12,true, .arr (aLink []))]) (fun i=>i≤os.length) (fun i=>os.length - i) ?_
 conv=>whnf
 refine⟨⟨0,Nat.zero_le _, ?_⟩, ?_⟩
 ·conv=>whnf
  repeat'(first|exact trivial|exact rfl|refine And.intro ?_ ?_|((conv=>whnf);first|exact trivial|exact rfl|refine And.intro ?_ ?_|omega))
 intro i hi ρ1 t1 hρ1
 conv=>whnf
 refine⟨fun hc=>?_,fun hc=>?_⟩
 ·have hlt:i < os.length:=by simpa using hc
  have hnx:(os.take (i+1)).map (fun o=>((0:Int),capF r o))=(os.take i).map (fun o=>((0:Int),capF r o)) ++ [(0,capF r os[i])]:=by rw [take_snoc hlt,List.map_append]; rfl
  have hM:((os.take i).map (fun o=>((0:Int),capF r o))).length≤1000:=by rw [List.length_map,List.length_take]; omega
  have hC:=rCapacity_t r os[i] hsml
  generalize (os.take i).map (fun o=>((0:Int),capF r o))=M at *
  generalize capF r os[i]=cap at *
  conv=>whnf
  refine⟨i,rfl,hlt,hlt, ?_⟩
  conv=>whnf
  refine call_step hC rfl rfl ?_
  conv=>whnf
  refine⟨?_, ?_, ?_⟩
  iterate 2 · repeat'(first|exact trivial|exact rfl|refine And.intro ?_ ?_|((conv=>whnf);first|exact trivial|exact rfl|refine And.intro ?_ ?_|omega))
  conv=>whnf
  refine bs_step tB_ok (aSpan [(0,cap)]) rfl rfl ?_
  conv=>whnf
  refine⟨⟨rfl,(by repeat'(first|exact trivial|exact rfl|refine And.intro ?_ ?_|((conv=>whnf);first|exact trivial|exact rfl|refine And.intro ?_ ?_|omega)))⟩, ?_⟩
  conv=>whnf
  refine app_step tB_ok (aSpan M) [((0:Int),cap)] (fun _=>rfl) rfl rfl rfl rfl ?_
  conv=>whnf
  refine⟨⟨rfl,rfl,Nat.le_refl _,Nat.le_refl _,by show (M.length+1) * 17≤_; omega⟩, ?_⟩
  conv=>whnf
  refine⟨_,wrapId ⟨by omega,by omega⟩, ?_⟩
  refine⟨i+1,hlt,by show os.length - (i+1) < os.length - i; omega, ?_⟩
  try dsimp only
  rw [hnx]
  conv=>whnf
  refine⟨rfl, ?_⟩
  conv=>whnf
  repeat'(first|exact trivial|exact rfl|refine And.intro ?_ ?_|((conv=>whnf);first|exact trivial|exact rfl|refine And.intro ?_ ?_|omega))
  all_goals first | exact (congrArg aSpan app1.symm:_) | exact (congrArg aSpan app1:_) | (simp; done) | skip
 have hie:i=os.length:=by simp at hc; omega
 subst hie
 rw [List.take_length]
 have hbl:(os.map fun o=>((0:Int),capF r o)).length≤1000:=by rw [List.length_map]; omega
 generalize (os.map fun o=>((0:Int),capF r o))=B0 at *
 conv=>whnf
 refine loop_step tB_ok (G:=Nat) 1 [11] (fun i=>[(11,iv .i64 i)]) (fun i=>[(10,true, .cells [.s 13 0 (B0 ++ (ms.take i).map fun _=>((-1000000:Int),(1000000:Int))).length 2, .s 12 0 0 4]),(13,true, .arr (aSpan (B0 ++ (ms.take i).map fun _=>((-1000000:Int),(1000000:Int)))))]) (fun i=>i≤ms.length) (fun i=>ms.length - i) ?_
 conv=>whnf
 refine⟨⟨0,Nat.zero_le _, ?_⟩, ?_⟩
 ·conv=>whnf
  repeat'(first|exact trivial|exact rfl|refine And.intro ?_ ?_|((conv=>whnf);first|exact trivial|exact rfl|refine And.intro ?_ ?_|omega))
  all_goals first | (show aSpan B0=aSpan (B0 ++ []); rw [List.append_nil]) | simp
 intro i hi ρ1 t1 hρ1
 conv=>whnf
 refine⟨fun hc=>?_,fun hc=>?_⟩
 ·have hlt:i < ms.length:=by simpa using hc
  have hnx:=map_round B0 (fun _:Mom=>((-1000000:Int),(1000000:Int))) hlt
  have hM:(B0 ++ (ms.take i).map fun _=>((-1000000:Int),(1000000:Int))).length≤2000:=by rw [List.length_append,List.length_map,List.length_take]; omega
  generalize (B0 ++ (ms.take i).map fun _=>((-1000000:Int),(1000000:Int)))=M at *
  conv=>whnf
  refine bs_step tB_ok (aSpan [(-1000000,1000000)]) rfl rfl ?_
  conv=>whnf
  refine⟨⟨rfl,(by repeat'(first|exact trivial|exact rfl|refine And.intro ?_ ?_|((conv=>whnf);first|exact trivial|exact rfl|refine And.intro ?_ ?_|omega)))⟩, ?_⟩
  conv=>whnf
  refine app_step tB_ok (aSpan M) [((-1000000:Int),(1000000:Int))] (fun _=>rfl) rfl rfl rfl rfl ?_
  conv=>whnf
  refine⟨⟨rfl,rfl,Nat.le_refl _,Nat.le_refl _,by show (M.length+1) * 17≤_; omega⟩, ?_⟩
  conv=>whnf
  refine⟨_,wrapId ⟨by omega,by omega⟩, ?_⟩
  refine⟨i+1,hlt,by show ms.length - (i+1) < ms.length - i; omega, ?_⟩
  try dsimp only
  rw [hnx]
  conv=>whnf
  refine⟨rfl, ?_⟩
  conv=>whnf
  repeat'(first|exact trivial|exact rfl|refine And.intro ?_ ?_|((conv=>whnf);first|exact trivial|exact rfl|refine And.intro ?_ ?_|omega))
  all_goals first | exact (congrArg aSpan app1.symm:_) | exact (congrArg aSpan app1:_) | simp
 have hie:i=ms.length:=by simp at hc; omega
 subst hie
 rw [List.take_length]
 generalize (B0 ++ ms.map fun _=>((-1000000:Int),(1000000:Int)))=B at *
 conv=>whnf
 refine call_step hR rfl rfl ?_
 conv=>whnf
 refine⟨?_, ?_, ?_⟩
 iterate 2 · repeat'(first|exact trivial|exact rfl|refine And.intro ?_ ?_|((conv=>whnf);first|exact trivial|exact rfl|refine And.intro ?_ ?_|omega))
 conv=>whnf
 refine call_step hO rfl rfl ?_
 conv=>whnf
 refine⟨?_, ?_, ?_⟩
 iterate 2 · repeat'(first|exact trivial|exact rfl|refine And.intro ?_ ?_|((conv=>whnf);first|exact trivial|exact rfl|refine And.intro ?_ ?_|omega))
 conv=>whnf
 refine app_step tB_ok (aLink L1) L2 (fun _=>rfl) rfl rfl rfl rfl ?_
 conv=>whnf
 refine⟨⟨rfl,rfl,Nat.le_refl _,(by show 0+L2.length≤L2.length; omega),by show (L1.length+L2.length) * 33≤_; omega⟩, ?_⟩
 conv=>whnf
 repeat'(first|exact trivial|exact rfl|refine And.intro ?_ ?_|((conv=>whnf);first|exact trivial|exact rfl|refine And.intro ?_ ?_|omega))
 all_goals first | exact congrArg aLink (show L1.take L1.length ++ (L2.drop 0).take L2.length=L1 ++ L2 by simp) | (simp only [List.length_append]) | simp

end Go.Proofs

namespace Go.Proofs
open Go.Sx

theorem rWithNil_t (r:Rd) (h:RdOK r) :
  Triple Tryz.prog 88 [rdA r, .c (.v (.slice none 0 0))] (rdH r) 4 (.tup [.inr [.s 5 0 (boxR r []).length 2, .s 6 0 (lnkR r []).length 4], .inl (.s 7 0 (momsF r []).length 2)])
   [(5,true, .arr (aSpan (boxR r []))),(6,true, .arr (aLink (lnkR r []))),(7,true, .arr (aMom (momsF r [])))] :=
 Triple.nilK (k:=4) (o:=.arr (aMom [])) (H:=rdH r) (rWith_t r [] h (by simp) (by simp)) rfl rfl rfl (by
  intro ρ vals hv
  match hvl:vals,hv with
  | [a,b],hv =>
   refine⟨?_, ?_,trivial⟩
   ·exact SV.rel_agree (fun k hk=>upd_ne (by
     have:k < 4:=by
      have h1:memN k (rdA r).nms=true:=memN_iff.2 (SV.uses_nms.1 hk)
      have h2:k ∈ [0,2,3,1]:=SV.uses_nms.1 hk
      simp at h2; omega
     omega)) hv.1
   ·have hb:b=.slice none 0 0:=hv.2.1
    subst hb
    exact⟨none,by rw [upd_eq]; rfl,by rw [upd_eq]; exact Nat.le_refl _,fun h=>by rw [upd_eq] at h; cases h⟩)

theorem rCompile_t (r:Rd) (h:RdOK r):Triple Tryz.prog 53 [rdA r] (rdH r) 4 (.agg [.s 4 0 (boxR r []).length 2, .s 5 0 (lnkR r []).length 4])
   [(4,true, .arr (aSpan (boxR r []))),(5,true, .arr (aLink (lnkR r [])))]:=by
 have hW:=rWithNil_t r h
 generalize boxR r []=bx at *
 generalize lnkR r []=lk at *
 generalize momsF r []=ms at *
 refine triple_of tB_ok Tryz.func53 rfl Tryz.call53 rfl ?_
 intro ρ w hH
 conv=>whnf
 refine call_step hW rfl rfl ?_
 conv=>whnf
 refine⟨?_, ?_, ?_⟩
 iterate 2 · repeat'(first|exact trivial|exact rfl|refine And.intro ?_ ?_|((conv=>whnf);first|exact trivial|exact rfl|refine And.intro ?_ ?_|omega))
 conv=>whnf
 repeat'(first|exact trivial|exact rfl|refine And.intro ?_ ?_|((conv=>whnf);first|exact trivial|exact rfl|refine And.intro ?_ ?_|omega))

end Go.Proofs

namespace Go.Proofs
open Go.Sx


theorem mom_bd {r:Rd} {more:List Mom} {m:Mom} (h:m ∈ momsF r more):-1≤(objsF r).length+plF (momsF r more) m∧(objsF r).length+plF (momsF r more) m < (boxR r more).length:=by
 obtain ⟨e,l⟩:=plF_mem h
 rw [boxR_len]; omega
end Go.Proofs

namespace Go
namespace Sx
open Go.Deep Go.ChangeShapes Go.WideShapes

end Sx
end Go

namespace Go
namespace Sx
open Go.Deep Go.ChangeShapes Go.WideShapes

structure AllI (P:Program) (t n:Nat):Prop where
  cells:P.cellsOf t=n
  op:∀ {H:Type} {enc:TypeId × Value → H} {w:World} {held:Bool} {fuel:Nat} {cs:List Value} {x:DataW H × List MemPlace},DataW.trod enc P w 0 (fun _=>true) held fuel t cs=some x →
    cs.length=n∧∃ V:Nat → Int,∀ j,j < n → cs[j]? = some (.int .i64 (V j))

theorem allI_int {P:Program} {t:Nat} (h:P.underlying t=some (.int .i64)) (hc:P.cellsOf t=1):AllI P t 1 where
  cells:=hc
  op:=by
    intro H enc w held fuel cs x hx
    obtain ⟨n,rfl,_,_⟩:=DataW.trod_int h hx
    exact ⟨rfl, fun _ => n, fun j hj => by obtain rfl : j = 0 := by omega
                                           rfl⟩

def AllFs (P:Program):List Field → Nat → Nat → Prop
  | [],j,n=>j=n
  | f :: r,j,n=>∃ m,f.offset=j∧AllI P f.type m∧AllFs P r (j+m) n

theorem allFs_get {P:Program} {H:Type} {enc:TypeId × Value → H} {w:World} {held:Bool} {fuel n:Nat} {cs:List Value} (hl:cs.length=n):∀ {fs:List Field} {j:Nat},AllFs P fs j n →
    (∀ f ∈ fs,∃ x,DataW.trod enc P w 0 (fun _=>true) held fuel f.type ((cs.drop f.offset).take (P.cellsOf f.type))=some x) →
    ∃ V:Nat → Int,∀ i,j≤i → i < n → cs[i]? = some (.int .i64 (V i))
  | [],j,h,_=>⟨fun _=>0,fun i h1 h2=>by have h:j=n:=h; omega⟩
  | f :: r,j,⟨m,ho,hA,hr⟩,hx=>by
    obtain ⟨V2,hV2⟩:=allFs_get hl hr fun g hg=>hx g (List.mem_cons_of_mem _ hg)
    obtain ⟨x,hx⟩:=hx f (List.mem_cons_self ..)
    rw [ho,hA.cells] at hx
    obtain ⟨_,V1,hV1⟩:=hA.op hx
    refine⟨fun i=>if i < j+m then V1 (i - j) else V2 i,fun i h1 h2=>?_⟩
    by_cases hi:i < j+m
    · dsimp only
      rw [if_pos hi]
      have:=hV1 (i - j) (by omega)
      rw [List.getElem?_take,if_pos (by omega),List.getElem?_drop] at this
      rw [← this]; congr 1; omega
    · dsimp only
      rw [if_neg hi]
      exact hV2 i (by omega) h2

theorem allI_struct {P:Program} {t n:Nat} {fs:Array Field} (h:P.underlying t=some (.struct fs)) (hc:P.cellsOf t=n) (hF:AllFs P fs.toList 0 n):AllI P t n where
  cells:=hc
  op:=by
    intro H enc w held fuel cs x hx
    obtain ⟨xs,k,_,_,hl,hxl,hff⟩:=DataW.trod_struct h hx
    rw [hc] at hl
    obtain ⟨V,hV⟩:=allFs_get hl hF fun f hf=>by
      obtain ⟨i,hi⟩:=List.mem_iff_getElem?.1 hf
      have:=hff i f (by simpa using hi)
      have hlt:i < xs.length:=by rw [hxl]; have:=(List.getElem?_eq_some_iff.1 hi).1; simpa using this
      rw [List.getElem?_eq_getElem hlt] at this
      exact⟨_,this⟩
    exact⟨hl,V,fun j hj=>hV j (Nat.zero_le _) hj⟩

theorem open_slI {H:Type} {enc:TypeId × Value → H} {P:Program} {w:World} {held:Bool} {t e n fuel:Nat} {cs:List Value} {x:DataW H × List MemPlace}
    (ht:P.underlying t=some (.slice e)) (he:AllI P e n) (hpos:0 < n) (hby:1≤P.bytesOf e) (hw:∀ y ∈ x.1.weights P t,y≤reachBytes)
    (h:DataW.trod enc P w 0 (fun _=>true) held fuel t cs=some x) :
    (∃ a,cs=[.slice a 0 0]) ∨ ∃ (b off len cap:Nat) (V:Nat → Nat → Int),cs=[.slice (some ⟨b,off,none⟩) len cap]∧len≤cap∧len≤reachBytes∧b < w.heap.size ∧
      ∀ i,i < len → ∀ j,j < n → w.cell? ⟨b,off+(i * n+j),none⟩=some (.int .i64 (V i j)):=by
  rcases open_slice ht h with ⟨h0,_⟩ | ⟨a,len,cap,m,n',D,Pl,rfl,hb,hl,hm,hmm,hxx,hx⟩
  · exact .inl ⟨none,h0⟩
  simp only [if_true] at hmm
  subst hmm
  rcases Nat.eq_zero_or_pos m with rfl | hcp
  · have:len=0:=by omega
    subst this
    exact .inl ⟨some a,rfl⟩
  right
  have hle:len≤reachBytes:=by
    subst hxx
    have:=hw ((len+(m - len)) * P.bytesOf e) (by simp [DataW.weights,ht])
    have h2:len * 1≤(len+(m - len)) * P.bytesOf e:=Nat.mul_le_mul (by omega) hby
    omega
  have each:∀ i,i < m → ∃ V:Nat → Int,∀ j,j < n → w.cell? (a.add (i * n+j))=some (.int .i64 (V j)):=by
    intro i hi
    obtain ⟨cs',g1,g2⟩:=hx i hi
    rw [he.cells] at g1
    obtain ⟨_,hlen,hcell⟩:=World.cells?_some g1
    obtain ⟨_,V,hV⟩:=he.op g2
    refine⟨V,fun j hj=>?_⟩
    have hc:=hcell j hj
    rw [hV j hj,add_add] at hc
    exact hc
  obtain ⟨V,hV⟩:=choose_lt (α:=Nat → Int) (p:=fun i f=>∀ j,j < n → w.cell? (a.add (i * n+j))=some (.int .i64 (f j))) each
  have h00:=hV 0 hcp 0 hpos
  obtain ⟨b,off,spot⟩:=a
  have hs:spot=none:=by simpa [Addr.add] using World.cell?_spot h00
  subst hs
  refine⟨b,off,len,m,V,rfl,hl,hle, ?_,fun i hi j hj=>?_⟩
  · have h00':w.cell? ⟨b,off,none⟩=some (.int .i64 (V 0 0)):=by simpa [Addr.add] using h00
    rcases Nat.lt_or_ge b w.heap.size with hlt | hge
    · exact hlt
    · simp [World.cell?,Array.getElem?_eq_none hge] at h00'
  · have:=hV i (by omega) j hj
    rwa [add_plain] at this

theorem satO_cameR {ρ:Asg} {w:World} {k:Nat} {A:Arr} (hl:A.xs.length≤(ρ k).cap) (h:∀ i x,A.xs[i]? = some x → ∀ j c,(A.enc x)[j]? = some c → ∃ v,w.cell? (adr ρ k (i * A.sz+j))=some v∧c.rel ρ v) :
    SatO ρ w k false (.arr A) where
  wf:=hl
  at_ i j c hc:=by
    rw [Sx.arr_cell?] at hc
    cases hx:A.xs[i]? with
    | none=>rw [hx] at hc; cases hc
    | some x=>rw [hx] at hc; exact h i x hx j c hc
  room h:=by cases h
  off0 h:=by cases h
  keys Φ h:=by cases h

theorem key_sl {α:Type} {H:Type} {enc:TypeId × Value → H} {P:Program} {w:World} {held:Bool} {t e n fuel:Nat} {a:Value} {x:DataW H × List MemPlace} (f:α → List Int) (hf:∀ x,(f x).length=n) (mk:(Nat → Int) → α)
    (hmk:∀ V j z,(f (mk V))[j]? = some z → j < n∧z=V j)
    (ht:P.underlying t=some (.slice e)) (he:AllI P e n) (hpos:0 < n) (hby:1≤P.bytesOf e) (hw:∀ y ∈ x.1.weights P t,y≤reachBytes)
    (h:DataW.trod enc P w 0 (fun _=>true) held fuel t [a]=some x) (k:Nat) :
    ∃ (xs:List α) (r:Rg),xs.length≤reachBytes∧∀ ρ:Asg,ρ k=r → (SC.s k 0 xs.length n).rel ρ a∧SatO ρ w k false (.arr (aRec n f hf xs))∧(0 < r.cap → r.blk < w.heap.size):=by
  rcases open_slI ht he hpos hby hw h with ⟨a0,ha⟩ | ⟨bb,off,len,cap,V,ha,hle,hlr,hblk,hcell⟩
  · simp at ha; subst ha
    exact⟨[],⟨0,0,0⟩,Nat.zero_le _,fun ρ hρ=>⟨⟨a0,by rw [hρ]; rfl,by rw [hρ]; exact Nat.le_refl _,fun h=>by rw [hρ] at h; cases h⟩,satO_cameR (Nat.zero_le _) (fun i x hx=>by cases hx),fun h=>by cases h⟩⟩
  · simp at ha; subst ha
    have hlen:((List.range len).map fun i=>mk (V i)).length=len:=by simp
    refine⟨(List.range len).map fun i=>mk (V i),⟨bb,off,cap⟩,by rw [hlen]; exact hlr,fun ρ hρ=>⟨?_,satO_cameR ?_ ?_,fun _=>hblk⟩⟩
    · rw [hlen]
      exact⟨_,by rw [hρ]; rfl,by rw [hρ]; show 0+len≤cap; omega,fun _=>by simp [adr,hρ]⟩
    · show ((List.range len).map fun i=>mk (V i)).length≤_
      rw [hlen,hρ]; exact hle
    · intro i x hx j c hc
      have hx:((List.range len).map fun i=>mk (V i))[i]? = some x:=hx
      rw [List.getElem?_map] at hx
      obtain ⟨i',hi',rfl⟩:=Option.map_eq_some_iff.1 hx
      obtain ⟨hil,hie⟩:=List.getElem?_eq_some_iff.1 hi'
      have hil:i < len:=by simpa using hil
      have hie:i'=i:=by simpa using hie.symm
      subst hie
      have hc:(encI (f (mk (V i'))))[j]? = some c:=hc
      obtain ⟨z,hz,rfl⟩:=encI_get hc
      obtain ⟨hj,rfl⟩:=hmk (V i') j z hz
      show ∃ v,w.cell? (adr ρ k (i' * n+j))=some v∧_
      rw [show adr ρ k (i' * n+j)=⟨bb,off+(i' * n+j),none⟩ from by simp [adr,hρ]]
      exact⟨_,hcell i' hil j hj,rfl⟩

end Sx
end Go

