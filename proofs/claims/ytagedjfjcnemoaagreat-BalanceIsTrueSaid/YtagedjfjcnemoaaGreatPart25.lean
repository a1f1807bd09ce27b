/-
  A part of the proof that a law answers true: lemmas of a symbolic walk, plain functions, or contracts of the functions walked (Rm, Rn, Ro). Conditions: none.
-/
import Derived.Test.YtagedjfjcnemoaaGreatPart24
set_option maxRecDepth 100000
set_option linter.unusedVariables false
set_option linter.unusedSimpArgs false
namespace Go.Proofs
open Go.Sx

theorem plF_take {α:Type} [DecidableEq α] {l:List α} {x:α} {i:Nat} (h:i < l.length) (hn:∀ y ∈ l.take i,y ≠ x) (he:l[i]=x):plF l x=i:=by
 have hm:x ∈ l:=he ▸ List.getElem_mem h
 have h1:l=l.take i ++ x :: l.drop (i+1):=by rw [← he,← List.drop_eq_getElem_cons h,List.take_append_drop]
 unfold plF
 rw [if_pos hm]
 have h2:l.idxOf x=i:=by
  rw [h1,List.idxOf_append,if_neg (fun hx=>hn x hx rfl)]
  simp
  omega
 rw [h2]

theorem plF_none {α:Type} [DecidableEq α] {l:List α} {x:α} (hn:∀ y ∈ l,y ≠ x):plF l x=-1:=by
 unfold plF
 rw [if_neg (fun hx=>hn x hx rfl)]

theorem rAtThg_t (l:List Thg) (x:Thg) (hl:l.length≤1000000):Triple Tryz.prog 87 [.c (.s 0 0 l.length 4),svThg x] [(0,false, .arr (aThg l))] 1 (iv .i64 (plF l x)) []:=by
 have hf:∀ (i:Nat) (h:i < l.length),(∀ y ∈ l.take i,y ≠ x) → l[i]=x → plF l x=i:=fun i h=>plF_take h
 have hz:(∀ y ∈ l,y ≠ x) → plF l x=-1:=plF_none
 generalize plF l x=R at *
 refine triple_of tB_ok Tryz.func87 rfl Tryz.call87 rfl ?_
 intro ρ w hH
 conv=>whnf
 refine loop_step tB_ok (G:=Nat) 0 [] (fun i=>[(5,iv .i64 i)]) (fun _=>[]) (fun i=>i≤l.length∧∀ y ∈ l.take i,y ≠ x) (fun i=>l.length - i) ?_
 conv=>whnf
 refine⟨⟨0,⟨Nat.zero_le _,by simp⟩, ?_⟩, ?_⟩
 ·conv=>whnf
  repeat'(first|exact trivial|exact rfl|refine And.intro ?_ ?_|((conv=>whnf);first|exact trivial|exact rfl|refine And.intro ?_ ?_|omega))
 rintro i ⟨hi,hn⟩ ρ1 t1 hρ1
 conv=>whnf
 refine⟨fun hc=>?_,fun hc=>?_⟩
 ·have hlt:i < l.length:=by simpa using hc
  conv=>whnf
  refine⟨i,rfl,hlt,hlt, ?_⟩
  conv=>whnf
  refine⟨fun hc=>?_,fun hc=>?_⟩
  ·have h1:l[i]=x:=eqThg_t (show eqThg l[i] x=true from hc)
   rw [hf i hlt hn h1]
   conv=>whnf
   repeat'(first|exact trivial|exact rfl|refine And.intro ?_ ?_|((conv=>whnf);first|exact trivial|exact rfl|refine And.intro ?_ ?_|omega))
  ·have h1:¬ l[i]=x:=fun he=>by
    have h2:eqThg l[i] x=false:=hc
    rw [he,eqThg_r] at h2; cases h2
   conv=>whnf
   refine⟨_,wrapId ⟨by omega,by omega⟩, ?_⟩
   refine⟨i+1,⟨hlt, ?_⟩,by show l.length - (i+1) < l.length - i; omega, ?_⟩
   ·intro y hy
    rw [take_snoc hlt] at hy
    rcases List.mem_append.1 hy with hy | hy
    ·exact hn y hy
    ·simp only [List.mem_singleton] at hy; rw [hy]; exact h1
   conv=>whnf
   refine⟨rfl, ?_⟩
   conv=>whnf
   repeat'(first|exact trivial|exact rfl|refine And.intro ?_ ?_|((conv=>whnf);first|exact trivial|exact rfl|refine And.intro ?_ ?_|omega))
 ·have hie:i=l.length:=by simp at hc; omega
  subst hie
  rw [List.take_length] at hn
  rw [hz hn]
  conv=>whnf
  repeat'(first|exact trivial|exact rfl|refine And.intro ?_ ?_|((conv=>whnf);first|exact trivial|exact rfl|refine And.intro ?_ ?_|omega))
theorem rAtMom_t (l:List Mom) (x:Mom) (hl:l.length≤1000000):Triple Tryz.prog 92 [.c (.s 0 0 l.length 2),svMom x] [(0,false, .arr (aMom l))] 1 (iv .i64 (plF l x)) []:=by
 have hf:∀ (i:Nat) (h:i < l.length),(∀ y ∈ l.take i,y ≠ x) → l[i]=x → plF l x=i:=fun i h=>plF_take h
 have hz:(∀ y ∈ l,y ≠ x) → plF l x=-1:=plF_none
 generalize plF l x=R at *
 refine triple_of tB_ok Tryz.func92 rfl Tryz.call92 rfl ?_
 intro ρ w hH
 conv=>whnf
 refine loop_step tB_ok (G:=Nat) 0 [] (fun i=>[(5,iv .i64 i)]) (fun _=>[]) (fun i=>i≤l.length∧∀ y ∈ l.take i,y ≠ x) (fun i=>l.length - i) ?_
 conv=>whnf
 refine⟨⟨0,⟨Nat.zero_le _,by simp⟩, ?_⟩, ?_⟩
 ·conv=>whnf
  repeat'(first|exact trivial|exact rfl|refine And.intro ?_ ?_|((conv=>whnf);first|exact trivial|exact rfl|refine And.intro ?_ ?_|omega))
 rintro i ⟨hi,hn⟩ ρ1 t1 hρ1
 conv=>whnf
 refine⟨fun hc=>?_,fun hc=>?_⟩
 ·have hlt:i < l.length:=by simpa using hc
  conv=>whnf
  refine⟨i,rfl,hlt,hlt, ?_⟩
  conv=>whnf
  refine⟨fun hc=>?_,fun hc=>?_⟩
  ·have h1:l[i]=x:=eqMom_t (show eqMom l[i] x=true from hc)
   rw [hf i hlt hn h1]
   conv=>whnf
   repeat'(first|exact trivial|exact rfl|refine And.intro ?_ ?_|((conv=>whnf);first|exact trivial|exact rfl|refine And.intro ?_ ?_|omega))
  ·have h1:¬ l[i]=x:=fun he=>by
    have h2:eqMom l[i] x=false:=hc
    rw [he,eqMom_r] at h2; cases h2
   conv=>whnf
   refine⟨_,wrapId ⟨by omega,by omega⟩, ?_⟩
   refine⟨i+1,⟨hlt, ?_⟩,by show l.length - (i+1) < l.length - i; omega, ?_⟩
   ·intro y hy
    rw [take_snoc hlt] at hy
    rcases List.mem_append.1 hy with hy | hy
    ·exact hn y hy
    ·simp only [List.mem_singleton] at hy; rw [hy]; exact h1
   conv=>whnf
   refine⟨rfl, ?_⟩
   conv=>whnf
   repeat'(first|exact trivial|exact rfl|refine And.intro ?_ ?_|((conv=>whnf);first|exact trivial|exact rfl|refine And.intro ?_ ?_|omega))
 ·have hie:i=l.length:=by simp at hc; omega
  subst hie
  rw [List.take_length] at hn
  rw [hz hn]
  conv=>whnf
  repeat'(first|exact trivial|exact rfl|refine And.intro ?_ ?_|((conv=>whnf);first|exact trivial|exact rfl|refine And.intro ?_ ?_|omega))

theorem rCapacity_t (r:Rd) (o:Thg) (hs:Sml r):Triple Tryz.prog 162 [rdA r,svThg o] (rdH r) 4 (iv .i64 (capF r o)) []:=by
 have e:capF r o=r.ws.foldl (capStep r.bs o) 10000000:=rfl
 rw [e]
 have hbs:=hs.bs
 have hws:=hs.ws
 have hF:=fun id=>rFind_t r id (by omega)
 obtain ⟨bs,cs,ns,ws⟩:=r
 dsimp only at *
 refine triple_of tB_ok Tryz.func162 rfl Tryz.call162 rfl ?_
 intro ρ w hH
 conv=>whnf
 refine loop_step tB_ok (G:=Nat) 0 [] (fun i=>[(6,iv .i64 i),(5,iv .i64 ((ws.take i).foldl (capStep bs o) 10000000))]) (fun _=>[]) (fun i=>i≤ws.length) (fun i=>ws.length - i) ?_
 conv=>whnf
 refine⟨⟨0,Nat.zero_le _, ?_⟩, ?_⟩
 ·conv=>whnf
  repeat'(first|exact trivial|exact rfl|refine And.intro ?_ ?_|((conv=>whnf);first|exact trivial|exact rfl|refine And.intro ?_ ?_|omega))
 rintro i hi ρ1 t1 hρ1
 conv=>whnf
 refine⟨fun hc=>?_,fun hc=>?_⟩
 ·have hlt:i < ws.length:=by simpa using hc
  have hn:=cap_round (bs:=bs) (o:=o) hlt
  generalize (ws.take i).foldl (capStep bs o) 10000000=n at *
  conv=>whnf
  refine⟨i,rfl,hlt,hlt, ?_⟩
  conv=>whnf
  refine⟨fun hc=>?_,fun hc=>?_⟩
  ·have h1:ws[i].o=o:=eqThg_t (show eqThg ws[i].o o=true from hc)
   have hn:(ws.take (i+1)).foldl (capStep bs o) 10000000=min n (findD bs ws[i].bal).cap:=by rw [hn]; unfold capStep; simp [h1]
   have hF:=hF ws[i].bal
   generalize findD bs ws[i].bal=d at *
   conv=>whnf
   refine⟨i,rfl,hlt,hlt, ?_⟩
   conv=>whnf
   refine call_step hF rfl rfl ?_
   conv=>whnf
   refine⟨?_, ?_, ?_⟩
   iterate 2 · repeat'(first|exact trivial|exact rfl|refine And.intro ?_ ?_|((conv=>whnf);first|exact trivial|exact rfl|refine And.intro ?_ ?_|omega))
   conv=>whnf
   refine⟨_,wrapId ⟨by omega,by omega⟩, ?_⟩
   refine⟨i+1,hlt,by show ws.length - (i+1) < ws.length - i; omega, ?_⟩
   try dsimp only
   rw [hn]
   conv=>whnf
   refine⟨rfl, ?_⟩
   conv=>whnf
   repeat'(first|exact trivial|exact rfl|refine And.intro ?_ ?_|((conv=>whnf);first|exact trivial|exact rfl|refine And.intro ?_ ?_|omega))
  ·have h1:¬ ws[i].o=o:=fun he=>by
    have h2:eqThg ws[i].o o=false:=hc
    rw [he,eqThg_r] at h2; cases h2
   have hn:(ws.take (i+1)).foldl (capStep bs o) 10000000=n:=by rw [hn]; unfold capStep; rw [show (ws[i].o == o)=false from by simpa using h1]; rfl
   conv=>whnf
   refine⟨_,wrapId ⟨by omega,by omega⟩, ?_⟩
   refine⟨i+1,hlt,by show ws.length - (i+1) < ws.length - i; omega, ?_⟩
   try dsimp only
   rw [hn]
   conv=>whnf
   refine⟨rfl, ?_⟩
   conv=>whnf
   repeat'(first|exact trivial|exact rfl|refine And.intro ?_ ?_|((conv=>whnf);first|exact trivial|exact rfl|refine And.intro ?_ ?_|omega))
 ·have hie:i=ws.length:=by simp at hc; omega
  subst hie
  rw [List.take_length]
  conv=>whnf
  repeat'(first|exact trivial|exact rfl|refine And.intro ?_ ?_|((conv=>whnf);first|exact trivial|exact rfl|refine And.intro ?_ ?_|omega))

def sidZ:Sid:=⟨0,0,0,0,false⟩

theorem side_some (m:Mom):∀ (l:List Ntc) (s t:Sid),s.some=t.some → (s.some=true → s=t) → (l.foldl (sideStepR m) s).some=(l.foldl (sideStepR m) t).some ∧
  ((l.foldl (sideStepR m) s).some=true → l.foldl (sideStepR m) s=l.foldl (sideStepR m) t)∧((l.foldl (sideStepR m) s).some=false → l.foldl (sideStepR m) t=t)
 | [],s,t,h1,h2=>⟨h1,h2,fun _=>rfl⟩
 | n :: l,s,t,h1,h2=>by
  simp only [List.foldl_cons]
  by_cases hh:hitF m n=true
  ·have e:sideStepR m s n=sideStepR m t n:=by
    cases hs:s.some with
    | true=>rw [h2 hs]
    | false =>
     rw [hs] at h1
     unfold sideStepR
     rw [hs,← h1,hh]
     rfl
   have e1:(sideStepR m t n).some=true:=by unfold sideStepR; rw [hh]; rfl
   rw [e]
   obtain ⟨g1,g2,g3⟩:=side_some m l (sideStepR m t n) (sideStepR m t n) rfl (fun _=>rfl)
   refine⟨rfl,fun _=>rfl,fun hx=>?_⟩
   have:=g3 hx
   rw [this,e1] at hx; cases hx
  ·have hh:hitF m n=false:=by simpa using hh
   have e1:sideStepR m s n=s:=by unfold sideStepR; rw [hh]; rfl
   have e2:sideStepR m t n=t:=by unfold sideStepR; rw [hh]; rfl
   rw [e1,e2]
   exact side_some m l s t h1 h2

abbrev svSid (s:Sid):SV:=.agg [.v (.int .i64 s.lo), .v (.int .i64 s.hi), .v (.int .i64 s.loI), .v (.int .i64 s.hiI)]

set_option maxHeartbeats 4000000 in
theorem rSide_t (r:Rd) (m:Mom) (hs:Sml r):Triple Tryz.prog 121 [rdA r,svMom m] (rdH r) 4 (svSid (sideF r m)) []:=by
 have hE:=side_eq r m
 obtain ⟨g1,g2,g3⟩:=side_some m r.ns sidZ ⟨(findD r.bs m.bal).lo,(findD r.bs m.bal).hi,0,0,false⟩ rfl (fun h=>by cases h)
 rw [hE] at g1 g2 g3
 generalize sideF r m=S at *
 have hF:=rFind_t r m.bal (by have:=hs.bs; omega)
 have hns:=hs.ns
 obtain ⟨bs,cs,ns,ws⟩:=r
 dsimp only at *
 generalize findD bs m.bal=d at *
 refine triple_of tB_ok Tryz.func121 rfl Tryz.call121 rfl ?_
 intro ρ w hH
 conv=>whnf
 refine loop_step tB_ok (G:=Nat) 0 [] (fun i=>[(7,iv .i64 i),(5,bv ((ns.take i).foldl (sideStepR m) sidZ).some)]) (fun i=>[(7,true, .cells [.v (.int .i64 ((ns.take i).foldl (sideStepR m) sidZ).lo), .v (.int .i64 ((ns.take i).foldl (sideStepR m) sidZ).hi), .v (.int .i64 ((ns.take i).foldl (sideStepR m) sidZ).loI), .v (.int .i64 ((ns.take i).foldl (sideStepR m) sidZ).hiI)])]) (fun i=>i≤ns.length) (fun i=>ns.length - i) ?_
 conv=>whnf
 refine⟨⟨0,Nat.zero_le _, ?_⟩, ?_⟩
 ·conv=>whnf
  repeat'(first|exact trivial|exact rfl|refine And.intro ?_ ?_|((conv=>whnf);first|exact trivial|exact rfl|refine And.intro ?_ ?_|omega))
 rintro i hi ρ1 t1 hρ1
 conv=>whnf
 refine⟨fun hc=>?_,fun hc=>?_⟩
 ·have hlt:i < ns.length:=by simpa using hc
  have hn:(ns.take (i+1)).foldl (sideStepR m) sidZ=sideStepR m ((ns.take i).foldl (sideStepR m) sidZ) ns[i]:=by rw [take_snoc hlt,List.foldl_append]; rfl
  generalize (ns.take i).foldl (sideStepR m) sidZ=s at *
  conv=>whnf
  refine⟨i,rfl,hlt,hlt, ?_⟩
  conv=>whnf
  refine⟨fun hk=>?_,fun hk=>?_⟩
  ·have hk1:¬ ns[i].bal=m.bal:=by simpa using (show (ns[i].bal != m.bal)=true from hk)
   conv=>whnf
   have hh:hitF m ns[i]=false:=by unfold hitF withinF; simp_all <;> (intros; omega)
   have hq:sideStepR m s ns[i]=s:=by unfold sideStepR; rw [hh]; rfl
   rw [hq] at hn
   refine⟨_,wrapId ⟨by omega,by omega⟩, ?_⟩
   refine⟨i+1,hlt,by show ns.length - (i+1) < ns.length - i; omega, ?_⟩
   try dsimp only
   rw [hn]
   conv=>whnf
   refine⟨rfl, ?_⟩
   conv=>whnf
   repeat'(first|exact trivial|exact rfl|refine And.intro ?_ ?_|((conv=>whnf);first|exact trivial|exact rfl|refine And.intro ?_ ?_|omega))
  have hk1:ns[i].bal=m.bal:=by simpa using (show (ns[i].bal != m.bal)=false from hk)
  conv=>whnf
  refine⟨fun hk=>?_,fun hk=>?_⟩
  ·have hk2:m.tick < ns[i].wlo:=of_decide_eq_true (show decide (m.tick < ns[i].wlo)=true from hk)
   conv=>whnf
   have hh:hitF m ns[i]=false:=by unfold hitF withinF; simp_all <;> (intros; omega)
   have hq:sideStepR m s ns[i]=s:=by unfold sideStepR; rw [hh]; rfl
   rw [hq] at hn
   refine⟨_,wrapId ⟨by omega,by omega⟩, ?_⟩
   refine⟨i+1,hlt,by show ns.length - (i+1) < ns.length - i; omega, ?_⟩
   try dsimp only
   rw [hn]
   conv=>whnf
   refine⟨rfl, ?_⟩
   conv=>whnf
   repeat'(first|exact trivial|exact rfl|refine And.intro ?_ ?_|((conv=>whnf);first|exact trivial|exact rfl|refine And.intro ?_ ?_|omega))
  have hk2:¬ m.tick < ns[i].wlo:=of_decide_eq_false (show decide (m.tick < ns[i].wlo)=false from hk)
  conv=>whnf
  refine⟨fun hk=>?_,fun hk=>?_⟩
  ·have hk3:ns[i].whi < m.tick:=of_decide_eq_true (show decide (ns[i].whi < m.tick)=true from hk)
   conv=>whnf
   have hh:hitF m ns[i]=false:=by unfold hitF withinF; simp_all <;> (intros; omega)
   have hq:sideStepR m s ns[i]=s:=by unfold sideStepR; rw [hh]; rfl
   rw [hq] at hn
   refine⟨_,wrapId ⟨by omega,by omega⟩, ?_⟩
   refine⟨i+1,hlt,by show ns.length - (i+1) < ns.length - i; omega, ?_⟩
   try dsimp only
   rw [hn]
   conv=>whnf
   refine⟨rfl, ?_⟩
   conv=>whnf
   repeat'(first|exact trivial|exact rfl|refine And.intro ?_ ?_|((conv=>whnf);first|exact trivial|exact rfl|refine And.intro ?_ ?_|omega))
  have hk3:¬ ns[i].whi < m.tick:=of_decide_eq_false (show decide (ns[i].whi < m.tick)=false from hk)
  have hh:hitF m ns[i]=true:=by unfold hitF withinF; simp [hk1]; omega
  obtain ⟨lo,hi,loI,hiI,some⟩:=s
  dsimp only at *
  cases some with
  | true =>
   conv=>whnf
   refine⟨fun hc=>absurd hc (by simp),fun hc=>?_⟩
   conv=>whnf
   refine⟨fun hc1=>?_,fun hc1=>?_⟩
   ·have hl:(decide (lo < ns[i].slo) || (ns[i].slo == lo && decide (ns[i].id < loI)))=true:=by rw [show decide (lo < ns[i].slo)=true from hc1]; rfl
    conv=>whnf
    refine⟨fun hc=>absurd hc (by simp),fun hc=>?_⟩
    conv=>whnf
    refine⟨fun hc4=>?_,fun hc4=>?_⟩
    ·have hr:(decide (ns[i].shi < hi) || (ns[i].shi == hi && decide (ns[i].id < hiI)))=true:=by rw [show decide (ns[i].shi < hi)=true from hc4]; rfl
     conv=>whnf
     have hq:sideStepR m ⟨lo,hi,loI,hiI,true⟩ ns[i]=⟨ns[i].slo,ns[i].shi,ns[i].id,ns[i].id,true⟩:=by
      unfold sideStepR
      rw [hh]
      dsimp only
      simp only [Bool.not_true,Bool.false_or]
      rw [hl,hr]
      rfl
     rw [hq] at hn
     refine⟨_,wrapId ⟨by omega,by omega⟩, ?_⟩
     refine⟨i+1,hlt,by show ns.length - (i+1) < ns.length - i; omega, ?_⟩
     try dsimp only
     rw [hn]
     conv=>whnf
     refine⟨rfl, ?_⟩
     conv=>whnf
     repeat'(first|exact trivial|exact rfl|refine And.intro ?_ ?_|((conv=>whnf);first|exact trivial|exact rfl|refine And.intro ?_ ?_|omega))
    have hc4:decide (ns[i].shi < hi)=false:=hc4
    conv=>whnf
    refine⟨fun hc5=>?_,fun hc5=>?_⟩
    ·have hc5:(ns[i].shi == hi)=true:=hc5
     conv=>whnf
     refine⟨fun hc6=>?_,fun hc6=>?_⟩
     ·have hr:(decide (ns[i].shi < hi) || (ns[i].shi == hi && decide (ns[i].id < hiI)))=true:=by rw [hc4,hc5,show decide (ns[i].id < hiI)=true from hc6]; rfl
      conv=>whnf
      have hq:sideStepR m ⟨lo,hi,loI,hiI,true⟩ ns[i]=⟨ns[i].slo,ns[i].shi,ns[i].id,ns[i].id,true⟩:=by
       unfold sideStepR
       rw [hh]
       dsimp only
       simp only [Bool.not_true,Bool.false_or]
       rw [hl,hr]
       rfl
      rw [hq] at hn
      refine⟨_,wrapId ⟨by omega,by omega⟩, ?_⟩
      refine⟨i+1,hlt,by show ns.length - (i+1) < ns.length - i; omega, ?_⟩
      try dsimp only
      rw [hn]
      conv=>whnf
      refine⟨rfl, ?_⟩
      conv=>whnf
      repeat'(first|exact trivial|exact rfl|refine And.intro ?_ ?_|((conv=>whnf);first|exact trivial|exact rfl|refine And.intro ?_ ?_|omega))
     ·have hr:(decide (ns[i].shi < hi) || (ns[i].shi == hi && decide (ns[i].id < hiI)))=false:=by rw [hc4,hc5,show decide (ns[i].id < hiI)=false from hc6]; rfl
      conv=>whnf
      have hq:sideStepR m ⟨lo,hi,loI,hiI,true⟩ ns[i]=⟨ns[i].slo,hi,ns[i].id,hiI,true⟩:=by
       unfold sideStepR
       rw [hh]
       dsimp only
       simp only [Bool.not_true,Bool.false_or]
       rw [hl,hr]
       rfl
      rw [hq] at hn
      refine⟨_,wrapId ⟨by omega,by omega⟩, ?_⟩
      refine⟨i+1,hlt,by show ns.length - (i+1) < ns.length - i; omega, ?_⟩
      try dsimp only
      rw [hn]
      conv=>whnf
      refine⟨rfl, ?_⟩
      conv=>whnf
      repeat'(first|exact trivial|exact rfl|refine And.intro ?_ ?_|((conv=>whnf);first|exact trivial|exact rfl|refine And.intro ?_ ?_|omega))
    ·have hr:(decide (ns[i].shi < hi) || (ns[i].shi == hi && decide (ns[i].id < hiI)))=false:=by rw [hc4,show (ns[i].shi == hi)=false from hc5]; rfl
     conv=>whnf
     have hq:sideStepR m ⟨lo,hi,loI,hiI,true⟩ ns[i]=⟨ns[i].slo,hi,ns[i].id,hiI,true⟩:=by
      unfold sideStepR
      rw [hh]
      dsimp only
      simp only [Bool.not_true,Bool.false_or]
      rw [hl,hr]
      rfl
     rw [hq] at hn
     refine⟨_,wrapId ⟨by omega,by omega⟩, ?_⟩
     refine⟨i+1,hlt,by show ns.length - (i+1) < ns.length - i; omega, ?_⟩
     try dsimp only
     rw [hn]
     conv=>whnf
     refine⟨rfl, ?_⟩
     conv=>whnf
     repeat'(first|exact trivial|exact rfl|refine And.intro ?_ ?_|((conv=>whnf);first|exact trivial|exact rfl|refine And.intro ?_ ?_|omega))
   have hc1:decide (lo < ns[i].slo)=false:=hc1
   conv=>whnf
   refine⟨fun hc2=>?_,fun hc2=>?_⟩
   ·have hc2:(ns[i].slo == lo)=true:=hc2
    conv=>whnf
    refine⟨fun hc3=>?_,fun hc3=>?_⟩
    ·have hl:(decide (lo < ns[i].slo) || (ns[i].slo == lo && decide (ns[i].id < loI)))=true:=by rw [hc1,hc2,show decide (ns[i].id < loI)=true from hc3]; rfl
     conv=>whnf
     refine⟨fun hc=>absurd hc (by simp),fun hc=>?_⟩
     conv=>whnf
     refine⟨fun hc4=>?_,fun hc4=>?_⟩
     ·have hr:(decide (ns[i].shi < hi) || (ns[i].shi == hi && decide (ns[i].id < hiI)))=true:=by rw [show decide (ns[i].shi < hi)=true from hc4]; rfl
      conv=>whnf
      have hq:sideStepR m ⟨lo,hi,loI,hiI,true⟩ ns[i]=⟨ns[i].slo,ns[i].shi,ns[i].id,ns[i].id,true⟩:=by
       unfold sideStepR
       rw [hh]
       dsimp only
       simp only [Bool.not_true,Bool.false_or]
       rw [hl,hr]
       rfl
      rw [hq] at hn
      refine⟨_,wrapId ⟨by omega,by omega⟩, ?_⟩
      refine⟨i+1,hlt,by show ns.length - (i+1) < ns.length - i; omega, ?_⟩
      try dsimp only
      rw [hn]
      conv=>whnf
      refine⟨rfl, ?_⟩
      conv=>whnf
      repeat'(first|exact trivial|exact rfl|refine And.intro ?_ ?_|((conv=>whnf);first|exact trivial|exact rfl|refine And.intro ?_ ?_|omega))
     have hc4:decide (ns[i].shi < hi)=false:=hc4
     conv=>whnf
     refine⟨fun hc5=>?_,fun hc5=>?_⟩
     ·have hc5:(ns[i].shi == hi)=true:=hc5
      conv=>whnf
      refine⟨fun hc6=>?_,fun hc6=>?_⟩
      ·have hr:(decide (ns[i].shi < hi) || (ns[i].shi == hi && decide (ns[i].id < hiI)))=true:=by rw [hc4,hc5,show decide (ns[i].id < hiI)=true from hc6]; rfl
       conv=>whnf
       have hq:sideStepR m ⟨lo,hi,loI,hiI,true⟩ ns[i]=⟨ns[i].slo,ns[i].shi,ns[i].id,ns[i].id,true⟩:=by
        unfold sideStepR
        rw [hh]
        dsimp only
        simp only [Bool.not_true,Bool.false_or]
        rw [hl,hr]
        rfl
       rw [hq] at hn
       refine⟨_,wrapId ⟨by omega,by omega⟩, ?_⟩
       refine⟨i+1,hlt,by show ns.length - (i+1) < ns.length - i; omega, ?_⟩
       try dsimp only
       rw [hn]
       conv=>whnf
       refine⟨rfl, ?_⟩
       conv=>whnf
       repeat'(first|exact trivial|exact rfl|refine And.intro ?_ ?_|((conv=>whnf);first|exact trivial|exact rfl|refine And.intro ?_ ?_|omega))
      ·have hr:(decide (ns[i].shi < hi) || (ns[i].shi == hi && decide (ns[i].id < hiI)))=false:=by rw [hc4,hc5,show decide (ns[i].id < hiI)=false from hc6]; rfl
       conv=>whnf
       have hq:sideStepR m ⟨lo,hi,loI,hiI,true⟩ ns[i]=⟨ns[i].slo,hi,ns[i].id,hiI,true⟩:=by
        unfold sideStepR
        rw [hh]
        dsimp only
        simp only [Bool.not_true,Bool.false_or]
        rw [hl,hr]
        rfl
       rw [hq] at hn
       refine⟨_,wrapId ⟨by omega,by omega⟩, ?_⟩
       refine⟨i+1,hlt,by show ns.length - (i+1) < ns.length - i; omega, ?_⟩
       try dsimp only
       rw [hn]
       conv=>whnf
       refine⟨rfl, ?_⟩
       conv=>whnf
       repeat'(first|exact trivial|exact rfl|refine And.intro ?_ ?_|((conv=>whnf);first|exact trivial|exact rfl|refine And.intro ?_ ?_|omega))
     ·have hr:(decide (ns[i].shi < hi) || (ns[i].shi == hi && decide (ns[i].id < hiI)))=false:=by rw [hc4,show (ns[i].shi == hi)=false from hc5]; rfl
      conv=>whnf
      have hq:sideStepR m ⟨lo,hi,loI,hiI,true⟩ ns[i]=⟨ns[i].slo,hi,ns[i].id,hiI,true⟩:=by
       unfold sideStepR
       rw [hh]
       dsimp only
       simp only [Bool.not_true,Bool.false_or]
       rw [hl,hr]
       rfl
      rw [hq] at hn
      refine⟨_,wrapId ⟨by omega,by omega⟩, ?_⟩
      refine⟨i+1,hlt,by show ns.length - (i+1) < ns.length - i; omega, ?_⟩
      try dsimp only
      rw [hn]
      conv=>whnf
      refine⟨rfl, ?_⟩
      conv=>whnf
      repeat'(first|exact trivial|exact rfl|refine And.intro ?_ ?_|((conv=>whnf);first|exact trivial|exact rfl|refine And.intro ?_ ?_|omega))
    ·have hl:(decide (lo < ns[i].slo) || (ns[i].slo == lo && decide (ns[i].id < loI)))=false:=by rw [hc1,hc2,show decide (ns[i].id < loI)=false from hc3]; rfl
     conv=>whnf
     refine⟨fun hc=>absurd hc (by simp),fun hc=>?_⟩
     conv=>whnf
     refine⟨fun hc4=>?_,fun hc4=>?_⟩
     ·have hr:(decide (ns[i].shi < hi) || (ns[i].shi == hi && decide (ns[i].id < hiI)))=true:=by rw [show decide (ns[i].shi < hi)=true from hc4]; rfl
      conv=>whnf
      have hq:sideStepR m ⟨lo,hi,loI,hiI,true⟩ ns[i]=⟨lo,ns[i].shi,loI,ns[i].id,true⟩:=by
       unfold sideStepR
       rw [hh]
       dsimp only
       simp only [Bool.not_true,Bool.false_or]
       rw [hl,hr]
       rfl
      rw [hq] at hn
      refine⟨_,wrapId ⟨by omega,by omega⟩, ?_⟩
      refine⟨i+1,hlt,by show ns.length - (i+1) < ns.length - i; omega, ?_⟩
      try dsimp only
      rw [hn]
      conv=>whnf
      refine⟨rfl, ?_⟩
      conv=>whnf
      repeat'(first|exact trivial|exact rfl|refine And.intro ?_ ?_|((conv=>whnf);first|exact trivial|exact rfl|refine And.intro ?_ ?_|omega))
     have hc4:decide (ns[i].shi < hi)=false:=hc4
     conv=>whnf
     refine⟨fun hc5=>?_,fun hc5=>?_⟩
     ·have hc5:(ns[i].shi == hi)=true:=hc5
      conv=>whnf
      refine⟨fun hc6=>?_,fun hc6=>?_⟩
      ·have hr:(decide (ns[i].shi < hi) || (ns[i].shi == hi && decide (ns[i].id < hiI)))=true:=by rw [hc4,hc5,show decide (ns[i].id < hiI)=true from hc6]; rfl
       conv=>whnf
       have hq:sideStepR m ⟨lo,hi,loI,hiI,true⟩ ns[i]=⟨lo,ns[i].shi,loI,ns[i].id,true⟩:=by
        unfold sideStepR
        rw [hh]
        dsimp only
        simp only [Bool.not_true,Bool.false_or]
        rw [hl,hr]
        rfl
       rw [hq] at hn
       refine⟨_,wrapId ⟨by omega,by omega⟩, ?_⟩
       refine⟨i+1,hlt,by show ns.length - (i+1) < ns.length - i; omega, ?_⟩
       try dsimp only
       rw [hn]
       conv=>whnf
       refine⟨rfl, ?_⟩
       conv=>whnf
       repeat'(first|exact trivial|exact rfl|refine And.intro ?_ ?_|((conv=>whnf);first|exact trivial|exact rfl|refine And.intro ?_ ?_|omega))
      ·have hr:(decide (ns[i].shi < hi) || (ns[i].shi == hi && decide (ns[i].id < hiI)))=false:=by rw [hc4,hc5,show decide (ns[i].id < hiI)=false from hc6]; rfl
       conv=>whnf
       have hq:sideStepR m ⟨lo,hi,loI,hiI,true⟩ ns[i]=⟨lo,hi,loI,hiI,true⟩:=by
        unfold sideStepR
        rw [hh]
        dsimp only
        simp only [Bool.not_true,Bool.false_or]
        rw [hl,hr]
        rfl
       rw [hq] at hn
       refine⟨_,wrapId ⟨by omega,by omega⟩, ?_⟩
       refine⟨i+1,hlt,by show ns.length - (i+1) < ns.length - i; omega, ?_⟩
       try dsimp only
       rw [hn]
       conv=>whnf
       refine⟨rfl, ?_⟩
       conv=>whnf
       repeat'(first|exact trivial|exact rfl|refine And.intro ?_ ?_|((conv=>whnf);first|exact trivial|exact rfl|refine And.intro ?_ ?_|omega))
     ·have hr:(decide (ns[i].shi < hi) || (ns[i].shi == hi && decide (ns[i].id < hiI)))=false:=by rw [hc4,show (ns[i].shi == hi)=false from hc5]; rfl
      conv=>whnf
      have hq:sideStepR m ⟨lo,hi,loI,hiI,true⟩ ns[i]=⟨lo,hi,loI,hiI,true⟩:=by
       unfold sideStepR
       rw [hh]
       dsimp only
       simp only [Bool.not_true,Bool.false_or]
       rw [hl,hr]
       rfl
      rw [hq] at hn
      refine⟨_,wrapId ⟨by omega,by omega⟩, ?_⟩
      refine⟨i+1,hlt,by show ns.length - (i+1) < ns.length - i; omega, ?_⟩
      try dsimp only
      rw [hn]
      conv=>whnf
      refine⟨rfl, ?_⟩
      conv=>whnf
      repeat'(first|exact trivial|exact rfl|refine And.intro ?_ ?_|((conv=>whnf);first|exact trivial|exact rfl|refine And.intro ?_ ?_|omega))
   ·have hl:(decide (lo < ns[i].slo) || (ns[i].slo == lo && decide (ns[i].id < loI)))=false:=by rw [hc1,show (ns[i].slo == lo)=false from hc2]; rfl
    conv=>whnf
    refine⟨fun hc=>absurd hc (by simp),fun hc=>?_⟩
    conv=>whnf
    refine⟨fun hc4=>?_,fun hc4=>?_⟩
    ·have hr:(decide (ns[i].shi < hi) || (ns[i].shi == hi && decide (ns[i].id < hiI)))=true:=by rw [show decide (ns[i].shi < hi)=true from hc4]; rfl
     conv=>whnf
     have hq:sideStepR m ⟨lo,hi,loI,hiI,true⟩ ns[i]=⟨lo,ns[i].shi,loI,ns[i].id,true⟩:=by
      unfold sideStepR
      rw [hh]
      dsimp only
      simp only [Bool.not_true,Bool.false_or]
      rw [hl,hr]
      rfl
     rw [hq] at hn
     refine⟨_,wrapId ⟨by omega,by omega⟩, ?_⟩
     refine⟨i+1,hlt,by show ns.length - (i+1) < ns.length - i; omega, ?_⟩
     try dsimp only
     rw [hn]
     conv=>whnf
     refine⟨rfl, ?_⟩
     conv=>whnf
     repeat'(first|exact trivial|exact rfl|refine And.intro ?_ ?_|((conv=>whnf);first|exact trivial|exact rfl|refine And.intro ?_ ?_|omega))
    have hc4:decide (ns[i].shi < hi)=false:=hc4
    conv=>whnf
    refine⟨fun hc5=>?_,fun hc5=>?_⟩
    ·have hc5:(ns[i].shi == hi)=true:=hc5
     conv=>whnf
     refine⟨fun hc6=>?_,fun hc6=>?_⟩
     ·have hr:(decide (ns[i].shi < hi) || (ns[i].shi == hi && decide (ns[i].id < hiI)))=true:=by rw [hc4,hc5,show decide (ns[i].id < hiI)=true from hc6]; rfl
      conv=>whnf
      have hq:sideStepR m ⟨lo,hi,loI,hiI,true⟩ ns[i]=⟨lo,ns[i].shi,loI,ns[i].id,true⟩:=by
       unfold sideStepR
       rw [hh]
       dsimp only
       simp only [Bool.not_true,Bool.false_or]
       rw [hl,hr]
       rfl
      rw [hq] at hn
      refine⟨_,wrapId ⟨by omega,by omega⟩, ?_⟩
      refine⟨i+1,hlt,by show ns.length - (i+1) < ns.length - i; omega, ?_⟩
      try dsimp only
      rw [hn]
      conv=>whnf
      refine⟨rfl, ?_⟩
      conv=>whnf
      repeat'(first|exact trivial|exact rfl|refine And.intro ?_ ?_|((conv=>whnf);first|exact trivial|exact rfl|refine And.intro ?_ ?_|omega))
     ·have hr:(decide (ns[i].shi < hi) || (ns[i].shi == hi && decide (ns[i].id < hiI)))=false:=by rw [hc4,hc5,show decide (ns[i].id < hiI)=false from hc6]; rfl
      conv=>whnf
      have hq:sideStepR m ⟨lo,hi,loI,hiI,true⟩ ns[i]=⟨lo,hi,loI,hiI,true⟩:=by
       unfold sideStepR
       rw [hh]
       dsimp only
       simp only [Bool.not_true,Bool.false_or]
       rw [hl,hr]
       rfl
      rw [hq] at hn
      refine⟨_,wrapId ⟨by omega,by omega⟩, ?_⟩
      refine⟨i+1,hlt,by show ns.length - (i+1) < ns.length - i; omega, ?_⟩
      try dsimp only
      rw [hn]
      conv=>whnf
      refine⟨rfl, ?_⟩
      conv=>whnf
      repeat'(first|exact trivial|exact rfl|refine And.intro ?_ ?_|((conv=>whnf);first|exact trivial|exact rfl|refine And.intro ?_ ?_|omega))
    ·have hr:(decide (ns[i].shi < hi) || (ns[i].shi == hi && decide (ns[i].id < hiI)))=false:=by rw [hc4,show (ns[i].shi == hi)=false from hc5]; rfl
     conv=>whnf
     have hq:sideStepR m ⟨lo,hi,loI,hiI,true⟩ ns[i]=⟨lo,hi,loI,hiI,true⟩:=by
      unfold sideStepR
      rw [hh]
      dsimp only
      simp only [Bool.not_true,Bool.false_or]
      rw [hl,hr]
      rfl
     rw [hq] at hn
     refine⟨_,wrapId ⟨by omega,by omega⟩, ?_⟩
     refine⟨i+1,hlt,by show ns.length - (i+1) < ns.length - i; omega, ?_⟩
     try dsimp only
     rw [hn]
     conv=>whnf
     refine⟨rfl, ?_⟩
     conv=>whnf
     repeat'(first|exact trivial|exact rfl|refine And.intro ?_ ?_|((conv=>whnf);first|exact trivial|exact rfl|refine And.intro ?_ ?_|omega))
  | false =>
   have hq:sideStepR m ⟨lo,hi,loI,hiI,false⟩ ns[i]=⟨ns[i].slo,ns[i].shi,ns[i].id,ns[i].id,true⟩:=by
    unfold sideStepR
    rw [hh]
    rfl
   rw [hq] at hn
   conv=>whnf
   refine⟨fun hc=>?_,fun hc=>absurd hc (by simp)⟩
   conv=>whnf
   refine⟨fun hc=>?_,fun hc=>absurd hc (by simp)⟩
   conv=>whnf
   refine⟨_,wrapId ⟨by omega,by omega⟩, ?_⟩
   refine⟨i+1,hlt,by show ns.length - (i+1) < ns.length - i; omega, ?_⟩
   try dsimp only
   rw [hn]
   conv=>whnf
   refine⟨rfl, ?_⟩
   conv=>whnf
   repeat'(first|exact trivial|exact rfl|refine And.intro ?_ ?_|((conv=>whnf);first|exact trivial|exact rfl|refine And.intro ?_ ?_|omega))
 ·have hie:i=ns.length:=by simp at hc; omega
  subst hie
  rw [List.take_length]
  generalize ns.foldl (sideStepR m) sidZ=s at *
  cases hso:s.some with
  | true =>
   have:=g2 hso
   subst this
   obtain ⟨lo,hi,loI,hiI,some⟩:=s
   dsimp only at hso
   subst hso
   conv=>whnf
   refine⟨fun hc=>absurd hc (by simp),fun hc=>?_⟩
   conv=>whnf
   repeat'(first|exact trivial|exact rfl|refine And.intro ?_ ?_|((conv=>whnf);first|exact trivial|exact rfl|refine And.intro ?_ ?_|omega))
  | false =>
   have:=g3 hso
   subst this
   obtain ⟨lo,hi,loI,hiI,some⟩:=s
   dsimp only at hso
   subst hso
   conv=>whnf
   refine⟨fun hc=>?_,fun hc=>absurd hc (by simp)⟩
   conv=>whnf
   refine call_step hF rfl rfl ?_
   conv=>whnf
   refine⟨?_, ?_, ?_⟩
   iterate 2 · repeat'(first|exact trivial|exact rfl|refine And.intro ?_ ?_|((conv=>whnf);first|exact trivial|exact rfl|refine And.intro ?_ ?_|omega))
   conv=>whnf
   repeat'(first|exact trivial|exact rfl|refine And.intro ?_ ?_|((conv=>whnf);first|exact trivial|exact rfl|refine And.intro ?_ ?_|omega))

end Go.Proofs

namespace Go.Proofs
open Go.Sx

theorem sortK_take {α:Type} {key:α → Int} {l:List α} {k:Nat} {x:α} (h:(sortK key l)[k]? = some x):(sortK key l).take (k+1)=(sortK key l).take k ++ [x]:=by
 rw [List.take_add_one,h]; rfl

set_option maxHeartbeats 1000000 in
theorem rByWgh_t (l:List Wgh) (hl:l.length≤1000000) (hd:(l.map Wgh.id).Nodup) (hp:∀ x ∈ l,0 < x.id) :
  Triple Tryz.prog 204 [.c (.s 0 0 l.length 8)] [(0,false, .arr (aWgh l))] 1 (.c (.s 1 0 (sortK Wgh.id l).length 8)) [(1,true, .arr (aWgh (sortK Wgh.id l)))]:=by
 have hsl:=sortK_len Wgh.id l
 refine triple_of tB_ok Tryz.func204 rfl Tryz.call204 rfl ?_
 intro ρ w hH
 conv=>whnf
 refine loop_step tB_ok (G:=Nat) 1 [] (fun k=>[(5,iv .i64 k),(4,iv .i64 (lastK Wgh.id l k)),(3, .c (.s 1 0 ((sortK Wgh.id l).take k).length 8))]) (fun k=>[(1,true, .arr (aWgh ((sortK Wgh.id l).take k)))])
  (fun k=>k≤l.length) (fun k=>l.length - k) ?_
 conv=>whnf
 refine⟨⟨0,Nat.zero_le _, ?_⟩, ?_⟩
 ·conv=>whnf
  repeat'(first|exact trivial|exact rfl|refine And.intro ?_ ?_|((conv=>whnf);first|exact trivial|exact rfl|refine And.intro ?_ ?_|omega))
 rintro k hk ρ1 t1 hρ1
 conv=>whnf
 refine⟨fun hc=>?_,fun hc=>?_⟩
 ·have hkl:k < l.length:=by simpa using hc
  have hfa:∀ best,Found Wgh.id l (lastK Wgh.id l k) l.length best → ∃ (j:Nat) (x:Wgh),best=j∧l[j]? = some x∧(sortK Wgh.id l)[k]? = some x:=fun best hf=>found_all hd hp hkl hf
  have hT:=fun x=>sortK_take (key:=Wgh.id) (l:=l) (k:=k) (x:=x)
  have hLs:=fun x=>lastK_succ (key:=Wgh.id) (l:=l) (k:=k) (x:=x)
  have hkO:((sortK Wgh.id l).take k).length≤1000000:=by rw [List.length_take]; omega
  generalize (sortK Wgh.id l).take k=O at *
  generalize lastK Wgh.id l k=last at *
  conv=>whnf
  refine loop_step tB_ok (G:=Nat × Int) 0 [] (fun g=>[(7,iv .i64 g.1),(6,iv .i64 g.2)]) (fun _=>[]) (fun g=>g.1≤l.length∧Found Wgh.id l last g.1 g.2) (fun g=>l.length - g.1) ?_
  conv=>whnf
  refine⟨⟨(0,-1),⟨Nat.zero_le _,found_zero _ _ _⟩, ?_⟩, ?_⟩
  ·conv=>whnf
   repeat'(first|exact trivial|exact rfl|refine And.intro ?_ ?_|((conv=>whnf);first|exact trivial|exact rfl|refine And.intro ?_ ?_|omega))
  rintro ⟨i,best⟩ ⟨hi,hf⟩ ρ2 t2 hρ2
  dsimp only at hi hf ⊢
  conv=>whnf
  refine⟨fun hc2=>?_,fun hc2=>?_⟩
  ·have hlt:i < l.length:=by simpa using hc2
   conv=>whnf
   refine⟨i,rfl,hlt,hlt, ?_⟩
   conv=>whnf
   refine⟨fun hc3=>?_,fun hc3=>?_⟩
   ·have h1:last < l[i].id:=of_decide_eq_true (show decide (last < l[i].id)=true from hc3)
    have hf0:=hf
    rcases hf with ⟨rfl,_⟩ | ⟨j,x,rfl,hj,hx,_⟩
    ·conv=>whnf
     refine⟨fun hc4=>?_,fun hc4=>absurd (show decide ((-1:Int) < 0)=false from hc4) (by decide)⟩
     conv=>whnf
     refine⟨_,wrapId ⟨by omega,by omega⟩, ?_⟩
     refine⟨(i+1,(i:Int)),⟨hlt,found_take hlt hf0 h1 (.inl (by decide))⟩,by show l.length - (i+1) < l.length - i; omega, ?_⟩
     try dsimp only
     conv=>whnf
     refine⟨rfl, ?_⟩
     conv=>whnf
     repeat'(first|exact trivial|exact rfl|refine And.intro ?_ ?_|((conv=>whnf);first|exact trivial|exact rfl|refine And.intro ?_ ?_|omega))
    ·have hjl:j < l.length:=by omega
     have hxe:l[j]=x:=by rw [List.getElem?_eq_getElem hjl] at hx; exact Option.some.inj hx
     have hj0:0≤(j:Int):=by omega
     have hjg:l[(j:Int).toNat]? = some l[j]:=by rw [Int.toNat_natCast]; exact List.getElem?_eq_getElem hjl
     conv=>whnf
     refine⟨fun hc4=>absurd (of_decide_eq_true (show decide ((j:Int) < 0)=true from hc4)) (by omega),fun hc4=>?_⟩
     conv=>whnf
     refine⟨i,rfl,hlt,hlt, ?_⟩
     conv=>whnf
     refine⟨j,rfl,hjl,hjl, ?_⟩
     conv=>whnf
     refine⟨fun hc5=>?_,fun hc5=>?_⟩
     ·have h5:l[i].id < l[j].id:=of_decide_eq_true (show decide (l[i].id < l[j].id)=true from hc5)
      conv=>whnf
      refine⟨_,wrapId ⟨by omega,by omega⟩, ?_⟩
      refine⟨(i+1,(i:Int)),⟨hlt,found_take hlt hf0 h1 (.inr ⟨l[j],hjg,h5⟩)⟩,by show l.length - (i+1) < l.length - i; omega, ?_⟩
      try dsimp only
      conv=>whnf
      refine⟨rfl, ?_⟩
      conv=>whnf
      repeat'(first|exact trivial|exact rfl|refine And.intro ?_ ?_|((conv=>whnf);first|exact trivial|exact rfl|refine And.intro ?_ ?_|omega))
     ·have h5:¬ l[i].id < l[j].id:=of_decide_eq_false (show decide (l[i].id < l[j].id)=false from hc5)
      conv=>whnf
      refine⟨_,wrapId ⟨by omega,by omega⟩, ?_⟩
      refine⟨(i+1,(j:Int)),⟨hlt,found_keep hlt hf0 (.inr ⟨l[j],hj0,hjg,h5⟩)⟩,by show l.length - (i+1) < l.length - i; omega, ?_⟩
      try dsimp only
      conv=>whnf
      refine⟨rfl, ?_⟩
      conv=>whnf
      repeat'(first|exact trivial|exact rfl|refine And.intro ?_ ?_|((conv=>whnf);first|exact trivial|exact rfl|refine And.intro ?_ ?_|omega))
   ·have h1:¬ last < l[i].id:=of_decide_eq_false (show decide (last < l[i].id)=false from hc3)
    conv=>whnf
    refine⟨_,wrapId ⟨by omega,by omega⟩, ?_⟩
    refine⟨(i+1,best),⟨hlt,found_keep hlt hf (.inl h1)⟩,by show l.length - (i+1) < l.length - i; omega, ?_⟩
    try dsimp only
    conv=>whnf
    refine⟨rfl, ?_⟩
    conv=>whnf
    repeat'(first|exact trivial|exact rfl|refine And.intro ?_ ?_|((conv=>whnf);first|exact trivial|exact rfl|refine And.intro ?_ ?_|omega))
  ·have hie:i=l.length:=by simp at hc2; omega
   subst hie
   obtain ⟨j,x,rfl,hx,hsx⟩:=hfa best hf
   have hjl:j < l.length:=(List.getElem?_eq_some_iff.1 hx).1
   have hxe:l[j]=x:=by rw [List.getElem?_eq_getElem hjl] at hx; exact Option.some.inj hx
   subst hxe
   have hT:=hT _ hsx
   have hLs:=hLs _ hsx
   conv=>whnf
   refine⟨j,rfl,hjl,hjl, ?_⟩
   conv=>whnf
   refine bs_step tB_ok (aWgh [l[j]]) rfl rfl ?_
   conv=>whnf
   refine⟨⟨rfl,(by repeat'(first|exact trivial|exact rfl|refine And.intro ?_ ?_|((conv=>whnf);first|exact trivial|exact rfl|refine And.intro ?_ ?_|omega)))⟩, ?_⟩
   conv=>whnf
   refine app_step tB_ok (aWgh O) [l[j]] (fun _=>rfl) rfl rfl rfl rfl ?_
   conv=>whnf
   refine⟨⟨rfl,rfl,Nat.le_refl _,Nat.le_refl _,by show (O.length+1) * 65≤_; omega⟩, ?_⟩
   conv=>whnf
   refine⟨j,rfl,hjl,hjl, ?_⟩
   conv=>whnf
   refine⟨_,wrapId ⟨by omega,by omega⟩, ?_⟩
   refine⟨k+1,hkl,by show l.length - (k+1) < l.length - k; omega, ?_⟩
   try dsimp only
   rw [hT,hLs]
   conv=>whnf
   refine⟨rfl, ?_⟩
   conv=>whnf
   repeat'(first|exact trivial|exact rfl|refine And.intro ?_ ?_|((conv=>whnf);first|exact trivial|exact rfl|refine And.intro ?_ ?_|omega))
   all_goals first | exact (congrArg aWgh app1.symm:_) | exact (congrArg aWgh app1:_) | simp
 ·have hke:k=l.length:=by simp at hc; omega
  subst hke
  rw [List.take_of_length_le (by omega)]
  conv=>whnf
  repeat'(first|exact trivial|exact rfl|refine And.intro ?_ ?_|((conv=>whnf);first|exact trivial|exact rfl|refine And.intro ?_ ?_|omega))
set_option maxHeartbeats 1000000 in
theorem rByChk_t (l:List Chk) (hl:l.length≤1000000) (hd:(l.map Chk.id).Nodup) (hp:∀ x ∈ l,0 < x.id) :
  Triple Tryz.prog 202 [.c (.s 0 0 l.length 5)] [(0,false, .arr (aChk l))] 1 (.c (.s 1 0 (sortK Chk.id l).length 5)) [(1,true, .arr (aChk (sortK Chk.id l)))]:=by
 have hsl:=sortK_len Chk.id l
 refine triple_of tB_ok Tryz.func202 rfl Tryz.call202 rfl ?_
 intro ρ w hH
 conv=>whnf
 refine loop_step tB_ok (G:=Nat) 1 [] (fun k=>[(5,iv .i64 k),(4,iv .i64 (lastK Chk.id l k)),(3, .c (.s 1 0 ((sortK Chk.id l).take k).length 5))]) (fun k=>[(1,true, .arr (aChk ((sortK Chk.id l).take k)))])
  (fun k=>k≤l.length) (fun k=>l.length - k) ?_
 conv=>whnf
 refine⟨⟨0,Nat.zero_le _, ?_⟩, ?_⟩
 ·conv=>whnf
  repeat'(first|exact trivial|exact rfl|refine And.intro ?_ ?_|((conv=>whnf);first|exact trivial|exact rfl|refine And.intro ?_ ?_|omega))
 rintro k hk ρ1 t1 hρ1
 conv=>whnf
 refine⟨fun hc=>?_,fun hc=>?_⟩
 ·have hkl:k < l.length:=by simpa using hc
  have hfa:∀ best,Found Chk.id l (lastK Chk.id l k) l.length best → ∃ (j:Nat) (x:Chk),best=j∧l[j]? = some x∧(sortK Chk.id l)[k]? = some x:=fun best hf=>found_all hd hp hkl hf
  have hT:=fun x=>sortK_take (key:=Chk.id) (l:=l) (k:=k) (x:=x)
  have hLs:=fun x=>lastK_succ (key:=Chk.id) (l:=l) (k:=k) (x:=x)
  have hkO:((sortK Chk.id l).take k).length≤1000000:=by rw [List.length_take]; omega
  generalize (sortK Chk.id l).take k=O at *
  generalize lastK Chk.id l k=last at *
  conv=>whnf
  refine loop_step tB_ok (G:=Nat × Int) 0 [] (fun g=>[(7,iv .i64 g.1),(6,iv .i64 g.2)]) (fun _=>[]) (fun g=>g.1≤l.length∧Found Chk.id l last g.1 g.2) (fun g=>l.length - g.1) ?_
  conv=>whnf
  refine⟨⟨(0,-1),⟨Nat.zero_le _,found_zero _ _ _⟩, ?_⟩, ?_⟩
  ·conv=>whnf
   repeat'(first|exact trivial|exact rfl|refine And.intro ?_ ?_|((conv=>whnf);first|exact trivial|exact rfl|refine And.intro ?_ ?_|omega))
  rintro ⟨i,best⟩ ⟨hi,hf⟩ ρ2 t2 hρ2
  dsimp only at hi hf ⊢
  conv=>whnf
  refine⟨fun hc2=>?_,fun hc2=>?_⟩
  ·have hlt:i < l.length:=by simpa using hc2
   conv=>whnf
   refine⟨i,rfl,hlt,hlt, ?_⟩
   conv=>whnf
   refine⟨fun hc3=>?_,fun hc3=>?_⟩
   ·have h1:last < l[i].id:=of_decide_eq_true (show decide (last < l[i].id)=true from hc3)
    have hf0:=hf
    rcases hf with ⟨rfl,_⟩ | ⟨j,x,rfl,hj,hx,_⟩
    ·conv=>whnf
     refine⟨fun hc4=>?_,fun hc4=>absurd (show decide ((-1:Int) < 0)=false from hc4) (by decide)⟩
     conv=>whnf
     refine⟨_,wrapId ⟨by omega,by omega⟩, ?_⟩
     refine⟨(i+1,(i:Int)),⟨hlt,found_take hlt hf0 h1 (.inl (by decide))⟩,by show l.length - (i+1) < l.length - i; omega, ?_⟩
     try dsimp only
     conv=>whnf
     refine⟨rfl, ?_⟩
     conv=>whnf
     repeat'(first|exact trivial|exact rfl|refine And.intro ?_ ?_|((conv=>whnf);first|exact trivial|exact rfl|refine And.intro ?_ ?_|omega))
    ·have hjl:j < l.length:=by omega
     have hxe:l[j]=x:=by rw [List.getElem?_eq_getElem hjl] at hx; exact Option.some.inj hx
     have hj0:0≤(j:Int):=by omega
     have hjg:l[(j:Int).toNat]? = some l[j]:=by rw [Int.toNat_natCast]; exact List.getElem?_eq_getElem hjl
     conv=>whnf
     refine⟨fun hc4=>absurd (of_decide_eq_true (show decide ((j:Int) < 0)=true from hc4)) (by omega),fun hc4=>?_⟩
     conv=>whnf
     refine⟨i,rfl,hlt,hlt, ?_⟩
     conv=>whnf
     refine⟨j,rfl,hjl,hjl, ?_⟩
     conv=>whnf
     refine⟨fun hc5=>?_,fun hc5=>?_⟩
     ·have h5:l[i].id < l[j].id:=of_decide_eq_true (show decide (l[i].id < l[j].id)=true from hc5)
      conv=>whnf
      refine⟨_,wrapId ⟨by omega,by omega⟩, ?_⟩
      refine⟨(i+1,(i:Int)),⟨hlt,found_take hlt hf0 h1 (.inr ⟨l[j],hjg,h5⟩)⟩,by show l.length - (i+1) < l.length - i; omega, ?_⟩
      try dsimp only
      conv=>whnf
      refine⟨rfl, ?_⟩
      conv=>whnf
      repeat'(first|exact trivial|exact rfl|refine And.intro ?_ ?_|((conv=>whnf);first|exact trivial|exact rfl|refine And.intro ?_ ?_|omega))
     ·have h5:¬ l[i].id < l[j].id:=of_decide_eq_false (show decide (l[i].id < l[j].id)=false from hc5)
      conv=>whnf
      refine⟨_,wrapId ⟨by omega,by omega⟩, ?_⟩
      refine⟨(i+1,(j:Int)),⟨hlt,found_keep hlt hf0 (.inr ⟨l[j],hj0,hjg,h5⟩)⟩,by show l.length - (i+1) < l.length - i; omega, ?_⟩
      try dsimp only
      conv=>whnf
      refine⟨rfl, ?_⟩
      conv=>whnf
      repeat'(first|exact trivial|exact rfl|refine And.intro ?_ ?_|((conv=>whnf);first|exact trivial|exact rfl|refine And.intro ?_ ?_|omega))
   ·have h1:¬ last < l[i].id:=of_decide_eq_false (show decide (last < l[i].id)=false from hc3)
    conv=>whnf
    refine⟨_,wrapId ⟨by omega,by omega⟩, ?_⟩
    refine⟨(i+1,best),⟨hlt,found_keep hlt hf (.inl h1)⟩,by show l.length - (i+1) < l.length - i; omega, ?_⟩
    try dsimp only
    conv=>whnf
    refine⟨rfl, ?_⟩
    conv=>whnf
    repeat'(first|exact trivial|exact rfl|refine And.intro ?_ ?_|((conv=>whnf);first|exact trivial|exact rfl|refine And.intro ?_ ?_|omega))
  ·have hie:i=l.length:=by simp at hc2; omega
   subst hie
   obtain ⟨j,x,rfl,hx,hsx⟩:=hfa best hf
   have hjl:j < l.length:=(List.getElem?_eq_some_iff.1 hx).1
   have hxe:l[j]=x:=by rw [List.getElem?_eq_getElem hjl] at hx; exact Option.some.inj hx
   subst hxe
   have hT:=hT _ hsx
   have hLs:=hLs _ hsx
   conv=>whnf
   refine⟨j,rfl,hjl,hjl, ?_⟩
   conv=>whnf
   refine bs_step tB_ok (aChk [l[j]]) rfl rfl ?_
   conv=>whnf
   refine⟨⟨rfl,(by repeat'(first|exact trivial|exact rfl|refine And.intro ?_ ?_|((conv=>whnf);first|exact trivial|exact rfl|refine And.intro ?_ ?_|omega)))⟩, ?_⟩
   conv=>whnf
   refine app_step tB_ok (aChk O) [l[j]] (fun _=>rfl) rfl rfl rfl rfl ?_
   conv=>whnf
   refine⟨⟨rfl,rfl,Nat.le_refl _,Nat.le_refl _,by show (O.length+1) * 41≤_; omega⟩, ?_⟩
   conv=>whnf
   refine⟨j,rfl,hjl,hjl, ?_⟩
   conv=>whnf
   refine⟨_,wrapId ⟨by omega,by omega⟩, ?_⟩
   refine⟨k+1,hkl,by show l.length - (k+1) < l.length - k; omega, ?_⟩
   try dsimp only
   rw [hT,hLs]
   conv=>whnf
   refine⟨rfl, ?_⟩
   conv=>whnf
   repeat'(first|exact trivial|exact rfl|refine And.intro ?_ ?_|((conv=>whnf);first|exact trivial|exact rfl|refine And.intro ?_ ?_|omega))
   all_goals first | exact (congrArg aChk app1.symm:_) | exact (congrArg aChk app1:_) | simp
 ·have hke:k=l.length:=by simp at hc; omega
  subst hke
  rw [List.take_of_length_le (by omega)]
  conv=>whnf
  repeat'(first|exact trivial|exact rfl|refine And.intro ?_ ?_|((conv=>whnf);first|exact trivial|exact rfl|refine And.intro ?_ ?_|omega))
end Go.Proofs

namespace Go.Proofs
open Go.Sx

theorem appPair {α:Type} (l:List α) (x y:α):l.take l.length ++ ([x,y].drop 0).take 2=(l ++ [x]) ++ [y]:=by
 simp

abbrev lsA (r:Rd) (os:List Thg) (ms:List Mom):List SV:=[rdA r, .c (.s 4 0 os.length 4), .c (.s 5 0 ms.length 2)]
abbrev lsH (r:Rd) (os:List Thg) (ms:List Mom):Heap:=rdH r ++ [(4,false, .arr (aThg os)),(5,false, .arr (aMom ms))]

set_option maxHeartbeats 4000000 in
theorem rReads_t (r:Rd) (os:List Thg) (ms:List Mom) (h:ShOK r os ms) :
  Triple Tryz.prog 163 (lsA r os ms) (lsH r os ms) 6 (.c (.s 6 0 ((sortK Wgh.id r.ws).flatMap (wghLs r.bs os ms) ++ (sortK Chk.id r.cs).flatMap (chkLs r.bs os ms)).length 4))
   [(6,true, .arr (aLink ((sortK Wgh.id r.ws).flatMap (wghLs r.bs os ms) ++ (sortK Chk.id r.cs).flatMap (chkLs r.bs os ms))))]:=by
 have hnb:=h.rd.nb
 have hnr:=h.rd.nr
 have hol:=h.ol
 have hml:=h.ml
 refine triple_of tB_ok Tryz.func163 rfl Tryz.call163 rfl ?_
 intro ρ w hH
 conv=>whnf
 have hwm:∀ w ∈ sortK Wgh.id r.ws,w ∈ r.ws:=fun w hw=>(sortK_perm Wgh.id r.ws).mem_iff.1 hw
 have hwl:=sortK_len Wgh.id r.ws
 have hS:=rByWgh_t r.ws (by omega) h.rd.wN (fun w hw=>by have:=(h.rd.w hw).2.1; omega)
 generalize sortK Wgh.id r.ws=sw at *
 refine call_step hS rfl rfl ?_
 conv=>whnf
 refine⟨?_, ?_, ?_⟩
 iterate 2 · repeat'(first|exact trivial|exact rfl|refine And.intro ?_ ?_|((conv=>whnf);first|exact trivial|exact rfl|refine And.intro ?_ ?_|omega))
 conv=>whnf
 refine loop_step tB_ok (G:=Nat) 1 [] (fun i=>[(9,iv .i64 i),(7, .c (.s 8 0 ((sw.take i).flatMap (wghLs r.bs os ms)).length 4))]) (fun i=>[(8,true, .arr (aLink ((sw.take i).flatMap (wghLs r.bs os ms))))]) (fun i=>i≤sw.length) (fun i=>sw.length - i) ?_
 conv=>whnf
 refine⟨⟨0,Nat.zero_le _, ?_⟩, ?_⟩
 ·conv=>whnf
  repeat'(first|exact trivial|exact rfl|refine And.intro ?_ ?_|((conv=>whnf);first|exact trivial|exact rfl|refine And.intro ?_ ?_|omega))
 intro i hi ρ1 t1 hρ1
 conv=>whnf
 refine⟨fun hc=>?_,fun hc=>?_⟩
 ·have hlt:i < sw.length:=by simpa using hc
  have hM:=flat_le2 (wghLs r.bs os ms) (fun _=>Nat.le_refl _) (sw.take i)
  rw [List.length_take] at hM
  have hnx:=flat_round2 [] (wghLs r.bs os ms) hlt rfl
  simp only [List.nil_append] at hnx
  have hw:=hwm _ (List.getElem_mem hlt)
  obtain ⟨hwb,hwi,hwt,_,hws⟩:=h.rd.w hw
  obtain ⟨_,hhalf,_⟩:=valid_bd (h.rd.findD hwb)
  have lo:=rAtThg_t os sw[i].o (by omega)
  have lm:=rAtMom_t ms (wMom sw[i]) (by omega)
  have pmb:=plF_mem (h.mw _ hw)
  generalize (sw.take i).flatMap (wghLs r.bs os ms)=M at *
  generalize plF os sw[i].o=po at *
  generalize plF ms (wMom sw[i])=pm at *
  have hF:=rFind_t r sw[i].bal (by omega)
  generalize findD r.bs sw[i].bal=d at *
  conv=>whnf
  refine⟨i,rfl,hlt,hlt, ?_⟩
  conv=>whnf
  refine call_step hF rfl rfl ?_
  conv=>whnf
  refine⟨?_, ?_, ?_⟩
  iterate 2 · repeat'(first|exact trivial|exact rfl|refine And.intro ?_ ?_|((conv=>whnf);first|exact trivial|exact rfl|refine And.intro ?_ ?_|omega))
  conv=>whnf
  refine call_step lo rfl rfl ?_
  conv=>whnf
  refine⟨?_, ?_, ?_⟩
  iterate 2 · repeat'(first|exact trivial|exact rfl|refine And.intro ?_ ?_|((conv=>whnf);first|exact trivial|exact rfl|refine And.intro ?_ ?_|omega))
  conv=>whnf
  refine call_step lm rfl rfl ?_
  conv=>whnf
  refine⟨?_, ?_, ?_⟩
  iterate 2 · repeat'(first|exact trivial|exact rfl|refine And.intro ?_ ?_|((conv=>whnf);first|exact trivial|exact rfl|refine And.intro ?_ ?_|omega))
  conv=>whnf
  refine⟨os.length+pm,wrapId (z:=os.length+pm) ⟨by omega,by omega⟩, ?_⟩
  conv=>whnf
  refine⟨sw[i].shown+d.half,wrapId (z:=sw[i].shown+d.half) ⟨by omega,by omega⟩, ?_⟩
  conv=>whnf
  refine⟨d.half - sw[i].shown,wrapId (z:=d.half - sw[i].shown) ⟨by omega,by omega⟩, ?_⟩
  conv=>whnf
  refine bs_step tB_ok (aLink [⟨os.length+pm,po,sw[i].shown+d.half,sw[i].id⟩,⟨po,os.length+pm,d.half - sw[i].shown,sw[i].id⟩]) rfl rfl ?_
  conv=>whnf
  refine⟨⟨rfl,(by repeat'(first|exact trivial|exact rfl|refine And.intro ?_ ?_|((conv=>whnf);first|exact trivial|exact rfl|refine And.intro ?_ ?_|omega)))⟩, ?_⟩
  conv=>whnf
  refine app_step tB_ok (aLink M) [(⟨os.length+pm,po,sw[i].shown+d.half,sw[i].id⟩:Lnk),⟨po,os.length+pm,d.half - sw[i].shown,sw[i].id⟩] (fun _=>rfl) rfl rfl rfl rfl ?_
  conv=>whnf
  refine⟨⟨rfl,rfl,Nat.le_refl _,Nat.le_refl _,by show (M.length+2) * 33≤_; omega⟩, ?_⟩
  conv=>whnf
  refine⟨_,wrapId ⟨by omega,by omega⟩, ?_⟩
  refine⟨i+1,hlt,by show sw.length - (i+1) < sw.length - i; omega, ?_⟩
  try dsimp only
  rw [hnx]
  conv=>whnf
  refine⟨rfl, ?_⟩
  conv=>whnf
  repeat'(first|exact trivial|exact rfl|refine And.intro ?_ ?_|((conv=>whnf);first|exact trivial|exact rfl|refine And.intro ?_ ?_|omega))
  all_goals first | exact congrArg aLink (appPair M _ _) | simp
 have hie:i=sw.length:=by simp at hc; omega
 subst hie
 rw [List.take_length]
 have hL1:=flat_le2 (wghLs r.bs os ms) (fun _=>Nat.le_refl _) sw
 generalize sw.flatMap (wghLs r.bs os ms)=L1 at *
 have hcm:∀ c ∈ sortK Chk.id r.cs,c ∈ r.cs:=fun c hc=>(sortK_perm Chk.id r.cs).mem_iff.1 hc
 have hcl:=sortK_len Chk.id r.cs
 have hS2:=rByChk_t r.cs (by omega) h.rd.cN (fun w hw=>by have:=(h.rd.c hw).2.1; omega)
 generalize sortK Chk.id r.cs=sc at *
 conv=>whnf
 refine call_step hS2 rfl rfl ?_
 conv=>whnf
 refine⟨?_, ?_, ?_⟩
 iterate 2 · repeat'(first|exact trivial|exact rfl|refine And.intro ?_ ?_|((conv=>whnf);first|exact trivial|exact rfl|refine And.intro ?_ ?_|omega))
 conv=>whnf
 refine loop_step tB_ok (G:=Nat) 1 [8] (fun i=>[(15,iv .i64 i),(7, .c (.s 10 0 (L1 ++ (sc.take i).flatMap (chkLs r.bs os ms)).length 4))]) (fun i=>[(10,true, .arr (aLink (L1 ++ (sc.take i).flatMap (chkLs r.bs os ms))))]) (fun i=>i≤sc.length) (fun i=>sc.length - i) ?_
 conv=>whnf
 refine⟨⟨0,Nat.zero_le _, ?_⟩, ?_⟩
 ·conv=>whnf
  repeat'(first|exact trivial|exact rfl|refine And.intro ?_ ?_|((conv=>whnf);first|exact trivial|exact rfl|refine And.intro ?_ ?_|omega))
  all_goals first | (show aLink L1=aLink (L1 ++ []); rw [List.append_nil]) | simp
 intro i hi ρ2 t2 hρ2
 conv=>whnf
 refine⟨fun hc=>?_,fun hc=>?_⟩
 ·have hlt:i < sc.length:=by simpa using hc
  have hM:=flat_le2 (chkLs r.bs os ms) (fun _=>Nat.le_refl _) (sc.take i)
  rw [List.length_take] at hM
  have hM2:(L1 ++ (sc.take i).flatMap (chkLs r.bs os ms)).length≤10000:=by rw [List.length_append]; omega
  have hnx:=flat_round2 L1 (chkLs r.bs os ms) hlt rfl
  have hw:=hcm _ (List.getElem_mem hlt)
  obtain ⟨hwb,hwi,hwt,hwm,hws⟩:=h.rd.c hw
  obtain ⟨_,hhalf,_,_,hcapb⟩:=valid_bd (h.rd.findD hwb)
  have lm:=rAtMom_t ms (cMom sc[i]) (by omega)
  have pmb:=plF_mem (h.mc _ hw)
  generalize L1 ++ (sc.take i).flatMap (chkLs r.bs os ms)=M at *
  generalize plF ms (cMom sc[i])=pm at *
  have hF:=rFind_t r sc[i].bal (by omega)
  generalize findD r.bs sc[i].bal=d at *
  conv=>whnf
  refine⟨i,rfl,hlt,hlt, ?_⟩
  conv=>whnf
  refine call_step hF rfl rfl ?_
  conv=>whnf
  refine⟨?_, ?_, ?_⟩
  iterate 2 · repeat'(first|exact trivial|exact rfl|refine And.intro ?_ ?_|((conv=>whnf);first|exact trivial|exact rfl|refine And.intro ?_ ?_|omega))
  conv=>whnf
  refine call_step lm rfl rfl ?_
  conv=>whnf
  refine⟨?_, ?_, ?_⟩
  iterate 2 · repeat'(first|exact trivial|exact rfl|refine And.intro ?_ ?_|((conv=>whnf);first|exact trivial|exact rfl|refine And.intro ?_ ?_|omega))
  conv=>whnf
  refine⟨os.length+pm,wrapId (z:=os.length+pm) ⟨by omega,by omega⟩, ?_⟩
  conv=>whnf
  refine⟨sc[i].mass - sc[i].shown,wrapId (z:=sc[i].mass - sc[i].shown) ⟨by omega,by omega⟩, ?_⟩
  conv=>whnf
  refine⟨sc[i].mass - sc[i].shown+d.half,wrapId (z:=sc[i].mass - sc[i].shown+d.half) ⟨by omega,by omega⟩, ?_⟩
  conv=>whnf
  refine⟨sc[i].shown+d.half,wrapId (z:=sc[i].shown+d.half) ⟨by omega,by omega⟩, ?_⟩
  conv=>whnf
  refine⟨sc[i].shown+d.half - sc[i].mass,wrapId (z:=sc[i].shown+d.half - sc[i].mass) ⟨by omega,by omega⟩, ?_⟩
  conv=>whnf
  refine bs_step tB_ok (aLink [⟨-1,os.length+pm,sc[i].mass - sc[i].shown+d.half,sc[i].id⟩,⟨os.length+pm,-1,sc[i].shown+d.half - sc[i].mass,sc[i].id⟩]) rfl rfl ?_
  conv=>whnf
  refine⟨⟨rfl,(by repeat'(first|exact trivial|exact rfl|refine And.intro ?_ ?_|((conv=>whnf);first|exact trivial|exact rfl|refine And.intro ?_ ?_|omega)))⟩, ?_⟩
  conv=>whnf
  refine app_step tB_ok (aLink M) [(⟨-1,os.length+pm,sc[i].mass - sc[i].shown+d.half,sc[i].id⟩:Lnk),⟨os.length+pm,-1,sc[i].shown+d.half - sc[i].mass,sc[i].id⟩] (fun _=>rfl) rfl rfl rfl rfl ?_
  conv=>whnf
  refine⟨⟨rfl,rfl,Nat.le_refl _,Nat.le_refl _,by show (M.length+2) * 33≤_; omega⟩, ?_⟩
  conv=>whnf
  refine⟨_,wrapId ⟨by omega,by omega⟩, ?_⟩
  refine⟨i+1,hlt,by show sc.length - (i+1) < sc.length - i; omega, ?_⟩
  try dsimp only
  rw [hnx]
  conv=>whnf
  refine⟨rfl, ?_⟩
  conv=>whnf
  repeat'(first|exact trivial|exact rfl|refine And.intro ?_ ?_|((conv=>whnf);first|exact trivial|exact rfl|refine And.intro ?_ ?_|omega))
  all_goals first | exact congrArg aLink (appPair M _ _) | simp
 have hie:i=sc.length:=by simp at hc; omega
 subst hie
 rw [List.take_length]
 conv=>whnf
 repeat'(first|exact trivial|exact rfl|refine And.intro ?_ ?_|((conv=>whnf);first|exact trivial|exact rfl|refine And.intro ?_ ?_|omega))

theorem plF_ge {α:Type} [DecidableEq α] {l:List α} {x:α}:(decide (plF l x ≥ 0))=decide (x ∈ l):=by
 unfold plF
 by_cases h:x ∈ l
 ·rw [if_pos h,decide_eq_true h,decide_eq_true (by omega)]
 ·rw [if_neg h,decide_eq_false h,decide_eq_false (by omega)]

theorem rLighter_t (os:List Thg) (light heavy:Int) (hol:os.length≤1000) (hnd:os.Nodup):Triple Tryz.prog 219 [.c (.s 0 0 os.length 4),iv .i64 light,iv .i64 heavy] [(0,false, .arr (aThg os))] 1 (.c (.s 1 0 (os.flatMap (cvrLs os heavy light)).length 4))
  [(1,true, .arr (aLink (os.flatMap (cvrLs os heavy light))))]:=by
 refine triple_of tB_ok Tryz.func219 rfl Tryz.call219 rfl ?_
 intro ρ w hH
 conv=>whnf
 refine loop_step tB_ok (G:=Nat) 1 [] (fun i=>[(8,iv .i64 i),(7, .c (.s 1 0 ((os.take i).flatMap (cvrLs os heavy light)).length 4))]) (fun i=>[(1,true, .arr (aLink ((os.take i).flatMap (cvrLs os heavy light))))]) (fun i=>i≤os.length) (fun i=>os.length - i) ?_
 conv=>whnf
 refine⟨⟨0,Nat.zero_le _, ?_⟩, ?_⟩
 ·conv=>whnf
  repeat'(first|exact trivial|exact rfl|refine And.intro ?_ ?_|((conv=>whnf);first|exact trivial|exact rfl|refine And.intro ?_ ?_|omega))
 intro i hi ρ2 t2 hρ2
 conv=>whnf
 refine⟨fun hc=>?_,fun hc=>?_⟩
 ·have hlt:i < os.length:=by simpa using hc
  have hM:=flat_le2 (cvrLs os heavy light) (fun o=>Nat.le_succ_of_le (cvr_len os heavy light o)) (os.take i)
  rw [List.length_take] at hM
  have hfr:∀ b,cvrLs os heavy light os[i]=b → (os.take (i+1)).flatMap (cvrLs os heavy light)=((os.take i).flatMap (cvrLs os heavy light)) ++ b:=fun b hb=>by simpa using flat_round [] (cvrLs os heavy light) hlt hb
  have hcv:cvrLs os heavy light os[i]=bif os[i].st == light && os.contains { os[i] with st:=heavy } then [⟨plF os { os[i] with st:=heavy },plF os os[i],0,0⟩] else []:=rfl
  have hpi:plF os os[i]=i:=plF_at hnd (List.getElem?_eq_getElem hlt)
  rw [hpi] at hcv
  have lo:=rAtThg_t os { os[i] with st:=heavy } (by omega)
  have hge:=plF_ge (l:=os) (x:={ os[i] with st:=heavy })
  generalize (os.take i).flatMap (cvrLs os heavy light)=M at *
  generalize plF os { os[i] with st:=heavy }=pw at *
  conv=>whnf
  refine⟨i,rfl,hlt,hlt, ?_⟩
  conv=>whnf
  refine⟨fun hc=>?_,fun hc=>?_⟩
  ·have h1:(os[i].st == light)=false:=by
    have:(os[i].st != light)=true:=hc
    simpa using this
   rw [h1,Bool.false_and,cond_false] at hcv
   have hnx:=hfr [] hcv
   rw [List.append_nil] at hnx
   conv=>whnf
   refine⟨_,wrapId ⟨by omega,by omega⟩, ?_⟩
   refine⟨i+1,hlt,by show os.length - (i+1) < os.length - i; omega, ?_⟩
   try dsimp only
   rw [hnx]
   conv=>whnf
   refine⟨rfl, ?_⟩
   conv=>whnf
   repeat'(first|exact trivial|exact rfl|refine And.intro ?_ ?_|((conv=>whnf);first|exact trivial|exact rfl|refine And.intro ?_ ?_|omega))
  have h1:(os[i].st == light)=true:=by
   have:(os[i].st != light)=false:=hc
   simpa using this
  rw [h1,Bool.true_and] at hcv
  conv=>whnf
  refine call_step lo rfl rfl ?_
  conv=>whnf
  refine⟨?_, ?_, ?_⟩
  iterate 2 · repeat'(first|exact trivial|exact rfl|refine And.intro ?_ ?_|((conv=>whnf);first|exact trivial|exact rfl|refine And.intro ?_ ?_|omega))
  conv=>whnf
  by_cases hm:({ os[i] with st:=heavy }:Thg) ∈ os
  ·rw [show os.contains { os[i] with st:=heavy }=true by simpa using hm,cond_true] at hcv
   have hnx:=hfr _ hcv
   rw [decide_eq_true hm] at hge
   have hg:=of_decide_eq_true hge
   refine⟨fun hc=>?_,fun hc=>absurd (of_decide_eq_false (show decide (0≤pw)=false from hc)) (by omega)⟩
   conv=>whnf
   refine bs_step tB_ok (aLink [⟨pw,i,0,0⟩]) rfl rfl ?_
   conv=>whnf
   refine⟨⟨rfl,(by repeat'(first|exact trivial|exact rfl|refine And.intro ?_ ?_|((conv=>whnf);first|exact trivial|exact rfl|refine And.intro ?_ ?_|omega)))⟩, ?_⟩
   conv=>whnf
   refine app_step tB_ok (aLink M) [(⟨pw,i,0,0⟩:Lnk)] (fun _=>rfl) rfl rfl rfl rfl ?_
   conv=>whnf
   refine⟨⟨rfl,rfl,Nat.le_refl _,Nat.le_refl _,by show (M.length+1) * 33≤_; omega⟩, ?_⟩
   conv=>whnf
   refine⟨_,wrapId ⟨by omega,by omega⟩, ?_⟩
   refine⟨i+1,hlt,by show os.length - (i+1) < os.length - i; omega, ?_⟩
   try dsimp only
   rw [hnx]
   conv=>whnf
   refine⟨rfl, ?_⟩
   conv=>whnf
   repeat'(first|exact trivial|exact rfl|refine And.intro ?_ ?_|((conv=>whnf);first|exact trivial|exact rfl|refine And.intro ?_ ?_|omega))
   all_goals first | exact (congrArg aLink app1.symm:_) | exact (congrArg aLink app1:_) | simp
  ·rw [show os.contains { os[i] with st:=heavy }=false by simpa using hm,cond_false] at hcv
   have hnx:=hfr [] hcv
   rw [List.append_nil] at hnx
   rw [decide_eq_false hm] at hge
   have hg:=of_decide_eq_false hge
   refine⟨fun hc=>absurd (of_decide_eq_true (show decide (0≤pw)=true from hc)) (by omega),fun hc=>?_⟩
   conv=>whnf
   refine⟨_,wrapId ⟨by omega,by omega⟩, ?_⟩
   refine⟨i+1,hlt,by show os.length - (i+1) < os.length - i; omega, ?_⟩
   try dsimp only
   rw [hnx]
   conv=>whnf
   refine⟨rfl, ?_⟩
   conv=>whnf
   repeat'(first|exact trivial|exact rfl|refine And.intro ?_ ?_|((conv=>whnf);first|exact trivial|exact rfl|refine And.intro ?_ ?_|omega))
 have hie:i=os.length:=by simp at hc; omega
 subst hie
 rw [List.take_length]
 conv=>whnf
 repeat'(first|exact trivial|exact rfl|refine And.intro ?_ ?_|((conv=>whnf);first|exact trivial|exact rfl|refine And.intro ?_ ?_|omega))

end Go.Proofs

