/-
  A part of the proof that a law answers true: lemmas of a symbolic walk, plain functions, or contracts of the functions walked (R3, R4). Conditions: none.
-/
import Derived.Test.YtagedjfjcnemoaaGreatPart16
set_option maxRecDepth 100000
set_option linter.unusedVariables false
set_option linter.unusedSimpArgs false
namespace Go.Proofs
open Go.Sx

theorem rdErr_eq (r:Rd):errF [] (rdErrs r)=if (lookE [] (r.cs.map (chkP r.bs))).1=0 then (if (lookE (lookE [] (r.cs.map (chkP r.bs))).2 (r.ns.map (ntcP r.bs))).1=0 then
  (lookE (lookE (lookE [] (r.cs.map (chkP r.bs))).2 (r.ns.map (ntcP r.bs))).2 (r.ws.map (wghP r.bs))).1 else (lookE (lookE [] (r.cs.map (chkP r.bs))).2 (r.ns.map (ntcP r.bs))).1) else (lookE [] (r.cs.map (chkP r.bs))).1:=by
 rw [← lookE_err (rdErrs r) [] [] (fun _=>Iff.rfl)]
 unfold rdErrs
 rw [lookE_append]
 by_cases h:(lookE [] (r.cs.map (chkP r.bs))).1=0
 ·rw [if_pos h,if_pos h,lookE_append]
  split <;> rfl
 ·rw [if_neg h,if_neg h]

theorem hasB_take {bs:List Bal} {id:Int}:hasB bs id=(bs.map Bal.id).contains id:=by
 unfold hasB findB
 rw [Bool.eq_iff_iff]
 simp only [List.find?_isSome,List.contains_iff_mem,List.mem_map,beq_iff_eq]

theorem check_rd_t (r:Rd) (hb:r.bs.length≤1000000) (hcs:r.cs.length≤1000000) (hns:r.ns.length≤1000000) (hws:r.ws.length≤1000000) :
  Triple Tryz.prog 19 [rdA r] (rdH r) 4 (iv .i64 (checkR r)) []:=by
 have hE:=rdErr_eq r
 have hR:checkR r=bif decide (8 < r.bs.length) || decide (100 < r.cs.length+r.ns.length+r.ws.length) then 2
  else bif errF [] (r.bs.map balP) == 0 then errF [] (rdErrs r) else errF [] (r.bs.map balP):=rfl
 generalize checkR r=R at *
 generalize errF [] (rdErrs r)=E at *
 obtain ⟨bs,cs,ns,ws⟩:=r
 dsimp only at *
 generalize hB:errF [] (bs.map balP)=B at *
 refine triple_of tB_ok Tryz.func19 rfl Tryz.call19 rfl ?_
 intro ρ w hH
 conv=>whnf
 refine⟨fun hc=>?_,fun hc=>?_⟩
 ·have h8:8 < bs.length:=by have:=of_decide_eq_true (show decide ((8:Int) < bs.length)=true from hc); omega
  rw [decide_eq_true h8,Bool.true_or,cond_true] at hR
  subst hR
  conv=>whnf
  repeat'(first|exact trivial|exact rfl|refine And.intro ?_ ?_|((conv=>whnf);first|exact trivial|exact rfl|refine And.intro ?_ ?_|omega))
 have h8:¬ 8 < bs.length:=by have:=of_decide_eq_false (show decide ((8:Int) < bs.length)=false from hc); omega
 conv=>whnf
 refine⟨((cs.length+ns.length:Nat):Int),(show IntKind.i64.wrap ((cs.length:Int)+ns.length)=((cs.length+ns.length:Nat):Int) by rw [wrapId ⟨by omega,by omega⟩]; omega), ?_⟩
 conv=>whnf
 refine⟨((cs.length+ns.length+ws.length:Nat):Int),(show IntKind.i64.wrap (((cs.length+ns.length:Nat):Int)+ws.length)=((cs.length+ns.length+ws.length:Nat):Int) by rw [wrapId ⟨by omega,by omega⟩]; omega), ?_⟩
 conv=>whnf
 refine⟨fun hc=>?_,fun hc=>?_⟩
 ·have h9:100 < cs.length+ns.length+ws.length:=by have:=of_decide_eq_true (show decide ((100:Int) < (cs.length+ns.length+ws.length:Nat))=true from hc); omega
  rw [decide_eq_true h9,Bool.or_true,cond_true] at hR
  subst hR
  conv=>whnf
  repeat'(first|exact trivial|exact rfl|refine And.intro ?_ ?_|((conv=>whnf);first|exact trivial|exact rfl|refine And.intro ?_ ?_|omega))
 have h9:¬ 100 < cs.length+ns.length+ws.length:=by have:=of_decide_eq_false (show decide ((100:Int) < (cs.length+ns.length+ws.length:Nat))=false from hc); omega
 rw [decide_eq_false h8,decide_eq_false h9,Bool.or_false,cond_false] at hR
 conv=>whnf
 refine mkmapKV_step false true 1 rfl ?_
 conv=>whnf
 refine loop_step tB_ok (G:=Nat) 0 [] (fun i=>[(32,iv .i64 i)]) (fun i=>[(5,true,kvO false true 1 (knownF (bs.take i)))]) (fun i=>i≤bs.length∧errF ((bs.take i).map Bal.id) ((bs.drop i).map balP)=B) (fun i=>bs.length - i) ?_
 conv=>whnf
 refine⟨⟨0,⟨Nat.zero_le _,hB⟩, ?_⟩, ?_⟩
 ·conv=>whnf
  repeat'(first|exact trivial|exact rfl|refine And.intro ?_ ?_|((conv=>whnf);first|exact trivial|exact rfl|refine And.intro ?_ ?_|omega))
 rintro i ⟨hi,hT⟩ ρ1 t1 hρ1
 dsimp only
 conv=>whnf
 refine⟨fun hc=>?_,fun hc=>?_⟩
 ·have hlt:i < bs.length:=by simpa using hc
  rw [List.drop_eq_getElem_cons hlt,List.map_cons] at hT
  unfold errF balP at hT
  dsimp only at hT
  conv=>whnf
  refine⟨i,rfl,hlt,hlt, ?_⟩
  conv=>whnf
  refine call_step (valid_t bs[i]) rfl rfl ?_
  conv=>whnf
  refine⟨?_, ?_, ?_⟩
  iterate 2 · repeat'(first|exact trivial|exact rfl|refine And.intro ?_ ?_|((conv=>whnf);first|exact trivial|exact rfl|refine And.intro ?_ ?_|omega))
  conv=>whnf
  refine⟨fun hc=>?_,fun hc=>?_⟩
  ·have hv:validF bs[i]=false:=by simpa using (show (!validF bs[i])=true from hc)
   rw [hv,Bool.not_false,cond_true] at hT
   subst hT
   have hR:R=1:=hR
   subst hR
   conv=>whnf
   repeat'(first|exact trivial|exact rfl|refine And.intro ?_ ?_|((conv=>whnf);first|exact trivial|exact rfl|refine And.intro ?_ ?_|omega))
  have hv:validF bs[i]=true:=by simpa using (show (!validF bs[i])=false from hc)
  rw [hv,Bool.not_true,cond_false] at hT
  conv=>whnf
  refine lookKV_step tB_ok 3 57 false true 1 (balL zBal) keyInt zeroBal_ok rfl ?_
  conv=>whnf
  refine⟨_,_,_,rfl,lookKnown (bs.take i) bs[i].id, ?_⟩
  have hh:=hasB_take (bs:=bs.take i) (id:=bs[i].id)
  generalize hasB (bs.take i) bs[i].id=ok at *
  generalize findD (bs.take i) bs[i].id=d at *
  conv=>whnf
  refine⟨fun hc=>?_,fun hc=>?_⟩
  ·subst hc
   rw [← hh,cond_true] at hT
   subst hT
   have hR:R=6:=hR
   subst hR
   conv=>whnf
   repeat'(first|exact trivial|exact rfl|refine And.intro ?_ ?_|((conv=>whnf);first|exact trivial|exact rfl|refine And.intro ?_ ?_|omega))
  ·subst hc
   rw [← hh,cond_false] at hT
   conv=>whnf
   refine mapUpKV_step tB_ok 3 false true 1 keyInt rfl ?_
   conv=>whnf
   refine⟨knownF (bs.take i),rfl, ?_, ?_⟩
   ·intro hm
    have:(List.map Bal.id (bs.take i)).contains bs[i].id=true:=by
     simp only [knownF,List.map_map,List.mem_map,Function.comp] at hm
     obtain ⟨b,hb1,hb2⟩:=hm
     simp only [List.cons.injEq,and_true] at hb2
     simp only [List.contains_iff_mem,List.mem_map]
     exact⟨b,hb1,hb2⟩
    rw [this] at hh; cases hh
   have en:knownF (bs.take i) ++ [([bs[i].id],balL bs[i])]=knownF (bs.take (i+1)):=by
    unfold knownF; rw [take_snoc hlt,List.map_append]; rfl
   conv=>whnf
   refine⟨_,wrapId ⟨by omega,by omega⟩, ?_⟩
   refine⟨i+1,⟨hlt, ?_⟩,by show bs.length - (i+1) < bs.length - i; omega, ?_⟩
   ·rw [take_snoc hlt,List.map_append]; exact hT
   conv=>whnf
   refine⟨rfl, ?_⟩
   conv=>whnf
   repeat'(first|exact trivial|exact rfl|refine And.intro ?_ ?_|((conv=>whnf);first|exact trivial|exact rfl|refine And.intro ?_ ?_|omega))
   all_goals exact congrArg (KVObj false true 1) en
 ·have hie:i=bs.length:=by simp at hc; omega
  subst hie
  rw [List.drop_length] at hT
  rw [List.take_length]
  have hT:(0:Int)=B:=hT
  subst hT
  have hR:R=E:=hR
  subst hR
  conv=>whnf
  refine mkmap_step rfl ?_
  conv=>whnf
  refine call_step (lookedChk_t bs cs [] hcs) rfl rfl ?_
  generalize lookE [] (cs.map (chkP bs))=a at *
  conv=>whnf
  refine⟨?_, ?_, ?_⟩
  iterate 2 · repeat'(first|exact trivial|exact rfl|refine And.intro ?_ ?_|((conv=>whnf);first|exact trivial|exact rfl|refine And.intro ?_ ?_|omega))
  conv=>whnf
  refine⟨fun hc=>?_,fun hc=>?_⟩
  ·have ha:a.1=0:=by simpa using hc
   rw [if_pos ha] at hE
   conv=>whnf
   refine call_step (lookedNtc_t bs ns a.2 hns) rfl rfl ?_
   generalize lookE a.2 (ns.map (ntcP bs))=b at *
   conv=>whnf
   refine⟨?_, ?_, ?_⟩
   iterate 2 · repeat'(first|exact trivial|exact rfl|refine And.intro ?_ ?_|((conv=>whnf);first|exact trivial|exact rfl|refine And.intro ?_ ?_|omega))
   conv=>whnf
   refine⟨fun hc=>?_,fun hc=>?_⟩
   ·have hb:b.1=0:=by simpa using hc
    rw [if_pos hb] at hE
    conv=>whnf
    refine call_step (lookedWgh_t bs ws b.2 hws) rfl rfl ?_
    generalize lookE b.2 (ws.map (wghP bs))=c at *
    subst hE
    conv=>whnf
    refine⟨?_, ?_, ?_⟩
    iterate 2 · repeat'(first|exact trivial|exact rfl|refine And.intro ?_ ?_|((conv=>whnf);first|exact trivial|exact rfl|refine And.intro ?_ ?_|omega))
    conv=>whnf
    repeat'(first|exact trivial|exact rfl|refine And.intro ?_ ?_|((conv=>whnf);first|exact trivial|exact rfl|refine And.intro ?_ ?_|omega))
   ·have hb:¬ b.1=0:=by simpa using hc
    rw [if_neg hb] at hE
    subst hE
    conv=>whnf
    repeat'(first|exact trivial|exact rfl|refine And.intro ?_ ?_|((conv=>whnf);first|exact trivial|exact rfl|refine And.intro ?_ ?_|omega))
  ·have ha:¬ a.1=0:=by simpa using hc
   rw [if_neg ha] at hE
   subst hE
   have ha2:(a.1 == 0)=false:=by simpa using ha
   conv=>whnf
   refine⟨fun hc=>absurd (show (a.1 == 0)=true from hc) (by rw [ha2]; simp),fun _=>?_⟩
   conv=>whnf
   repeat'(first|exact trivial|exact rfl|refine And.intro ?_ ?_|((conv=>whnf);first|exact trivial|exact rfl|refine And.intro ?_ ?_|omega))

theorem valid_cap {b:Bal} (h:validF b=true):0≤b.half∧b.half≤1000∧1≤b.cap∧b.cap≤10000000:=by
 have:=valid_bd h; omega

theorem can_bd {b:Bal} {mass shift:Int} (h:canF b mass shift=true):(0≤b.half∧b.half≤1000)∧(0≤mass∧mass≤10000000)∧(-1000000≤shift∧shift≤1000000):=by
 unfold canF at h
 simp only [Bool.and_eq_true] at h
 obtain ⟨h1,h2,h3⟩:=h
 have:=valid_cap h1
 simp [withinF] at h2 h3
 omega

theorem bShows_t (b:Bal) (mass shift shown:Int):Triple Tryz.prog 31 [svBal b,iv .i64 mass,iv .i64 shift,iv .i64 shown] [] 0 (bv (showsR b mass shift shown)) []:=by
 have e:showsR b mass shift shown=(canF b mass shift && (withinF shown 0 10000000 && withinF (mass - shown - shift) (-b.half) b.half)):=rfl
 rw [e]
 clear e
 refine triple_of tB_ok Tryz.func31 rfl Tryz.call31 rfl ?_
 intro ρ w hH
 conv=>whnf
 refine call_step (can_t b mass shift) rfl rfl ?_
 conv=>whnf
 refine⟨?_, ?_, ?_⟩
 iterate 2 · repeat'(first|exact trivial|exact rfl|refine And.intro ?_ ?_|((conv=>whnf);first|exact trivial|exact rfl|refine And.intro ?_ ?_|omega))
 conv=>whnf
 refine⟨fun hc=>?_,fun hc=>?_⟩
 rotate_left
 ·conv=>whnf
  exact⟨(by simp_all:_=(canF b mass shift && _)),trivial⟩
 have hcan:canF b mass shift=true:=hc
 have hbd:=can_bd hcan
 rw [hcan,Bool.true_and]
 conv=>whnf
 refine call_step (bWithin_t shown 0 10000000) rfl rfl ?_
 conv=>whnf
 refine⟨?_, ?_, ?_⟩
 iterate 2 · repeat'(first|exact trivial|exact rfl|refine And.intro ?_ ?_|((conv=>whnf);first|exact trivial|exact rfl|refine And.intro ?_ ?_|omega))
 conv=>whnf
 refine⟨fun hc=>?_,fun hc=>?_⟩
 rotate_left
 ·conv=>whnf
  exact⟨(by simp_all:_=(withinF shown 0 10000000 && _)),trivial⟩
 have hsh:withinF shown 0 10000000=true:=hc
 rw [hsh,Bool.true_and]
 have hs2:0≤shown∧shown≤10000000:=by simpa [withinF] using hsh
 conv=>whnf
 refine⟨mass - shown,wrapId (z:=mass - shown) ⟨by omega,by omega⟩, ?_⟩
 conv=>whnf
 refine⟨mass - shown - shift,wrapId (z:=mass - shown - shift) ⟨by omega,by omega⟩, ?_⟩
 conv=>whnf
 refine⟨-b.half,(congrArg IntKind.i64.wrap (show (0:Int) - b.half=-b.half by omega)).trans (wrapId ⟨by omega,by omega⟩), ?_⟩
 conv=>whnf
 refine call_step (bWithin_t (mass - shown - shift) (-b.half) b.half) rfl rfl ?_
 conv=>whnf
 refine⟨?_, ?_, ?_⟩
 iterate 2 · repeat'(first|exact trivial|exact rfl|refine And.intro ?_ ?_|((conv=>whnf);first|exact trivial|exact rfl|refine And.intro ?_ ?_|omega))
 conv=>whnf
 repeat'(first|exact trivial|exact rfl|refine And.intro ?_ ?_|((conv=>whnf);first|exact trivial|exact rfl|refine And.intro ?_ ?_|omega))

theorem showing_t (b:Bal) (mass shift:Int):Triple Tryz.prog 28 [svBal b,iv .i64 mass,iv .i64 shift] [] 0 (.tup [.inr [.v (.int .i64 (showingF b mass shift).1.1), .v (.int .i64 (showingF b mass shift).1.2)], .inl (.v (.int .i64 (showingF b mass shift).2))]) []:=by
 have e:showingF b mass shift=bif canF b mass shift then (bif decide (min 10000000 (mass - shift+b.half) < max 0 (mass - shift - b.half)) then ((0,0),3) else ((max 0 (mass - shift - b.half),min 10000000 (mass - shift+b.half)),0)) else ((0,0),1):=rfl
 generalize showingF b mass shift=R at *
 refine triple_of tB_ok Tryz.func28 rfl Tryz.call28 rfl ?_
 intro ρ w hH
 conv=>whnf
 refine call_step (can_t b mass shift) rfl rfl ?_
 conv=>whnf
 refine⟨?_, ?_, ?_⟩
 iterate 2 · repeat'(first|exact trivial|exact rfl|refine And.intro ?_ ?_|((conv=>whnf);first|exact trivial|exact rfl|refine And.intro ?_ ?_|omega))
 conv=>whnf
 refine⟨fun hc=>?_,fun hc=>?_⟩
 ·have hcan:canF b mass shift=false:=by simpa using (show (!canF b mass shift)=true from hc)
  rw [hcan,cond_false] at e
  subst e
  conv=>whnf
  repeat'(first|exact trivial|exact rfl|refine And.intro ?_ ?_|((conv=>whnf);first|exact trivial|exact rfl|refine And.intro ?_ ?_|omega))
 have hcan:canF b mass shift=true:=by simpa using (show (!canF b mass shift)=false from hc)
 rw [hcan,cond_true] at e
 have hbd:=can_bd hcan
 conv=>whnf
 refine⟨mass - shift,wrapId (z:=mass - shift) ⟨by omega,by omega⟩, ?_⟩
 conv=>whnf
 refine⟨mass - shift - b.half,wrapId (z:=mass - shift - b.half) ⟨by omega,by omega⟩, ?_⟩
 conv=>whnf
 refine⟨mass - shift,wrapId (z:=mass - shift) ⟨by omega,by omega⟩, ?_⟩
 conv=>whnf
 refine⟨mass - shift+b.half,wrapId (z:=mass - shift+b.half) ⟨by omega,by omega⟩, ?_⟩
 conv=>whnf
 refine⟨fun hc=>?_,fun hc=>?_⟩
 ·rw [(show decide (min 10000000 (mass - shift+b.half) < max 0 (mass - shift - b.half))=true from hc),cond_true] at e
  subst e
  conv=>whnf
  repeat'(first|exact trivial|exact rfl|refine And.intro ?_ ?_|((conv=>whnf);first|exact trivial|exact rfl|refine And.intro ?_ ?_|omega))
 ·rw [(show decide (min 10000000 (mass - shift+b.half) < max 0 (mass - shift - b.half))=false from hc),cond_false] at e
  subst e
  conv=>whnf
  repeat'(first|exact trivial|exact rfl|refine And.intro ?_ ?_|((conv=>whnf);first|exact trivial|exact rfl|refine And.intro ?_ ?_|omega))

end Go.Proofs

namespace Go.Proofs
open Go.Sx

def eqI (x y:Int):Bool:=x == y
theorem eqI_t {x y:Int} (h:eqI x y=true):x=y:=by simpa [eqI] using h
theorem eqI_r (x:Int):eqI x x=true:=by simp [eqI]
def eqThg (x y:Thg):Bool:=thgL x == thgL y
theorem thgL_inj {x y:Thg} (h:thgL x=thgL y):x=y:=by
  obtain ⟨⟩:=x
  obtain ⟨⟩:=y
  simp [thgL] at h
  simp_all
theorem eqThg_t {x y:Thg} (h:eqThg x y=true):x=y:=thgL_inj (by simpa [eqThg] using h)
theorem eqThg_r (x:Thg):eqThg x x=true:=by simp [eqThg]
def eqMom (x y:Mom):Bool:=momL x == momL y
theorem momL_inj {x y:Mom} (h:momL x=momL y):x=y:=by
  obtain ⟨⟩:=x
  obtain ⟨⟩:=y
  simp [momL] at h
  simp_all
theorem eqMom_t {x y:Mom} (h:eqMom x y=true):x=y:=momL_inj (by simpa [eqMom] using h)
theorem eqMom_r (x:Mom):eqMom x x=true:=by simp [eqMom]

theorem compS_snoc {α:Type} [DecidableEq α] {x y:α}:∀ l:List α,compS (l ++ [x,y])=if x=y then compS (l ++ [x]) else compS (l ++ [x]) ++ [y]
  | []=>by
    simp only [List.nil_append,compS]
    by_cases h:x=y
    · rw [if_pos h,if_pos h,h]
    · rw [if_neg h,if_neg h]; rfl
  | [a]=>by
    have ih:=compS_snoc (x:=x) (y:=y) []
    have u1:compS ([a] ++ [x,y])=if a=x then compS [x,y] else a :: compS [x,y]:=rfl
    have u2:compS ([a] ++ [x])=if a=x then compS [x] else a :: compS [x]:=rfl
    rw [List.nil_append,List.nil_append] at ih
    rw [u1,u2,ih]
    by_cases h:x=y <;> by_cases h2:a=x
    · rw [if_pos h,if_pos h,if_pos h2]
    · rw [if_pos h,if_pos h,if_neg h2]
    · rw [if_neg h,if_neg h,if_pos h2,if_pos h2]
    · rw [if_neg h,if_neg h,if_neg h2,if_neg h2]; rfl
  | a :: b :: r=>by
    have ih:=compS_snoc (x:=x) (y:=y) (b :: r)
    have u1:compS ((a :: b :: r) ++ [x,y])=if a=b then compS ((b :: r) ++ [x,y]) else a :: compS ((b :: r) ++ [x,y]):=rfl
    have u2:compS ((a :: b :: r) ++ [x])=if a=b then compS ((b :: r) ++ [x]) else a :: compS ((b :: r) ++ [x]):=rfl
    rw [u1,u2,ih]
    by_cases h:x=y <;> by_cases h2:a=b
    · rw [if_pos h,if_pos h,if_pos h2]
    · rw [if_pos h,if_pos h,if_neg h2]
    · rw [if_neg h,if_neg h,if_pos h2,if_pos h2]
    · rw [if_neg h,if_neg h,if_neg h2,if_neg h2]; rfl

theorem compS_take {α:Type} [DecidableEq α] {xs:List α} {j:Nat} (h1:1≤j) (h:j < xs.length) :
    compS (xs.take (j+1))=if xs[j - 1]'(by omega)=xs[j] then compS (xs.take j) else compS (xs.take j) ++ [xs[j]]:=by
  obtain ⟨i,rfl⟩:∃ i,j=i+1:=⟨j - 1,by omega⟩
  have e2:xs.take (i+1)=xs.take i ++ [xs[i]]:=by rw [List.take_add_one,List.getElem?_eq_getElem (by omega)]; rfl
  have e1:xs.take (i+1+1)=xs.take i ++ [xs[i],xs[i+1]]:=by rw [List.take_add_one,List.getElem?_eq_getElem h,e2,List.append_assoc]; rfl
  rw [e1,e2,compS_snoc]
  simp only [Nat.add_sub_cancel]

theorem compS_same {α:Type} [DecidableEq α] {xs:List α} {k:Nat} (hk:k≤xs.length) (h:compS (xs.take k)=xs.take k) (h1:1≤k) (hlt:k < xs.length) (hne:¬ xs[k - 1]'(by omega)=xs[k]):compS (xs.take (k+1))=xs.take (k+1):=by
  rw [compS_take h1 hlt,if_neg hne,h,List.take_add_one,List.getElem?_eq_getElem hlt]; rfl

theorem compactInt_t (xs:List Int) (h:xs.length≤1000000):Triple Tryz.prog 221 [.c (.s 0 0 xs.length 1)] [(0,true, .arr (aInt xs))] 1 (.c (.s 0 0 (compS xs).length 1)) [(0,true, .arr (aInt (compS xs)))]:=by
  refine triple_of tB_ok Tryz.func221 rfl Tryz.call221 rfl ?_
  intro ρ w hH
  conv=>whnf
  refine⟨fun hc=>?_,fun hc=>?_⟩
  · have hl:xs.length < 2:=by have:=of_decide_eq_true (show decide ((xs.length:Int) < 2)=true from hc); omega
    have e:compS xs=xs:=by
      match xs,hl with
      | [],_=>rfl
      | [x],_=>rfl
    rw [e]
    conv=>whnf
    repeat'(first|exact trivial|exact rfl|refine And.intro ?_ ?_|((conv=>whnf);first|exact trivial|exact rfl|refine And.intro ?_ ?_|omega))
  have hl:¬ xs.length < 2:=by have:=of_decide_eq_false (show decide ((xs.length:Int) < 2)=false from hc); omega
  conv=>whnf
  refine loop_step tB_ok (G:=Nat) 0 [] (fun k=>[(3,iv .i64 k)]) (fun _=>[(0,true, .arr (aInt xs))]) (fun k=>1≤k∧k≤xs.length∧compS (xs.take k)=xs.take k) (fun k=>xs.length - k) ?_
  conv=>whnf
  refine⟨⟨1,⟨Nat.le_refl _,by omega, ?_⟩, ?_⟩, ?_⟩
  · match xs,hl with
    | x :: r,_=>rfl
  · conv=>whnf
    repeat'(first|exact trivial|exact rfl|refine And.intro ?_ ?_|((conv=>whnf);first|exact trivial|exact rfl|refine And.intro ?_ ?_|omega))
  rintro k ⟨h1,h2,h3⟩ ρ1 t1 hρ1
  dsimp only
  conv=>whnf
  refine⟨fun hc=>?_,fun hc=>?_⟩
  · have hlt:k < xs.length:=by simpa using hc
    conv=>whnf
    refine⟨k,rfl,hlt,hlt, ?_⟩
    conv=>whnf
    obtain ⟨j,rfl⟩:∃ j,k=j+1:=⟨k - 1,by omega⟩
    refine ⟨(j : Nat), by have e : ((j + 1 : Nat) : Int) - 1 = (j : Nat) := by omega
                          rw [e]; exact wrapId (z:=(j:Int)) ⟨by omega,by omega⟩, ?_⟩
    conv=>whnf
    refine⟨j,rfl,(show j < xs.length by omega),(show j < xs.length by omega), ?_⟩
    conv=>whnf
    refine⟨fun hc=>?_,fun hc=>?_⟩
    · have heq:xs[j+1]=xs[j]:=eqI_t (show eqI xs[j+1] xs[j]=true from hc)
      conv=>whnf
      refine⟨Nat.le_refl _, ?_⟩
      conv=>whnf
      refine⟨j+1,rfl, ?_⟩
      conv=>whnf
      refine⟨h2, ?_⟩
      conv=>whnf
      have hcj:(compS (xs.take (j+1))).length=j+1:=by rw [h3,List.length_take]; omega
      have e0:xs=compS (xs.take (j+1+1)) ++ xs.drop (j+1):=by
        rw [compS_take (by omega) hlt,if_pos (by simpa using heq.symm),h3,List.take_append_drop]
      refine loop_step tB_ok (G:=Nat × Nat × List Int) 0 [] (fun g=>[(5,iv .i64 g.2.1),(3,iv .i64 g.1)]) (fun g=>[(0,true, .arr (aInt g.2.2))])
        (fun g=>1≤g.2.1∧j+1+g.2.1≤xs.length∧g.1=(compS (xs.take (j+1+g.2.1))).length∧g.1≤j+g.2.1∧g.2.2=compS (xs.take (j+1+g.2.1)) ++ xs.drop g.1) (fun g=>xs.length - g.2.1) ?_
      conv=>whnf
      refine⟨⟨(j+1,1,xs),⟨Nat.le_refl _,(show j+1+1≤xs.length from hlt), ?_,Nat.le_refl _,e0⟩, ?_⟩, ?_⟩
      · rw [compS_take (by omega) hlt,if_pos (by simpa using heq.symm)]; exact hcj.symm
      · conv=>whnf
        repeat'(first|exact trivial|exact rfl|refine And.intro ?_ ?_|((conv=>whnf);first|exact trivial|exact rfl|refine And.intro ?_ ?_|omega))
      rintro ⟨k,m,ys⟩ ⟨g1,g2,g3,g4,g5⟩ ρ2 t2 hρ2
      dsimp only at g1 g2 g3 g4 g5 ⊢
      have hyl:ys.length=xs.length:=by rw [g5,List.length_append,← g3,List.length_drop]; omega
      have hyg:∀ i,k≤i → ys[i]? = xs[i]?:=by
        intro i hi
        rw [g5,List.getElem?_append_right (by omega),← g3,List.getElem?_drop]
        congr 1; omega
      conv=>whnf
      refine⟨fun hc=>?_,fun hc=>?_⟩
      · have hm:j+1+m < xs.length:=by have:=of_decide_eq_true (show decide ((m:Int) < ((xs.length - (j+1):Nat):Int))=true from hc); omega
        have hms:m < xs.length - (j+1):=by omega
        have hmy:j+1+m < ys.length:=by omega
        conv=>whnf
        refine⟨m,rfl,hms,hmy, ?_⟩
        conv=>whnf
        obtain ⟨i,rfl⟩:∃ i,m=i+1:=⟨m - 1,by omega⟩
        refine ⟨(i : Nat), by have e : ((i + 1 : Nat) : Int) - 1 = (i : Nat) := by omega
                              rw [e]; exact wrapId (z:=(i:Int)) ⟨by omega,by omega⟩, ?_⟩
        conv=>whnf
        refine⟨i,rfl,(show i < xs.length - (j+1) by omega),(show j+1+i < ys.length by omega), ?_⟩
        conv=>whnf
        have hkl:k < ys.length:=by omega
        have ea:ys[j+1+(i+1)]'hmy=xs[j+1+(i+1)]'hm:=by
          have:=hyg (j+1+(i+1)) (by omega)
          rw [List.getElem?_eq_getElem hmy,List.getElem?_eq_getElem hm] at this
          exact Option.some.inj this
        have eb:ys[j+1+i]'(by omega)=xs[j+1+i]'(by omega):=by
          have:=hyg (j+1+i) (by omega)
          rw [List.getElem?_eq_getElem (by omega),List.getElem?_eq_getElem (by omega)] at this
          exact Option.some.inj this
        have hct:compS (xs.take (j+1+(i+1)+1))=if xs[j+1+i]'(by omega)=xs[j+1+(i+1)]'hm then compS (xs.take (j+1+(i+1))) else compS (xs.take (j+1+(i+1))) ++ [xs[j+1+(i+1)]'hm]:=compS_take (xs:=xs) (j:=j+1+(i+1)) (by omega) hm
        refine⟨fun hc=>?_,fun hc=>?_⟩
        · have hne:¬ xs[j+1+i]'(by omega)=xs[j+1+(i+1)]:=fun he=>by
            have hb:eqI (ys[j+1+(i+1)]'hmy) (ys[j+1+i]'(by omega))=true:=by rw [ea,eb,he]; exact eqI_r _
            have hb2:(!eqI (ys[j+1+(i+1)]'hmy) (ys[j+1+i]'(by omega)))=true:=hc
            rw [hb] at hb2; cases hb2
          conv=>whnf
          refine⟨i+1,rfl,hms,hmy, ?_⟩
          conv=>whnf
          refine⟨k,rfl,(show k < xs.length by omega),hkl, ?_⟩
          conv=>whnf
          refine⟨ys[j+1+(i+1)]'hmy,rfl, ?_⟩
          conv=>whnf
          refine⟨(k:Int)+1,wrapId (z:=(k:Int)+1) ⟨by omega,by omega⟩, ?_⟩
          conv=>whnf
          refine⟨((i+1:Nat):Int)+1,wrapId (z:=((i+1:Nat):Int)+1) ⟨by omega,by omega⟩, ?_⟩
          conv=>whnf
          rw [if_neg hne] at hct
          have hnew:ys.set k (ys[j+1+(i+1)]'hmy)=compS (xs.take (j+1+(i+2))) ++ xs.drop (k+1):=by
            have e3:xs.take (j+1+(i+2))=xs.take (j+1+(i+1)+1):=rfl
            rw [e3,hct,ea,g5,List.set_append_right _ _ (by omega),← g3,Nat.sub_self,List.drop_eq_getElem_cons (show k < xs.length by omega),List.append_assoc]
            rfl
          refine⟨(k+1,i+2,ys.set k (ys[j+1+(i+1)]'hmy)),⟨(show 1≤i+2 by omega),(show j+1+(i+2)≤xs.length by omega), ?_,(show k+1≤j+(i+2) by omega),hnew⟩,(show xs.length - (i+2) < xs.length - (i+1) by omega), ?_⟩
          · show k+1=(compS (xs.take (j+1+(i+1)+1))).length
            rw [hct,List.length_append,← g3]; rfl
          conv=>whnf
          refine⟨rfl, ?_⟩
          conv=>whnf
          repeat'(first|exact trivial|exact rfl|refine And.intro ?_ ?_|((conv=>whnf);first|exact trivial|exact rfl|refine And.intro ?_ ?_|omega))
        · have heq2:xs[j+1+i]'(by omega)=xs[j+1+(i+1)]:=by
            have hb2:(!eqI (ys[j+1+(i+1)]'hmy) (ys[j+1+i]'(by omega)))=false:=hc
            rw [ea,eb] at hb2
            exact (eqI_t (by simpa using hb2)).symm
          conv=>whnf
          refine⟨((i+1:Nat):Int)+1,wrapId (z:=((i+1:Nat):Int)+1) ⟨by omega,by omega⟩, ?_⟩
          conv=>whnf
          rw [if_pos heq2] at hct
          have e3:compS (xs.take (j+1+(i+2)))=compS (xs.take (j+1+(i+1))):=hct
          refine⟨(k,i+2,ys),⟨(show 1≤i+2 by omega),(show j+1+(i+2)≤xs.length by omega),by rw [e3]; exact g3,(show k≤j+(i+2) by omega),by rw [e3]; exact g5⟩,(show xs.length - (i+2) < xs.length - (i+1) by omega), ?_⟩
          conv=>whnf
          refine⟨rfl, ?_⟩
          conv=>whnf
          repeat'(first|exact trivial|exact rfl|refine And.intro ?_ ?_|((conv=>whnf);first|exact trivial|exact rfl|refine And.intro ?_ ?_|omega))
      · have hm:j+1+m=xs.length:=by have hq:=of_decide_eq_false (show decide ((m:Int) < ((xs.length - (j+1):Nat):Int))=false from hc); omega
        rw [hm,List.take_length] at g3 g5
        have hkl:k≤xs.length:=by omega
        conv=>whnf
        refine⟨Nat.le_refl _, ?_⟩
        conv=>whnf
        refine⟨k,rfl,hkl, ?_⟩
        conv=>whnf
        refine clear_step tB_ok rfl rfl rfl rfl ?_
        conv=>whnf
        refine⟨⟨rfl, ?_⟩, ?_⟩
        · show addN 0 k+subN xs.length k≤ys.length
          rw [addN_eq,subN_eq]; omega
        conv=>whnf
        refine⟨k,rfl,hkl, ?_⟩
        conv=>whnf
        refine⟨Nat.zero_le _, ?_⟩
        have hys:ys.take k=compS xs:=by rw [g5,List.take_left' g3.symm]
        conv=>whnf
        repeat'(first|exact trivial|exact rfl|refine And.intro ?_ ?_|((conv=>whnf);first|exact trivial|exact rfl|refine And.intro ?_ ?_|omega))
        all_goals first | (rw [subN_eq]; omega) | (rw [← hys]; repeat'(first|exact trivial|exact rfl|refine And.intro ?_ ?_|((conv=>whnf);first|exact trivial|exact rfl|refine And.intro ?_ ?_|omega)))
    · have hne:¬ xs[j]=xs[j+1]:=fun he=>by have h3:eqI xs[j+1] xs[j]=false:=hc; rw [he,eqI_r] at h3; cases h3
      conv=>whnf
      refine⟨_,wrapId ⟨by omega,by omega⟩, ?_⟩
      refine⟨j+2,⟨by omega,hlt,compS_same h2 h3 (by omega) hlt hne⟩,by omega, ?_⟩
      conv=>whnf
      refine⟨rfl, ?_⟩
      conv=>whnf
      repeat'(first|exact trivial|exact rfl|refine And.intro ?_ ?_|((conv=>whnf);first|exact trivial|exact rfl|refine And.intro ?_ ?_|omega))
  have hk:k=xs.length:=by simp at hc; omega
  rw [hk,List.take_length] at h3
  rw [h3]
  conv=>whnf
  repeat'(first|exact trivial|exact rfl|refine And.intro ?_ ?_|((conv=>whnf);first|exact trivial|exact rfl|refine And.intro ?_ ?_|omega))

theorem compactThg_t (xs:List Thg) (h:xs.length≤1000000):Triple Tryz.prog 224 [.c (.s 0 0 xs.length 4)] [(0,true, .arr (aThg xs))] 1 (.c (.s 0 0 (compS xs).length 4)) [(0,true, .arr (aThg (compS xs)))]:=by
  refine triple_of tB_ok Tryz.func224 rfl Tryz.call224 rfl ?_
  intro ρ w hH
  conv=>whnf
  refine⟨fun hc=>?_,fun hc=>?_⟩
  · have hl:xs.length < 2:=by have:=of_decide_eq_true (show decide ((xs.length:Int) < 2)=true from hc); omega
    have e:compS xs=xs:=by
      match xs,hl with
      | [],_=>rfl
      | [x],_=>rfl
    rw [e]
    conv=>whnf
    repeat'(first|exact trivial|exact rfl|refine And.intro ?_ ?_|((conv=>whnf);first|exact trivial|exact rfl|refine And.intro ?_ ?_|omega))
  have hl:¬ xs.length < 2:=by have:=of_decide_eq_false (show decide ((xs.length:Int) < 2)=false from hc); omega
  conv=>whnf
  refine loop_step tB_ok (G:=Nat) 0 [] (fun k=>[(3,iv .i64 k)]) (fun _=>[(0,true, .arr (aThg xs))]) (fun k=>1≤k∧k≤xs.length∧compS (xs.take k)=xs.take k) (fun k=>xs.length - k) ?_
  conv=>whnf
  refine⟨⟨1,⟨Nat.le_refl _,by omega, ?_⟩, ?_⟩, ?_⟩
  · match xs,hl with
    | x :: r,_=>rfl
  · conv=>whnf
    repeat'(first|exact trivial|exact rfl|refine And.intro ?_ ?_|((conv=>whnf);first|exact trivial|exact rfl|refine And.intro ?_ ?_|omega))
  rintro k ⟨h1,h2,h3⟩ ρ1 t1 hρ1
  dsimp only
  conv=>whnf
  refine⟨fun hc=>?_,fun hc=>?_⟩
  · have hlt:k < xs.length:=by simpa using hc
    conv=>whnf
    refine⟨k,rfl,hlt,hlt, ?_⟩
    conv=>whnf
    obtain ⟨j,rfl⟩:∃ j,k=j+1:=⟨k - 1,by omega⟩
    refine ⟨(j : Nat), by have e : ((j + 1 : Nat) : Int) - 1 = (j : Nat) := by omega
                          rw [e]; exact wrapId (z:=(j:Int)) ⟨by omega,by omega⟩, ?_⟩
    conv=>whnf
    refine⟨j,rfl,(show j < xs.length by omega),(show j < xs.length by omega), ?_⟩
    conv=>whnf
    refine⟨fun hc=>?_,fun hc=>?_⟩
    · have heq:xs[j+1]=xs[j]:=eqThg_t (show eqThg xs[j+1] xs[j]=true from hc)
      conv=>whnf
      refine⟨Nat.le_refl _, ?_⟩
      conv=>whnf
      refine⟨j+1,rfl, ?_⟩
      conv=>whnf
      refine⟨h2, ?_⟩
      conv=>whnf
      have hcj:(compS (xs.take (j+1))).length=j+1:=by rw [h3,List.length_take]; omega
      have e0:xs=compS (xs.take (j+1+1)) ++ xs.drop (j+1):=by
        rw [compS_take (by omega) hlt,if_pos (by simpa using heq.symm),h3,List.take_append_drop]
      refine loop_step tB_ok (G:=Nat × Nat × List Thg) 0 [] (fun g=>[(5,iv .i64 g.2.1),(3,iv .i64 g.1)]) (fun g=>[(0,true, .arr (aThg g.2.2))])
        (fun g=>1≤g.2.1∧j+1+g.2.1≤xs.length∧g.1=(compS (xs.take (j+1+g.2.1))).length∧g.1≤j+g.2.1∧g.2.2=compS (xs.take (j+1+g.2.1)) ++ xs.drop g.1) (fun g=>xs.length - g.2.1) ?_
      conv=>whnf
      refine⟨⟨(j+1,1,xs),⟨Nat.le_refl _,(show j+1+1≤xs.length from hlt), ?_,Nat.le_refl _,e0⟩, ?_⟩, ?_⟩
      · rw [compS_take (by omega) hlt,if_pos (by simpa using heq.symm)]; exact hcj.symm
      · conv=>whnf
        repeat'(first|exact trivial|exact rfl|refine And.intro ?_ ?_|((conv=>whnf);first|exact trivial|exact rfl|refine And.intro ?_ ?_|omega))
      rintro ⟨k,m,ys⟩ ⟨g1,g2,g3,g4,g5⟩ ρ2 t2 hρ2
      dsimp only at g1 g2 g3 g4 g5 ⊢
      have hyl:ys.length=xs.length:=by rw [g5,List.length_append,← g3,List.length_drop]; omega
      have hyg:∀ i,k≤i → ys[i]? = xs[i]?:=by
        intro i hi
        rw [g5,List.getElem?_append_right (by omega),← g3,List.getElem?_drop]
        congr 1; omega
      conv=>whnf
      refine⟨fun hc=>?_,fun hc=>?_⟩
      · have hm:j+1+m < xs.length:=by have:=of_decide_eq_true (show decide ((m:Int) < ((xs.length - (j+1):Nat):Int))=true from hc); omega
        have hms:m < xs.length - (j+1):=by omega
        have hmy:j+1+m < ys.length:=by omega
        conv=>whnf
        refine⟨m,rfl,hms,hmy, ?_⟩
        conv=>whnf
        obtain ⟨i,rfl⟩:∃ i,m=i+1:=⟨m - 1,by omega⟩
        refine ⟨(i : Nat), by have e : ((i + 1 : Nat) : Int) - 1 = (i : Nat) := by omega
                              rw [e]; exact wrapId (z:=(i:Int)) ⟨by omega,by omega⟩, ?_⟩
        conv=>whnf
        refine⟨i,rfl,(show i < xs.length - (j+1) by omega),(show j+1+i < ys.length by omega), ?_⟩
        conv=>whnf
        have hkl:k < ys.length:=by omega
        have ea:ys[j+1+(i+1)]'hmy=xs[j+1+(i+1)]'hm:=by
          have:=hyg (j+1+(i+1)) (by omega)
          rw [List.getElem?_eq_getElem hmy,List.getElem?_eq_getElem hm] at this
          exact Option.some.inj this
        have eb:ys[j+1+i]'(by omega)=xs[j+1+i]'(by omega):=by
          have:=hyg (j+1+i) (by omega)
          rw [List.getElem?_eq_getElem (by omega),List.getElem?_eq_getElem (by omega)] at this
          exact Option.some.inj this
        have hct:compS (xs.take (j+1+(i+1)+1))=if xs[j+1+i]'(by omega)=xs[j+1+(i+1)]'hm then compS (xs.take (j+1+(i+1))) else compS (xs.take (j+1+(i+1))) ++ [xs[j+1+(i+1)]'hm]:=compS_take (xs:=xs) (j:=j+1+(i+1)) (by omega) hm
        refine⟨fun hc=>?_,fun hc=>?_⟩
        · have hne:¬ xs[j+1+i]'(by omega)=xs[j+1+(i+1)]:=fun he=>by
            have hb:eqThg (ys[j+1+(i+1)]'hmy) (ys[j+1+i]'(by omega))=true:=by rw [ea,eb,he]; exact eqThg_r _
            have hb2:(!eqThg (ys[j+1+(i+1)]'hmy) (ys[j+1+i]'(by omega)))=true:=hc
            rw [hb] at hb2; cases hb2
          conv=>whnf
          refine⟨i+1,rfl,hms,hmy, ?_⟩
          conv=>whnf
          refine⟨k,rfl,(show k < xs.length by omega),hkl, ?_⟩
          conv=>whnf
          refine⟨ys[j+1+(i+1)]'hmy,rfl, ?_⟩
          conv=>whnf
          refine⟨(k:Int)+1,wrapId (z:=(k:Int)+1) ⟨by omega,by omega⟩, ?_⟩
          conv=>whnf
          refine⟨((i+1:Nat):Int)+1,wrapId (z:=((i+1:Nat):Int)+1) ⟨by omega,by omega⟩, ?_⟩
          conv=>whnf
          rw [if_neg hne] at hct
          have hnew:ys.set k (ys[j+1+(i+1)]'hmy)=compS (xs.take (j+1+(i+2))) ++ xs.drop (k+1):=by
            have e3:xs.take (j+1+(i+2))=xs.take (j+1+(i+1)+1):=rfl
            rw [e3,hct,ea,g5,List.set_append_right _ _ (by omega),← g3,Nat.sub_self,List.drop_eq_getElem_cons (show k < xs.length by omega),List.append_assoc]
            rfl
          refine⟨(k+1,i+2,ys.set k (ys[j+1+(i+1)]'hmy)),⟨(show 1≤i+2 by omega),(show j+1+(i+2)≤xs.length by omega), ?_,(show k+1≤j+(i+2) by omega),hnew⟩,(show xs.length - (i+2) < xs.length - (i+1) by omega), ?_⟩
          · show k+1=(compS (xs.take (j+1+(i+1)+1))).length
            rw [hct,List.length_append,← g3]; rfl
          conv=>whnf
          refine⟨rfl, ?_⟩
          conv=>whnf
          repeat'(first|exact trivial|exact rfl|refine And.intro ?_ ?_|((conv=>whnf);first|exact trivial|exact rfl|refine And.intro ?_ ?_|omega))
        · have heq2:xs[j+1+i]'(by omega)=xs[j+1+(i+1)]:=by
            have hb2:(!eqThg (ys[j+1+(i+1)]'hmy) (ys[j+1+i]'(by omega)))=false:=hc
            rw [ea,eb] at hb2
            exact (eqThg_t (by simpa using hb2)).symm
          conv=>whnf
          refine⟨((i+1:Nat):Int)+1,wrapId (z:=((i+1:Nat):Int)+1) ⟨by omega,by omega⟩, ?_⟩
          conv=>whnf
          rw [if_pos heq2] at hct
          have e3:compS (xs.take (j+1+(i+2)))=compS (xs.take (j+1+(i+1))):=hct
          refine⟨(k,i+2,ys),⟨(show 1≤i+2 by omega),(show j+1+(i+2)≤xs.length by omega),by rw [e3]; exact g3,(show k≤j+(i+2) by omega),by rw [e3]; exact g5⟩,(show xs.length - (i+2) < xs.length - (i+1) by omega), ?_⟩
          conv=>whnf
          refine⟨rfl, ?_⟩
          conv=>whnf
          repeat'(first|exact trivial|exact rfl|refine And.intro ?_ ?_|((conv=>whnf);first|exact trivial|exact rfl|refine And.intro ?_ ?_|omega))
      · have hm:j+1+m=xs.length:=by have hq:=of_decide_eq_false (show decide ((m:Int) < ((xs.length - (j+1):Nat):Int))=false from hc); omega
        rw [hm,List.take_length] at g3 g5
        have hkl:k≤xs.length:=by omega
        conv=>whnf
        refine⟨Nat.le_refl _, ?_⟩
        conv=>whnf
        refine⟨k,rfl,hkl, ?_⟩
        conv=>whnf
        refine clear_step tB_ok rfl rfl rfl rfl ?_
        conv=>whnf
        refine⟨⟨rfl, ?_⟩, ?_⟩
        · show addN 0 k+subN xs.length k≤ys.length
          rw [addN_eq,subN_eq]; omega
        conv=>whnf
        refine⟨k,rfl,hkl, ?_⟩
        conv=>whnf
        refine⟨Nat.zero_le _, ?_⟩
        have hys:ys.take k=compS xs:=by rw [g5,List.take_left' g3.symm]
        conv=>whnf
        repeat'(first|exact trivial|exact rfl|refine And.intro ?_ ?_|((conv=>whnf);first|exact trivial|exact rfl|refine And.intro ?_ ?_|omega))
        all_goals first | (rw [subN_eq]; omega) | (rw [← hys]; repeat'(first|exact trivial|exact rfl|refine And.intro ?_ ?_|((conv=>whnf);first|exact trivial|exact rfl|refine And.intro ?_ ?_|omega)))
    · have hne:¬ xs[j]=xs[j+1]:=fun he=>by have h3:eqThg xs[j+1] xs[j]=false:=hc; rw [he,eqThg_r] at h3; cases h3
      conv=>whnf
      refine⟨_,wrapId ⟨by omega,by omega⟩, ?_⟩
      refine⟨j+2,⟨by omega,hlt,compS_same h2 h3 (by omega) hlt hne⟩,by omega, ?_⟩
      conv=>whnf
      refine⟨rfl, ?_⟩
      conv=>whnf
      repeat'(first|exact trivial|exact rfl|refine And.intro ?_ ?_|((conv=>whnf);first|exact trivial|exact rfl|refine And.intro ?_ ?_|omega))
  have hk:k=xs.length:=by simp at hc; omega
  rw [hk,List.take_length] at h3
  rw [h3]
  conv=>whnf
  repeat'(first|exact trivial|exact rfl|refine And.intro ?_ ?_|((conv=>whnf);first|exact trivial|exact rfl|refine And.intro ?_ ?_|omega))

theorem compactMom_t (xs:List Mom) (h:xs.length≤1000000):Triple Tryz.prog 228 [.c (.s 0 0 xs.length 2)] [(0,true, .arr (aMom xs))] 1 (.c (.s 0 0 (compS xs).length 2)) [(0,true, .arr (aMom (compS xs)))]:=by
  refine triple_of tB_ok Tryz.func228 rfl Tryz.call228 rfl ?_
  intro ρ w hH
  conv=>whnf
  refine⟨fun hc=>?_,fun hc=>?_⟩
  · have hl:xs.length < 2:=by have:=of_decide_eq_true (show decide ((xs.length:Int) < 2)=true from hc); omega
    have e:compS xs=xs:=by
      match xs,hl with
      | [],_=>rfl
      | [x],_=>rfl
    rw [e]
    conv=>whnf
    repeat'(first|exact trivial|exact rfl|refine And.intro ?_ ?_|((conv=>whnf);first|exact trivial|exact rfl|refine And.intro ?_ ?_|omega))
  have hl:¬ xs.length < 2:=by have:=of_decide_eq_false (show decide ((xs.length:Int) < 2)=false from hc); omega
  conv=>whnf
  refine loop_step tB_ok (G:=Nat) 0 [] (fun k=>[(3,iv .i64 k)]) (fun _=>[(0,true, .arr (aMom xs))]) (fun k=>1≤k∧k≤xs.length∧compS (xs.take k)=xs.take k) (fun k=>xs.length - k) ?_
  conv=>whnf
  refine⟨⟨1,⟨Nat.le_refl _,by omega, ?_⟩, ?_⟩, ?_⟩
  · match xs,hl with
    | x :: r,_=>rfl
  · conv=>whnf
    repeat'(first|exact trivial|exact rfl|refine And.intro ?_ ?_|((conv=>whnf);first|exact trivial|exact rfl|refine And.intro ?_ ?_|omega))
  rintro k ⟨h1,h2,h3⟩ ρ1 t1 hρ1
  dsimp only
  conv=>whnf
  refine⟨fun hc=>?_,fun hc=>?_⟩
  · have hlt:k < xs.length:=by simpa using hc
    conv=>whnf
    refine⟨k,rfl,hlt,hlt, ?_⟩
    conv=>whnf
    obtain ⟨j,rfl⟩:∃ j,k=j+1:=⟨k - 1,by omega⟩
    refine ⟨(j : Nat), by have e : ((j + 1 : Nat) : Int) - 1 = (j : Nat) := by omega
                          rw [e]; exact wrapId (z:=(j:Int)) ⟨by omega,by omega⟩, ?_⟩
    conv=>whnf
    refine⟨j,rfl,(show j < xs.length by omega),(show j < xs.length by omega), ?_⟩
    conv=>whnf
    refine⟨fun hc=>?_,fun hc=>?_⟩
    · have heq:xs[j+1]=xs[j]:=eqMom_t (show eqMom xs[j+1] xs[j]=true from hc)
      conv=>whnf
      refine⟨Nat.le_refl _, ?_⟩
      conv=>whnf
      refine⟨j+1,rfl, ?_⟩
      conv=>whnf
      refine⟨h2, ?_⟩
      conv=>whnf
      have hcj:(compS (xs.take (j+1))).length=j+1:=by rw [h3,List.length_take]; omega
      have e0:xs=compS (xs.take (j+1+1)) ++ xs.drop (j+1):=by
        rw [compS_take (by omega) hlt,if_pos (by simpa using heq.symm),h3,List.take_append_drop]
      refine loop_step tB_ok (G:=Nat × Nat × List Mom) 0 [] (fun g=>[(5,iv .i64 g.2.1),(3,iv .i64 g.1)]) (fun g=>[(0,true, .arr (aMom g.2.2))])
        (fun g=>1≤g.2.1∧j+1+g.2.1≤xs.length∧g.1=(compS (xs.take (j+1+g.2.1))).length∧g.1≤j+g.2.1∧g.2.2=compS (xs.take (j+1+g.2.1)) ++ xs.drop g.1) (fun g=>xs.length - g.2.1) ?_
      conv=>whnf
      refine⟨⟨(j+1,1,xs),⟨Nat.le_refl _,(show j+1+1≤xs.length from hlt), ?_,Nat.le_refl _,e0⟩, ?_⟩, ?_⟩
      · rw [compS_take (by omega) hlt,if_pos (by simpa using heq.symm)]; exact hcj.symm
      · conv=>whnf
        repeat'(first|exact trivial|exact rfl|refine And.intro ?_ ?_|((conv=>whnf);first|exact trivial|exact rfl|refine And.intro ?_ ?_|omega))
      rintro ⟨k,m,ys⟩ ⟨g1,g2,g3,g4,g5⟩ ρ2 t2 hρ2
      dsimp only at g1 g2 g3 g4 g5 ⊢
      have hyl:ys.length=xs.length:=by rw [g5,List.length_append,← g3,List.length_drop]; omega
      have hyg:∀ i,k≤i → ys[i]? = xs[i]?:=by
        intro i hi
        rw [g5,List.getElem?_append_right (by omega),← g3,List.getElem?_drop]
        congr 1; omega
      conv=>whnf
      refine⟨fun hc=>?_,fun hc=>?_⟩
      · have hm:j+1+m < xs.length:=by have:=of_decide_eq_true (show decide ((m:Int) < ((xs.length - (j+1):Nat):Int))=true from hc); omega
        have hms:m < xs.length - (j+1):=by omega
        have hmy:j+1+m < ys.length:=by omega
        conv=>whnf
        refine⟨m,rfl,hms,hmy, ?_⟩
        conv=>whnf
        obtain ⟨i,rfl⟩:∃ i,m=i+1:=⟨m - 1,by omega⟩
        refine ⟨(i : Nat), by have e : ((i + 1 : Nat) : Int) - 1 = (i : Nat) := by omega
                              rw [e]; exact wrapId (z:=(i:Int)) ⟨by omega,by omega⟩, ?_⟩
        conv=>whnf
        refine⟨i,rfl,(show i < xs.length - (j+1) by omega),(show j+1+i < ys.length by omega), ?_⟩
        conv=>whnf
        have hkl:k < ys.length:=by omega
        have ea:ys[j+1+(i+1)]'hmy=xs[j+1+(i+1)]'hm:=by
          have:=hyg (j+1+(i+1)) (by omega)
          rw [List.getElem?_eq_getElem hmy,List.getElem?_eq_getElem hm] at this
          exact Option.some.inj this
        have eb:ys[j+1+i]'(by omega)=xs[j+1+i]'(by omega):=by
          have:=hyg (j+1+i) (by omega)
          rw [List.getElem?_eq_getElem (by omega),List.getElem?_eq_getElem (by omega)] at this
          exact Option.some.inj this
        have hct:compS (xs.take (j+1+(i+1)+1))=if xs[j+1+i]'(by omega)=xs[j+1+(i+1)]'hm then compS (xs.take (j+1+(i+1))) else compS (xs.take (j+1+(i+1))) ++ [xs[j+1+(i+1)]'hm]:=compS_take (xs:=xs) (j:=j+1+(i+1)) (by omega) hm
        refine⟨fun hc=>?_,fun hc=>?_⟩
        · have hne:¬ xs[j+1+i]'(by omega)=xs[j+1+(i+1)]:=fun he=>by
            have hb:eqMom (ys[j+1+(i+1)]'hmy) (ys[j+1+i]'(by omega))=true:=by rw [ea,eb,he]; exact eqMom_r _
            have hb2:(!eqMom (ys[j+1+(i+1)]'hmy) (ys[j+1+i]'(by omega)))=true:=hc
            rw [hb] at hb2; cases hb2
          conv=>whnf
          refine⟨i+1,rfl,hms,hmy, ?_⟩
          conv=>whnf
          refine⟨k,rfl,(show k < xs.length by omega),hkl, ?_⟩
          conv=>whnf
          refine⟨ys[j+1+(i+1)]'hmy,rfl, ?_⟩
          conv=>whnf
          refine⟨(k:Int)+1,wrapId (z:=(k:Int)+1) ⟨by omega,by omega⟩, ?_⟩
          conv=>whnf
          refine⟨((i+1:Nat):Int)+1,wrapId (z:=((i+1:Nat):Int)+1) ⟨by omega,by omega⟩, ?_⟩
          conv=>whnf
          rw [if_neg hne] at hct
          have hnew:ys.set k (ys[j+1+(i+1)]'hmy)=compS (xs.take (j+1+(i+2))) ++ xs.drop (k+1):=by
            have e3:xs.take (j+1+(i+2))=xs.take (j+1+(i+1)+1):=rfl
            rw [e3,hct,ea,g5,List.set_append_right _ _ (by omega),← g3,Nat.sub_self,List.drop_eq_getElem_cons (show k < xs.length by omega),List.append_assoc]
            rfl
          refine⟨(k+1,i+2,ys.set k (ys[j+1+(i+1)]'hmy)),⟨(show 1≤i+2 by omega),(show j+1+(i+2)≤xs.length by omega), ?_,(show k+1≤j+(i+2) by omega),hnew⟩,(show xs.length - (i+2) < xs.length - (i+1) by omega), ?_⟩
          · show k+1=(compS (xs.take (j+1+(i+1)+1))).length
            rw [hct,List.length_append,← g3]; rfl
          conv=>whnf
          refine⟨rfl, ?_⟩
          conv=>whnf
          repeat'(first|exact trivial|exact rfl|refine And.intro ?_ ?_|((conv=>whnf);first|exact trivial|exact rfl|refine And.intro ?_ ?_|omega))
        · have heq2:xs[j+1+i]'(by omega)=xs[j+1+(i+1)]:=by
            have hb2:(!eqMom (ys[j+1+(i+1)]'hmy) (ys[j+1+i]'(by omega)))=false:=hc
            rw [ea,eb] at hb2
            exact (eqMom_t (by simpa using hb2)).symm
          conv=>whnf
          refine⟨((i+1:Nat):Int)+1,wrapId (z:=((i+1:Nat):Int)+1) ⟨by omega,by omega⟩, ?_⟩
          conv=>whnf
          rw [if_pos heq2] at hct
          have e3:compS (xs.take (j+1+(i+2)))=compS (xs.take (j+1+(i+1))):=hct
          refine⟨(k,i+2,ys),⟨(show 1≤i+2 by omega),(show j+1+(i+2)≤xs.length by omega),by rw [e3]; exact g3,(show k≤j+(i+2) by omega),by rw [e3]; exact g5⟩,(show xs.length - (i+2) < xs.length - (i+1) by omega), ?_⟩
          conv=>whnf
          refine⟨rfl, ?_⟩
          conv=>whnf
          repeat'(first|exact trivial|exact rfl|refine And.intro ?_ ?_|((conv=>whnf);first|exact trivial|exact rfl|refine And.intro ?_ ?_|omega))
      · have hm:j+1+m=xs.length:=by have hq:=of_decide_eq_false (show decide ((m:Int) < ((xs.length - (j+1):Nat):Int))=false from hc); omega
        rw [hm,List.take_length] at g3 g5
        have hkl:k≤xs.length:=by omega
        conv=>whnf
        refine⟨Nat.le_refl _, ?_⟩
        conv=>whnf
        refine⟨k,rfl,hkl, ?_⟩
        conv=>whnf
        refine clear_step tB_ok rfl rfl rfl rfl ?_
        conv=>whnf
        refine⟨⟨rfl, ?_⟩, ?_⟩
        · show addN 0 k+subN xs.length k≤ys.length
          rw [addN_eq,subN_eq]; omega
        conv=>whnf
        refine⟨k,rfl,hkl, ?_⟩
        conv=>whnf
        refine⟨Nat.zero_le _, ?_⟩
        have hys:ys.take k=compS xs:=by rw [g5,List.take_left' g3.symm]
        conv=>whnf
        repeat'(first|exact trivial|exact rfl|refine And.intro ?_ ?_|((conv=>whnf);first|exact trivial|exact rfl|refine And.intro ?_ ?_|omega))
        all_goals first | (rw [subN_eq]; omega) | (rw [← hys]; repeat'(first|exact trivial|exact rfl|refine And.intro ?_ ?_|((conv=>whnf);first|exact trivial|exact rfl|refine And.intro ?_ ?_|omega)))
    · have hne:¬ xs[j]=xs[j+1]:=fun he=>by have h3:eqMom xs[j+1] xs[j]=false:=hc; rw [he,eqMom_r] at h3; cases h3
      conv=>whnf
      refine⟨_,wrapId ⟨by omega,by omega⟩, ?_⟩
      refine⟨j+2,⟨by omega,hlt,compS_same h2 h3 (by omega) hlt hne⟩,by omega, ?_⟩
      conv=>whnf
      refine⟨rfl, ?_⟩
      conv=>whnf
      repeat'(first|exact trivial|exact rfl|refine And.intro ?_ ?_|((conv=>whnf);first|exact trivial|exact rfl|refine And.intro ?_ ?_|omega))
  have hk:k=xs.length:=by simp at hc; omega
  rw [hk,List.take_length] at h3
  rw [h3]
  conv=>whnf
  repeat'(first|exact trivial|exact rfl|refine And.intro ?_ ?_|((conv=>whnf);first|exact trivial|exact rfl|refine And.intro ?_ ?_|omega))

end Go.Proofs

