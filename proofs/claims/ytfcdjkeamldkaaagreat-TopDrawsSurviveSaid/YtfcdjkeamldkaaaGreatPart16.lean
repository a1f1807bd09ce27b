/-
  A part of the proof that a law answers true: lemmas of a symbolic walk, plain functions, or contracts of the functions walked (V2, Sx68, V3, V4, V5). Conditions: none.
-/
import Derived.Test.YtfcdjkeamldkaaaGreatPart15
import Derived.Test.YtfcdjkeamldkaaaGreatPart09
set_option maxRecDepth 100000
set_option linter.unusedVariables false
set_option linter.unusedSimpArgs false
namespace Go.Proofs
open Go.Sx

def keepAt (keep:List Int) (m:Nat):Int:=keep.getD (m % keep.length) 0

def tornF (d q:Sct):Sct:=⟨q.l.take 64 ++ d.l.drop 64,by rw [List.length_append,List.length_take,List.length_drop,d.h,q.h]; rfl⟩

def keptF (d q:Sct) (x:Int):Sct:=if x % 3=0 then d else if x % 3=1 then q else tornF d q

def crashF (keep:List Int):Nat → Dk → List Sct
 | _,[]=>[]
 | m,(d,none) :: r=>d :: crashF keep m r
 | m,(d,some q) :: r=>keptF d q (keepAt keep m) :: crashF keep (m+1) r

def cntF (D:Dk):Nat:=(D.filter fun r=>r.2.isSome).length

theorem crashF_append (keep:List Int):∀ (A B:Dk) (m:Nat),crashF keep m (A ++ B)=crashF keep m A ++ crashF keep (m+cntF A) B
 | [],B,m=>by simp [crashF,cntF]
 | (d,none) :: r,B,m=>by
  have:=crashF_append keep r B m
  simp only [List.cons_append,crashF,this]
  simp [cntF]
 | (d,some q) :: r,B,m=>by
  have:=crashF_append keep r B (m+1)
  simp only [List.cons_append,crashF,this]
  have e:m+cntF ((d,some q) :: r)=m+1+cntF r:=by simp [cntF]; omega
  rw [e]

theorem crashF_length (keep:List Int):∀ (D:Dk) (m:Nat),(crashF keep m D).length=D.length
 | [],_=>rfl
 | (d,none) :: r,m=>by simp [crashF,crashF_length keep r m]
 | (d,some q) :: r,m=>by simp [crashF,crashF_length keep r (m+1)]

theorem cntF_append (A B:Dk):cntF (A ++ B)=cntF A+cntF B:=by simp [cntF]

theorem cntF_le (D:Dk):cntF D≤D.length:=List.length_filter_le _ _

def cN (keep:List Int) (D:Dk) (i:Nat):List Sct:=crashF keep 0 (D.take i)

theorem cN_length (keep:List Int) (D:Dk) (i:Nat) (h:i≤D.length):(cN keep D i).length=i:=by
 unfold cN; rw [crashF_length,List.length_take]; omega

theorem cN_none (keep:List Int) (D:Dk) {i:Nat} (h:i < D.length) (hq:D[i].2=none):cN keep D (i+1)=cN keep D i ++ [D[i].1]∧cntF (D.take (i+1))=cntF (D.take i):=by
 have e:D[i]=(D[i].1,none):=Prod.ext rfl hq
 constructor
 ·unfold cN
  rw [take_snoc h,crashF_append,e]
  rfl
 ·rw [take_snoc h,cntF_append]; simp [cntF,hq]

theorem cN_some (keep:List Int) (D:Dk) {i:Nat} (h:i < D.length) {q:Sct} (hq:D[i].2=some q):cN keep D (i+1)=cN keep D i ++ [keptF D[i].1 q (keepAt keep (cntF (D.take i)))]∧cntF (D.take (i+1))=cntF (D.take i)+1:=by
 have e:D[i]=(D[i].1,some q):=Prod.ext rfl hq
 constructor
 ·unfold cN
  rw [take_snoc h,crashF_append,e]
  simp [crashF]
 ·rw [take_snoc h,cntF_append]; simp [cntF,hq]

def outN (A:List Sct) (n:Nat):List Sct:=A ++ List.replicate (n - A.length) zSct

theorem outN_length {A:List Sct} {n:Nat} (h:A.length≤n):(outN A n).length=n:=by
 simp only [outN,List.length_append,List.length_replicate]; omega

theorem outN_set {A:List Sct} {n:Nat} (h:A.length < n) (x:Sct):(outN A n).set A.length x=outN (A ++ [x]) n:=by
 unfold outN
 rw [List.set_append_right _ _ (Nat.le_refl _),Nat.sub_self]
 obtain ⟨m,hm⟩:∃ m,n - A.length=m+1:=⟨n - A.length - 1,by omega⟩
 have hm2:n - (A ++ [x]).length=m:=by rw [List.length_append]; show n - (A.length+1)=m; omega
 rw [hm,hm2,List.replicate_succ,List.set_cons_zero,List.append_assoc]; rfl

theorem outN_set2 {A:List Sct} {n:Nat} (h:A.length < n) (x y:Sct):(outN (A ++ [x]) n).set A.length y=outN (A ++ [y]) n:=by
 rw [← outN_set h x,List.set_set,outN_set h y]

theorem tmod3 (x:Int):(-2≤x.tmod 3∧x.tmod 3≤2)∧(x.tmod 3+1+2).tmod 3=x % 3:=by
 have h1:-2≤x.tmod 3∧x.tmod 3≤2∧(x.tmod 3+3) % 3=x % 3:=by
  by_cases hx:0≤x
  ·rw [Int.tmod_eq_emod_of_nonneg hx]; omega
  ·have e:x=-(-x):=by omega
   rw [e,Int.neg_tmod,Int.tmod_eq_emod_of_nonneg (by omega)]; omega
 refine⟨⟨h1.1,h1.2.1⟩, ?_⟩
 rw [Int.tmod_eq_emod_of_nonneg (by omega)]
 have:=h1.2.2
 omega



theorem crash0_t (D:Dk) (keep:List Int) (hl:D.length≤65536) (hk:keep.length≤1000000) (hkb:∀ x ∈ keep,-9223372036854775808≤x∧x≤9223372036854775807):Triple Tryz.prog 38 [.c (.p 0 0 0 0), .c (.s 3 0 keep.length 1)]
  [(0,false,dskC 1 D.length),(1,false,dkR 2 D),(2,false,dkB D),(3,false, .arr (aInt keep))] 4 (.c (.p 5 0 0 0)) [(4,true, .arr (aRowN (crashF keep 0 D))),(5,true,dskC 4 D.length)]:=by
 have hrl:=rowsF_length D
 refine triple_of tB_ok Tryz.func38 rfl Tryz.call38 rfl ?_
 intro ρ w hH
 conv=>whnf
 refine mkRows_step tB_ok D.length rfl rfl rfl rfl rfl (by decide) rfl rfl (by omega) ?_
 conv=>whnf
 refine loop_step tB_ok (G:=Nat) 0 [] (fun i=>[(26,iv .i64 i),(6,iv .i64 (cntF (D.take i):Int))]) (fun i=>[(4,true, .arr (aRowN (outN (cN keep D i) D.length)))]) (fun i=>i≤D.length) (fun i=>D.length - i) ?_
 conv=>whnf
 refine⟨⟨0,Nat.zero_le _, ?_⟩, ?_⟩
 ·dsimp only
  rw [show outN (cN keep D 0) D.length=List.replicate D.length zSct from by simp [outN,cN,crashF]]
  conv=>whnf
  repeat' (first | exact (aRow_ren rfl) | exact trivial | exact rfl | refine And.intro ?_ ?_ | ((conv=>whnf); first | exact (aRow_ren rfl) | exact trivial | exact rfl | refine And.intro ?_ ?_ | omega))
 intro i hi ρ1 t1 hρ1
 have hi:i≤D.length:=hi
 have hcl:=cN_length keep D i hi
 have hol:=outN_length (A:=cN keep D i) (n:=D.length) (by omega)
 have hcnt:=cntF_le (D.take i)
 rw [List.length_take] at hcnt
 conv=>whnf
 refine⟨fun hc=>?_,fun hc=>?_⟩
 ·have h:i < D.length:=by simp at hc; omega
  have hio:i < (outN (cN keep D i) D.length).length:=by omega
  cases hq:D[i].2 with
  | none =>
   obtain ⟨hst,hct⟩:=cN_none keep D h hq
   conv=>whnf
   refine⟨i,rfl,h, ?_⟩
   conv=>whnf
   refine loadRow_step tB_ok D[i].1 (.v nilV) rfl rfl rfl rfl rfl rfl rfl (rows_none h hq) ?_
   conv=>whnf
   refine allocRow_step tB_ok rfl rfl rfl ?_
   conv=>whnf
   refine storeRow_step (kp:=0) (b:=none) tB_ok (aRowN [zSct]) zSct D[i].1 (.v nilV) rfl rfl rfl rfl rfl rfl rfl (Nat.zero_lt_one) rfl D[i].1 rfl ?_
   conv=>whnf
   refine loadSec_step tB_ok D[i].1 (.v nilV) rfl rfl rfl rfl rfl rfl rfl ⟨D[i].1,rfl,rfl⟩ ?_
   conv=>whnf
   refine⟨i,rfl,h, ?_⟩
   conv=>whnf
   refine storeSec_step tB_ok (aRowN (outN (cN keep D i) D.length)) ((outN (cN keep D i) D.length)[i]'hio) D[i].1 (.v nilV) rfl rfl rfl rfl rfl rfl rfl hio rfl D[i].1 rfl ?_
   conv=>whnf
   refine loadNil_step (s:=D[i].1) (u:=nilV) tB_ok rfl rfl rfl rfl rfl rfl ⟨D[i].1,rfl,rfl⟩ ?_
   conv=>whnf
   refine⟨fun hc=>?_,fun hc=>absurd hc (by simp)⟩
   conv=>whnf
   refine⟨_,wrapId ⟨by omega,by omega⟩, ?_⟩
   refine⟨i+1,h,by show D.length - (i+1) < D.length - i; omega, ?_⟩
   have e2:(aRowN (outN (cN keep D i) D.length)).setXs ((outN (cN keep D i) D.length).set i D[i].1)=aRowN (outN (cN keep D (i+1)) D.length):=by
    show aRowN ((outN (cN keep D i) D.length).set i D[i].1)=_
    rw [hst,← outN_set (by omega) D[i].1,hcl]
   dsimp only
   rw [hct]
   conv=>whnf
   refine⟨rfl, ?_⟩
   conv=>whnf
   repeat' (first | exact e2 | exact trivial | exact rfl | refine And.intro ?_ ?_ | ((conv=>whnf); first | exact e2 | exact trivial | exact rfl | refine And.intro ?_ ?_ | omega))
  | some q =>
   obtain ⟨hst,hct⟩:=cN_some keep D h hq
   conv=>whnf
   refine⟨i,rfl,h, ?_⟩
   conv=>whnf
   refine loadRow_step tB_ok D[i].1 (.ghost 2 i) rfl rfl rfl rfl rfl rfl rfl (rows_some h hq) ?_
   conv=>whnf
   refine allocRow_step tB_ok rfl rfl rfl ?_
   conv=>whnf
   refine storeVar_step (kp:=2) tB_ok zSct D[i].1 i rfl rfl rfl rfl rfl rfl ?_
   conv=>whnf
   refine loadSec_step tB_ok D[i].1 (.ghost 2 i) rfl rfl rfl rfl rfl rfl rfl ⟨(D[i].1,some i),rfl,rfl⟩ ?_
   conv=>whnf
   refine⟨i,rfl,h, ?_⟩
   conv=>whnf
   refine storeSec_step tB_ok (aRowN (outN (cN keep D i) D.length)) ((outN (cN keep D i) D.length)[i]'hio) D[i].1 (.v nilV) rfl rfl rfl rfl rfl rfl rfl hio rfl D[i].1 rfl ?_
   have e1:(aRowN (outN (cN keep D i) D.length)).setXs ((outN (cN keep D i) D.length).set i D[i].1)=aRowN (outN (cN keep D i ++ [D[i].1]) D.length):=by
    show aRowN ((outN (cN keep D i) D.length).set i D[i].1)=_
    rw [← outN_set (by omega) D[i].1,hcl]
   have e1':(aRowN (outN (cN keep D i) D.length)).setXs ((aRowN (outN (cN keep D i) D.length)).xs.set (addN 0 i) D[i].1)=aRowN (outN (cN keep D i ++ [D[i].1]) D.length):=e1
   rw [e1']
   have hio2:i < (outN (cN keep D i ++ [D[i].1]) D.length).length:=by rw [outN_length (by rw [List.length_append,hcl]; exact h)]; exact h
   conv=>whnf
   refine loadPend_step (s:=D[i].1) (q:=q) tB_ok rfl rfl rfl rfl rfl rfl ⟨(D[i].1,some i),rfl,rfl⟩ rfl (pnd_some h hq) ?_
   conv=>whnf
   refine⟨fun hc=>absurd hc (by simp),fun hc=>?_⟩
   have hAl:(cN keep D i ++ [D[i].1]).length≤D.length:=by rw [List.length_append,hcl]; exact h
   generalize hm:cntF (D.take i)=m at hcnt hst hct ⊢
   conv=>whnf
   refine⟨fun hc=>?_,fun hc=>?_⟩
   ·have hkl:0 < keep.length:=by simp at hc; exact List.length_pos_iff.2 (by intro h0; rw [h0] at hc; simp at hc)
    have hml:m % keep.length < keep.length:=Nat.mod_lt _ hkl
    conv=>whnf
    refine⟨by omega,((m % keep.length:Nat):Int),by rw [Int.tmod_eq_emod_of_nonneg (by omega)]; omega, ?_⟩
    conv=>whnf
    refine⟨m % keep.length,rfl,hml, ?_⟩
    conv=>whnf
    have hml2:addN 0 (m % keep.length) < keep.length:=by rw [addN_eq]; omega
    refine⟨hml2, ?_⟩
    have hx:(aInt keep).xs[addN 0 (m % keep.length)]'hml2=keepAt keep m:=by
     show keep[addN 0 (m % keep.length)]'hml2=_
     unfold keepAt
     simp only [addN_eq,Nat.zero_add,List.getD,List.getElem?_eq_getElem hml]; rfl
    have hxb:-9223372036854775808≤keepAt keep m∧keepAt keep m≤9223372036854775807:=by rw [← hx]; exact hkb _ (List.getElem_mem _)
    conv=>whnf
    rw [hx]
    generalize keepAt keep m=x at hst hxb ⊢
    obtain ⟨⟨ht1,ht2⟩,ht3⟩:=tmod3 x
    conv=>whnf
    refine⟨_,wrapId ⟨by omega,by omega⟩, ?_⟩
    conv=>whnf
    refine⟨3,by decide, ?_⟩
    conv=>whnf
    refine⟨by decide,(x).tmod 3,rfl, ?_⟩
    conv=>whnf
    refine⟨_,wrapId ⟨by omega,by omega⟩, ?_⟩
    conv=>whnf
    refine⟨_,wrapId ⟨by omega,by omega⟩, ?_⟩
    conv=>whnf
    refine⟨3,by decide, ?_⟩
    conv=>whnf
    refine⟨by decide,x % 3,ht3, ?_⟩
    conv=>whnf
    refine⟨fun hc=>?_,fun hc=>?_⟩
    ·have hx0:x % 3=0:=eq_of_beq hc
     conv=>whnf
     refine⟨_,wrapId ⟨by omega,by omega⟩, ?_⟩
     refine⟨i+1,h,by show D.length - (i+1) < D.length - i; omega, ?_⟩
     have e3:aRowN (outN (cN keep D i ++ [D[i].1]) D.length)=aRowN (outN (cN keep D (i+1)) D.length):=by
      show aRowN (outN (cN keep D i ++ [D[i].1]) D.length)=_
      rw [hst,show keptF D[i].1 q x=D[i].1 from by first | (simp [keptF,hx0]; done) | exact absurd rfl hx0]
      try rfl
     dsimp only
     rw [hct]
     conv=>whnf
     refine⟨rfl, ?_⟩
     conv=>whnf
     repeat' (first | exact e3 | exact trivial | exact rfl | refine And.intro ?_ ?_ | ((conv=>whnf); first | exact e3 | exact trivial | exact rfl | refine And.intro ?_ ?_ | omega))
    ·have hx0:¬ x % 3=0:=ne_of_beq_false hc
     conv=>whnf
     refine⟨2,by decide, ?_⟩
     conv=>whnf
     refine⟨fun hc=>?_,fun hc=>?_⟩
     ·have hx2:x % 3=2:=eq_of_beq hc
      have hx1:¬ x % 3=1:=by omega
      conv=>whnf
      refine loadSec_step tB_ok D[i].1 (.ghost 2 i) rfl rfl rfl rfl rfl rfl rfl ⟨(D[i].1,some i),rfl,rfl⟩ ?_
      conv=>whnf
      refine allocA_step tB_ok 128 rfl rfl rfl ?_
      conv=>whnf
      refine storeA_step (l':=D[i].1.l) tB_ok rfl rfl rfl rfl rfl (by simp) (by rw [D[i].1.h]; simp) (by decide) ?_
      conv=>whnf
      refine⟨fun hc=>absurd hc (by simp),fun hc=>?_⟩
      conv=>whnf
      refine slA_step (n:=128) (l:=D[i].1.l) tB_ok rfl rfl rfl rfl rfl rfl ⟨64,rfl,by decide,Nat.zero_le _, ?_⟩
      conv=>whnf
      refine loadPend_step (s:=D[i].1) (q:=q) tB_ok rfl rfl rfl rfl rfl rfl ⟨(D[i].1,some i),rfl,rfl⟩ rfl (pnd_some h hq) ?_
      conv=>whnf
      refine⟨0,by decide, ?_⟩
      conv=>whnf
      refine⟨0,rfl,by decide, ?_⟩
      conv=>whnf
      refine slAlias_step (s:=q) tB_ok rfl rfl rfl rfl rfl rfl ⟨64,rfl,by decide,Nat.zero_le _, ?_⟩
      conv=>whnf
      refine copy_step tB_ok (aU8 (some 128) D[i].1.l) q.l (fun _=>rfl) rfl rfl rfl rfl ?_
      conv=>whnf
      refine⟨⟨rfl,rfl,(by show 0+64≤D[i].1.l.length; rw [D[i].1.h]; decide),(by show 0+64≤q.l.length; rw [q.h]; decide)⟩,64,rfl, ?_⟩
      have et:(aU8 (some 128) D[i].1.l).setXs (spl D[i].1.l 0 ((q.l.drop 0).take 64))=aU8 (some 128) (tornF D[i].1 q).l:=by
       show aU8 (some 128) (spl D[i].1.l 0 ((q.l.drop 0).take 64))=_
       congr 1
       unfold spl tornF
       rw [List.take_zero,List.nil_append,List.drop_zero,List.length_take,q.h]; rfl
      have et':(aU8 (some 128) D[i].1.l).setXs (spl (aU8 (some 128) D[i].1.l).xs 0 ((q.l.drop 0).take 64))=aU8 (some 128) (tornF D[i].1 q).l:=et
      conv=>whnf
      refine loadA_step (l:=(tornF D[i].1 q).l) (fx:=some 128) (own:=true) tB_ok rfl rfl rfl rfl (congrArg (fun A=>some (true,SO.arr A)) et') (tornF D[i].1 q).h.symm ?_
      conv=>whnf
      refine⟨i,rfl,h, ?_⟩
      conv=>whnf
      refine storeSec_step tB_ok (aRowN (outN (cN keep D i ++ [D[i].1]) D.length)) ((outN (cN keep D i ++ [D[i].1]) D.length)[i]'hio2) (tornF D[i].1 q) (.v nilV) rfl rfl rfl rfl rfl rfl rfl hio2 rfl (tornF D[i].1 q) rfl ?_
      conv=>whnf
      refine⟨_,wrapId ⟨by omega,by omega⟩, ?_⟩
      refine⟨i+1,h,by show D.length - (i+1) < D.length - i; omega, ?_⟩
      have e3:(aRowN (outN (cN keep D i ++ [D[i].1]) D.length)).setXs ((aRowN (outN (cN keep D i ++ [D[i].1]) D.length)).xs.set (addN 0 i) (tornF D[i].1 q))=aRowN (outN (cN keep D (i+1)) D.length):=by
       show aRowN ((outN (cN keep D i ++ [D[i].1]) D.length).set i (tornF D[i].1 q))=_
       rw [hst,show keptF D[i].1 q x=tornF D[i].1 q from by first | (simp [keptF,hx0,hx1]; done) | exact absurd rfl hx0]
       rw [← outN_set2 (by omega) D[i].1 (tornF D[i].1 q),hcl]
      dsimp only
      rw [hct]
      conv=>whnf
      refine⟨rfl, ?_⟩
      conv=>whnf
      repeat' (first | exact e3 | exact trivial | exact rfl | refine And.intro ?_ ?_ | ((conv=>whnf); first | exact e3 | exact trivial | exact rfl | refine And.intro ?_ ?_ | omega))
     ·have hx1:x % 3=1:=by simp at hc; omega
      conv=>whnf
      refine loadPend_step (s:=D[i].1) (q:=q) tB_ok rfl rfl rfl rfl rfl rfl ⟨(D[i].1,some i),rfl,rfl⟩ rfl (pnd_some h hq) ?_
      conv=>whnf
      refine⟨0,by rw [hx1]; decide, ?_⟩
      conv=>whnf
      refine⟨0,rfl,by decide, ?_⟩
      conv=>whnf
      refine loadS_step (s:=q) tB_ok rfl rfl rfl rfl rfl rfl rfl ?_
      conv=>whnf
      refine⟨i,rfl,h, ?_⟩
      conv=>whnf
      refine storeSec_step tB_ok (aRowN (outN (cN keep D i ++ [D[i].1]) D.length)) ((outN (cN keep D i ++ [D[i].1]) D.length)[i]'hio2) q (.v nilV) rfl rfl rfl rfl rfl rfl rfl hio2 rfl q rfl ?_
      conv=>whnf
      refine⟨_,wrapId ⟨by omega,by omega⟩, ?_⟩
      refine⟨i+1,h,by show D.length - (i+1) < D.length - i; omega, ?_⟩
      have e3:(aRowN (outN (cN keep D i ++ [D[i].1]) D.length)).setXs ((aRowN (outN (cN keep D i ++ [D[i].1]) D.length)).xs.set (addN 0 i) q)=aRowN (outN (cN keep D (i+1)) D.length):=by
       show aRowN ((outN (cN keep D i ++ [D[i].1]) D.length).set i q)=_
       rw [hst,show keptF D[i].1 q x=q from by first | (simp [keptF,hx0,hx1]; done) | exact absurd rfl hx0]
       rw [← outN_set2 (by omega) D[i].1 q,hcl]
      dsimp only
      rw [hct]
      conv=>whnf
      refine⟨rfl, ?_⟩
      conv=>whnf
      repeat' (first | exact e3 | exact trivial | exact rfl | refine And.intro ?_ ?_ | ((conv=>whnf); first | exact e3 | exact trivial | exact rfl | refine And.intro ?_ ?_ | omega))
   ·have hk0:keep=[]:=by
     cases keep with
     | nil=>rfl
     | cons a l=>simp at hc
    have hx:keepAt keep m=0:=by rw [hk0]; rfl
    rw [hx] at hst
    obtain ⟨⟨ht1,ht2⟩,ht3⟩:=tmod3 (0:Int)
    conv=>whnf
    refine⟨_,wrapId ⟨by omega,by omega⟩, ?_⟩
    conv=>whnf
    refine⟨3,by decide, ?_⟩
    conv=>whnf
    refine⟨by decide,((0:Int)).tmod 3,rfl, ?_⟩
    conv=>whnf
    refine⟨_,wrapId ⟨by omega,by omega⟩, ?_⟩
    conv=>whnf
    refine⟨_,wrapId ⟨by omega,by omega⟩, ?_⟩
    conv=>whnf
    refine⟨3,by decide, ?_⟩
    conv=>whnf
    refine⟨by decide,(0:Int) % 3,ht3, ?_⟩
    conv=>whnf
    refine⟨fun hc=>?_,fun hc=>?_⟩
    ·have hx0:(0:Int) % 3=0:=eq_of_beq hc
     conv=>whnf
     refine⟨_,wrapId ⟨by omega,by omega⟩, ?_⟩
     refine⟨i+1,h,by show D.length - (i+1) < D.length - i; omega, ?_⟩
     have e3:aRowN (outN (cN keep D i ++ [D[i].1]) D.length)=aRowN (outN (cN keep D (i+1)) D.length):=by
      show aRowN (outN (cN keep D i ++ [D[i].1]) D.length)=_
      rw [hst,show keptF D[i].1 q (0:Int)=D[i].1 from by first | (simp [keptF,hx0]; done) | exact absurd rfl hx0]
      try rfl
     dsimp only
     rw [hct]
     conv=>whnf
     refine⟨rfl, ?_⟩
     conv=>whnf
     repeat' (first | exact e3 | exact trivial | exact rfl | refine And.intro ?_ ?_ | ((conv=>whnf); first | exact e3 | exact trivial | exact rfl | refine And.intro ?_ ?_ | omega))
    ·have hx0:¬ (0:Int) % 3=0:=ne_of_beq_false hc
     conv=>whnf
     refine⟨2,by decide, ?_⟩
     conv=>whnf
     refine⟨fun hc=>?_,fun hc=>?_⟩
     ·have hx2:(0:Int) % 3=2:=eq_of_beq hc
      have hx1:¬ (0:Int) % 3=1:=by omega
      conv=>whnf
      refine loadSec_step tB_ok D[i].1 (.ghost 2 i) rfl rfl rfl rfl rfl rfl rfl ⟨(D[i].1,some i),rfl,rfl⟩ ?_
      conv=>whnf
      refine allocA_step tB_ok 128 rfl rfl rfl ?_
      conv=>whnf
      refine storeA_step (l':=D[i].1.l) tB_ok rfl rfl rfl rfl rfl (by simp) (by rw [D[i].1.h]; simp) (by decide) ?_
      conv=>whnf
      refine⟨fun hc=>absurd hc (by simp),fun hc=>?_⟩
      conv=>whnf
      refine slA_step (n:=128) (l:=D[i].1.l) tB_ok rfl rfl rfl rfl rfl rfl ⟨64,rfl,by decide,Nat.zero_le _, ?_⟩
      conv=>whnf
      refine loadPend_step (s:=D[i].1) (q:=q) tB_ok rfl rfl rfl rfl rfl rfl ⟨(D[i].1,some i),rfl,rfl⟩ rfl (pnd_some h hq) ?_
      conv=>whnf
      refine⟨0,by decide, ?_⟩
      conv=>whnf
      refine⟨0,rfl,by decide, ?_⟩
      conv=>whnf
      refine slAlias_step (s:=q) tB_ok rfl rfl rfl rfl rfl rfl ⟨64,rfl,by decide,Nat.zero_le _, ?_⟩
      conv=>whnf
      refine copy_step tB_ok (aU8 (some 128) D[i].1.l) q.l (fun _=>rfl) rfl rfl rfl rfl ?_
      conv=>whnf
      refine⟨⟨rfl,rfl,(by show 0+64≤D[i].1.l.length; rw [D[i].1.h]; decide),(by show 0+64≤q.l.length; rw [q.h]; decide)⟩,64,rfl, ?_⟩
      have et:(aU8 (some 128) D[i].1.l).setXs (spl D[i].1.l 0 ((q.l.drop 0).take 64))=aU8 (some 128) (tornF D[i].1 q).l:=by
       show aU8 (some 128) (spl D[i].1.l 0 ((q.l.drop 0).take 64))=_
       congr 1
       unfold spl tornF
       rw [List.take_zero,List.nil_append,List.drop_zero,List.length_take,q.h]; rfl
      have et':(aU8 (some 128) D[i].1.l).setXs (spl (aU8 (some 128) D[i].1.l).xs 0 ((q.l.drop 0).take 64))=aU8 (some 128) (tornF D[i].1 q).l:=et
      conv=>whnf
      refine loadA_step (l:=(tornF D[i].1 q).l) (fx:=some 128) (own:=true) tB_ok rfl rfl rfl rfl (congrArg (fun A=>some (true,SO.arr A)) et') (tornF D[i].1 q).h.symm ?_
      conv=>whnf
      refine⟨i,rfl,h, ?_⟩
      conv=>whnf
      refine storeSec_step tB_ok (aRowN (outN (cN keep D i ++ [D[i].1]) D.length)) ((outN (cN keep D i ++ [D[i].1]) D.length)[i]'hio2) (tornF D[i].1 q) (.v nilV) rfl rfl rfl rfl rfl rfl rfl hio2 rfl (tornF D[i].1 q) rfl ?_
      conv=>whnf
      refine⟨_,wrapId ⟨by omega,by omega⟩, ?_⟩
      refine⟨i+1,h,by show D.length - (i+1) < D.length - i; omega, ?_⟩
      have e3:(aRowN (outN (cN keep D i ++ [D[i].1]) D.length)).setXs ((aRowN (outN (cN keep D i ++ [D[i].1]) D.length)).xs.set (addN 0 i) (tornF D[i].1 q))=aRowN (outN (cN keep D (i+1)) D.length):=by
       show aRowN ((outN (cN keep D i ++ [D[i].1]) D.length).set i (tornF D[i].1 q))=_
       rw [hst,show keptF D[i].1 q (0:Int)=tornF D[i].1 q from by first | (simp [keptF,hx0,hx1]; done) | exact absurd rfl hx0]
       rw [← outN_set2 (by omega) D[i].1 (tornF D[i].1 q),hcl]
      dsimp only
      rw [hct]
      conv=>whnf
      refine⟨rfl, ?_⟩
      conv=>whnf
      repeat' (first | exact e3 | exact trivial | exact rfl | refine And.intro ?_ ?_ | ((conv=>whnf); first | exact e3 | exact trivial | exact rfl | refine And.intro ?_ ?_ | omega))
     ·have hx1:(0:Int) % 3=1:=by simp at hc; omega
      conv=>whnf
      refine loadPend_step (s:=D[i].1) (q:=q) tB_ok rfl rfl rfl rfl rfl rfl ⟨(D[i].1,some i),rfl,rfl⟩ rfl (pnd_some h hq) ?_
      conv=>whnf
      refine⟨0,by rw [hx1]; decide, ?_⟩
      conv=>whnf
      refine⟨0,rfl,by decide, ?_⟩
      conv=>whnf
      refine loadS_step (s:=q) tB_ok rfl rfl rfl rfl rfl rfl rfl ?_
      conv=>whnf
      refine⟨i,rfl,h, ?_⟩
      conv=>whnf
      refine storeSec_step tB_ok (aRowN (outN (cN keep D i ++ [D[i].1]) D.length)) ((outN (cN keep D i ++ [D[i].1]) D.length)[i]'hio2) q (.v nilV) rfl rfl rfl rfl rfl rfl rfl hio2 rfl q rfl ?_
      conv=>whnf
      refine⟨_,wrapId ⟨by omega,by omega⟩, ?_⟩
      refine⟨i+1,h,by show D.length - (i+1) < D.length - i; omega, ?_⟩
      have e3:(aRowN (outN (cN keep D i ++ [D[i].1]) D.length)).setXs ((aRowN (outN (cN keep D i ++ [D[i].1]) D.length)).xs.set (addN 0 i) q)=aRowN (outN (cN keep D (i+1)) D.length):=by
       show aRowN ((outN (cN keep D i ++ [D[i].1]) D.length).set i q)=_
       rw [hst,show keptF D[i].1 q (0:Int)=q from by first | (simp [keptF,hx0,hx1]; done) | exact absurd rfl hx0]
       rw [← outN_set2 (by omega) D[i].1 q,hcl]
      dsimp only
      rw [hct]
      conv=>whnf
      refine⟨rfl, ?_⟩
      conv=>whnf
      repeat' (first | exact e3 | exact trivial | exact rfl | refine And.intro ?_ ?_ | ((conv=>whnf); first | exact e3 | exact trivial | exact rfl | refine And.intro ?_ ?_ | omega))
 ·have hie:i=D.length:=by simp at hc; omega
  subst hie
  rw [show outN (cN keep D D.length) D.length=crashF keep 0 D from by
   have hx:=crashF_length keep D 0
   simp [outN,cN,List.take_length,hx]]
  conv=>whnf
  repeat' (first | exact (aRow_ren rfl) | exact trivial | exact rfl | refine And.intro ?_ ?_ | ((conv=>whnf); first | exact (aRow_ren rfl) | exact trivial | exact rfl | refine And.intro ?_ ?_ | omega))

def crashD (keep:List Int) (D:Dk):Dk:=(crashF keep 0 D).map fun s=>(s,none)

theorem crashD_length (keep:List Int) (D:Dk):(crashD keep D).length=D.length:=by simp [crashD,crashF_length]

theorem plain_rows (l:List Sct):rowsF (l.map fun s=>(s,none))=l.map fun x=>(x,none):=by
 apply List.ext_getElem?
 intro j
 rw [rowsF_get,List.getElem?_map,List.getElem?_map]
 cases l[j]? <;> rfl

theorem plain_pnd (l:List Sct):pndF (l.map fun s=>(s,none))=l.map fun _=>none:=by
 simp [pndF]

theorem crash_t (D:Dk) (keep:List Int) (hl:D.length≤65536) (hk:keep.length≤1000000) (hkb:∀ x ∈ keep,-9223372036854775808≤x∧x≤9223372036854775807):Triple Tryz.prog 38 [.c (.p 0 0 0 0), .c (.s 3 0 keep.length 1)]
  [(0,false,dskC 1 D.length),(1,false,dkR 2 D),(2,false,dkB D),(3,false, .arr (aInt keep))] 4 (.c (.p 5 0 0 0)) [(4,true,dkR 6 (crashD keep D)),(6,true,dkB (crashD keep D)),(5,true,dskC 4 (crashD keep D).length)]:=by
 have:=Triple.addBox (kb:=6) (crash0_t D keep hl hk hkb) (by decide) (by decide) (fun j own o hj=>by
  rw [look_cons] at hj
  by_cases h:j=5
  ·rw [if_pos h] at hj; simp at hj; obtain ⟨_,rfl⟩:=hj; subst h; exact⟨by decide,rfl⟩
  ·rw [if_neg h] at hj; cases hj) rfl
 rw [← plain_rows,← plain_pnd] at this
 rw [crashD_length]; exact this

end Go.Proofs

namespace Go
namespace Sx
section
variable {cx:Cx} {B:Tabs} {o:Oper} {e:Env} {H:Heap} {nx:Nat} {K:Eff → Prop}

theorem copyB_core (hB:TabsOK cx.P B) {c:Call} {x y:Operand} {t t' el s0 b0:TypeId} {z0:List Value} {ti:TI} {k st len n m:Nat} {fx:Option Nat} {l ys:List UInt8} {rd:List Nat} (ho:o.op=.call c) (hc:c.callee=.builtin .copy) (hca:c.args=#[x,y]) (hct:c.argTypes=#[t,t'])
    (ht:lookT B.T t=some ⟨.slice el,s0,b0,z0⟩) (hti:lookT B.T el=some ti) (h1:ti.size=1) (hx:ev e x=.c (.s k st len 1)) (hl:look H k=some (true, .arr (aU8 fx l))) (hle:st+len≤l.length) (hn:min len m=n) (hys:ys.length=n) (hkr:k ∈ rd)
    (hsrc:∀ (ρ:Asg) (a:Act) (w:World),(∀ z,z ∈ o.op.operands.toList → (ev e z).rel ρ (a.eval z)) → (∀ j ∈ rd,∀ own p,look H j=some (own,p) → SatO ρ w j own p) →
      (Builtin.lenOf (a.eval y)).run cx.P w=.ok m w∧(Builtin.firstCells 1 n (a.eval y)).run cx.P w=.ok (bytesV ys).toArray w)
    (hK:K ⟨iv .i64 n,rd,[(k,true, .arr (aU8 fx (spl l st ys)))],[]⟩):∃ f,CallOK cx o e H nx f∧K f:=by
  have hmx:x ∈ o.op.operands.toList:=by simp [ho,Op.operands,Call.operands,hc,hca]
  refine⟨_,⟨?_,fun j hj=>by cases hj⟩,hK⟩
  intro ρ s a w hs hr hk _ hdst KK Q hKK
  have hl1:look s.H k=some (true, .arr (aU8 fx l)):=by rw [hk k hkr]; exact hl
  have hfit:∀ z,z ∈ o.op.operands.toList → (ev e z).rel ρ (a.eval z):=fun z hz=>reads_fit hz (fun t ht=>by rw [← hr t ht]; exact hs.env t)
  obtain ⟨hlen,hfc⟩:=hsrc ρ a w hfit (fun j hj own p hp=>hs.heap.reg j own p (by rw [hk j hj]; exact hp))
  have hx1:=hfit x hmx
  rw [hx] at hx1
  obtain ⟨ad,hxv,hcap,had⟩:=hx1
  have hwf:l.length≤(ρ k).cap:=(hs.heap.reg k true _ hl1).wf
  obtain ⟨hst,hsat⟩:=write_arr (A:=aU8 fx l) (ys:=ys) (vs:=bytesV ys) (st:=st) hs hl1 (by show st+ys.length≤l.length; omega) (by rw [bytesV_length]; exact (Nat.mul_one _).symm)
    (fun i j xx cc hxx hcc=>by
      have hcc:[SC.v (.int .u8 xx.toNat)][j]? = some cc:=hcc
      cases j with
      | succ j=>simp at hcc
      | zero =>
        simp at hcc; subst hcc
        obtain ⟨hi,rfl⟩:=List.getElem?_eq_some_iff.1 hxx
        exact⟨_,by show (bytesV ys)[i * 1+0]? = _; rw [Nat.mul_one,Nat.add_zero]; exact bytesV_get hi,rfl⟩) bytesV_one
  have hst:∀ P,(storeCells (adr ρ k (st * 1)) (bytesV ys) 0).run P w=.ok () (setCells w (ρ k).blk (st * 1) (bytesV ys)):=hst
  have hrun:(execOp a.eval o).run cx.P w=.ok (.value (.int .i64 n)) (setCells w (ρ k).blk (st * 1) (bytesV ys)):=by
    have hrun0:=run_builtin (P:=cx.P) ho hc a w
    rw [hca,hct] at hrun0
    rw [hrun0]
    have hmin:Nat.min m len=n:=by rw [← hn]; exact Nat.min_comm _ _
    have hsize:=run_sizeOf hB hti w
    rw [h1] at hsize
    simp only [List.map_toArray,List.map_cons,List.map_nil,builtin,Builtin.copy_,hxv]
    rcases Nat.eq_zero_or_pos n with h0 | hpos
    · subst h0
      have hy0:ys=[]:=List.length_eq_zero_iff.1 hys
      subst hy0
      have hbn:bytesV []=[]:=rfl
      rw [hbn] at hfc ⊢
      simp only [setCells]
      cases ad with
      | none=>simp [run_underlying (und_slice hB ht),hlen,hmin,hsize,hfc,goInt]
      | some b=>simp [run_underlying (und_slice hB ht),hlen,hmin,hsize,hfc,goInt,storeCells]
    · rw [had (by omega)]
      have hst':=hst cx.P
      simp only [Nat.mul_one] at hst' ⊢
      simp [run_underlying (und_slice hB ht),hlen,hmin,hsize,hfc,goInt,hst']
  refine wpIn_of_value (by simp [ho]) hrun (hKK ρ _ _ ?_ (fun _ _=>rfl))
  exact hsat.putO hdst rfl (below_iv _ _ _)

theorem copyS_step (hB:TabsOK cx.P B) {c:Call} {x y:Operand} {t t' el s0 b0:TypeId} {z0:List Value} {ti:TI} {k st len n:Nat} {fx:Option Nat} {l l':List UInt8} (ho:o.op=.call c) (hc:c.callee=.builtin .copy) (hca:c.args=#[x,y]) (hct:c.argTypes=#[t,t'])
    (ht:lookT B.T t=some ⟨.slice el,s0,b0,z0⟩) (hti:lookT B.T el=some ti) (h1:ti.size=1) (hx:ev e x=.c (.s k st len 1)) (hl:look H k=some (true, .arr (aU8 fx l))) (hle:st+len≤l.length) (hy:ev e y=strV l') (hn:min len l'.length=n)
    (hK:K ⟨iv .i64 n,[k],[(k,true, .arr (aU8 fx (spl l st (l'.take n))))],[]⟩):∃ f,CallOK cx o e H nx f∧K f:=by
  have hmy:y ∈ o.op.operands.toList:=by simp [ho,Op.operands,Call.operands,hc,hca]
  refine copyB_core hB (rd:=[k]) (m:=l'.length) ho hc hca hct ht hti h1 hx hl hle hn (by rw [List.length_take]; omega) (by simp) ?_ hK
  intro ρ a w hfit hreg
  have hv:=hfit y hmy
  rw [hy] at hv
  have hv:a.eval y=.string (S l'):=hv
  rw [hv]
  refine⟨by simp [Builtin.lenOf,S_size], ?_⟩
  simp only [Builtin.firstCells,Sem.run_pure]
  congr 1
  apply Array.toList_inj.1
  rw [S_extract,List.drop_zero]
  simp [S,bytesV]

theorem copyB_step (hB:TabsOK cx.P B) {c:Call} {x y:Operand} {t t' el s0 b0:TypeId} {z0:List Value} {ti:TI} {k k' st len st' len' n:Nat} {own:Bool} {fx fx':Option Nat} {l l':List UInt8} (ho:o.op=.call c) (hc:c.callee=.builtin .copy) (hca:c.args=#[x,y]) (hct:c.argTypes=#[t,t'])
    (ht:lookT B.T t=some ⟨.slice el,s0,b0,z0⟩) (hti:lookT B.T el=some ti) (h1:ti.size=1) (hx:ev e x=.c (.s k st len 1)) (hl:look H k=some (true, .arr (aU8 fx l))) (hle:st+len≤l.length)
    (hy:ev e y=.c (.s k' st' len' 1)) (hl':look H k'=some (own, .arr (aU8 fx' l'))) (hle':st'+len'≤l'.length) (hn:min len len'=n)
    (hK:K ⟨iv .i64 n,[k,k'],[(k,true, .arr (aU8 fx (spl l st ((l'.drop st').take n))))],[]⟩):∃ f,CallOK cx o e H nx f∧K f:=by
  have hmy:y ∈ o.op.operands.toList:=by simp [ho,Op.operands,Call.operands,hc,hca]
  refine copyB_core hB (rd:=[k,k']) (m:=len') ho hc hca hct ht hti h1 hx hl hle hn (by rw [List.length_take,List.length_drop]; omega) (by simp) ?_ hK
  intro ρ a w hfit hreg
  have hv:=hfit y hmy
  rw [hy] at hv
  obtain ⟨ad,hv,hcap,had⟩:=hv
  have hso:=hreg k' (by simp) own _ hl'
  have hwf:l'.length≤(ρ k').cap:=hso.wf
  rw [hv]
  refine⟨by simp [Builtin.lenOf], ?_⟩
  have hlen:(bytesV ((l'.drop st').take n)).length=n:=by rw [bytesV_length,List.length_take,List.length_drop]; omega
  rcases Nat.eq_zero_or_pos n with h0 | hpos
  · subst h0
    have e0:(l'.drop st').take 0=[]:=rfl
    rw [e0]
    cases ad with
    | none=>rfl
    | some b =>
      have:=run_loadCells (P:=cx.P) (w:=w) (a:=b) (vs:=[]) (by simp)
      simpa [Builtin.firstCells,bytesV] using this
  · rw [had (by omega)]
    simp only [Builtin.firstCells,Nat.mul_one]
    have:=run_loadCells (P:=cx.P) (w:=w) (a:=adr ρ k' (st' * 1)) (vs:=bytesV ((l'.drop st').take n)) (fun j v hj=>by
      have hjn:j < n:=by have:=(List.getElem?_eq_some_iff.1 hj).1; omega
      have hjl:j < ((l'.drop st').take n).length:=by rw [bytesV_length] at hlen; omega
      rw [bytesV_get hjl] at hj
      obtain ⟨u,hu,hrel⟩:=hso.at_ (st'+j) 0 _ (aU8_cell.2 ⟨by omega,rfl,rfl⟩)
      have hu:w.cell? (adr ρ k' ((st'+j) * 1+0))=some u:=hu
      rw [adr_add,show st' * 1+j=(st'+j) * 1+0 from by omega,hu,← hj]
      have hrel:u=.int .u8 (l'[st'+j]'(by omega)).toNat:=hrel
      rw [hrel,List.getElem_take,List.getElem_drop])
    rw [hlen,Nat.mul_one] at this
    exact this

end
end Sx
end Go

namespace Go.Proofs
open Go.Sx

def digestF (tag:Int) (l:List UInt8) (mark:Nat):List UInt8:=sumF tag [l.take mark ++ (l.take 120).drop (mark+8)]

theorem digestF_length (tag:Int) (l:List UInt8) (mark:Nat):(digestF tag l mark).length=16:=sumF_length _ _

theorem short1 {a:List UInt8} (h:a.length≤1000000):Short [a]:=⟨by simp,fun p hp=>by simp at hp; subst hp; exact h⟩

theorem digest_t (tag:Int) (ht:-9223372036854775808≤tag∧tag≤9223372036854775807) (l:List UInt8) (hl:l.length=128) (mark:Nat) (hm:mark≤112) :
  Triple Tryz.prog 119 [iv .i64 tag, .c (.p 0 0 1 0),iv .i64 mark] [(0,false, .arr (aU8 (some 128) l))] 1 (arrS (digestF tag l mark)) []:=by
 refine triple_of tB_ok Tryz.func119 rfl Tryz.call119 rfl ?_
 intro ρ w hH
 conv=>whnf
 refine allocA_step tB_ok 16 rfl rfl rfl ?_
 conv=>whnf
 refine slA_step (n:=128) (l:=l) tB_ok rfl rfl rfl rfl rfl rfl ⟨mark,rfl,by omega,Nat.zero_le _, ?_⟩
 conv=>whnf
 refine b2s_step (fx:=some 128) (l:=l) tB_ok rfl rfl rfl rfl rfl rfl (by rw [subN_eq]; omega) ?_
 rw [show (l.drop 0).take (subN mark 0)=l.take mark from by rw [subN_eq]; rfl]
 conv=>whnf
 refine⟨((mark+8:Nat):Int),by rw [wrapId ⟨by omega,by omega⟩]; rfl, ?_⟩
 conv=>whnf
 refine slA_step (n:=128) (l:=l) tB_ok rfl rfl rfl rfl rfl rfl ⟨120,rfl,by decide,mark+8,rfl,by omega, ?_⟩
 conv=>whnf
 refine b2s_step (fx:=some 128) (l:=l) tB_ok rfl rfl rfl rfl rfl rfl (by rw [subN_eq]; omega) ?_
 rw [show (l.drop (mark+8)).take (subN 120 (mark+8))=(l.take 120).drop (mark+8) from by rw [subN_eq,List.drop_take]]
 conv=>whnf
 refine cat_step (l:=l.take mark) (l':=(l.take 120).drop (mark+8)) rfl rfl rfl (by rw [List.length_take,List.length_drop,List.length_take]; omega) ?_
 conv=>whnf
 refine bs_step tB_ok (aStr [l.take mark ++ (l.take 120).drop (mark+8)]) rfl rfl ?_
 conv=>whnf
 refine⟨⟨rfl,(by repeat'(first|exact trivial|exact rfl|refine And.intro ?_ ?_|((conv=>whnf);first|exact trivial|exact rfl|refine And.intro ?_ ?_|omega)))⟩, ?_⟩
 conv=>whnf
 refine call_step (sum_t tag ht [l.take mark ++ (l.take 120).drop (mark+8)] (short1 (by rw [List.length_append,List.length_take,List.length_drop,List.length_take]; omega))) rfl rfl ?_
 conv=>whnf
 refine⟨?_, ?_, ?_⟩
 iterate 2 · repeat'(first|exact trivial|exact rfl|refine And.intro ?_ ?_|((conv=>whnf);first|exact trivial|exact rfl|refine And.intro ?_ ?_|omega))
 have hd:=digestF_length tag l mark
 rw [show sumF tag [l.take mark ++ (l.take 120).drop (mark+8)]=digestF tag l mark from rfl]
 conv=>whnf
 refine storeA_step (l':=digestF tag l mark) tB_ok rfl rfl rfl rfl rfl (by simp) (by rw [hd]; simp) (by decide) ?_
 conv=>whnf
 refine⟨bytesV (digestF tag l mark),⟨(res_bytes hd).1,(by rw [bytesV_length,hd]),rfl⟩, ?_⟩
 conv=>whnf
 repeat'(first|exact trivial|exact rfl|refine And.intro ?_ ?_|((conv=>whnf);first|exact trivial|exact rfl|refine And.intro ?_ ?_|omega))

def sealF (tag:Int) (l:List UInt8) (mark:Nat):List UInt8:=spl (spl l mark ((digestF tag l mark).take 8)) 120 ((digestF tag l mark).drop 8)

theorem spl_len {l ys:List UInt8} {o n:Nat} (hl:l.length=n) (h:o+ys.length≤n):(spl l o ys).length=n:=by rw [spl_length (by omega),hl]

theorem sealF_length (tag:Int) (l:List UInt8) (hl:l.length=128) (mark:Nat) (hm:mark≤112):(sealF tag l mark).length=128:=by
 have hd:=digestF_length tag l mark
 unfold sealF
 exact spl_len (spl_len hl (by rw [List.length_take]; omega)) (by rw [List.length_drop]; omega)

theorem seal_t (tag:Int) (ht:-9223372036854775808≤tag∧tag≤9223372036854775807) (l:List UInt8) (hl:l.length=128) (mark:Nat) (hm:mark≤112) :
  Triple Tryz.prog 139 [iv .i64 tag, .c (.p 0 0 1 0),iv .i64 mark] [(0,true, .arr (aU8 (some 128) l))] 1 (.tup []) [(0,true, .arr (aU8 (some 128) (sealF tag l mark)))]:=by
 have hd:=digestF_length tag l mark
 rw [show sealF tag l mark=spl (spl l mark ((digestF tag l mark).take 8)) 120 ((digestF tag l mark).drop 8) from rfl]
 refine triple_of tB_ok Tryz.func139 rfl Tryz.call139 rfl ?_
 intro ρ w hH
 conv=>whnf
 refine call_step (digest_t tag ht l hl mark hm) rfl rfl ?_
 conv=>whnf
 refine⟨?_, ?_, ?_⟩
 iterate 2 · repeat'(first|exact trivial|exact rfl|refine And.intro ?_ ?_|((conv=>whnf);first|exact trivial|exact rfl|refine And.intro ?_ ?_|omega))
 generalize digestF tag l mark=d at hd ⊢
 conv=>whnf
 refine allocA_step tB_ok 16 rfl rfl rfl ?_
 conv=>whnf
 refine storeA_step (l':=d) tB_ok rfl rfl rfl rfl rfl (by simp) (by rw [hd]; simp) (by decide) ?_
 conv=>whnf
 refine slA_step (n:=128) (l:=l) tB_ok rfl rfl rfl rfl rfl rfl ⟨Nat.le_refl _,mark,rfl,by omega, ?_⟩
 conv=>whnf
 refine slA_step (n:=16) (l:=d) tB_ok rfl rfl rfl rfl rfl rfl ⟨8,rfl,by decide,Nat.zero_le _, ?_⟩
 conv=>whnf
 refine copyB_step (n:=8) (l:=l) (l':=d) tB_ok rfl rfl rfl rfl rfl rfl rfl rfl rfl (by rw [subN_eq]; omega) rfl rfl (by rw [subN_eq]; omega) (by rw [subN_eq,subN_eq]; omega) ?_
 rw [List.drop_zero]
 have h1:(spl l mark (d.take 8)).length=128:=spl_len hl (by rw [List.length_take]; omega)
 generalize spl l mark (d.take 8)=l1 at h1 ⊢
 conv=>whnf
 refine slA_step (n:=128) (l:=l1) tB_ok rfl rfl rfl rfl rfl rfl ⟨Nat.le_refl _,120,rfl,by decide, ?_⟩
 conv=>whnf
 refine slA_step (n:=16) (l:=d) tB_ok rfl rfl rfl rfl rfl rfl ⟨Nat.le_refl _,8,rfl,by decide, ?_⟩
 conv=>whnf
 refine copyB_step (n:=8) (l:=l1) (l':=d) tB_ok rfl rfl rfl rfl rfl rfl rfl rfl rfl (by show 120+8≤_; omega) rfl rfl (by show 8+8≤_; omega) rfl ?_
 rw [List.take_of_length_le (show (d.drop 8).length≤8 by rw [List.length_drop]; omega)]
 conv=>whnf
 repeat'(first|exact trivial|exact rfl|refine And.intro ?_ ?_|((conv=>whnf);first|exact trivial|exact rfl|refine And.intro ?_ ?_|omega))

def sealedF (tag:Int) (l:List UInt8) (mark:Nat):Bool:=decide ((l.take (mark+8)).drop mark=(digestF tag l mark).take 8) && decide (l.drop 120=(digestF tag l mark).drop 8)

theorem sealed_t (tag:Int) (ht:-9223372036854775808≤tag∧tag≤9223372036854775807) (l:List UInt8) (hl:l.length=128) (mark:Nat) (hm:mark≤112) :
  Triple Tryz.prog 72 [iv .i64 tag, .c (.p 0 0 1 0),iv .i64 mark] [(0,false, .arr (aU8 (some 128) l))] 1 (bv (sealedF tag l mark)) []:=by
 have hd:=digestF_length tag l mark
 rw [show sealedF tag l mark=(decide ((l.take (mark+8)).drop mark=(digestF tag l mark).take 8) && decide (l.drop 120=(digestF tag l mark).drop 8)) from rfl]
 refine triple_of tB_ok Tryz.func72 rfl Tryz.call72 rfl ?_
 intro ρ w hH
 conv=>whnf
 refine call_step (digest_t tag ht l hl mark hm) rfl rfl ?_
 conv=>whnf
 refine⟨?_, ?_, ?_⟩
 iterate 2 · repeat'(first|exact trivial|exact rfl|refine And.intro ?_ ?_|((conv=>whnf);first|exact trivial|exact rfl|refine And.intro ?_ ?_|omega))
 generalize digestF tag l mark=d at hd ⊢
 conv=>whnf
 refine allocA_step tB_ok 16 rfl rfl rfl ?_
 conv=>whnf
 refine storeA_step (l':=d) tB_ok rfl rfl rfl rfl rfl (by simp) (by rw [hd]; simp) (by decide) ?_
 conv=>whnf
 refine⟨((mark+8:Nat):Int),by rw [wrapId ⟨by omega,by omega⟩]; rfl, ?_⟩
 conv=>whnf
 refine slA_step (n:=128) (l:=l) tB_ok rfl rfl rfl rfl rfl rfl ⟨mark+8,rfl,by omega,mark,rfl,by omega, ?_⟩
 conv=>whnf
 refine b2s_step (fx:=some 128) (l:=l) tB_ok rfl rfl rfl rfl rfl rfl (by rw [subN_eq]; omega) ?_
 rw [show (l.drop mark).take (subN (mark+8) mark)=(l.take (mark+8)).drop mark from by rw [subN_eq,List.drop_take]]
 conv=>whnf
 refine slA_step (n:=16) (l:=d) tB_ok rfl rfl rfl rfl rfl rfl ⟨8,rfl,by decide,Nat.zero_le _, ?_⟩
 conv=>whnf
 refine b2s_step (fx:=some 16) (l:=d) tB_ok rfl rfl rfl rfl rfl rfl (by show 0+8≤_; omega) ?_
 rw [show (d.drop 0).take (subN 8 0)=d.take 8 from rfl]
 conv=>whnf
 refine seq_step (l:=(l.take (mark+8)).drop mark) (l':=d.take 8) rfl rfl rfl ?_
 conv=>whnf
 refine⟨fun hc=>?_,fun hc=>?_⟩
 ·rw [hc]
  conv=>whnf
  refine slA_step (n:=128) (l:=l) tB_ok rfl rfl rfl rfl rfl rfl ⟨Nat.le_refl _,120,rfl,by decide, ?_⟩
  conv=>whnf
  refine b2s_step (fx:=some 128) (l:=l) tB_ok rfl rfl rfl rfl rfl rfl (by show 120+8≤_; omega) ?_
  rw [show (l.drop 120).take (subN 128 120)=l.drop 120 from List.take_of_length_le (by show (l.drop 120).length≤8; rw [List.length_drop]; omega)]
  conv=>whnf
  refine slA_step (n:=16) (l:=d) tB_ok rfl rfl rfl rfl rfl rfl ⟨Nat.le_refl _,8,rfl,by decide, ?_⟩
  conv=>whnf
  refine b2s_step (fx:=some 16) (l:=d) tB_ok rfl rfl rfl rfl rfl rfl (by show 8+8≤_; omega) ?_
  rw [show (d.drop 8).take (subN 16 8)=d.drop 8 from List.take_of_length_le (by show (d.drop 8).length≤8; rw [List.length_drop]; omega)]
  conv=>whnf
  refine seq_step (l:=l.drop 120) (l':=d.drop 8) rfl rfl rfl ?_
  rw [Bool.true_and]
  conv=>whnf
  repeat'(first|exact trivial|exact rfl|refine And.intro ?_ ?_|((conv=>whnf);first|exact trivial|exact rfl|refine And.intro ?_ ?_|omega))
 ·rw [hc,Bool.false_and]
  conv=>whnf
  repeat'(first|exact trivial|exact rfl|refine And.intro ?_ ?_|((conv=>whnf);first|exact trivial|exact rfl|refine And.intro ?_ ?_|omega))

end Go.Proofs

namespace Go.Proofs
open Go.Sx

theorem set_spl (L:List UInt8) (st n:Nat) (x:UInt64):L.take st ++ setF n x ++ L.drop (st+n)=spl L st (setF n x):=by
 unfold spl; rw [setF_length,List.append_assoc]

theorem setS_t (L:List UInt8) (hL:L.length=128) (st n:Nat) (x:UInt64) (h:st+n≤128) :
  Triple Tryz.prog 94 [.c (.s 0 st n 1),uv x] [(0,true, .arr (aU8 (some 128) L))] 1 (.tup []) [(0,true, .arr (aU8 (some 128) (spl L st (setF n x))))]:=by
 rw [← set_spl]; exact set_t (some 128) L st n x (by omega) (by omega)

def zero128:List UInt8:=List.replicate 128 0

def magicL:List UInt8:=[68,82,89,83,84,79,82,69]

structure Bs where
 gen:UInt64
 first:UInt64
 dropped:UInt64
 session:UInt64
 link:List UInt8

abbrev bsC (b:Bs):List SC:=[.v (.int .u64 (b.gen.toNat:Int)), .v (.int .u64 (b.first.toNat:Int)), .v (.int .u64 (b.dropped.toNat:Int)), .v (.int .u64 (b.session.toNat:Int)),strC b.link]

def base6 (b:Bs):List UInt8:=spl (spl (spl (spl (spl (spl zero128 0 magicL) 8 (setF 8 b.gen)) 16 (setF 4 b.session)) 20 (setF 8 b.first)) 28 (setF 8 b.dropped)) 36 b.link

def baseSecF (b:Bs):List UInt8:=sealF 1 (base6 b) 44

theorem base6_length (b:Bs) (hk:b.link.length=8):(base6 b).length=128:=by
 unfold base6
 refine spl_len (spl_len (spl_len (spl_len (spl_len (spl_len rfl (by decide)) ?_) ?_) ?_) ?_) ?_ <;> simp [setF_length,hk]

theorem baseSecF_length (b:Bs) (hk:b.link.length=8):(baseSecF b).length=128:=sealF_length _ _ (base6_length b hk) _ (by decide)

theorem baseSec_t (b:Bs) (hk:b.link.length=8):Triple Tryz.prog 117 [.agg (bsC b)] [] 0 (arrS (baseSecF b)) []:=by
 obtain ⟨L0,h0⟩:∃ L,L=zero128:=⟨_,rfl⟩
 obtain ⟨L1,h1⟩:∃ L,L=spl L0 0 magicL:=⟨_,rfl⟩
 obtain ⟨L2,h2⟩:∃ L,L=spl L1 8 (setF 8 b.gen):=⟨_,rfl⟩
 obtain ⟨L3,h3⟩:∃ L,L=spl L2 16 (setF 4 b.session):=⟨_,rfl⟩
 obtain ⟨L4,h4⟩:∃ L,L=spl L3 20 (setF 8 b.first):=⟨_,rfl⟩
 obtain ⟨L5,h5⟩:∃ L,L=spl L4 28 (setF 8 b.dropped):=⟨_,rfl⟩
 obtain ⟨L6,h6⟩:∃ L,L=spl L5 36 b.link:=⟨_,rfl⟩
 have l0:L0.length=128:=by rw [h0]; rfl
 have l1:L1.length=128:=by rw [h1]; exact spl_len l0 (by decide)
 have l2:L2.length=128:=by rw [h2]; exact spl_len l1 (by rw [setF_length]; decide)
 have l3:L3.length=128:=by rw [h3]; exact spl_len l2 (by rw [setF_length]; decide)
 have l4:L4.length=128:=by rw [h4]; exact spl_len l3 (by rw [setF_length]; decide)
 have l5:L5.length=128:=by rw [h5]; exact spl_len l4 (by rw [setF_length]; decide)
 have l6:L6.length=128:=by rw [h6]; exact spl_len l5 (by omega)
 have hb:baseSecF b=sealF 1 L6 44:=by rw [h6,h5,h4,h3,h2,h1,h0]; rfl
 have l7:(sealF 1 L6 44).length=128:=sealF_length _ _ l6 _ (by decide)
 rw [hb]
 refine triple_of tB_ok Tryz.func117 rfl Tryz.call117 rfl ?_
 intro ρ w hH
 conv=>whnf
 refine allocA_step tB_ok 128 rfl rfl rfl ?_
 conv=>whnf
 refine allocA_step tB_ok 128 rfl rfl rfl ?_
 rw [show (List.replicate 128 (0:UInt8))=L0 from h0.symm]
 conv=>whnf
 refine slA_step (n:=128) (l:=L0) tB_ok rfl rfl rfl rfl rfl rfl ⟨Nat.le_refl _,Nat.zero_le _, ?_⟩
 conv=>whnf
 refine copyS_step (n:=8) (l:=L0) (l':=magicL) tB_ok rfl rfl rfl rfl rfl rfl rfl rfl rfl (by rw [l0]; decide) rfl rfl ?_
 rw [show magicL.take 8=magicL from rfl,← h1]
 conv=>whnf
 refine slA_step (n:=128) (l:=L1) tB_ok rfl rfl rfl rfl rfl rfl ⟨16,rfl,by decide,8,rfl,by decide, ?_⟩
 conv=>whnf
 refine call_step (setS_t L1 l1 8 8 b.gen (by decide)) rfl rfl ?_
 rw [← h2]
 conv=>whnf
 refine⟨?_, ?_, ?_⟩
 iterate 2 · repeat'(first|exact trivial|exact rfl|refine And.intro ?_ ?_|((conv=>whnf);first|exact trivial|exact rfl|refine And.intro ?_ ?_|omega))
 conv=>whnf
 refine slA_step (n:=128) (l:=L2) tB_ok rfl rfl rfl rfl rfl rfl ⟨20,rfl,by decide,16,rfl,by decide, ?_⟩
 conv=>whnf
 refine call_step (setS_t L2 l2 16 4 b.session (by decide)) rfl rfl ?_
 rw [← h3]
 conv=>whnf
 refine⟨?_, ?_, ?_⟩
 iterate 2 · repeat'(first|exact trivial|exact rfl|refine And.intro ?_ ?_|((conv=>whnf);first|exact trivial|exact rfl|refine And.intro ?_ ?_|omega))
 conv=>whnf
 refine slA_step (n:=128) (l:=L3) tB_ok rfl rfl rfl rfl rfl rfl ⟨28,rfl,by decide,20,rfl,by decide, ?_⟩
 conv=>whnf
 refine call_step (setS_t L3 l3 20 8 b.first (by decide)) rfl rfl ?_
 rw [← h4]
 conv=>whnf
 refine⟨?_, ?_, ?_⟩
 iterate 2 · repeat'(first|exact trivial|exact rfl|refine And.intro ?_ ?_|((conv=>whnf);first|exact trivial|exact rfl|refine And.intro ?_ ?_|omega))
 conv=>whnf
 refine slA_step (n:=128) (l:=L4) tB_ok rfl rfl rfl rfl rfl rfl ⟨36,rfl,by decide,28,rfl,by decide, ?_⟩
 conv=>whnf
 refine call_step (setS_t L4 l4 28 8 b.dropped (by decide)) rfl rfl ?_
 rw [← h5]
 conv=>whnf
 refine⟨?_, ?_, ?_⟩
 iterate 2 · repeat'(first|exact trivial|exact rfl|refine And.intro ?_ ?_|((conv=>whnf);first|exact trivial|exact rfl|refine And.intro ?_ ?_|omega))
 conv=>whnf
 refine slA_step (n:=128) (l:=L5) tB_ok rfl rfl rfl rfl rfl rfl ⟨44,rfl,by decide,36,rfl,by decide, ?_⟩
 conv=>whnf
 refine copyS_step (n:=8) (l:=L5) (l':=b.link) tB_ok rfl rfl rfl rfl rfl rfl rfl rfl rfl (by rw [l5]; decide) rfl (by rw [hk]; rfl) ?_
 rw [show b.link.take 8=b.link from List.take_of_length_le (by omega),← h6]
 conv=>whnf
 refine call_step (seal_t 1 (by decide) L6 l6 44 (by decide)) rfl rfl ?_
 conv=>whnf
 refine⟨?_, ?_, ?_⟩
 iterate 2 · repeat'(first|exact trivial|exact rfl|refine And.intro ?_ ?_|((conv=>whnf);first|exact trivial|exact rfl|refine And.intro ?_ ?_|omega))
 conv=>whnf
 refine loadA_step (l:=sealF 1 L6 44) tB_ok rfl rfl rfl rfl rfl l7.symm ?_
 conv=>whnf
 refine storeA_step (l':=sealF 1 L6 44) tB_ok rfl rfl rfl rfl rfl l0.symm (by rw [l7,l0]) (by decide) ?_
 conv=>whnf
 refine⟨bytesV (sealF 1 L6 44),⟨(res_bytes l7).1,(by rw [bytesV_length,l7]),rfl⟩, ?_⟩
 conv=>whnf
 repeat'(first|exact trivial|exact rfl|refine And.intro ?_ ?_|((conv=>whnf);first|exact trivial|exact rfl|refine And.intro ?_ ?_|omega))

def frame6 (number session:UInt64) (flags:UInt8) (link text:List UInt8):List UInt8 :=
 spl (spl (((spl (spl zero128 0 (setF 8 number)) 8 (setF 4 session)).set 12 flags).set 13 (UInt8.ofNat text.length)) 14 link) 30 text

def frameF (number session:UInt64) (flags:UInt8) (link text:List UInt8):List UInt8:=sealF 2 (frame6 number session flags link text) 22

theorem frame6_length (number session:UInt64) (flags:UInt8) (link text:List UInt8) (hk:link.length=8) (ht:text.length≤90):(frame6 number session flags link text).length=128:=by
 unfold frame6
 refine spl_len (spl_len ?_ (by omega)) (by omega)
 rw [List.length_set,List.length_set]
 exact spl_len (spl_len rfl (by rw [setF_length]; decide)) (by rw [setF_length]; decide)

theorem frameF_length (number session:UInt64) (flags:UInt8) (link text:List UInt8) (hk:link.length=8) (ht:text.length≤90):(frameF number session flags link text).length=128 :=
 sealF_length _ _ (frame6_length number session flags link text hk ht) _ (by decide)

theorem frame_t (number session:UInt64) (flags:UInt8) (link text:List UInt8) (hk:link.length=8) (ht:text.length≤90) :
  Triple Tryz.prog 80 [uv number,uv session,bt flags,strV link,strV text] [] 0 (arrS (frameF number session flags link text)) []:=by
 obtain ⟨L0,h0⟩:∃ L,L=zero128:=⟨_,rfl⟩
 obtain ⟨L1,h1⟩:∃ L,L=spl L0 0 (setF 8 number):=⟨_,rfl⟩
 obtain ⟨L2,h2⟩:∃ L,L=spl L1 8 (setF 4 session):=⟨_,rfl⟩
 obtain ⟨L3,h3⟩:∃ L,L=(L2.set 12 flags).set 13 (UInt8.ofNat text.length):=⟨_,rfl⟩
 obtain ⟨L4,h4⟩:∃ L,L=spl L3 14 link:=⟨_,rfl⟩
 obtain ⟨L5,h5⟩:∃ L,L=spl L4 30 text:=⟨_,rfl⟩
 have l0:L0.length=128:=by rw [h0]; rfl
 have l1:L1.length=128:=by rw [h1]; exact spl_len l0 (by rw [setF_length]; decide)
 have l2:L2.length=128:=by rw [h2]; exact spl_len l1 (by rw [setF_length]; decide)
 have l3:L3.length=128:=by rw [h3,List.length_set,List.length_set,l2]
 have l4:L4.length=128:=by rw [h4]; exact spl_len l3 (by omega)
 have l5:L5.length=128:=by rw [h5]; exact spl_len l4 (by omega)
 have hb:frameF number session flags link text=sealF 2 L5 22:=by rw [h5,h4,h3,h2,h1,h0]; rfl
 have l7:(sealF 2 L5 22).length=128:=sealF_length _ _ l5 _ (by decide)
 rw [hb]
 refine triple_of tB_ok Tryz.func80 rfl Tryz.call80 rfl ?_
 intro ρ w hH
 conv=>whnf
 refine allocA_step tB_ok 128 rfl rfl rfl ?_
 conv=>whnf
 refine allocA_step tB_ok 128 rfl rfl rfl ?_
 rw [show (List.replicate 128 (0:UInt8))=L0 from h0.symm]
 conv=>whnf
 refine slA_step (n:=128) (l:=L0) tB_ok rfl rfl rfl rfl rfl rfl ⟨8,rfl,by decide,Nat.zero_le _, ?_⟩
 conv=>whnf
 refine call_step (setS_t L0 l0 0 8 number (by decide)) rfl rfl ?_
 rw [← h1]
 conv=>whnf
 refine⟨?_, ?_, ?_⟩
 iterate 2 · repeat'(first|exact trivial|exact rfl|refine And.intro ?_ ?_|((conv=>whnf);first|exact trivial|exact rfl|refine And.intro ?_ ?_|omega))
 conv=>whnf
 refine slA_step (n:=128) (l:=L1) tB_ok rfl rfl rfl rfl rfl rfl ⟨12,rfl,by decide,8,rfl,by decide, ?_⟩
 conv=>whnf
 refine call_step (setS_t L1 l1 8 4 session (by decide)) rfl rfl ?_
 rw [← h2]
 conv=>whnf
 refine⟨?_, ?_, ?_⟩
 iterate 2 · repeat'(first|exact trivial|exact rfl|refine And.intro ?_ ?_|((conv=>whnf);first|exact trivial|exact rfl|refine And.intro ?_ ?_|omega))
 conv=>whnf
 refine⟨((UInt8.ofNat text.length).toNat:Int),by rw [wrap_u8,UInt8.toNat_ofNat']; show (text.length:Int) % 256=_; omega, ?_⟩
 conv=>whnf
 refine iaA_step tB_ok rfl rfl rfl rfl rfl rfl 12 rfl (by decide) ?_
 conv=>whnf
 refine⟨by show 12 < L2.length; omega,flags,rfl, ?_⟩
 conv=>whnf
 refine iaA_step tB_ok rfl rfl rfl rfl rfl rfl 13 rfl (by decide) ?_
 conv=>whnf
 refine⟨by show 13 < (L2.set 12 flags).length; rw [List.length_set]; omega,UInt8.ofNat text.length,rfl, ?_⟩
 have e3:((aU8 (some 128) L2).setXs ((aU8 (some 128) L2).xs.set 12 flags)).setXs (((aU8 (some 128) L2).setXs ((aU8 (some 128) L2).xs.set 12 flags)).xs.set 13 (UInt8.ofNat text.length))=aU8 (some 128) L3:=by rw [h3]; rfl
 have e3':=congrArg (fun A=>some (true,SO.arr A)) e3
 conv=>whnf
 refine slA_step (n:=128) (l:=L3) (own:=true) tB_ok rfl rfl rfl rfl rfl e3' ⟨22,rfl,by decide,14,rfl,by decide, ?_⟩
 conv=>whnf
 refine copyS_step (n:=8) (l:=L3) (fx:=some 128) (l':=link) tB_ok rfl rfl rfl rfl rfl rfl rfl rfl e3' (by rw [l3]; decide) rfl (by rw [hk]; rfl) ?_
 rw [show link.take 8=link from List.take_of_length_le (by omega),← h4]
 conv=>whnf
 refine slA_step (n:=128) (l:=L4) tB_ok rfl rfl rfl rfl rfl rfl ⟨Nat.le_refl _,30,rfl,by decide, ?_⟩
 conv=>whnf
 refine copyS_step (n:=text.length) (l:=L4) (l':=text) tB_ok rfl rfl rfl rfl rfl rfl rfl rfl rfl (by rw [l4]; decide) rfl (by show min 98 _=_; omega) ?_
 rw [show text.take text.length=text from List.take_length,← h5]
 conv=>whnf
 refine call_step (seal_t 2 (by decide) L5 l5 22 (by decide)) rfl rfl ?_
 conv=>whnf
 refine⟨?_, ?_, ?_⟩
 iterate 2 · repeat'(first|exact trivial|exact rfl|refine And.intro ?_ ?_|((conv=>whnf);first|exact trivial|exact rfl|refine And.intro ?_ ?_|omega))
 conv=>whnf
 refine loadA_step (l:=sealF 2 L5 22) tB_ok rfl rfl rfl rfl rfl l7.symm ?_
 conv=>whnf
 refine storeA_step (l':=sealF 2 L5 22) tB_ok rfl rfl rfl rfl rfl l0.symm (by rw [l7,l0]) (by decide) ?_
 conv=>whnf
 refine⟨bytesV (sealF 2 L5 22),⟨(res_bytes l7).1,(by rw [bytesV_length,l7]),rfl⟩, ?_⟩
 conv=>whnf
 repeat'(first|exact trivial|exact rfl|refine And.intro ?_ ?_|((conv=>whnf);first|exact trivial|exact rfl|refine And.intro ?_ ?_|omega))

end Go.Proofs

namespace Go.Proofs
open Go.Sx

def subL (l:List UInt8) (a b:Nat):List UInt8:=(l.drop a).take (b - a)

def readB (l:List UInt8):Bs:=⟨getF (subL l 8 16),getF (subL l 20 28),getF (subL l 28 36),getF (subL l 16 20),subL l 36 44⟩

theorem wrap_u64_nat (n:Nat) (h:n < 18446744073709551616):IntKind.u64.wrap (n:Int)=n:=by
 rw [wrap_u64]; omega

def isBaseF (l:List UInt8) (number:Nat):Bool :=
 decide (subL l 0 8=magicL) && (decide (1≤(readB l).gen.toNat) && (decide ((readB l).gen.toNat≤4611686018427387904) && (decide ((readB l).gen.toNat % 2=number) && (decide (1≤(readB l).first.toNat) &&
  (decide ((readB l).first.toNat≤4611686018427387904) && (decide ((readB l).dropped.toNat≤4611686018427387904) && sealedF 1 l 44))))))


theorem baseOf_t (l:List UInt8) (hl:l.length=128) (number:Nat) (hn:number≤100) :
  Triple Tryz.prog 116 [.c (.p 0 0 1 0),iv .i64 number] [(0,false, .arr (aU8 (some 128) l))] 1 (.tup [.inr (bsC (readB l)), .inl (.v (.bool (isBaseF l number)))]) []:=by
 refine triple_of tB_ok Tryz.func116 rfl Tryz.call116 rfl ?_
 intro ρ w hH
 conv=>whnf
 refine slA_step (n:=128) (l:=l) tB_ok rfl rfl rfl rfl rfl rfl ⟨16,rfl,by decide,8,rfl,by decide, ?_⟩
 conv=>whnf
 refine call_step (get_t (some 128) l 8 8 (by omega) (by decide)) rfl rfl ?_
 rw [show getF ((l.drop 8).take 8)=(readB l).gen from rfl]
 conv=>whnf
 refine⟨?_, ?_, ?_⟩
 iterate 2 · repeat'(first|exact trivial|exact rfl|refine And.intro ?_ ?_|((conv=>whnf);first|exact trivial|exact rfl|refine And.intro ?_ ?_|omega))
 conv=>whnf
 refine slA_step (n:=128) (l:=l) tB_ok rfl rfl rfl rfl rfl rfl ⟨28,rfl,by decide,20,rfl,by decide, ?_⟩
 conv=>whnf
 refine call_step (get_t (some 128) l 20 8 (by omega) (by decide)) rfl rfl ?_
 rw [show getF ((l.drop 20).take 8)=(readB l).first from rfl]
 conv=>whnf
 refine⟨?_, ?_, ?_⟩
 iterate 2 · repeat'(first|exact trivial|exact rfl|refine And.intro ?_ ?_|((conv=>whnf);first|exact trivial|exact rfl|refine And.intro ?_ ?_|omega))
 conv=>whnf
 refine slA_step (n:=128) (l:=l) tB_ok rfl rfl rfl rfl rfl rfl ⟨36,rfl,by decide,28,rfl,by decide, ?_⟩
 conv=>whnf
 refine call_step (get_t (some 128) l 28 8 (by omega) (by decide)) rfl rfl ?_
 rw [show getF ((l.drop 28).take 8)=(readB l).dropped from rfl]
 conv=>whnf
 refine⟨?_, ?_, ?_⟩
 iterate 2 · repeat'(first|exact trivial|exact rfl|refine And.intro ?_ ?_|((conv=>whnf);first|exact trivial|exact rfl|refine And.intro ?_ ?_|omega))
 conv=>whnf
 refine slA_step (n:=128) (l:=l) tB_ok rfl rfl rfl rfl rfl rfl ⟨20,rfl,by decide,16,rfl,by decide, ?_⟩
 conv=>whnf
 refine call_step (get_t (some 128) l 16 4 (by omega) (by decide)) rfl rfl ?_
 rw [show getF ((l.drop 16).take 4)=(readB l).session from rfl]
 conv=>whnf
 refine⟨?_, ?_, ?_⟩
 iterate 2 · repeat'(first|exact trivial|exact rfl|refine And.intro ?_ ?_|((conv=>whnf);first|exact trivial|exact rfl|refine And.intro ?_ ?_|omega))
 conv=>whnf
 refine slA_step (n:=128) (l:=l) tB_ok rfl rfl rfl rfl rfl rfl ⟨44,rfl,by decide,36,rfl,by decide, ?_⟩
 conv=>whnf
 refine b2s_step (fx:=some 128) (l:=l) tB_ok rfl rfl rfl rfl rfl rfl (by show 36+8≤_; omega) ?_
 rw [show (l.drop 36).take (subN 44 36)=(readB l).link from rfl]
 generalize hB:readB l=b
 conv=>whnf
 refine slA_step (n:=128) (l:=l) tB_ok rfl rfl rfl rfl rfl rfl ⟨8,rfl,by decide,Nat.zero_le _, ?_⟩
 conv=>whnf
 refine b2s_step (fx:=some 128) (l:=l) tB_ok rfl rfl rfl rfl rfl rfl (by show 0+8≤_; omega) ?_
 rw [show (l.drop 0).take (subN 8 0)=subL l 0 8 from rfl]
 conv=>whnf
 refine seq_step (l:=subL l 0 8) (l':=magicL) rfl rfl rfl ?_
 conv=>whnf
 refine⟨fun hc=>?_,fun hc=>?_⟩
 rotate_left
 ·have c1:¬ subL l 0 8=magicL:=of_decide_eq_false hc
  rw [show isBaseF l number=false from by simp [isBaseF,c1]]
  conv=>whnf
  repeat'(first|exact trivial|exact rfl|refine And.intro ?_ ?_|((conv=>whnf);first|exact trivial|exact rfl|refine And.intro ?_ ?_|omega))
 have c1:subL l 0 8=magicL:=of_decide_eq_true hc
 conv=>whnf
 refine⟨fun hc=>?_,fun hc=>?_⟩
 rotate_left
 ·have c2:¬ 1≤b.gen.toNat:=by have:=of_decide_eq_false hc; omega
  rw [show isBaseF l number=false from by simp [isBaseF,hB,c2]]
  conv=>whnf
  repeat'(first|exact trivial|exact rfl|refine And.intro ?_ ?_|((conv=>whnf);first|exact trivial|exact rfl|refine And.intro ?_ ?_|omega))
 have c2:1≤b.gen.toNat:=by have:=of_decide_eq_true hc; omega
 conv=>whnf
 refine⟨fun hc=>?_,fun hc=>?_⟩
 rotate_left
 ·have c3:¬ b.gen.toNat≤4611686018427387904:=by have:=of_decide_eq_false hc; omega
  rw [show isBaseF l number=false from by simp [isBaseF,hB,c3]]
  conv=>whnf
  repeat'(first|exact trivial|exact rfl|refine And.intro ?_ ?_|((conv=>whnf);first|exact trivial|exact rfl|refine And.intro ?_ ?_|omega))
 have c3:b.gen.toNat≤4611686018427387904:=by have:=of_decide_eq_true hc; omega
 conv=>whnf
 refine⟨by decide,((b.gen.toNat % 2:Nat):Int), ?_, ?_⟩
 ·exact (Int.ofNat_tmod b.gen.toNat 2).symm
 conv=>whnf
 refine⟨(number:Int),wrap_u64_nat number (by omega), ?_⟩
 conv=>whnf
 refine⟨fun hc=>?_,fun hc=>?_⟩
 rotate_left
 ·have c4:¬ b.gen.toNat % 2=number:=by have:=of_decide_eq_false hc; omega
  rw [show isBaseF l number=false from by simp [isBaseF,hB,c4]]
  conv=>whnf
  repeat'(first|exact trivial|exact rfl|refine And.intro ?_ ?_|((conv=>whnf);first|exact trivial|exact rfl|refine And.intro ?_ ?_|omega))
 have c4:b.gen.toNat % 2=number:=by have:=of_decide_eq_true hc; omega
 conv=>whnf
 refine⟨fun hc=>?_,fun hc=>?_⟩
 rotate_left
 ·have c5:¬ 1≤b.first.toNat:=by have:=of_decide_eq_false hc; omega
  rw [show isBaseF l number=false from by simp [isBaseF,hB,c5]]
  conv=>whnf
  repeat'(first|exact trivial|exact rfl|refine And.intro ?_ ?_|((conv=>whnf);first|exact trivial|exact rfl|refine And.intro ?_ ?_|omega))
 have c5:1≤b.first.toNat:=by have:=of_decide_eq_true hc; omega
 conv=>whnf
 refine⟨fun hc=>?_,fun hc=>?_⟩
 rotate_left
 ·have c6:¬ b.first.toNat≤4611686018427387904:=by have:=of_decide_eq_false hc; omega
  rw [show isBaseF l number=false from by simp [isBaseF,hB,c6]]
  conv=>whnf
  repeat'(first|exact trivial|exact rfl|refine And.intro ?_ ?_|((conv=>whnf);first|exact trivial|exact rfl|refine And.intro ?_ ?_|omega))
 have c6:b.first.toNat≤4611686018427387904:=by have:=of_decide_eq_true hc; omega
 conv=>whnf
 refine⟨fun hc=>?_,fun hc=>?_⟩
 rotate_left
 ·have c7:¬ b.dropped.toNat≤4611686018427387904:=by have:=of_decide_eq_false hc; omega
  rw [show isBaseF l number=false from by simp [isBaseF,hB,c7]]
  conv=>whnf
  repeat'(first|exact trivial|exact rfl|refine And.intro ?_ ?_|((conv=>whnf);first|exact trivial|exact rfl|refine And.intro ?_ ?_|omega))
 have c7:b.dropped.toNat≤4611686018427387904:=by have:=of_decide_eq_true hc; omega
 conv=>whnf
 refine call_step (sealed_t 1 (by decide) l hl 44 (by decide)) rfl rfl ?_
 rw [show sealedF 1 l 44=isBaseF l number from by simp [isBaseF,hB,c1,c2,c3,c4,c5,c6,c7]]
 conv=>whnf
 refine⟨?_, ?_, ?_⟩
 iterate 2 · repeat'(first|exact trivial|exact rfl|refine And.intro ?_ ?_|((conv=>whnf);first|exact trivial|exact rfl|refine And.intro ?_ ?_|omega))
 conv=>whnf
 repeat'(first|exact trivial|exact rfl|refine And.intro ?_ ?_|((conv=>whnf);first|exact trivial|exact rfl|refine And.intro ?_ ?_|omega))

end Go.Proofs

