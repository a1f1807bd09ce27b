/-
  A part of the proof that a law answers true: lemmas of a symbolic walk, plain functions, or contracts of the functions walked (Q6, Q7, Q8, Q9, QA). Conditions: none.
-/
import Derived.Test.YtfcdjkeamldkaaaGreatPart29
import Derived.Test.YtfcdjkeamldkaaaGreatPart14
set_option maxRecDepth 100000
set_option linter.unusedVariables false
set_option linter.unusedSimpArgs false
namespace Go.Proofs
open Go.Sx
theorem cF6(x:Int):(-2≤x.tmod 3∧x.tmod 3≤2)∧(x.tmod 3<0→x.tmod 3+3=x%3)∧(¬x.tmod 3<0→x.tmod 3=x%3):=by
 have h1:=bP0 x;rcases Int.le_total 0 x with h|h
 ·have:x.tmod 3=x%3:=Int.tmod_eq_emod_of_nonneg h;omega
 ·have:=Int.tmod_eq_emod (a:=x) (b:=3);refine⟨h1.1,fun _=>?_,fun _=>?_⟩ <;> (split at this <;> omega)
theorem bk1(d q:Sct)(j:Nat)(h:j<64):(q.l.take j++d.l.drop j).set j (q.l[j]'(by rw[q.h];omega))=q.l.take (j+1)++d.l.drop (j+1):=by
 have hq:=q.h;have hd:=d.h;have hl:(q.l.take j).length=j:=by rw[List.length_take];omega
 have e1:q.l.take (j+1)=q.l.take j++[q.l[j]'(by omega)]:=JR (by omega);have e2:d.l.drop j=(d.l[j]'(by omega))::d.l.drop (j+1):=List.drop_eq_getElem_cons (by omega);rw[List.set_append_right _ _ (by omega),hl,Nat.sub_self,e1,e2,List.append_assoc];rfl
theorem bw0(D:Dk)(i:Nat)(d q:Sct)(hq:(VY D)[i]? = some (some q))(x:Int)(hx:-9223372036854775808≤x∧x≤9223372036854775807) :
 Triple Tryz.prog 142 [.pk (Js d.l) [.ghost 0 i],iv .i64 x] [(0,false,Vv D)] 1 (.c (.v (ci6 (Qx d q x)))) []:=by
 obtain⟨ht1,ht2,ht3⟩:=cF6 x;have hgh:∃y,(XF 0 [(d,some i)]).xs[0]? = some y∧(XF 0 [(d,some i)]).enc y=JC d.l++[.ghost 0 i]:=⟨(d,some i),rfl,rfl⟩;refine Jc Ja Tryz.func142 rfl Tryz.call142 rfl ?_;intro ρ w hH;conv=>whnf
 refine by6 d rfl rfl ?_;conv=>whnf
 refine Vz Ja rfl rfl rfl ?_;conv=>whnf
 refine JZ (s:=d) (q:=q) Ja rfl rfl rfl rfl rfl rfl hgh rfl hq ?_;conv=>whnf
 refine⟨3,rfl, ?_⟩;conv=>whnf
 refine⟨by decide,x.tmod 3,rfl, ?_⟩;conv=>whnf
 refine⟨fun hc=>?_,fun hc=>?_⟩
 ·have hneg:x.tmod 3<0:=of_decide_eq_true hc;have hr:x.tmod 3+1+2=x%3:=by have:=ht2 hneg;omega
  conv=>whnf
  refine⟨_,wO, ?_⟩;conv=>whnf
  refine⟨_,wO, ?_⟩;conv=>whnf
  refine⟨fun hc=>?_,fun hc=>?_⟩
  ·have hx0:x%3=0:=by
    have hc:((x.tmod 3+1+2:Int)==0)=true:=hc;rw[←hr];simpa using hc
   rw[show Qx d q x=d from by simp[Qx,hx0]];conv=>whnf
   refine XG Ja d (.ghost 0 i) rfl rfl rfl rfl rfl rfl rfl hgh ?_;conv=>whnf
   refine WC Ja d rfl rfl rfl rfl rfl rfl rfl rfl ?_;conv=>whnf
   refine XH (kp:=0) (b:=none) Ja (JD [JS]) JS d (.v Qf) rfl rfl rfl rfl rfl rfl rfl (Nat.zero_lt_one) rfl d rfl ?_;conv=>whnf
   refine⟨Js (d).l++[Qf],⟨(Kn d).1,(Kn d).2,rfl⟩, ?_⟩;conv=>whnf
   exact cl
  have hx0:¬x%3=0:=by
   have hc:((x.tmod 3+1+2:Int)==0)=false:=hc;rw[←hr];simpa using hc
  conv=>whnf
  refine⟨fun hc=>?_,fun hc=>?_⟩
  ·have hx1:x%3=1:=by
    have hc:decide ((x.tmod 3+1+2:Int)≤1)=true:=hc;have:=of_decide_eq_true hc;omega
   rw[show Qx d q x=q from by simp[Qx,hx0,hx1]];conv=>whnf
   refine JZ (s:=d) (q:=q) Ja rfl rfl rfl rfl rfl rfl hgh rfl hq ?_;conv=>whnf
   refine⟨0,by(have h2:(x.tmod 3+1+2:Int)=1:=hr.trans hx1);show IntKind.i64.wrap ((x.tmod 3+1+2:Int)-1)=0;rw[h2];rfl, ?_⟩;conv=>whnf
   refine⟨0,rfl,by decide, ?_⟩;conv=>whnf
   refine WM (s:=q) Ja rfl rfl rfl rfl rfl rfl rfl ?_;conv=>whnf
   refine WC Ja q rfl rfl rfl rfl rfl rfl rfl rfl ?_;conv=>whnf
   refine XH (kp:=0) (b:=none) Ja (JD [JS]) JS q (.v Qf) rfl rfl rfl rfl rfl rfl rfl (Nat.zero_lt_one) rfl q rfl ?_;conv=>whnf
   refine⟨Js (q).l++[Qf],⟨(Kn q).1,(Kn q).2,rfl⟩, ?_⟩;conv=>whnf
   exact cl
  have hx2:¬x%3=1:=by
   have hc:decide ((x.tmod 3+1+2:Int)≤1)=false:=hc;have:=of_decide_eq_false hc;omega
  rw[show Qx d q x=Yh d q from by simp[Qx,hx0,hx2]];conv=>whnf
  refine XG Ja d (.ghost 0 i) rfl rfl rfl rfl rfl rfl rfl hgh ?_;conv=>whnf
  refine Jv Ja 128 rfl rfl rfl ?_;conv=>whnf
  refine Jp (l':=d.l) Ja rfl rfl rfl rfl rfl (by simp) (by rw[d.h];simp) (by decide) ?_;conv=>whnf
  refine nF fun hc=>?_;conv=>whnf
  refine Jz Ja (G:=Nat) 0 [] (fun i=>[(8,iv .i64 i)]) (fun i=>[(4,true, .arr (Qr (some 128) (q.l.take i++d.l.drop i)))]) (fun i=>i≤64) (fun i=>64-i) ?_;conv=>whnf
  refine⟨⟨0,Nat.zero_le _, ?_⟩, ?_⟩
  ·conv=>whnf
   exact cl
  intro j hj ρ1 t1 hρ1;have hj:j≤64:=hj;conv=>whnf
  refine⟨fun hc=>?_,fun hc=>?_⟩
  rotate_left
  ·have hje:j=64:=by
    have:=of_decide_eq_false hc;omega
   subst hje;have htl:q.l.take 64++d.l.drop 64=(Yh d q).l:=rfl;rw[htl];have hth:=(Yh d q).h;conv=>whnf
   refine Jm (l:=(Yh d q).l) Ja rfl rfl rfl rfl rfl hth.symm ?_;conv=>whnf
   refine WC Ja (Yh d q) rfl rfl rfl rfl rfl rfl rfl rfl ?_;conv=>whnf
   refine XH (kp:=0) (b:=none) Ja (JD [JS]) JS (Yh d q) (.v Qf) rfl rfl rfl rfl rfl rfl rfl (Nat.zero_lt_one) rfl (Yh d q) rfl ?_;conv=>whnf
   refine⟨Js ((Yh d q)).l++[Qf],⟨(Kn (Yh d q)).1,(Kn (Yh d q)).2,rfl⟩, ?_⟩;conv=>whnf
   exact cl
  have h:j<64:=by
   have:=of_decide_eq_true hc;omega
  have hst:=bk1 d q j h;have hlt:(q.l.take j++d.l.drop j).length=128:=by
   rw[List.length_append,List.length_take,List.length_drop,q.h,d.h];omega
  generalize q.l.take j++d.l.drop j=P at hst hlt ⊢;conv=>whnf
  refine JZ (s:=d) (q:=q) Ja rfl rfl rfl rfl rfl rfl hgh rfl hq ?_;conv=>whnf
  refine⟨0,by decide, ?_⟩;conv=>whnf
  refine⟨0,rfl,by decide, ?_⟩;conv=>whnf
  refine aL5 (s:=q) Ja rfl rfl rfl rfl rfl rfl rfl j rfl (by omega) ?_;conv=>whnf
  refine⟨by show j<q.l.length;rw[q.h];omega, ?_⟩;conv=>whnf
  refine Qk Ja rfl rfl rfl rfl rfl rfl j rfl (by omega) ?_;conv=>whnf
  refine⟨by show j<P.length;omega,q.l[j]'(by rw[q.h];omega),rfl, ?_⟩;conv=>whnf
  refine⟨_,wO, ?_⟩;refine⟨j+1,h,by show 64-(j+1)<64-j;omega, ?_⟩;dsimp only;rw[←hst];conv=>whnf
  refine⟨rfl, ?_⟩;conv=>whnf
  exact cl
 ·have hneg:¬x.tmod 3<0:=of_decide_eq_false hc;have hr:x.tmod 3=x%3:=ht3 hneg;conv=>whnf
  refine⟨fun hc=>?_,fun hc=>?_⟩
  ·have hx0:x%3=0:=by
    have hc:((x.tmod 3:Int)==0)=true:=hc;rw[←hr];simpa using hc
   rw[show Qx d q x=d from by simp[Qx,hx0]];conv=>whnf
   refine XG Ja d (.ghost 0 i) rfl rfl rfl rfl rfl rfl rfl hgh ?_;conv=>whnf
   refine WC Ja d rfl rfl rfl rfl rfl rfl rfl rfl ?_;conv=>whnf
   refine XH (kp:=0) (b:=none) Ja (JD [JS]) JS d (.v Qf) rfl rfl rfl rfl rfl rfl rfl (Nat.zero_lt_one) rfl d rfl ?_;conv=>whnf
   refine⟨Js (d).l++[Qf],⟨(Kn d).1,(Kn d).2,rfl⟩, ?_⟩;conv=>whnf
   exact cl
  have hx0:¬x%3=0:=by
   have hc:((x.tmod 3:Int)==0)=false:=hc;rw[←hr];simpa using hc
  conv=>whnf
  refine⟨fun hc=>?_,fun hc=>?_⟩
  ·have hx1:x%3=1:=by
    have hc:decide ((x.tmod 3:Int)≤1)=true:=hc;have:=of_decide_eq_true hc;omega
   rw[show Qx d q x=q from by simp[Qx,hx0,hx1]];conv=>whnf
   refine JZ (s:=d) (q:=q) Ja rfl rfl rfl rfl rfl rfl hgh rfl hq ?_;conv=>whnf
   refine⟨0,by(have h2:(x.tmod 3:Int)=1:=hr.trans hx1);show IntKind.i64.wrap ((x.tmod 3:Int)-1)=0;rw[h2];rfl, ?_⟩;conv=>whnf
   refine⟨0,rfl,by decide, ?_⟩;conv=>whnf
   refine WM (s:=q) Ja rfl rfl rfl rfl rfl rfl rfl ?_;conv=>whnf
   refine WC Ja q rfl rfl rfl rfl rfl rfl rfl rfl ?_;conv=>whnf
   refine XH (kp:=0) (b:=none) Ja (JD [JS]) JS q (.v Qf) rfl rfl rfl rfl rfl rfl rfl (Nat.zero_lt_one) rfl q rfl ?_;conv=>whnf
   refine⟨Js (q).l++[Qf],⟨(Kn q).1,(Kn q).2,rfl⟩, ?_⟩;conv=>whnf
   exact cl
  have hx2:¬x%3=1:=by
   have hc:decide ((x.tmod 3:Int)≤1)=false:=hc;have:=of_decide_eq_false hc;omega
  rw[show Qx d q x=Yh d q from by simp[Qx,hx0,hx2]];conv=>whnf
  refine XG Ja d (.ghost 0 i) rfl rfl rfl rfl rfl rfl rfl hgh ?_;conv=>whnf
  refine Jv Ja 128 rfl rfl rfl ?_;conv=>whnf
  refine Jp (l':=d.l) Ja rfl rfl rfl rfl rfl (by simp) (by rw[d.h];simp) (by decide) ?_;conv=>whnf
  refine nF fun hc=>?_;conv=>whnf
  refine Jz Ja (G:=Nat) 0 [] (fun i=>[(8,iv .i64 i)]) (fun i=>[(4,true, .arr (Qr (some 128) (q.l.take i++d.l.drop i)))]) (fun i=>i≤64) (fun i=>64-i) ?_;conv=>whnf
  refine⟨⟨0,Nat.zero_le _, ?_⟩, ?_⟩
  ·conv=>whnf
   exact cl
  intro j hj ρ1 t1 hρ1;have hj:j≤64:=hj;conv=>whnf
  refine⟨fun hc=>?_,fun hc=>?_⟩
  rotate_left
  ·have hje:j=64:=by
    have:=of_decide_eq_false hc;omega
   subst hje;have htl:q.l.take 64++d.l.drop 64=(Yh d q).l:=rfl;rw[htl];have hth:=(Yh d q).h;conv=>whnf
   refine Jm (l:=(Yh d q).l) Ja rfl rfl rfl rfl rfl hth.symm ?_;conv=>whnf
   refine WC Ja (Yh d q) rfl rfl rfl rfl rfl rfl rfl rfl ?_;conv=>whnf
   refine XH (kp:=0) (b:=none) Ja (JD [JS]) JS (Yh d q) (.v Qf) rfl rfl rfl rfl rfl rfl rfl (Nat.zero_lt_one) rfl (Yh d q) rfl ?_;conv=>whnf
   refine⟨Js ((Yh d q)).l++[Qf],⟨(Kn (Yh d q)).1,(Kn (Yh d q)).2,rfl⟩, ?_⟩;conv=>whnf
   exact cl
  have h:j<64:=by
   have:=of_decide_eq_true hc;omega
  have hst:=bk1 d q j h;have hlt:(q.l.take j++d.l.drop j).length=128:=by
   rw[List.length_append,List.length_take,List.length_drop,q.h,d.h];omega
  generalize q.l.take j++d.l.drop j=P at hst hlt ⊢;conv=>whnf
  refine JZ (s:=d) (q:=q) Ja rfl rfl rfl rfl rfl rfl hgh rfl hq ?_;conv=>whnf
  refine⟨0,by decide, ?_⟩;conv=>whnf
  refine⟨0,rfl,by decide, ?_⟩;conv=>whnf
  refine aL5 (s:=q) Ja rfl rfl rfl rfl rfl rfl rfl j rfl (by omega) ?_;conv=>whnf
  refine⟨by show j<q.l.length;rw[q.h];omega, ?_⟩;conv=>whnf
  refine Qk Ja rfl rfl rfl rfl rfl rfl j rfl (by omega) ?_;conv=>whnf
  refine⟨by show j<P.length;omega,q.l[j]'(by rw[q.h];omega),rfl, ?_⟩;conv=>whnf
  refine⟨_,wO, ?_⟩;refine⟨j+1,h,by show 64-(j+1)<64-j;omega, ?_⟩;dsimp only;rw[←hst];conv=>whnf
  refine⟨rfl, ?_⟩;conv=>whnf
  exact cl
theorem cc2(D:Dk)(keep:List Int)(hl:D.length≤65536)(hk:keep.length≤1000000)(hkb:∀x∈keep,-9223372036854775808≤x∧x≤9223372036854775807):Triple Tryz.prog 84 [.c (.p 0 0 0 0), .c (.s 3 0 keep.length 1)]
 [(0,false,YE 1 D.length),(1,false,Vc 2 D),(2,false,Vv D),(3,false, .arr (Yn keep))] 4 (.c (.p 5 0 0 0)) [(4,true, .arr (JD (Vb keep 0 D))),(5,true,YE 4 D.length)]:=by
 have hrl:=YH D;refine Jc Ja Tryz.func84 rfl Tryz.call84 rfl ?_;intro ρ w hH;conv=>whnf
 refine Jz Ja (G:=Nat) 1 [] (fun i=>[(7,iv .i64 i),(6,iv .i64 (Kj (D.take i):Int))]) (fun i=>[(4,true,YE 5 i),(5,true, .arr (JD (cN keep D i)))]) (fun i=>i≤D.length) (fun i=>D.length-i) ?_;conv=>whnf
 refine⟨⟨0,Nat.zero_le _, ?_⟩, ?_⟩
 ·conv=>whnf
  exact JE
 intro i hi ρ1 t1 hρ1;have hi:i≤D.length:=hi;have hcl:=bj7 keep D i hi;have hcnt:=bE5 (D.take i);rw[List.length_take]at hcnt;conv=>whnf
 refine⟨fun hc=>?_,fun hc=>?_⟩
 ·have h:i<D.length:=by simp at hc;omega
  conv=>whnf
  refine⟨i,rfl,h, ?_⟩;conv=>whnf
  cases hq:D[i].2 with
  |none =>
   obtain⟨hst,hct⟩:=bE6 keep D h hq;refine Xr Ja D[i].1 (.v Qf) rfl rfl rfl rfl rfl rfl rfl (Wq h hq) ?_;conv=>whnf
   refine Vz Ja rfl rfl rfl ?_;conv=>whnf
   refine XH (kp:=0) (b:=none) Ja (JD [JS]) JS D[i].1 (.v Qf) rfl rfl rfl rfl rfl rfl rfl (Nat.zero_lt_one) rfl D[i].1 rfl ?_;conv=>whnf
   refine VR (s:=D[i].1) (u:=Qf) Ja rfl rfl rfl rfl rfl rfl ⟨D[i].1,rfl,rfl⟩ ?_;conv=>whnf
   refine nF fun hc=>?_;conv=>whnf
   refine Xr Ja D[i].1 (.v Qf) rfl rfl rfl rfl rfl rfl rfl ⟨D[i].1,rfl,rfl⟩ ?_;conv=>whnf
   refine aD8 Ja (D[i].1) rfl rfl rfl rfl rfl ?_;conv=>whnf
   refine VE Ja (JD (cN keep D i)) [D[i].1] (fun x=>ar1 x _) rfl rfl rfl rfl ?_;conv=>whnf
   refine⟨⟨rfl,rfl,(by show i≤(cN keep D i).length;omega),Nat.le_refl _,by show(i+1)*153≤140737488355328;omega⟩, ?_⟩;conv=>whnf
   refine⟨_,wO, ?_⟩;refine⟨i+1,h,by show D.length-(i+1)<D.length-i;omega, ?_⟩;have e2:(JD (cN keep D i)).setXs ((cN keep D i).take i++(([D[i].1]:List Sct).drop 0).take 1)=JD (cN keep D (i+1)):=by
    show JD ((cN keep D i).take i++(([D[i].1]:List Sct).drop 0).take 1)=_;rw[hst,List.take_of_length_le (by omega)];rfl
   dsimp only;rw[hct];conv=>whnf
   refine⟨rfl, ?_⟩;conv=>whnf
   repeat' (first|exact e2|exact trivial|exact rfl|refine And.intro ?_ ?_|((conv=>whnf);first|exact e2|exact trivial|exact rfl|refine And.intro ?_ ?_|omega))
  |some q =>
   obtain⟨hst,hct⟩:=bE7 keep D h hq;refine Xr Ja D[i].1 (.ghost 2 i) rfl rfl rfl rfl rfl rfl rfl (Wp h hq) ?_;conv=>whnf
   refine Vz Ja rfl rfl rfl ?_;conv=>whnf
   refine aa1 (kp:=2) Ja JS D[i].1 i rfl rfl rfl rfl rfl rfl ?_;conv=>whnf
   refine JZ (s:=D[i].1) (q:=q) Ja rfl rfl rfl rfl rfl rfl ⟨(D[i].1,some i),rfl,rfl⟩ rfl (Xt h hq) ?_;conv=>whnf
   refine nT fun hc=>?_;generalize hm:Kj (D.take i)=m at hcnt hst hct ⊢;conv=>whnf
   refine⟨fun hc=>?_,fun hc=>?_⟩
   ·have hkl:0<keep.length:=by simp at hc;exact List.length_pos_iff.2 (by intro h0;rw[h0]at hc;simp at hc)
    have hml:m%keep.length<keep.length:=Nat.mod_lt _ hkl;conv=>whnf
    refine⟨by omega,((m%keep.length:Nat):Int),by rw[Int.tmod_eq_emod_of_nonneg (by omega)];omega, ?_⟩;conv=>whnf
    refine⟨m%keep.length,rfl,hml, ?_⟩;conv=>whnf
    have hml2:JO 0 (m%keep.length)<keep.length:=by rw[Qc];omega
    refine⟨hml2, ?_⟩;have hx:(Yn keep).xs[JO 0 (m%keep.length)]'hml2=Kb keep m:=by
     show keep[JO 0 (m%keep.length)]'hml2=_;unfold Kb;simp only[Qc,Nat.zero_add,List.getD,List.getElem?_eq_getElem hml];rfl
    have hxb:-9223372036854775808≤Kb keep m∧Kb keep m≤9223372036854775807:=by rw[←hx];exact hkb _ (List.getElem_mem _)
    conv=>whnf
    rw[hx];generalize Kb keep m=x at hst hxb ⊢;conv=>whnf
    refine⟨_,wO, ?_⟩;conv=>whnf
    refine Xr Ja D[i].1 (.ghost 2 i) rfl rfl rfl rfl rfl rfl rfl ⟨(D[i].1,some i),rfl,rfl⟩ ?_;conv=>whnf
    refine Jb (bw0 D i D[i].1 q (Xt h hq) x hxb) rfl rfl ?_;conv=>whnf
    refine Qs ?_;conv=>whnf
    refine ay8 Ja (XF 2 [(D[i].1,some i)]) D[i].1 (Qx D[i].1 q x) (.ghost 2 i) rfl rfl rfl rfl rfl rfl rfl (Nat.zero_lt_one) rfl (Qx D[i].1 q x,none) rfl ?_;conv=>whnf
    refine Xr Ja (Qx D[i].1 q x) (.v Qf) rfl rfl rfl rfl rfl rfl rfl ⟨(Qx D[i].1 q x,none),rfl,rfl⟩ ?_;conv=>whnf
    refine aD8 Ja (Qx D[i].1 q x) rfl rfl rfl rfl rfl ?_;conv=>whnf
    refine VE Ja (JD (cN keep D i)) [Qx D[i].1 q x] (fun x=>ar1 x _) rfl rfl rfl rfl ?_;conv=>whnf
    refine⟨⟨rfl,rfl,(by show i≤(cN keep D i).length;omega),Nat.le_refl _,by show(i+1)*153≤140737488355328;omega⟩, ?_⟩;conv=>whnf
    refine⟨_,wO, ?_⟩;refine⟨i+1,h,by show D.length-(i+1)<D.length-i;omega, ?_⟩;have e2:(JD (cN keep D i)).setXs ((cN keep D i).take i++(([Qx D[i].1 q x]:List Sct).drop 0).take 1)=JD (cN keep D (i+1)):=by
     show JD ((cN keep D i).take i++(([Qx D[i].1 q x]:List Sct).drop 0).take 1)=_;rw[hst,List.take_of_length_le (by omega)];rfl
    dsimp only;rw[hct];conv=>whnf
    refine⟨rfl, ?_⟩;conv=>whnf
    repeat' (first|exact e2|exact trivial|exact rfl|refine And.intro ?_ ?_|((conv=>whnf);first|exact e2|exact trivial|exact rfl|refine And.intro ?_ ?_|omega))
   ·have hk0:keep=[]:=by
     cases keep with
     |nil=>rfl
     |cons a l=>simp at hc
    have hx:Kb keep m=0:=by rw[hk0];rfl
    rw[hx]at hst;conv=>whnf
    refine⟨_,wO, ?_⟩;conv=>whnf
    refine Xr Ja D[i].1 (.ghost 2 i) rfl rfl rfl rfl rfl rfl rfl ⟨(D[i].1,some i),rfl,rfl⟩ ?_;conv=>whnf
    refine Jb (bw0 D i D[i].1 q (Xt h hq) (0:Int) (by decide)) rfl rfl ?_;conv=>whnf
    refine Qs ?_;conv=>whnf
    refine ay8 Ja (XF 2 [(D[i].1,some i)]) D[i].1 (Qx D[i].1 q (0:Int)) (.ghost 2 i) rfl rfl rfl rfl rfl rfl rfl (Nat.zero_lt_one) rfl (Qx D[i].1 q (0:Int),none) rfl ?_;conv=>whnf
    refine Xr Ja (Qx D[i].1 q (0:Int)) (.v Qf) rfl rfl rfl rfl rfl rfl rfl ⟨(Qx D[i].1 q (0:Int),none),rfl,rfl⟩ ?_;conv=>whnf
    refine aD8 Ja (Qx D[i].1 q (0:Int)) rfl rfl rfl rfl rfl ?_;conv=>whnf
    refine VE Ja (JD (cN keep D i)) [Qx D[i].1 q (0:Int)] (fun x=>ar1 x _) rfl rfl rfl rfl ?_;conv=>whnf
    refine⟨⟨rfl,rfl,(by show i≤(cN keep D i).length;omega),Nat.le_refl _,by show(i+1)*153≤140737488355328;omega⟩, ?_⟩;conv=>whnf
    refine⟨_,wO, ?_⟩;refine⟨i+1,h,by show D.length-(i+1)<D.length-i;omega, ?_⟩;have e2:(JD (cN keep D i)).setXs ((cN keep D i).take i++(([Qx D[i].1 q (0:Int)]:List Sct).drop 0).take 1)=JD (cN keep D (i+1)):=by
     show JD ((cN keep D i).take i++(([Qx D[i].1 q (0:Int)]:List Sct).drop 0).take 1)=_;rw[hst,List.take_of_length_le (by omega)];rfl
    dsimp only;rw[hct];conv=>whnf
    refine⟨rfl, ?_⟩;conv=>whnf
    repeat' (first|exact e2|exact trivial|exact rfl|refine And.intro ?_ ?_|((conv=>whnf);first|exact e2|exact trivial|exact rfl|refine And.intro ?_ ?_|omega))
 ·have hie:i=D.length:=by simp at hc;omega
  subst hie;rw[show Vb keep 0 D=cN keep D D.length from by unfold cN;rw[List.take_length]];conv=>whnf
  exact JE
theorem co9(D:Dk)(keep:List Int)(hl:D.length≤65536)(hk:keep.length≤1000000)(hkb:∀x∈keep,-9223372036854775808≤x∧x≤9223372036854775807):Triple Tryz.prog 84 [.c (.p 0 0 0 0), .c (.s 3 0 keep.length 1)]
 [(0,false,YE 1 D.length),(1,false,Vc 2 D),(2,false,Vv D),(3,false, .arr (Yn keep))] 4 (.c (.p 5 0 0 0)) [(4,true,Vc 6 (Yp keep D)),(6,true,Vv (Yp keep D)),(5,true,YE 4 (Yp keep D).length)]:=by
 have:=Triple.addBox (kb:=6) (cc2 D keep hl hk hkb) (by decide) (by decide) (fun j own o hj=>by
  rw[Jh]at hj;by_cases h:j=5
  ·rw[if_pos h]at hj;simp at hj;obtain⟨_,rfl⟩:=hj;subst h;exact⟨by decide,rfl⟩
  ·rw[if_neg h]at hj;cases hj) rfl
 rw[←bc0,←bj8]at this;rw[Ko];exact this
theorem bF4(l:List UInt8):∀n,n≤8→n≤l.length→(JJ (l.take n)).toNat<2 ^ (8*n)
 |0,_,_=>by simp[JJ]
 |n+1,hn,hl=>by
  have ih:=bF4 l n (by omega) (by omega);have e0:l.take (n+1)=l.take n++[l[n]'(by omega)]:=JR (by omega);rw[e0,at8];generalize JJ (l.take n)=x at ih ⊢;have h1:=UX (l[n]'(by omega));generalize l[n]'(by omega)=b at h1 ⊢;have h2:(x<<<UInt64.ofNat 8).toNat=2 ^ 8*(x.toNat%2 ^ 56):=by
   rw[UInt64.toNat_shiftLeft];have e:(UInt64.ofNat 8).toNat%64=8:=by decide
   rw[e,Nat.shiftLeft_eq];omega
  have h3:(x<<<UInt64.ofNat 8|||b.toUInt64).toNat=2 ^ 8*(x.toNat%2 ^ 56)+b.toNat:=by
   rw[UInt64.toNat_or,h2,UInt8.toNat_toUInt64,←Nat.two_pow_add_eq_or_of_lt (by omega)]
  rw[h3];have e:2 ^ (8*(n+1))=256*2 ^ (8*n):=by rw[show 8*(n+1)=8+8*n from by omega,Nat.pow_add]
  rw[e];have h4:x.toNat%2 ^ 56≤x.toNat:=Nat.mod_le _ _;omega
theorem bF5(l:List UInt8)(hl:l.length=128)(a:Nat)(ha:a≤100):(JJ (Jd l a (a+4))).toNat<4294967296:=by
 have h1:Jd l a (a+4)=(l.drop a).take 4:=by unfold Jd;rw[Nat.add_sub_cancel_left]
 rw[h1];exact bF4 (l.drop a) 4 (by decide) (by rw[List.length_drop];omega)
theorem au9(D:Dk)(i:Nat)(h:i<D.length)(hl:D.length≤65536):Triple Tryz.prog 128 [.c (.p 0 0 0 0),iv .i64 0,iv .i64 i] (dkH D) 3 (YQ (Qi D i)) []:=by
 have hr:=cA1 D i h;rw[bv6 D h]at hr;have hal:=ah5 D i;generalize Qi D i=l at hr hal ⊢;refine Jc Ja Tryz.func128 rfl Tryz.call128 rfl ?_;intro ρ w hH;conv=>whnf
 refine Jv Ja 128 rfl rfl rfl ?_;conv=>whnf
 refine⟨(i:Int),by rw[Int.zero_add];exact wO, ?_⟩;conv=>whnf
 refine Jb hr rfl rfl ?_;conv=>whnf
 refine Qs ?_;conv=>whnf
 refine Jv Ja 128 rfl rfl rfl ?_;conv=>whnf
 refine Jp (l':=l) Ja rfl rfl rfl rfl rfl (by simp) (by rw[hal];simp) (by decide) ?_;conv=>whnf
 refine Jm (l:=l) Ja rfl rfl rfl rfl rfl hal.symm ?_;conv=>whnf
 refine Jp (l':=l) Ja rfl rfl rfl rfl rfl (by simp) (by rw[hal];simp) (by decide) ?_;conv=>whnf
 refine⟨Js l,⟨(Yy hal).1,(by rw[Jo,hal]),rfl⟩, ?_⟩;conv=>whnf
 exact cl
theorem bF6(D:Dk)(h:6≤D.length∧D.length≤65536):Triple Tryz.prog 120 [.c (.p 0 0 0 0),iv .i64 0,iv .i64 D.length] (dkH D) 3 (iv .i64 0) []:=by
 refine Jc Ja Tryz.func120 rfl Tryz.call120 rfl ?_;intro ρ w hH;conv=>whnf
 refine⟨fun hc=>?_,fun hc=>?_⟩
 ·exact absurd (of_decide_eq_true hc) (by omega)
 conv=>whnf
 refine nF fun hc=>?_;conv=>whnf
 refine⟨fun hc=>?_,fun hc=>?_⟩
 ·exact absurd (of_decide_eq_true hc) (by omega)
 conv=>whnf
 refine⟨0,by rw[Int.sub_self];rfl, ?_⟩;conv=>whnf
 refine nF fun hc=>?_;conv=>whnf
 refine nF fun hc=>?_;conv=>whnf
 exact JE
def XU(D:Dk):Nat→Nat
 |0=>0
 |i+1=>if JF (Qi D i) i then max (XU D i) (JX (Qi D i)).gen.toNat else XU D i
theorem bc6{l:List UInt8}{i:Nat}(h:JF l i=true):(JX l).gen.toNat≤4611686018427387904:=by
 simp only[JF,Bool.and_eq_true,decide_eq_true_eq]at h;exact h.2.2.1
theorem bw1{l:List UInt8}{i:Nat}(h:JF l i=true):1≤(JX l).first.toNat∧(JX l).first.toNat≤4611686018427387904∧(JX l).dropped.toNat≤4611686018427387904:=by
 simp only[JF,Bool.and_eq_true,decide_eq_true_eq]at h;exact⟨h.2.2.2.2.1,h.2.2.2.2.2.1,h.2.2.2.2.2.2.1⟩
theorem bk2(D:Dk):∀i,XU D i≤4611686018427387904
 |0=>by simp[XU]
 |i+1=>by
  have ih:=bk2 D i;simp only[XU];split
  ·rename_i h;have:=bc6 h;omega
  ·exact ih
theorem aS5(D:Dk)(hd:6≤D.length∧D.length≤65536):Triple Tryz.prog 122 [.c (.p 0 0 0 0),iv .i64 0] (dkH D) 3 (iv .i64 (XU D 2)) []:=by
 refine Jc Ja Tryz.func122 rfl Tryz.call122 rfl ?_;intro ρ w hH;conv=>whnf
 refine Jz Ja (G:=Nat×Nat) 0 [] (fun g=>[(6,iv .i64 g.1),(5,iv .i64 g.2)]) (fun _=>[]) (fun g=>g.1≤2∧XU D g.1=g.2) (fun g=>2-g.1) ?_;conv=>whnf
 refine⟨⟨(0,0),⟨Nat.zero_le _,rfl⟩, ?_⟩, ?_⟩
 ·conv=>whnf
  exact JE
 rintro ⟨i,m⟩ ⟨hi,hm⟩ ρ1 t1 hρ1
 have hi:i≤2:=hi;have hm:XU D i=m:=hm;conv=>whnf
 refine⟨fun hc=>?_,fun hc=>?_⟩
 rotate_left
 ·have hie:i=2:=by have:=of_decide_eq_false hc;omega
  subst hie;rw[hm];conv=>whnf
  exact JE
 have h:i<2:=by have:=of_decide_eq_true hc;omega
 have hst:XU D (i+1)=if JF (Qi D i) i then max (XU D i) (JX (Qi D i)).gen.toNat else XU D i:=rfl
 rw[hm]at hst;have hse:=au9 D i (by omega) hd.2;have hal:=ah5 D i;have hml:=bk2 D i;generalize Qi D i=l at hst hse hal ⊢;conv=>whnf
 refine Jb hse rfl rfl ?_;conv=>whnf
 refine Qs ?_;conv=>whnf
 refine Jv Ja 128 rfl rfl rfl ?_;conv=>whnf
 refine Jp (l':=l) Ja rfl rfl rfl rfl rfl (by simp) (by rw[hal];simp) (by decide) ?_;conv=>whnf
 refine Jm (l:=l) Ja rfl rfl rfl rfl rfl hal.symm ?_;conv=>whnf
 refine Jb (al2 l hal i (by omega)) rfl rfl ?_;conv=>whnf
 refine Qs ?_;conv=>whnf
 cases hb:JF l i with
 |false =>
  refine nF fun hc=>?_;rw[hb]at hst;conv=>whnf
  refine⟨_,wO, ?_⟩;refine⟨(i+1,m),⟨h,hst⟩,by show 2-(i+1)<2-i;omega, ?_⟩;conv=>whnf
  refine⟨rfl, ?_⟩;conv=>whnf
  exact JE
 |true =>
  refine nT fun hc=>?_;rw[hb,if_pos rfl]at hst;have hgl:=bc6 hb;conv=>whnf
  refine Jm (l:=l) Ja rfl rfl rfl rfl rfl hal.symm ?_;conv=>whnf
  refine Jb (WE l hal 8 8 (by decide)) rfl rfl ?_;rw[show JJ (Jd l 8 (8+8))=(JX l).gen from rfl];conv=>whnf
  refine cs ?_;conv=>whnf
  refine⟨((JX l).gen.toNat:Int),wO, ?_⟩;have hmx:max (m:Int) ((JX l).gen.toNat:Int)=((max m (JX l).gen.toNat:Nat):Int):=by omega
  conv=>whnf
  dsimp only;rw[hmx];conv=>whnf
  refine⟨_,wO, ?_⟩;refine⟨(i+1,max m (JX l).gen.toNat),⟨h,hst⟩,by show 2-(i+1)<2-i;omega, ?_⟩;conv=>whnf
  refine⟨rfl, ?_⟩;conv=>whnf
  exact JE
theorem bF7(D:Dk)(hd:6≤D.length∧D.length≤65536)(m0:Nat)(hs:(YF D D.length).2.2=m0)(hn:m0≤4611686018427387904):Triple Tryz.prog 121 [.c (.p 0 0 0 0),iv .i64 0,iv .i64 D.length] (dkH D) 3 (iv .i64 ((m0+1:Nat):Int)) []:=by
 refine Jc Ja Tryz.func121 rfl Tryz.call121 rfl ?_;intro ρ w hH;conv=>whnf
 refine Jz Ja (G:=Nat×Nat) 0 [] (fun g=>[(8,iv .i64 g.1),(7,iv .i64 g.2)]) (fun _=>[]) (fun g=>g.1≤D.length∧(YF D g.1).2.2=g.2) (fun g=>D.length-g.1) ?_;conv=>whnf
 refine⟨⟨(0,0),⟨Nat.zero_le _,rfl⟩, ?_⟩, ?_⟩
 ·conv=>whnf
  exact JE
 rintro ⟨i,m⟩ ⟨hi,hm⟩ ρ1 t1 hρ1
 have hi:i≤D.length:=hi;have hm:(YF D i).2.2=m:=hm;conv=>whnf
 refine⟨fun hc=>?_,fun hc=>?_⟩
 rotate_left
 ·have hie:i=D.length:=by have:=of_decide_eq_false hc;omega
  have hmm:m=m0:=by rw[←hm,hie,hs]
  subst hmm;conv=>whnf
  refine⟨((m+1:Nat):Int),by dsimp only;rw[show(m:Int)+1=((m+1:Nat):Int)from by omega];exact wO, ?_⟩;conv=>whnf
  exact JE
 have h:i<D.length:=by have:=of_decide_eq_true hc;omega
 have hst:(YF D (i+1)).2.2=(Yc (Qi D i) i (YF D i)).2.2:=rfl;have hse:=au9 D i (by omega) hd.2;have hal:=ah5 D i;generalize Qi D i=l at hst hse hal ⊢;have g8:=bF5 l hal 8 (by decide);have g16:=bF5 l hal 16 (by decide);conv=>whnf
 refine Jb hse rfl rfl ?_;conv=>whnf
 refine Qs ?_;conv=>whnf
 refine Jv Ja 128 rfl rfl rfl ?_;conv=>whnf
 refine Jp (l':=l) Ja rfl rfl rfl rfl rfl (by simp) (by rw[hal];simp) (by decide) ?_;conv=>whnf
 by_cases c2:2≤i
 ·have n2:¬(i:Int)<2:=by omega
  have p2:(2:Int)≤(i:Int):=by omega
  refine⟨fun hc=>absurd (show(i:Int)<2 from of_decide_eq_true hc) n2,fun hc=>?_⟩;conv=>whnf
  refine⟨fun hc=>?_,fun hc=>absurd p2 (show ¬(2:Int)≤(i:Int)from of_decide_eq_false hc)⟩;conv=>whnf
  refine Jm (l:=l) Ja rfl rfl rfl rfl rfl hal.symm ?_;conv=>whnf
  refine Jb (ae5 l hal) rfl rfl ?_;conv=>whnf
  refine cs ?_;conv=>whnf
  cases hsl:Qu 2 l 22 with
  |true =>
   have hst:(YF D (i+1)).2.2=max m (JJ (Jd l 8 (8+4))).toNat:=by rw[hst];simp[Yc,c2,hsl,hm]
   refine nT fun hc=>?_;conv=>whnf
   refine Jm (l:=l) Ja rfl rfl rfl rfl rfl hal.symm ?_;conv=>whnf
   refine Jb (WE l hal 8 4 (by decide)) rfl rfl ?_;conv=>whnf
   refine cs ?_;conv=>whnf
   refine⟨((JJ (Jd l 8 (8+4))).toNat:Int),wO, ?_⟩;have hmx:max (m:Int) ((JJ (Jd l 8 (8+4))).toNat:Int)=((max m (JJ (Jd l 8 (8+4))).toNat:Nat):Int):=by omega
   conv=>whnf
   dsimp only;rw[hmx];conv=>whnf
   refine⟨_,wO, ?_⟩;refine⟨(i+1,max m (JJ (Jd l 8 (8+4))).toNat),⟨h,hst⟩,by show D.length-(i+1)<D.length-i;omega, ?_⟩;conv=>whnf
   refine⟨rfl, ?_⟩;conv=>whnf
   exact JE
  |false =>
   have hst:(YF D (i+1)).2.2=m:=by rw[hst];simp[Yc,c2,hsl,hm]
   refine nF fun hc=>?_;conv=>whnf
   refine⟨_,wO, ?_⟩;refine⟨(i+1,m),⟨h,hst⟩,by show D.length-(i+1)<D.length-i;omega, ?_⟩;conv=>whnf
   refine⟨rfl, ?_⟩;conv=>whnf
   exact JE
 ·have n2:(i:Int)<2:=by omega
  have p2:¬(2:Int)≤(i:Int):=by omega
  refine⟨fun hc=>?_,fun hc=>absurd n2 (show ¬(i:Int)<2 from of_decide_eq_false hc)⟩;conv=>whnf
  refine Jm (l:=l) Ja rfl rfl rfl rfl rfl hal.symm ?_;conv=>whnf
  refine Jb (al2 l hal i (by omega)) rfl rfl ?_;conv=>whnf
  refine cs ?_;conv=>whnf
  cases hb:JF l i with
  |true =>
   have hst:(YF D (i+1)).2.2=max m (JJ (Jd l 16 (16+4))).toNat:=by
    rw[hst];simp only[Yc,if_neg c2,hb,if_pos,ite_true];rw[←hm];split <;> rfl
   refine nT fun hc=>?_;conv=>whnf
   refine Jm (l:=l) Ja rfl rfl rfl rfl rfl hal.symm ?_;conv=>whnf
   refine Jb (WE l hal 16 4 (by decide)) rfl rfl ?_;conv=>whnf
   refine cs ?_;conv=>whnf
   refine⟨((JJ (Jd l 16 (16+4))).toNat:Int),wO, ?_⟩;have hmx:max (m:Int) ((JJ (Jd l 16 (16+4))).toNat:Int)=((max m (JJ (Jd l 16 (16+4))).toNat:Nat):Int):=by omega
   conv=>whnf
   dsimp only;rw[hmx];conv=>whnf
   refine⟨fun hc=>absurd (show(2:Int)≤(i:Int)from of_decide_eq_true hc) p2,fun hc=>?_⟩;conv=>whnf
   refine⟨_,wO, ?_⟩;refine⟨(i+1,max m (JJ (Jd l 16 (16+4))).toNat),⟨h,hst⟩,by show D.length-(i+1)<D.length-i;omega, ?_⟩;conv=>whnf
   refine⟨rfl, ?_⟩;conv=>whnf
   exact JE
  |false =>
   have hst:(YF D (i+1)).2.2=m:=by rw[hst];simp[Yc,c2,hb,hm]
   refine nF fun hc=>?_;conv=>whnf
   refine⟨fun hc=>absurd (show(2:Int)≤(i:Int)from of_decide_eq_true hc) p2,fun hc=>?_⟩;conv=>whnf
   refine⟨_,wO, ?_⟩;refine⟨(i+1,m),⟨h,hst⟩,by show D.length-(i+1)<D.length-i;omega, ?_⟩;conv=>whnf
   refine⟨rfl, ?_⟩;conv=>whnf
   exact JE
theorem uvw(q:Nat)(h:q<9223372036854775808):IntKind.u64.wrap (q:Int)=((UInt64.ofNat q).toNat:Int):=by
 rw[Ym q (by omega),UInt64.toNat_ofNat_of_lt' (show q<18446744073709551616 by omega)]
theorem cA2(gen sess first gone:Nat)(h:gen≤4611686018427387904∧sess≤4611686018427387904∧first≤4611686018427387904∧gone≤4611686018427387904)(link:List UInt8)(hk:link.length=8) :
 Triple Tryz.prog 126 [iv .i64 gen,iv .i64 sess,iv .i64 first,iv .i64 gone,YC link] [] 0 (YQ (ab4 ⟨UInt64.ofNat gen,UInt64.ofNat first,UInt64.ofNat gone,UInt64.ofNat sess,link⟩)) []:=by
 obtain⟨L0,h0⟩:∃L,L=YN:=⟨_,rfl⟩;obtain⟨L1,h1⟩:∃L,L=Qh L0 0 Vk:=⟨_,rfl⟩;obtain⟨L2,h2⟩:∃L,L=Qh L1 8 (JW 8 (UInt64.ofNat gen)):=⟨_,rfl⟩;obtain⟨L3,h3⟩:∃L,L=Qh L2 16 (JW 4 (UInt64.ofNat sess)):=⟨_,rfl⟩;obtain⟨L4,h4⟩:∃L,L=Qh L3 20 (JW 8 (UInt64.ofNat first)):=⟨_,rfl⟩;obtain⟨L5,h5⟩:∃L,L=Qh L4 28 (JW 8 (UInt64.ofNat gone)):=⟨_,rfl⟩;obtain⟨L6,h6⟩:∃L,L=Qh L5 36 link:=⟨_,rfl⟩;have l0:L0.length=128:=by rw[h0];rfl
 have l1:L1.length=128:=by rw[h1];exact Qn l0 (by decide)
 have l2:L2.length=128:=by rw[h2];exact Qn l1 (by rw[JU];decide)
 have l3:L3.length=128:=by rw[h3];exact Qn l2 (by rw[JU];decide)
 have l4:L4.length=128:=by rw[h4];exact Qn l3 (by rw[JU];decide)
 have l5:L5.length=128:=by rw[h5];exact Qn l4 (by rw[JU];decide)
 have l6:L6.length=128:=by rw[h6];exact Qn l5 (by omega)
 have hb:ab4 ⟨UInt64.ofNat gen,UInt64.ofNat first,UInt64.ofNat gone,UInt64.ofNat sess,link⟩=Wd L6 44 (JT 1 L6 44):=by rw[h6,h5,h4,h3,h2,h1,h0];rfl
 have hd:=Qt 1 L6 44;have l7:(Wd L6 44 (JT 1 L6 44)).length=128:=au8 l6 hd (by decide);rw[hb];refine Jc Ja Tryz.func126 rfl Tryz.call126 rfl ?_;intro ρ w hH;conv=>whnf
 refine Jv Ja 128 rfl rfl rfl ?_;conv=>whnf
 refine GA Ja rfl rfl rfl rfl ?_;conv=>whnf
 refine Jv Ja 128 rfl rfl rfl ?_;rw[show(List.replicate 128 (0:UInt8))=L0 from h0.symm];conv=>whnf
 refine Jp (l':=L0) Ja rfl rfl rfl rfl rfl l0.symm rfl (by decide) ?_;conv=>whnf
 refine Jk (n:=128) (l:=L0) Ja rfl rfl rfl rfl rfl rfl ⟨8,rfl,by decide,0,rfl,by decide, ?_⟩;conv=>whnf
 refine KA (n:=8) (l:=L0) (l':=Vk) Ja rfl rfl rfl rfl rfl rfl rfl rfl rfl (by rw[l0];decide) rfl rfl ?_;rw[show Vk.take 8=Vk from rfl,←h1];conv=>whnf
 refine Jm (l:=L1) Ja rfl rfl rfl rfl rfl l1.symm ?_;conv=>whnf
 refine⟨_,uvw gen (by omega), ?_⟩;conv=>whnf
 refine Jb (az9 L1 l1 8 8 (by decide) (by decide) (UInt64.ofNat gen)) rfl rfl ?_;rw[←h2];conv=>whnf
 refine cs ?_;conv=>whnf
 refine Jp (l':=L2) Ja rfl rfl rfl rfl rfl l1.symm (by rw[l1,l2]) (by decide) ?_;conv=>whnf
 refine Jm (l:=L2) Ja rfl rfl rfl rfl rfl l2.symm ?_;conv=>whnf
 refine⟨_,uvw sess (by omega), ?_⟩;conv=>whnf
 refine Jb (az9 L2 l2 16 4 (by decide) (by decide) (UInt64.ofNat sess)) rfl rfl ?_;rw[←h3];conv=>whnf
 refine cs ?_;conv=>whnf
 refine Jp (l':=L3) Ja rfl rfl rfl rfl rfl l2.symm (by rw[l2,l3]) (by decide) ?_;conv=>whnf
 refine Jm (l:=L3) Ja rfl rfl rfl rfl rfl l3.symm ?_;conv=>whnf
 refine⟨_,uvw first (by omega), ?_⟩;conv=>whnf
 refine Jb (az9 L3 l3 20 8 (by decide) (by decide) (UInt64.ofNat first)) rfl rfl ?_;rw[←h4];conv=>whnf
 refine cs ?_;conv=>whnf
 refine Jp (l':=L4) Ja rfl rfl rfl rfl rfl l3.symm (by rw[l3,l4]) (by decide) ?_;conv=>whnf
 refine Jm (l:=L4) Ja rfl rfl rfl rfl rfl l4.symm ?_;conv=>whnf
 refine⟨_,uvw gone (by omega), ?_⟩;conv=>whnf
 refine Jb (az9 L4 l4 28 8 (by decide) (by decide) (UInt64.ofNat gone)) rfl rfl ?_;rw[←h5];conv=>whnf
 refine cs ?_;conv=>whnf
 refine Jp (l':=L5) Ja rfl rfl rfl rfl rfl l4.symm (by rw[l4,l5]) (by decide) ?_;conv=>whnf
 refine Jk (n:=128) (l:=L5) Ja rfl rfl rfl rfl rfl rfl ⟨44,rfl,by decide,36,rfl,by decide, ?_⟩;conv=>whnf
 refine KA (n:=8) (l:=L5) (l':=link) Ja rfl rfl rfl rfl rfl rfl rfl rfl rfl (by rw[l5];decide) rfl (by rw[hk];rfl) ?_;rw[show link.take 8=link from List.take_of_length_le (by omega),←h6];conv=>whnf
 refine Jm (l:=L6) Ja rfl rfl rfl rfl rfl l6.symm ?_;conv=>whnf
 refine Jm (l:=L6) Ja rfl rfl rfl rfl rfl l6.symm ?_;conv=>whnf
 refine Jb (bc5 L6 l6) rfl rfl ?_;generalize JT 1 L6 44=d at hd l7 ⊢;conv=>whnf
 refine cs ?_;conv=>whnf
 refine Jb (bg0 L6 l6 44 (by decide) d hd) rfl rfl ?_;generalize Wd L6 44 d=L at l7 ⊢;conv=>whnf
 refine cs ?_;conv=>whnf
 refine Jp (l':=L) Ja rfl rfl rfl rfl rfl l0.symm (by rw[l7,l0]) (by decide) ?_;conv=>whnf
 refine⟨Js L,⟨(Yy l7).1,(by rw[Jo,l7]),rfl⟩, ?_⟩;conv=>whnf
 exact cl
theorem aF2(q sess:Nat)(h:q≤4611686018427387904∧sess≤4611686018427387904)(flags:UInt8)(link text:List UInt8)(hk:link.length=8)(ht:text.length≤90) :
 Triple Tryz.prog 137 [iv .i64 q,iv .i64 sess,bt flags,YC link,YC text] [] 0 (YQ (YA q sess flags link text).l) []:=by
 rw[aW0 q sess flags hk ht];obtain⟨L0,h0⟩:∃L,L=YN:=⟨_,rfl⟩;obtain⟨L1,h1⟩:∃L,L=Qh L0 0 (JW 8 (UInt64.ofNat q)):=⟨_,rfl⟩;obtain⟨L2,h2⟩:∃L,L=Qh L1 8 (JW 4 (UInt64.ofNat sess)):=⟨_,rfl⟩;obtain⟨L3,h3⟩:∃L,L=(L2.set 12 flags).set 13 (UInt8.ofNat text.length):=⟨_,rfl⟩;obtain⟨L4,h4⟩:∃L,L=Qh L3 14 link:=⟨_,rfl⟩;obtain⟨L5,h5⟩:∃L,L=Qh L4 30 text:=⟨_,rfl⟩;have l0:L0.length=128:=by rw[h0];rfl
 have l1:L1.length=128:=by rw[h1];exact Qn l0 (by rw[JU];decide)
 have l2:L2.length=128:=by rw[h2];exact Qn l1 (by rw[JU];decide)
 have l3:L3.length=128:=by rw[h3,List.length_set,List.length_set,l2]
 have l4:L4.length=128:=by rw[h4];exact Qn l3 (by omega)
 have l5:L5.length=128:=by rw[h5];exact Qn l4 (by omega)
 have hb:ae4 (UInt64.ofNat q) (UInt64.ofNat sess) flags link text=Wd L5 22 (JT 2 L5 22):=by rw[h5,h4,h3,h2,h1,h0];rfl
 have hd:=Qt 2 L5 22;have l7:(Wd L5 22 (JT 2 L5 22)).length=128:=au8 l5 hd (by decide);rw[hb];refine Jc Ja Tryz.func137 rfl Tryz.call137 rfl ?_;intro ρ w hH;conv=>whnf
 refine Jv Ja 128 rfl rfl rfl ?_;conv=>whnf
 refine GA Ja rfl rfl rfl rfl ?_;conv=>whnf
 refine Jv Ja 128 rfl rfl rfl ?_;rw[show(List.replicate 128 (0:UInt8))=L0 from h0.symm];conv=>whnf
 refine Jp (l':=L0) Ja rfl rfl rfl rfl rfl l0.symm rfl (by decide) ?_;conv=>whnf
 refine Jm (l:=L0) Ja rfl rfl rfl rfl rfl l0.symm ?_;conv=>whnf
 refine⟨_,uvw q (by omega), ?_⟩;conv=>whnf
 refine Jb (az9 L0 l0 0 8 (by decide) (by decide) (UInt64.ofNat q)) rfl rfl ?_;rw[←h1];conv=>whnf
 refine cs ?_;conv=>whnf
 refine Jp (l':=L1) Ja rfl rfl rfl rfl rfl l0.symm (by rw[l0,l1]) (by decide) ?_;conv=>whnf
 refine Jm (l:=L1) Ja rfl rfl rfl rfl rfl l1.symm ?_;conv=>whnf
 refine⟨_,uvw sess (by omega), ?_⟩;conv=>whnf
 refine Jb (az9 L1 l1 8 4 (by decide) (by decide) (UInt64.ofNat sess)) rfl rfl ?_;rw[←h2];conv=>whnf
 refine cs ?_;conv=>whnf
 refine Jp (l':=L2) Ja rfl rfl rfl rfl rfl l1.symm (by rw[l1,l2]) (by decide) ?_;conv=>whnf
 refine Qk Ja rfl rfl rfl rfl rfl rfl 12 rfl (by decide) ?_;conv=>whnf
 refine⟨by show 12<L2.length;omega,flags,rfl, ?_⟩;conv=>whnf
 refine⟨((UInt8.ofNat text.length).toNat:Int),by rw[ao4,UInt8.toNat_ofNat'];show(text.length:Int)%256=_;omega, ?_⟩;conv=>whnf
 refine Qk Ja rfl rfl rfl rfl rfl rfl 13 rfl (by decide) ?_;conv=>whnf
 refine⟨by show 13<(L2.set 12 flags).length;rw[List.length_set];omega,UInt8.ofNat text.length,rfl, ?_⟩;have e3:((Qr (some 128) L2).setXs ((Qr (some 128) L2).xs.set 12 flags)).setXs (((Qr (some 128) L2).setXs ((Qr (some 128) L2).xs.set 12 flags)).xs.set 13 (UInt8.ofNat text.length))=Qr (some 128) L3:=by rw[h3];rfl
 have e3':=congrArg (fun A=>some (true,SO.arr A)) e3;conv=>whnf
 refine Jk (n:=128) (l:=L3) (own:=true) Ja rfl rfl rfl rfl rfl e3' ⟨22,rfl,by decide,14,rfl,by decide, ?_⟩;conv=>whnf
 refine KA (n:=8) (l:=L3) (fx:=some 128) (l':=link) Ja rfl rfl rfl rfl rfl rfl rfl rfl e3' (by rw[l3];decide) rfl (by rw[hk];rfl) ?_;rw[show link.take 8=link from List.take_of_length_le (by omega),←h4];conv=>whnf
 refine Jk (n:=128) (l:=L4) Ja rfl rfl rfl rfl rfl rfl ⟨120,rfl,by decide,30,rfl,by decide, ?_⟩;conv=>whnf
 refine KA (n:=text.length) (l:=L4) (l':=text) Ja rfl rfl rfl rfl rfl rfl rfl rfl rfl (by rw[l4];decide) rfl (by show min 90 _=_;omega) ?_;rw[show text.take text.length=text from List.take_length,←h5];conv=>whnf
 refine Jm (l:=L5) Ja rfl rfl rfl rfl rfl l5.symm ?_;conv=>whnf
 refine Jm (l:=L5) Ja rfl rfl rfl rfl rfl l5.symm ?_;conv=>whnf
 refine Jb (aS4 L5 l5) rfl rfl ?_;generalize JT 2 L5 22=d at hd l7 ⊢;conv=>whnf
 refine cs ?_;conv=>whnf
 refine Jb (bg0 L5 l5 22 (by decide) d hd) rfl rfl ?_;generalize Wd L5 22 d=L at l7 ⊢;conv=>whnf
 refine cs ?_;conv=>whnf
 refine Jp (l':=L) Ja rfl rfl rfl rfl rfl l0.symm (by rw[l7,l0]) (by decide) ?_;conv=>whnf
 refine⟨Js L,⟨(Yy l7).1,(by rw[Jo,l7]),rfl⟩, ?_⟩;conv=>whnf
 exact cl
end Go.Proofs
