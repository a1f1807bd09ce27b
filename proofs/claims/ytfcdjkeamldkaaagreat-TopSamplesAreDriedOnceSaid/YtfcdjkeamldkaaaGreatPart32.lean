/-
  A part of the proof that a law answers true: lemmas of a symbolic walk, plain functions, or contracts of the functions walked (QD, QE). Conditions: none.
-/
import Derived.Test.YtfcdjkeamldkaaaGreatPart31
set_option maxRecDepth 100000
set_option linter.unusedVariables false
set_option linter.unusedSimpArgs false
namespace Go.Proofs
open Go.Sx
structure Xo where
 link:List UInt8
 text:List UInt8
 f:Nat
 recs:List Xk
def aw7(b:UInt8):Bool:=decide (b=1)||decide (b=3)
def aP9(b:UInt8):Bool:=decide (b=2)||decide (b=3)
def Qj(s:List UInt8)(q:Nat)(g:Xo):Bool :=
 !Qu 2 s 22||(!decide ((JJ (Jd s 0 8)).toNat=q)||(!decide (Jd s 14 22=g.link)||(decide (90<(Jj s 13).toNat)||(decide (3<(Jj s 12).toNat) || !(aw7 (Jj s 12)==decide (g.f=0))))))
def Us(s:List UInt8)(g:Xo):Xo :=
 if aP9 (Jj s 12)then⟨Jd s 22 30,[],0,g.recs++[⟨g.text++Jd s 30 (30+(Jj s 13).toNat),g.f+1,Jd s 22 30⟩]⟩
 else⟨Jd s 22 30,g.text++Jd s 30 (30+(Jj s 13).toNat),g.f+1,g.recs⟩
def ae6(D:Dk)(n first:Nat):Nat→Nat→Xo→Xo
 |0,_,g=>g
 |m+1,k,g=>if Qj (Qi D (2+(first+k)%(n-2))) (first+k) g then g else ae6 D n first m (k+1) (Us (Qi D (2+(first+k)%(n-2))) g)
theorem aF3{s:List UInt8}{q:Nat}{g:Xo}{beg:Bool}(hb:aw7 (Jj s 12)=beg)(h:(beg != decide (g.f=0))=true):Qj s q g=true:=by
 have:(aw7 (Jj s 12)==decide (g.f=0))=false:=by rw[hb];cases beg <;> cases hd:decide (g.f=0) <;> rw[hd]at h <;> first|rfl|exact absurd h (by decide)
 unfold Qj;rw[this];simp
theorem aQ0{s:List UInt8}{q:Nat}{g:Xo}{beg:Bool}(hb:aw7 (Jj s 12)=beg)(h:(beg != decide (g.f=0))=false)(c3:Qu 2 s 22=true)(c1:(JJ (Jd s 0 8)).toNat=q)(c2:Jd s 14 22=g.link)
 (c4:¬90<(Jj s 13).toNat) (c5:¬3<(Jj s 12).toNat):Qj s q g=false:=by
 have:(aw7 (Jj s 12)==decide (g.f=0))=true:=by rw[hb];cases beg <;> cases hd:decide (g.f=0) <;> rw[hd]at h <;> first|rfl|exact absurd h (by decide)
 unfold Qj;rw[this,c3,decide_eq_true c1,decide_eq_true c2,decide_eq_false c4,decide_eq_false c5];rfl
structure XoI (D:Dk) (first:Nat) (R:List Xk) (k:Nat) (g:Xo):Prop where
 le:k≤D.length-2
 text:g.text.length≤90*k
 f:g.f≤k
 recs:g.recs.length≤k
 fin:(ae6 D D.length first (D.length-2-k) k g).recs=R
theorem XoI.next{D:Dk}{first:Nat}{R:List Xk}{k:Nat}{g:Xo}{s:List UInt8}(h:k<D.length-2)(htx:g.text.length≤90*k)(hf:g.f≤k)(hrc:g.recs.length≤k)(h13:(Jj s 13).toNat≤90)
 (hfin:(ae6 D D.length first (D.length-2-(k+1)) (k+1) (Us s g)).recs=R):XoI D first R (k+1) (Us s g):=by
 have hsub:(Jd s 30 (30+(Jj s 13).toNat)).length≤90:=by rw[Jd,List.length_take];omega
 refine⟨h, ?_, ?_, ?_,hfin⟩ <;> (unfold Us;split) <;> simp only[List.length_append,List.length_nil,List.length_cons] <;> omega
def aj3(D:Dk)(x:Xl):List Xk:=(ae6 D D.length x.first (D.length-2) 0 ⟨x.link,[],0,[]⟩).recs
abbrev cK8(n:Nat)(x:Xl):List SC:=[.p 0 0 0 0, .v (.int .i64 0), .v (.int .i64 n), .v (.int .i64 x.gen), .v (.int .i64 x.sess), .v (.int .i64 x.first), .v (.int .i64 x.gone),WI x.link, .v Qf]
theorem cc6(D:Dk)(hd:6≤D.length∧D.length≤65536)(x:Xl)(hf:x.first≤1000) :
 Triple Tryz.prog 130 [.c (.p 3 0 0 0)] ([(3,true, .cells (cK8 D.length x)),(0,false,YE 1 D.length),(1,false,Vc 2 D),(2,false,Vv D)]) 4 (.tup [])
  [(3,true, .cells (xlC D.length x 4 (aj3 D x).length)),(4,true, .arr (aXk (aj3 D x)))]:=by
 refine Jc Ja Tryz.func130 rfl Tryz.call130 rfl ?_;intro ρ w hH;conv=>whnf
 refine Jz Ja (G:=Nat×Xo) 1 [] (fun g=>[(5,iv .i64 g.1),(2,YC g.2.link),(3,YC g.2.text),(4,iv .i64 g.2.f)])
  (fun g=>[(3,true, .cells (xlC D.length x 4 g.2.recs.length)),(4,true, .arr (aXk g.2.recs))]) (fun g=>XoI D x.first (aj3 D x) g.1 g.2) (fun g=>D.length-2-g.1) ?_
 conv=>whnf
 refine⟨⟨(0,⟨x.link,[],0,[]⟩),⟨Nat.zero_le _,Nat.le_refl _,Nat.le_refl _,Nat.le_refl _,rfl⟩, ?_⟩, ?_⟩
 ·conv=>whnf
  exact JE
 generalize aj3 D x=R
 rintro ⟨k,g⟩ hI ρ1 t1 hρ1
 have hI:XoI D x.first R k g:=hI;obtain⟨hk,htx,hgf,hrc,hfin⟩:=hI;conv=>whnf
 refine⟨((D.length-2:Nat):Int),by rw[show(D.length:Int)-2=((D.length-2:Nat):Int)from by omega];exact wO, ?_⟩;conv=>whnf
 refine⟨fun hc=>?_,fun hc=>?_⟩
 rotate_left
 ·have hke:D.length-2-k=0:=by have:=of_decide_eq_false hc;omega
  have hR:R=g.recs:=by
   rw[←hfin];simp[hke,ae6]
  rw[hR];conv=>whnf
  exact JE
 have h:k<D.length-2:=by have:=of_decide_eq_true hc;omega
 conv=>whnf
 refine⟨((x.first+k:Nat):Int),by dsimp only;rw[show(x.first:Int)+(k:Int)=((x.first+k:Nat):Int)from by omega];exact wO, ?_⟩;conv=>whnf
 refine⟨fun hc=>?_,fun hc=>?_⟩
 ·exact absurd (of_decide_eq_true hc) (by omega)
 have hfo:ae6 D D.length x.first (D.length-2-k) k g=if Qj (Qi D (2+(x.first+k)%(D.length-2))) (x.first+k) g then g else ae6 D D.length x.first (D.length-2-(k+1)) (k+1) (Us (Qi D (2+(x.first+k)%(D.length-2))) g):=by
  rw[show D.length-2-k=(D.length-2-(k+1))+1 from by omega];rfl
 rw[hfo]at hfin;have hm:=Nat.mod_lt (x.first+k) (show 0<D.length-2 by omega);have hslt:=bF8 D D.length hd x g.recs (x.first+k) (by omega);have hse:=au9 D (2+(x.first+k)%(D.length-2)) (by omega) hd.2;have hsl:=ah5 D (2+(x.first+k)%(D.length-2));generalize hq:x.first+k=q at hfin hslt hse hsl ⊢;generalize Qi D (2+q%(D.length-2))=s at hfin hse hsl ⊢;conv=>whnf
 refine Jb hslt rfl rfl ?_;conv=>whnf
 refine Qs ?_;conv=>whnf
 refine Jb hse rfl rfl ?_;conv=>whnf
 refine Qs ?_;conv=>whnf
 refine Jv Ja 128 rfl rfl rfl ?_;conv=>whnf
 refine Jp (l':=s) Ja rfl rfl rfl rfl rfl (by simp) (by rw[hsl];simp) (by decide) ?_;conv=>whnf
 refine Jm (l:=s) Ja rfl rfl rfl rfl rfl hsl.symm ?_;conv=>whnf
 refine Jb (ae5 s hsl) rfl rfl ?_;conv=>whnf
 refine cs ?_;have hb12:∀hy,(Qr (some 128) s).xs[12]'hy=Jj s 12:=fun hy=>aF0 s 12 hy;have hb13:∀hy,(Qr (some 128) s).xs[13]'hy=Jj s 13:=fun hy=>aF0 s 13 hy;have hz:=UX (Jj s 13);have hu:∀c:UInt8,(((Jj s 12).toNat:Int)==(c.toNat:Int))=decide (Jj s 12=c):=fun c=>ar7 _ c;have hq':q≤70000:=by omega
 conv=>whnf
 refine Qk Ja rfl rfl rfl rfl rfl rfl 12 rfl (by decide) ?_;conv=>whnf
 refine⟨by show 12<s.length;omega, ?_⟩;rw[hb12];conv=>whnf
 by_cases b1:Jj s 12=1
 ·have hv1:(((Jj s 12).toNat:Int)==1)=true:=(hu 1).trans (by rw[b1];rfl);have hv2:(((Jj s 12).toNat:Int)==2)=false:=(hu 2).trans (by rw[b1];rfl);have hv3:(((Jj s 12).toNat:Int)==3)=false:=(hu 3).trans (by rw[b1];rfl);have hbeg:aw7 (Jj s 12)=true:=by rw[b1];rfl
  have hen:aP9 (Jj s 12)=false:=by rw[b1];rfl
  refine⟨fun hc=>?_,fun hc=>absurd (show(((Jj s 12).toNat:Int)==1)=false from hc) (by rw[hv1];decide)⟩;conv=>whnf
  refine Qk Ja rfl rfl rfl rfl rfl rfl 12 rfl (by decide) ?_;conv=>whnf
  refine⟨by show 12<s.length;omega, ?_⟩;rw[hb12];conv=>whnf
  refine⟨fun hc=>absurd (show(((Jj s 12).toNat:Int)==2)=true from hc) (by rw[hv2];decide),fun hc=>?_⟩;conv=>whnf
  refine Qk Ja rfl rfl rfl rfl rfl rfl 12 rfl (by decide) ?_;conv=>whnf
  refine⟨by show 12<s.length;omega, ?_⟩;rw[hb12];conv=>whnf
  rw[hv3,hv1];cases c3:Qu 2 s 22 with
  |false =>
   have hbad:Qj s q g=true:=by simp[Qj,c3]
   conv=>whnf
   refine nT fun hc=>?_;conv=>whnf
   have hR:R=g.recs:=by
    rw[←hfin];rw[if_pos hbad]
   rw[hR];conv=>whnf
   exact JE
  |true =>
   conv=>whnf
   refine nF fun hc=>?_;conv=>whnf
   refine Jm (l:=s) Ja rfl rfl rfl rfl rfl hsl.symm ?_;conv=>whnf
   refine Jb (WE s hsl 0 8 (by decide)) rfl rfl ?_;rw[show JJ (Jd s 0 (0+8))=JJ (Jd s 0 8)from rfl];conv=>whnf
   refine cs ?_;conv=>whnf
   refine⟨(q:Int),Ym q (by omega), ?_⟩;conv=>whnf
   refine⟨fun hc=>?_,fun hc=>?_⟩
   ·have c1:¬(JJ (Jd s 0 8)).toNat=q:=by
     intro e;have hc:(((JJ (Jd s 0 8)).toNat:Int) != (q:Int))=true:=hc;simp[e]at hc
    have hbad:Qj s q g=true:=by simp[Qj,c1]
    conv=>whnf
    have hR:R=g.recs:=by
     rw[←hfin];rw[if_pos hbad]
    rw[hR];conv=>whnf
    exact JE
   have c1:(JJ (Jd s 0 8)).toNat=q:=by
    have hc:(((JJ (Jd s 0 8)).toNat:Int) != (q:Int))=false:=hc;simp at hc;omega
   conv=>whnf
   refine Jk (n:=128) (l:=s) Ja rfl rfl rfl rfl rfl rfl ⟨22,rfl,by decide,14,rfl,by decide, ?_⟩;conv=>whnf
   refine Ju (fx:=some 128) (l:=s) Ja rfl rfl rfl rfl rfl rfl (by show 14+8≤_;omega) ?_;rw[show(s.drop 14).take (JV 22 14)=Jd s 14 22 from rfl];conv=>whnf
   refine ag4 (l:=Jd s 14 22) (l':=g.link) rfl rfl rfl ?_;conv=>whnf
   refine⟨fun hc=>?_,fun hc=>?_⟩
   ·have c2:¬Jd s 14 22=g.link:=by
     intro e;have hc:(!decide (Jd s 14 22=g.link))=true:=hc;simp[e]at hc
    have hbad:Qj s q g=true:=by simp[Qj,c2]
    conv=>whnf
    have hR:R=g.recs:=by
     rw[←hfin];rw[if_pos hbad]
    rw[hR];conv=>whnf
    exact JE
   have c2:Jd s 14 22=g.link:=by
    have hc:(!decide (Jd s 14 22=g.link))=false:=hc
    simpa using hc
   conv=>whnf
   refine Qk Ja rfl rfl rfl rfl rfl rfl 13 rfl (by decide) ?_;conv=>whnf
   refine⟨by show 13<s.length;omega, ?_⟩;rw[hb13];conv=>whnf
   refine⟨fun hc=>?_,fun hc=>?_⟩
   ·have c4:90<(Jj s 13).toNat:=by
     have:=of_decide_eq_true hc;omega
    have hbad:Qj s q g=true:=by simp[Qj,c4]
    conv=>whnf
    have hR:R=g.recs:=by
     rw[←hfin];rw[if_pos hbad]
    rw[hR];conv=>whnf
    exact JE
   have c4:¬90<(Jj s 13).toNat:=by
    have:=of_decide_eq_false hc;omega
   conv=>whnf
   refine Qk Ja rfl rfl rfl rfl rfl rfl 12 rfl (by decide) ?_;conv=>whnf
   refine⟨by show 12<s.length;omega, ?_⟩;rw[hb12];conv=>whnf
   refine⟨fun hc=>?_,fun hc=>?_⟩
   ·have c5:3<(Jj s 12).toNat:=by
     have:=of_decide_eq_true hc;omega
    have hbad:Qj s q g=true:=by simp[Qj,c5]
    conv=>whnf
    have hR:R=g.recs:=by
     rw[←hfin];rw[if_pos hbad]
    rw[hR];conv=>whnf
    exact JE
   have c5:¬3<(Jj s 12).toNat:=by
    have:=of_decide_eq_false hc;omega
   have hf0:((g.f:Int)==0)=decide (g.f=0):=by
    by_cases c0:g.f=0
    ·rw[c0];rfl
    ·rw[decide_eq_false c0];exact beq_false_of_ne (by omega)
   conv=>whnf
   refine⟨fun hc=>?_,fun hc=>?_⟩
   ·have hc:(true != ((g.f:Int)==0))=true:=hc;have hbad:Qj s q g=true:=by
     rw[hf0]at hc;exact aF3 hbeg hc
    conv=>whnf
    have hR:R=g.recs:=by
     rw[←hfin];rw[if_pos hbad]
    rw[hR];conv=>whnf
    exact JE
   have hc:(true != ((g.f:Int)==0))=false:=hc;have hbad:Qj s q g=false:=by
    rw[hf0]at hc;exact aQ0 hbeg hc c3 c1 c2 c4 c5
   rw[hbad]at hfin;have hfin:(ae6 D D.length x.first (D.length-2-(k+1)) (k+1) (Us s g)).recs=R:=hfin;have hnx:=XoI.next h htx hgf hrc (by omega) hfin;conv=>whnf
   refine Qk Ja rfl rfl rfl rfl rfl rfl 13 rfl (by decide) ?_;conv=>whnf
   refine⟨by show 13<s.length;omega, ?_⟩;rw[hb13];conv=>whnf
   refine⟨((Jj s 13).toNat:Int),wO, ?_⟩;conv=>whnf
   refine⟨(30:Int)+((Jj s 13).toNat:Int),wO, ?_⟩;conv=>whnf
   refine Jk (n:=128) (l:=s) Ja rfl rfl rfl rfl rfl rfl ⟨30+(Jj s 13).toNat,by omega,by omega,30,rfl,by omega, ?_⟩;conv=>whnf
   refine Ju (fx:=some 128) (l:=s) Ja rfl rfl rfl rfl rfl rfl (by rw[Jt];show 30+(30+(Jj s 13).toNat-30)≤_;omega) ?_;rw[show(s.drop 30).take (JV (30+(Jj s 13).toNat) 30)=Jd s 30 (30+(Jj s 13).toNat)from by rw[Jt];rfl];conv=>whnf
   have hsub:(Jd s 30 (30+(Jj s 13).toNat)).length≤90:=by
    rw[Jd,List.length_take];omega
   refine Yq (l:=g.text) (l':=Jd s 30 (30+(Jj s 13).toNat)) rfl rfl rfl (by omega) ?_;conv=>whnf
   refine⟨((g.f+1:Nat):Int),by dsimp only;rw[show(g.f:Int)+1=((g.f+1:Nat):Int)from by omega];exact wO, ?_⟩;conv=>whnf
   refine Jk (n:=128) (l:=s) Ja rfl rfl rfl rfl rfl rfl ⟨30,rfl,by decide,22,rfl,by decide, ?_⟩;conv=>whnf
   refine Ju (fx:=some 128) (l:=s) Ja rfl rfl rfl rfl rfl rfl (by show 22+8≤_;omega) ?_;rw[show(s.drop 22).take (JV 30 22)=Jd s 22 30 from rfl];generalize hT:g.text++Jd s 30 (30+(Jj s 13).toNat)=T;conv=>whnf
   have e:Us s g=⟨Jd s 22 30,T,g.f+1,g.recs⟩:=by simp only[Us,hen,hT];rfl
   rw[e]at hnx;refine nF fun hc=>?_;conv=>whnf
   refine⟨_,wO, ?_⟩;refine⟨(k+1,_),hnx,by show D.length-2-(k+1)<D.length-2-k;omega, ?_⟩;conv=>whnf
   refine⟨rfl, ?_⟩;conv=>whnf
   exact JE
 have hv1:(((Jj s 12).toNat:Int)==1)=false:=(hu 1).trans (decide_eq_false b1);refine⟨fun hc=>absurd (show(((Jj s 12).toNat:Int)==1)=true from hc) (by rw[hv1];decide),fun hc=>?_⟩;conv=>whnf
 refine Qk Ja rfl rfl rfl rfl rfl rfl 12 rfl (by decide) ?_;conv=>whnf
 refine⟨by show 12<s.length;omega, ?_⟩;rw[hb12];conv=>whnf
 by_cases b2:Jj s 12=2
 ·have hv2:(((Jj s 12).toNat:Int)==2)=true:=(hu 2).trans (by rw[b2];rfl);have hv3:(((Jj s 12).toNat:Int)==3)=false:=(hu 3).trans (by rw[b2];rfl);have hbeg:aw7 (Jj s 12)=false:=by rw[b2];rfl
  have hen:aP9 (Jj s 12)=true:=by rw[b2];rfl
  refine Qk Ja rfl rfl rfl rfl rfl rfl 12 rfl (by decide) ?_;conv=>whnf
  refine⟨by show 12<s.length;omega, ?_⟩;rw[hb12];conv=>whnf
  refine⟨fun hc=>?_,fun hc=>absurd (show(((Jj s 12).toNat:Int)==2)=false from hc) (by rw[hv2];decide)⟩;conv=>whnf
  rw[hv3,hv2];cases c3:Qu 2 s 22 with
  |false =>
   have hbad:Qj s q g=true:=by simp[Qj,c3]
   conv=>whnf
   refine nT fun hc=>?_;conv=>whnf
   have hR:R=g.recs:=by
    rw[←hfin];rw[if_pos hbad]
   rw[hR];conv=>whnf
   exact JE
  |true =>
   conv=>whnf
   refine nF fun hc=>?_;conv=>whnf
   refine Jm (l:=s) Ja rfl rfl rfl rfl rfl hsl.symm ?_;conv=>whnf
   refine Jb (WE s hsl 0 8 (by decide)) rfl rfl ?_;rw[show JJ (Jd s 0 (0+8))=JJ (Jd s 0 8)from rfl];conv=>whnf
   refine cs ?_;conv=>whnf
   refine⟨(q:Int),Ym q (by omega), ?_⟩;conv=>whnf
   refine⟨fun hc=>?_,fun hc=>?_⟩
   ·have c1:¬(JJ (Jd s 0 8)).toNat=q:=by
     intro e;have hc:(((JJ (Jd s 0 8)).toNat:Int) != (q:Int))=true:=hc;simp[e]at hc
    have hbad:Qj s q g=true:=by simp[Qj,c1]
    conv=>whnf
    have hR:R=g.recs:=by
     rw[←hfin];rw[if_pos hbad]
    rw[hR];conv=>whnf
    exact JE
   have c1:(JJ (Jd s 0 8)).toNat=q:=by
    have hc:(((JJ (Jd s 0 8)).toNat:Int) != (q:Int))=false:=hc;simp at hc;omega
   conv=>whnf
   refine Jk (n:=128) (l:=s) Ja rfl rfl rfl rfl rfl rfl ⟨22,rfl,by decide,14,rfl,by decide, ?_⟩;conv=>whnf
   refine Ju (fx:=some 128) (l:=s) Ja rfl rfl rfl rfl rfl rfl (by show 14+8≤_;omega) ?_;rw[show(s.drop 14).take (JV 22 14)=Jd s 14 22 from rfl];conv=>whnf
   refine ag4 (l:=Jd s 14 22) (l':=g.link) rfl rfl rfl ?_;conv=>whnf
   refine⟨fun hc=>?_,fun hc=>?_⟩
   ·have c2:¬Jd s 14 22=g.link:=by
     intro e;have hc:(!decide (Jd s 14 22=g.link))=true:=hc;simp[e]at hc
    have hbad:Qj s q g=true:=by simp[Qj,c2]
    conv=>whnf
    have hR:R=g.recs:=by
     rw[←hfin];rw[if_pos hbad]
    rw[hR];conv=>whnf
    exact JE
   have c2:Jd s 14 22=g.link:=by
    have hc:(!decide (Jd s 14 22=g.link))=false:=hc
    simpa using hc
   conv=>whnf
   refine Qk Ja rfl rfl rfl rfl rfl rfl 13 rfl (by decide) ?_;conv=>whnf
   refine⟨by show 13<s.length;omega, ?_⟩;rw[hb13];conv=>whnf
   refine⟨fun hc=>?_,fun hc=>?_⟩
   ·have c4:90<(Jj s 13).toNat:=by
     have:=of_decide_eq_true hc;omega
    have hbad:Qj s q g=true:=by simp[Qj,c4]
    conv=>whnf
    have hR:R=g.recs:=by
     rw[←hfin];rw[if_pos hbad]
    rw[hR];conv=>whnf
    exact JE
   have c4:¬90<(Jj s 13).toNat:=by
    have:=of_decide_eq_false hc;omega
   conv=>whnf
   refine Qk Ja rfl rfl rfl rfl rfl rfl 12 rfl (by decide) ?_;conv=>whnf
   refine⟨by show 12<s.length;omega, ?_⟩;rw[hb12];conv=>whnf
   refine⟨fun hc=>?_,fun hc=>?_⟩
   ·have c5:3<(Jj s 12).toNat:=by
     have:=of_decide_eq_true hc;omega
    have hbad:Qj s q g=true:=by simp[Qj,c5]
    conv=>whnf
    have hR:R=g.recs:=by
     rw[←hfin];rw[if_pos hbad]
    rw[hR];conv=>whnf
    exact JE
   have c5:¬3<(Jj s 12).toNat:=by
    have:=of_decide_eq_false hc;omega
   have hf0:((g.f:Int)==0)=decide (g.f=0):=by
    by_cases c0:g.f=0
    ·rw[c0];rfl
    ·rw[decide_eq_false c0];exact beq_false_of_ne (by omega)
   conv=>whnf
   refine⟨fun hc=>?_,fun hc=>?_⟩
   ·have hc:(false != ((g.f:Int)==0))=true:=hc;have hbad:Qj s q g=true:=by
     rw[hf0]at hc;exact aF3 hbeg hc
    conv=>whnf
    have hR:R=g.recs:=by
     rw[←hfin];rw[if_pos hbad]
    rw[hR];conv=>whnf
    exact JE
   have hc:(false != ((g.f:Int)==0))=false:=hc;have hbad:Qj s q g=false:=by
    rw[hf0]at hc;exact aQ0 hbeg hc c3 c1 c2 c4 c5
   rw[hbad]at hfin;have hfin:(ae6 D D.length x.first (D.length-2-(k+1)) (k+1) (Us s g)).recs=R:=hfin;have hnx:=XoI.next h htx hgf hrc (by omega) hfin;conv=>whnf
   refine Qk Ja rfl rfl rfl rfl rfl rfl 13 rfl (by decide) ?_;conv=>whnf
   refine⟨by show 13<s.length;omega, ?_⟩;rw[hb13];conv=>whnf
   refine⟨((Jj s 13).toNat:Int),wO, ?_⟩;conv=>whnf
   refine⟨(30:Int)+((Jj s 13).toNat:Int),wO, ?_⟩;conv=>whnf
   refine Jk (n:=128) (l:=s) Ja rfl rfl rfl rfl rfl rfl ⟨30+(Jj s 13).toNat,by omega,by omega,30,rfl,by omega, ?_⟩;conv=>whnf
   refine Ju (fx:=some 128) (l:=s) Ja rfl rfl rfl rfl rfl rfl (by rw[Jt];show 30+(30+(Jj s 13).toNat-30)≤_;omega) ?_;rw[show(s.drop 30).take (JV (30+(Jj s 13).toNat) 30)=Jd s 30 (30+(Jj s 13).toNat)from by rw[Jt];rfl];conv=>whnf
   have hsub:(Jd s 30 (30+(Jj s 13).toNat)).length≤90:=by
    rw[Jd,List.length_take];omega
   refine Yq (l:=g.text) (l':=Jd s 30 (30+(Jj s 13).toNat)) rfl rfl rfl (by omega) ?_;conv=>whnf
   refine⟨((g.f+1:Nat):Int),by dsimp only;rw[show(g.f:Int)+1=((g.f+1:Nat):Int)from by omega];exact wO, ?_⟩;conv=>whnf
   refine Jk (n:=128) (l:=s) Ja rfl rfl rfl rfl rfl rfl ⟨30,rfl,by decide,22,rfl,by decide, ?_⟩;conv=>whnf
   refine Ju (fx:=some 128) (l:=s) Ja rfl rfl rfl rfl rfl rfl (by show 22+8≤_;omega) ?_;rw[show(s.drop 22).take (JV 30 22)=Jd s 22 30 from rfl];generalize hT:g.text++Jd s 30 (30+(Jj s 13).toNat)=T;conv=>whnf
   have e:Us s g=⟨Jd s 22 30,[],0,g.recs++[⟨T,g.f+1,Jd s 22 30⟩]⟩:=by simp only[Us,hen,hT,if_pos]
   rw[e]at hnx;refine Yf Ja (aXk [⟨T,g.f+1,Jd s 22 30⟩]) rfl rfl ?_;conv=>whnf
   refine⟨⟨rfl,cl⟩, ?_⟩;generalize hr:(⟨T,g.f+1,Jd s 22 30⟩:Xk)=r at hnx ⊢;conv=>whnf
   refine VG Ja (aXk g.recs) [r] (g.recs++[r]) (fun _=>rfl) rfl rfl rfl rfl ?_;conv=>whnf
   refine⟨⟨rfl,rfl,Nat.le_refl _,Nat.le_refl _,by show(g.recs.length+1)*41≤140737488355328;omega,ab0⟩, ?_⟩;conv=>whnf
   have e3:(g.recs++[r]).length=g.recs.length+1:=by rw[List.length_append];rfl
   refine⟨_,wO, ?_⟩;refine⟨(k+1,_),hnx,by show D.length-2-(k+1)<D.length-2-k;omega, ?_⟩;dsimp only;rw[e3];conv=>whnf
   refine⟨rfl, ?_⟩;conv=>whnf
   repeat' (first|exact e3|exact trivial|exact rfl|refine And.intro ?_ ?_|((conv=>whnf);first|exact e3|exact trivial|exact rfl|refine And.intro ?_ ?_|omega))
 have hv2:(((Jj s 12).toNat:Int)==2)=false:=(hu 2).trans (decide_eq_false b2);refine Qk Ja rfl rfl rfl rfl rfl rfl 12 rfl (by decide) ?_;conv=>whnf
 refine⟨by show 12<s.length;omega, ?_⟩;rw[hb12];conv=>whnf
 refine⟨fun hc=>absurd (show(((Jj s 12).toNat:Int)==2)=true from hc) (by rw[hv2];decide),fun hc=>?_⟩;conv=>whnf
 refine Qk Ja rfl rfl rfl rfl rfl rfl 12 rfl (by decide) ?_;conv=>whnf
 refine⟨by show 12<s.length;omega, ?_⟩;rw[hb12];conv=>whnf
 by_cases b3:Jj s 12=3
 ·have hv3:(((Jj s 12).toNat:Int)==3)=true:=(hu 3).trans (by rw[b3];rfl);have hbeg:aw7 (Jj s 12)=true:=by rw[b3];rfl
  have hen:aP9 (Jj s 12)=true:=by rw[b3];rfl
  rw[hv3];cases c3:Qu 2 s 22 with
  |false =>
   have hbad:Qj s q g=true:=by simp[Qj,c3]
   conv=>whnf
   refine nT fun hc=>?_;conv=>whnf
   have hR:R=g.recs:=by
    rw[←hfin];rw[if_pos hbad]
   rw[hR];conv=>whnf
   exact JE
  |true =>
   conv=>whnf
   refine nF fun hc=>?_;conv=>whnf
   refine Jm (l:=s) Ja rfl rfl rfl rfl rfl hsl.symm ?_;conv=>whnf
   refine Jb (WE s hsl 0 8 (by decide)) rfl rfl ?_;rw[show JJ (Jd s 0 (0+8))=JJ (Jd s 0 8)from rfl];conv=>whnf
   refine cs ?_;conv=>whnf
   refine⟨(q:Int),Ym q (by omega), ?_⟩;conv=>whnf
   refine⟨fun hc=>?_,fun hc=>?_⟩
   ·have c1:¬(JJ (Jd s 0 8)).toNat=q:=by
     intro e;have hc:(((JJ (Jd s 0 8)).toNat:Int) != (q:Int))=true:=hc;simp[e]at hc
    have hbad:Qj s q g=true:=by simp[Qj,c1]
    conv=>whnf
    have hR:R=g.recs:=by
     rw[←hfin];rw[if_pos hbad]
    rw[hR];conv=>whnf
    exact JE
   have c1:(JJ (Jd s 0 8)).toNat=q:=by
    have hc:(((JJ (Jd s 0 8)).toNat:Int) != (q:Int))=false:=hc;simp at hc;omega
   conv=>whnf
   refine Jk (n:=128) (l:=s) Ja rfl rfl rfl rfl rfl rfl ⟨22,rfl,by decide,14,rfl,by decide, ?_⟩;conv=>whnf
   refine Ju (fx:=some 128) (l:=s) Ja rfl rfl rfl rfl rfl rfl (by show 14+8≤_;omega) ?_;rw[show(s.drop 14).take (JV 22 14)=Jd s 14 22 from rfl];conv=>whnf
   refine ag4 (l:=Jd s 14 22) (l':=g.link) rfl rfl rfl ?_;conv=>whnf
   refine⟨fun hc=>?_,fun hc=>?_⟩
   ·have c2:¬Jd s 14 22=g.link:=by
     intro e;have hc:(!decide (Jd s 14 22=g.link))=true:=hc;simp[e]at hc
    have hbad:Qj s q g=true:=by simp[Qj,c2]
    conv=>whnf
    have hR:R=g.recs:=by
     rw[←hfin];rw[if_pos hbad]
    rw[hR];conv=>whnf
    exact JE
   have c2:Jd s 14 22=g.link:=by
    have hc:(!decide (Jd s 14 22=g.link))=false:=hc
    simpa using hc
   conv=>whnf
   refine Qk Ja rfl rfl rfl rfl rfl rfl 13 rfl (by decide) ?_;conv=>whnf
   refine⟨by show 13<s.length;omega, ?_⟩;rw[hb13];conv=>whnf
   refine⟨fun hc=>?_,fun hc=>?_⟩
   ·have c4:90<(Jj s 13).toNat:=by
     have:=of_decide_eq_true hc;omega
    have hbad:Qj s q g=true:=by simp[Qj,c4]
    conv=>whnf
    have hR:R=g.recs:=by
     rw[←hfin];rw[if_pos hbad]
    rw[hR];conv=>whnf
    exact JE
   have c4:¬90<(Jj s 13).toNat:=by
    have:=of_decide_eq_false hc;omega
   conv=>whnf
   refine Qk Ja rfl rfl rfl rfl rfl rfl 12 rfl (by decide) ?_;conv=>whnf
   refine⟨by show 12<s.length;omega, ?_⟩;rw[hb12];conv=>whnf
   refine⟨fun hc=>?_,fun hc=>?_⟩
   ·have c5:3<(Jj s 12).toNat:=by
     have:=of_decide_eq_true hc;omega
    have hbad:Qj s q g=true:=by simp[Qj,c5]
    conv=>whnf
    have hR:R=g.recs:=by
     rw[←hfin];rw[if_pos hbad]
    rw[hR];conv=>whnf
    exact JE
   have c5:¬3<(Jj s 12).toNat:=by
    have:=of_decide_eq_false hc;omega
   have hf0:((g.f:Int)==0)=decide (g.f=0):=by
    by_cases c0:g.f=0
    ·rw[c0];rfl
    ·rw[decide_eq_false c0];exact beq_false_of_ne (by omega)
   conv=>whnf
   refine⟨fun hc=>?_,fun hc=>?_⟩
   ·have hc:(true != ((g.f:Int)==0))=true:=hc;have hbad:Qj s q g=true:=by
     rw[hf0]at hc;exact aF3 hbeg hc
    conv=>whnf
    have hR:R=g.recs:=by
     rw[←hfin];rw[if_pos hbad]
    rw[hR];conv=>whnf
    exact JE
   have hc:(true != ((g.f:Int)==0))=false:=hc;have hbad:Qj s q g=false:=by
    rw[hf0]at hc;exact aQ0 hbeg hc c3 c1 c2 c4 c5
   rw[hbad]at hfin;have hfin:(ae6 D D.length x.first (D.length-2-(k+1)) (k+1) (Us s g)).recs=R:=hfin;have hnx:=XoI.next h htx hgf hrc (by omega) hfin;conv=>whnf
   refine Qk Ja rfl rfl rfl rfl rfl rfl 13 rfl (by decide) ?_;conv=>whnf
   refine⟨by show 13<s.length;omega, ?_⟩;rw[hb13];conv=>whnf
   refine⟨((Jj s 13).toNat:Int),wO, ?_⟩;conv=>whnf
   refine⟨(30:Int)+((Jj s 13).toNat:Int),wO, ?_⟩;conv=>whnf
   refine Jk (n:=128) (l:=s) Ja rfl rfl rfl rfl rfl rfl ⟨30+(Jj s 13).toNat,by omega,by omega,30,rfl,by omega, ?_⟩;conv=>whnf
   refine Ju (fx:=some 128) (l:=s) Ja rfl rfl rfl rfl rfl rfl (by rw[Jt];show 30+(30+(Jj s 13).toNat-30)≤_;omega) ?_;rw[show(s.drop 30).take (JV (30+(Jj s 13).toNat) 30)=Jd s 30 (30+(Jj s 13).toNat)from by rw[Jt];rfl];conv=>whnf
   have hsub:(Jd s 30 (30+(Jj s 13).toNat)).length≤90:=by
    rw[Jd,List.length_take];omega
   refine Yq (l:=g.text) (l':=Jd s 30 (30+(Jj s 13).toNat)) rfl rfl rfl (by omega) ?_;conv=>whnf
   refine⟨((g.f+1:Nat):Int),by dsimp only;rw[show(g.f:Int)+1=((g.f+1:Nat):Int)from by omega];exact wO, ?_⟩;conv=>whnf
   refine Jk (n:=128) (l:=s) Ja rfl rfl rfl rfl rfl rfl ⟨30,rfl,by decide,22,rfl,by decide, ?_⟩;conv=>whnf
   refine Ju (fx:=some 128) (l:=s) Ja rfl rfl rfl rfl rfl rfl (by show 22+8≤_;omega) ?_;rw[show(s.drop 22).take (JV 30 22)=Jd s 22 30 from rfl];generalize hT:g.text++Jd s 30 (30+(Jj s 13).toNat)=T;conv=>whnf
   have e:Us s g=⟨Jd s 22 30,[],0,g.recs++[⟨T,g.f+1,Jd s 22 30⟩]⟩:=by simp only[Us,hen,hT,if_pos]
   rw[e]at hnx;refine nT fun hc=>?_;conv=>whnf
   refine Yf Ja (aXk [⟨T,g.f+1,Jd s 22 30⟩]) rfl rfl ?_;conv=>whnf
   refine⟨⟨rfl,cl⟩, ?_⟩;generalize hr:(⟨T,g.f+1,Jd s 22 30⟩:Xk)=r at hnx ⊢;conv=>whnf
   refine VG Ja (aXk g.recs) [r] (g.recs++[r]) (fun _=>rfl) rfl rfl rfl rfl ?_;conv=>whnf
   refine⟨⟨rfl,rfl,Nat.le_refl _,Nat.le_refl _,by show(g.recs.length+1)*41≤140737488355328;omega,ab0⟩, ?_⟩;conv=>whnf
   have e3:(g.recs++[r]).length=g.recs.length+1:=by rw[List.length_append];rfl
   refine⟨_,wO, ?_⟩;refine⟨(k+1,_),hnx,by show D.length-2-(k+1)<D.length-2-k;omega, ?_⟩;dsimp only;rw[e3];conv=>whnf
   refine⟨rfl, ?_⟩;conv=>whnf
   repeat' (first|exact e3|exact trivial|exact rfl|refine And.intro ?_ ?_|((conv=>whnf);first|exact e3|exact trivial|exact rfl|refine And.intro ?_ ?_|omega))
 ·have hv3:(((Jj s 12).toNat:Int)==3)=false:=(hu 3).trans (decide_eq_false b3);have hbeg:aw7 (Jj s 12)=false:=by simp[aw7,b1,b3]
  have hen:aP9 (Jj s 12)=false:=by simp[aP9,b2,b3]
  rw[hv3];cases c3:Qu 2 s 22 with
  |false =>
   have hbad:Qj s q g=true:=by simp[Qj,c3]
   conv=>whnf
   refine nT fun hc=>?_;conv=>whnf
   have hR:R=g.recs:=by
    rw[←hfin];rw[if_pos hbad]
   rw[hR];conv=>whnf
   exact JE
  |true =>
   conv=>whnf
   refine nF fun hc=>?_;conv=>whnf
   refine Jm (l:=s) Ja rfl rfl rfl rfl rfl hsl.symm ?_;conv=>whnf
   refine Jb (WE s hsl 0 8 (by decide)) rfl rfl ?_;rw[show JJ (Jd s 0 (0+8))=JJ (Jd s 0 8)from rfl];conv=>whnf
   refine cs ?_;conv=>whnf
   refine⟨(q:Int),Ym q (by omega), ?_⟩;conv=>whnf
   refine⟨fun hc=>?_,fun hc=>?_⟩
   ·have c1:¬(JJ (Jd s 0 8)).toNat=q:=by
     intro e;have hc:(((JJ (Jd s 0 8)).toNat:Int) != (q:Int))=true:=hc;simp[e]at hc
    have hbad:Qj s q g=true:=by simp[Qj,c1]
    conv=>whnf
    have hR:R=g.recs:=by
     rw[←hfin];rw[if_pos hbad]
    rw[hR];conv=>whnf
    exact JE
   have c1:(JJ (Jd s 0 8)).toNat=q:=by
    have hc:(((JJ (Jd s 0 8)).toNat:Int) != (q:Int))=false:=hc;simp at hc;omega
   conv=>whnf
   refine Jk (n:=128) (l:=s) Ja rfl rfl rfl rfl rfl rfl ⟨22,rfl,by decide,14,rfl,by decide, ?_⟩;conv=>whnf
   refine Ju (fx:=some 128) (l:=s) Ja rfl rfl rfl rfl rfl rfl (by show 14+8≤_;omega) ?_;rw[show(s.drop 14).take (JV 22 14)=Jd s 14 22 from rfl];conv=>whnf
   refine ag4 (l:=Jd s 14 22) (l':=g.link) rfl rfl rfl ?_;conv=>whnf
   refine⟨fun hc=>?_,fun hc=>?_⟩
   ·have c2:¬Jd s 14 22=g.link:=by
     intro e;have hc:(!decide (Jd s 14 22=g.link))=true:=hc;simp[e]at hc
    have hbad:Qj s q g=true:=by simp[Qj,c2]
    conv=>whnf
    have hR:R=g.recs:=by
     rw[←hfin];rw[if_pos hbad]
    rw[hR];conv=>whnf
    exact JE
   have c2:Jd s 14 22=g.link:=by
    have hc:(!decide (Jd s 14 22=g.link))=false:=hc
    simpa using hc
   conv=>whnf
   refine Qk Ja rfl rfl rfl rfl rfl rfl 13 rfl (by decide) ?_;conv=>whnf
   refine⟨by show 13<s.length;omega, ?_⟩;rw[hb13];conv=>whnf
   refine⟨fun hc=>?_,fun hc=>?_⟩
   ·have c4:90<(Jj s 13).toNat:=by
     have:=of_decide_eq_true hc;omega
    have hbad:Qj s q g=true:=by simp[Qj,c4]
    conv=>whnf
    have hR:R=g.recs:=by
     rw[←hfin];rw[if_pos hbad]
    rw[hR];conv=>whnf
    exact JE
   have c4:¬90<(Jj s 13).toNat:=by
    have:=of_decide_eq_false hc;omega
   conv=>whnf
   refine Qk Ja rfl rfl rfl rfl rfl rfl 12 rfl (by decide) ?_;conv=>whnf
   refine⟨by show 12<s.length;omega, ?_⟩;rw[hb12];conv=>whnf
   refine⟨fun hc=>?_,fun hc=>?_⟩
   ·have c5:3<(Jj s 12).toNat:=by
     have:=of_decide_eq_true hc;omega
    have hbad:Qj s q g=true:=by simp[Qj,c5]
    conv=>whnf
    have hR:R=g.recs:=by
     rw[←hfin];rw[if_pos hbad]
    rw[hR];conv=>whnf
    exact JE
   have c5:¬3<(Jj s 12).toNat:=by
    have:=of_decide_eq_false hc;omega
   have hf0:((g.f:Int)==0)=decide (g.f=0):=by
    by_cases c0:g.f=0
    ·rw[c0];rfl
    ·rw[decide_eq_false c0];exact beq_false_of_ne (by omega)
   conv=>whnf
   refine⟨fun hc=>?_,fun hc=>?_⟩
   ·have hc:(false != ((g.f:Int)==0))=true:=hc;have hbad:Qj s q g=true:=by
     rw[hf0]at hc;exact aF3 hbeg hc
    conv=>whnf
    have hR:R=g.recs:=by
     rw[←hfin];rw[if_pos hbad]
    rw[hR];conv=>whnf
    exact JE
   have hc:(false != ((g.f:Int)==0))=false:=hc;have hbad:Qj s q g=false:=by
    rw[hf0]at hc;exact aQ0 hbeg hc c3 c1 c2 c4 c5
   rw[hbad]at hfin;have hfin:(ae6 D D.length x.first (D.length-2-(k+1)) (k+1) (Us s g)).recs=R:=hfin;have hnx:=XoI.next h htx hgf hrc (by omega) hfin;conv=>whnf
   refine Qk Ja rfl rfl rfl rfl rfl rfl 13 rfl (by decide) ?_;conv=>whnf
   refine⟨by show 13<s.length;omega, ?_⟩;rw[hb13];conv=>whnf
   refine⟨((Jj s 13).toNat:Int),wO, ?_⟩;conv=>whnf
   refine⟨(30:Int)+((Jj s 13).toNat:Int),wO, ?_⟩;conv=>whnf
   refine Jk (n:=128) (l:=s) Ja rfl rfl rfl rfl rfl rfl ⟨30+(Jj s 13).toNat,by omega,by omega,30,rfl,by omega, ?_⟩;conv=>whnf
   refine Ju (fx:=some 128) (l:=s) Ja rfl rfl rfl rfl rfl rfl (by rw[Jt];show 30+(30+(Jj s 13).toNat-30)≤_;omega) ?_;rw[show(s.drop 30).take (JV (30+(Jj s 13).toNat) 30)=Jd s 30 (30+(Jj s 13).toNat)from by rw[Jt];rfl];conv=>whnf
   have hsub:(Jd s 30 (30+(Jj s 13).toNat)).length≤90:=by
    rw[Jd,List.length_take];omega
   refine Yq (l:=g.text) (l':=Jd s 30 (30+(Jj s 13).toNat)) rfl rfl rfl (by omega) ?_;conv=>whnf
   refine⟨((g.f+1:Nat):Int),by dsimp only;rw[show(g.f:Int)+1=((g.f+1:Nat):Int)from by omega];exact wO, ?_⟩;conv=>whnf
   refine Jk (n:=128) (l:=s) Ja rfl rfl rfl rfl rfl rfl ⟨30,rfl,by decide,22,rfl,by decide, ?_⟩;conv=>whnf
   refine Ju (fx:=some 128) (l:=s) Ja rfl rfl rfl rfl rfl rfl (by show 22+8≤_;omega) ?_;rw[show(s.drop 22).take (JV 30 22)=Jd s 22 30 from rfl];generalize hT:g.text++Jd s 30 (30+(Jj s 13).toNat)=T;conv=>whnf
   have e:Us s g=⟨Jd s 22 30,T,g.f+1,g.recs⟩:=by simp only[Us,hen,hT];rfl
   rw[e]at hnx;refine nF fun hc=>?_;conv=>whnf
   refine⟨_,wO, ?_⟩;refine⟨(k+1,_),hnx,by show D.length-2-(k+1)<D.length-2-k;omega, ?_⟩;conv=>whnf
   refine⟨rfl, ?_⟩;conv=>whnf
   exact JE
def aF4(D:Dk)(m0:Nat):Xl:=⟨1,m0+1,(JX (Qi D 1)).first.toNat,(JX (Qi D 1)).dropped.toNat,(JX (Qi D 1)).link⟩
theorem bF9(D:Dk)(hd:6≤D.length∧D.length≤65536)(hg:XU D 2=1)(hb:JF (Qi D 1) 1=true)(m0:Nat)(hs:(YF D D.length).2.2=m0)(hm:m0<4294967295)(hf:(JX (Qi D 1)).first.toNat≤1000) :
 Triple Tryz.prog 75 [.c (.p 0 0 0 0),iv .i64 0,iv .i64 D.length] (dkH D) 3 (.tup [.inl (.p 3 0 0 0), .inl (.v (.int .i64 0))])
  [(3,true, .cells (xlC D.length (aF4 D m0) 4 (aj3 D (aF4 D m0)).length)),(4,true, .arr (aXk (aj3 D (aF4 D m0))))]:=by
 have hgr:=aS5 D hd;rw[hg]at hgr;have hfl:=cc6 D hd (aF4 D m0) hf;have hbf:=bw1 hb;have hse:=au9 D 1 (by omega) hd.2;have hal:=ah5 D 1;generalize hx:aF4 D m0=x at hfl ⊢;have x1:x.gen=1:=by rw[←hx];rfl
 have x2:x.sess=m0+1:=by rw[←hx];rfl
 have x3:(JX (Qi D 1)).first.toNat=x.first:=by rw[←hx];rfl
 have x4:(JX (Qi D 1)).dropped.toNat=x.gone:=by rw[←hx];rfl
 have x5:(JX (Qi D 1)).link=x.link:=by rw[←hx];rfl
 have y3:JJ (Jd (Qi D 1) 20 (20+8))=(JX (Qi D 1)).first:=rfl;have y4:JJ (Jd (Qi D 1) 28 (28+8))=(JX (Qi D 1)).dropped:=rfl;have y5:Jd (Qi D 1) 36 44=(JX (Qi D 1)).link:=rfl;generalize Qi D 1=l at hse hal hbf x3 x4 x5 y3 y4 y5;generalize JX l=b at hbf x3 x4 x5 y3 y4 y5;refine Jc Ja Tryz.func75 rfl Tryz.call75 rfl ?_;intro ρ w hH;conv=>whnf
 refine Jb (bF6 D hd) rfl rfl ?_;conv=>whnf
 refine Qs ?_;conv=>whnf
 refine nF fun hc=>?_;conv=>whnf
 refine Jb hgr rfl rfl ?_;conv=>whnf
 refine Qs ?_;conv=>whnf
 refine Jb (bF7 D hd m0 hs (by omega)) rfl rfl ?_;conv=>whnf
 refine Qs ?_;conv=>whnf
 refine nF fun hc=>?_;conv=>whnf
 refine⟨fun hc=>?_,fun hc=>?_⟩
 ·exact absurd (of_decide_eq_true hc) (by omega)
 conv=>whnf
 refine⟨by decide,(1:Int),by decide, ?_⟩;conv=>whnf
 refine Jb hse rfl rfl ?_;conv=>whnf
 refine Qs ?_;conv=>whnf
 refine Jv Ja 128 rfl rfl rfl ?_;conv=>whnf
 refine Jp (l':=l) Ja rfl rfl rfl rfl rfl (by simp) (by rw[hal];simp) (by decide) ?_;conv=>whnf
 refine Jm (l:=l) Ja rfl rfl rfl rfl rfl hal.symm ?_;conv=>whnf
 refine Jb (WE l hal 20 8 (by decide)) rfl rfl ?_;rw[y3];conv=>whnf
 refine cs ?_;conv=>whnf
 refine⟨(x.first:Int),by rw[x3];exact wO, ?_⟩;conv=>whnf
 refine Jm (l:=l) Ja rfl rfl rfl rfl rfl hal.symm ?_;conv=>whnf
 refine Jb (WE l hal 28 8 (by decide)) rfl rfl ?_;rw[y4];conv=>whnf
 refine cs ?_;conv=>whnf
 refine⟨(x.gone:Int),by rw[x4];exact wO, ?_⟩;conv=>whnf
 refine Jk (n:=128) (l:=l) Ja rfl rfl rfl rfl rfl rfl ⟨44,rfl,by decide,36,rfl,by decide, ?_⟩;conv=>whnf
 refine Ju (fx:=some 128) (l:=l) Ja rfl rfl rfl rfl rfl rfl (by show 36+8≤_;omega) ?_;rw[show(l.drop 36).take (JV 44 36)=x.link from(show Jd l 36 44=_ from y5.trans x5)];conv=>whnf
 have x1':(1:Int)=(x.gen:Int):=by rw[x1];rfl
 have x2':((m0+1:Nat):Int)=(x.sess:Int):=by rw[x2]
 refine Jb hfl rfl rfl ?_;conv=>whnf
 refine⟨JE,(by repeat' (first|exact(JI rfl)|exact x1'|exact x2'|exact trivial|exact rfl|refine And.intro ?_ ?_|((conv=>whnf);first|exact(JI rfl)|exact x1'|exact x2'|exact trivial|exact rfl|refine And.intro ?_ ?_|omega))), ?_⟩;conv=>whnf
 exact JE
end Go.Proofs
