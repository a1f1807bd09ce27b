/-
  A part of the proof that a law answers true: lemmas of a symbolic walk, plain functions, or contracts of the functions walked (QF, QG, QH, QI). Conditions: none.
-/
import Derived.Test.YtfcdjkeamldkaaaGreatPart32
import Derived.Test.YtfcdjkeamldkaaaGreatPart15
set_option maxRecDepth 100000
set_option linter.unusedVariables false
set_option linter.unusedSimpArgs false
namespace Go.Proofs
open Go.Sx
def YG(M:SMs)(h t:List UInt8):Bool:=(Yj M h).2&&!decide ((Yj M h).1=t)
theorem cc7:Tryz.prog.underlying 9=some .string:=by kernel_rfl
theorem bP6:∀w,(zeroValue 9).run Tryz.prog w=.ok (Wl []) w:=by intro w;kernel_rfl
theorem Kr(M:SMs)(h t:List UInt8):Triple Tryz.prog 133 [.c (.m 0),YC h,YC t] [(0,true,UD M)] 1 (bv (YG M h t)) [(0,true,UD (YO M h t))]:=by
 refine Jc Ja Tryz.func133 rfl Tryz.call133 rfl ?_;intro ρ w hH;conv=>whnf
 refine by8 Ja cc7 bP6 rfl rfl rfl rfl rfl ?_;cases hl:Yj M h with
 |mk old is =>
 conv=>whnf
 refine bV7 Ja cc7 rfl rfl rfl rfl rfl rfl ?_;conv=>whnf
 cases is with
 |false =>
  rw[show YG M h t=false from by simp[YG,hl]];refine nF fun hc=>?_;conv=>whnf
  exact cl
 |true =>
  rw[show YG M h t=!decide (old=t)from by simp[YG,hl]];refine nT fun hc=>?_;conv=>whnf
  refine ag4 (l:=old) (l':=t) rfl rfl rfl ?_;conv=>whnf
  exact cl
structure Wt where
 front:SMs
 back:SMs
 clash:Bool
def ae7(w:Wt)(h1 h2 t:List UInt8):Wt:=⟨YO w.front h1 t,YO w.back h2 t,w.clash||(YG w.front h1 t||YG w.back h2 t)⟩
def ae8(l:List UInt8):List UInt8:=([98]++l.take 44)++(l.take 120).drop 52
def VJ(l:List UInt8):List UInt8:=([102]++l.take 22)++(l.take 120).drop 30
def XW(i:Nat)(l:List UInt8)(w:Wt):Wt :=
 if i<2 then(if JF l i then ae7 w (Jd l 44 52) (Jd l 120 128) (ae8 l)else w)
 else if Qu 2 l 22 then ae7 w (Jd l 22 30) (Jd l 120 128) (VJ l)else w
def ae9(r:Sct×Option Sct)(k:Nat):Sct:=if k=0 then r.1 else r.2.getD r.1
def UI(r:Sct×Option Sct):Nat:=if r.2.isSome then 2 else 1
def XV(i:Nat)(r:Sct×Option Sct)(w:Wt):Nat→Wt
 |0=>w
 |k+1=>XW i (ae9 r k).l (XV i r w k)
def YP(D:Dk)(w:Wt):Nat→Wt
 |0=>w
 |i+1=>XV i (D.getD i (JS,none)) (YP D w i) (UI (D.getD i (JS,none)))
abbrev shC(n:Nat)(clash:Bool):List SC:=[.p 0 0 0 0, .p 3 0 0 0, .v (.int .i64 n), .m 6, .m 7, .v (.bool clash)]
abbrev shH(n:Nat)(D:Dk)(x:Xl)(ks:List Xk)(w:Wt):Je :=
 [(5,true, .cells (shC n w.clash)),(0,false,YE 1 n),(1,false,Vc 2 D),(2,false,Vv D),(3,false, .cells (xlC n x 4 ks.length)),(4,false, .arr (aXk ks)),(6,true,UD w.front),(7,true,UD w.back)]
abbrev wtH(n:Nat)(w:Wt):Je:=[(5,true, .cells (shC n w.clash)),(6,true,UD w.front),(7,true,UD w.back)]
theorem aQ1(D:Dk)(hd:6≤D.length∧D.length≤65536)(x:Xl)(ks:List Xk)(w0:Wt):Triple Tryz.prog 76 [.c (.p 5 0 0 0)] (shH D.length D x ks w0) 8 (.tup []) (wtH D.length (YP D w0 D.length)):=by
 have hrl:=YH D;refine Jc Ja Tryz.func76 rfl Tryz.call76 rfl ?_;intro ρ w hH;conv=>whnf
 refine Jz Ja (G:=Nat×Wt) 0 [] (fun g=>[(2,iv .i64 g.1)]) (fun g=>wtH D.length g.2) (fun g=>g.1≤D.length∧g.2=YP D w0 g.1) (fun g=>D.length-g.1) ?_;conv=>whnf
 refine⟨⟨(0,w0),⟨Nat.zero_le _,rfl⟩, ?_⟩, ?_⟩
 ·conv=>whnf
  exact JE
 rintro ⟨i,w1⟩ ⟨hi,hw⟩ ρ1 t1 hρ1
 have hi:i≤D.length:=hi;have hw:w1=YP D w0 i:=hw;conv=>whnf
 refine⟨fun hc=>?_,fun hc=>?_⟩
 rotate_left
 ·have hie:i=D.length:=by have:=of_decide_eq_false hc;omega
  subst hie;rw[←hw];conv=>whnf
  exact JE
 have h:i<D.length:=by have:=of_decide_eq_true hc;omega
 have hst:YP D w0 (i+1)=XV i D[i] w1 (UI D[i]):=by
  rw[hw];show XV i (D.getD i (JS,none)) (YP D w0 i) (UI (D.getD i (JS,none)))=_;rw[List.getD_eq_getElem?_getD,List.getElem?_eq_getElem h];rfl
 conv=>whnf
 refine Jz Ja (G:=Nat×Wt) 0 [] (fun g=>[(3,iv .i64 g.1)]) (fun g=>wtH D.length g.2) (fun g=>g.1≤UI D[i]∧g.2=XV i D[i] w1 g.1) (fun g=>3-g.1) ?_;conv=>whnf
 refine⟨⟨(0,w1),⟨Nat.zero_le _,rfl⟩, ?_⟩, ?_⟩
 ·conv=>whnf
  exact JE
 rintro ⟨k,w2⟩ ⟨hk,hw2⟩ ρ2 t2 hρ2
 have hk:k≤UI D[i]:=hk;have hw2:w2=XV i D[i] w1 k:=hw2;conv=>whnf
 refine⟨i,rfl,h, ?_⟩;conv=>whnf
 have hsc:XV i D[i] w1 (k+1)=XW i (ae9 D[i] k).l w2:=by rw[hw2];rfl
 cases hq:D[i].2 with
 |none =>
  have hcn:UI D[i]=1:=by simp[UI,hq]
  refine VR (s:=D[i].1) (u:=Qf) Ja rfl rfl rfl rfl rfl rfl (Wq h hq) ?_;conv=>whnf
  refine⟨fun hc=>?_,fun hc=>?_⟩
  rotate_left
  ·have hke:k=1:=by have:=of_decide_eq_false hc;dsimp only at this;omega
   conv=>whnf
   refine⟨_,wO, ?_⟩;refine⟨(i+1,w2),⟨h,Eq.trans hw2 (Eq.symm (hst.trans (by rw[hcn,hke])))⟩,by show D.length-(i+1)<D.length-i;omega, ?_⟩;conv=>whnf
   refine⟨rfl, ?_⟩;conv=>whnf
   exact JE
  have hk0:k=0:=by have:=of_decide_eq_true hc;dsimp only at this;omega
  have hkc:k+1≤UI D[i]:=by omega
  have hsk:(ae9 D[i] k).l=D[i].1.l:=by rw[hk0];rfl
  rw[hsk]at hsc;have hal:=D[i].1.h;conv=>whnf
  refine⟨i,rfl,h, ?_⟩;conv=>whnf
  refine XG Ja D[i].1 (.v Qf) rfl rfl rfl rfl rfl rfl rfl (Wq h hq) ?_;generalize D[i].1.l=l at hsc hal ⊢;conv=>whnf
  refine Jv Ja 128 rfl rfl rfl ?_;conv=>whnf
  refine Jp (l':=l) Ja rfl rfl rfl rfl rfl (by simp) (by rw[hal];simp) (by decide) ?_;conv=>whnf
  refine⟨fun hc=>?_,fun hc=>?_⟩
  ·exact absurd (show(0:Int)<(k:Int)from of_decide_eq_true hc) (by omega)
  conv=>whnf
  by_cases c2:i<2
  ·have n2:(i:Int)<2:=by omega
   have p2:¬(2:Int)≤(i:Int):=by omega
   refine⟨fun hc=>?_,fun hc=>absurd n2 (show ¬(i:Int)<2 from of_decide_eq_false hc)⟩;conv=>whnf
   refine Jm (l:=l) Ja rfl rfl rfl rfl rfl hal.symm ?_;conv=>whnf
   refine Jb (al2 l hal i (by omega)) rfl rfl ?_;conv=>whnf
   refine cs ?_;conv=>whnf
   refine⟨fun hc=>absurd (show(2:Int)≤(i:Int)from of_decide_eq_true hc) p2,fun hc=>?_⟩;cases hb:JF l i with
   |false =>
    have hw3:w2=XV i D[i] w1 (k+1):=by rw[hsc];simp[XW,c2,hb]
    conv=>whnf
    refine nF fun hc=>?_;conv=>whnf
    conv=>whnf
    refine⟨_,wO, ?_⟩;refine⟨(k+1,w2),⟨hkc,hw3⟩,by show 3-(k+1)<3-k;omega, ?_⟩;conv=>whnf
    refine⟨rfl, ?_⟩;conv=>whnf
    exact JE
   |true =>
    have hw3:ae7 w2 (Jd l 44 52) (Jd l 120 128) (ae8 l)=XV i D[i] w1 (k+1):=by rw[hsc];simp[XW,c2,hb]
    conv=>whnf
    refine nT fun hc=>?_;conv=>whnf
    refine Jk (n:=128) (l:=l) Ja rfl rfl rfl rfl rfl rfl ⟨44,rfl,by decide,0,rfl,by decide, ?_⟩;conv=>whnf
    refine Ju (fx:=some 128) (l:=l) Ja rfl rfl rfl rfl rfl rfl (by rw[Jt];omega) ?_;rw[show(l.drop 0).take (JV 44 0)=l.take 44 from by rw[Jt];rfl];conv=>whnf
    refine Yq (l:=[98]) (l':=l.take 44) rfl rfl rfl (by rw[List.length_take];show 1+_≤_;omega) ?_;conv=>whnf
    refine Jk (n:=128) (l:=l) Ja rfl rfl rfl rfl rfl rfl ⟨120,rfl,by decide,52,rfl,by decide, ?_⟩;conv=>whnf
    refine Ju (fx:=some 128) (l:=l) Ja rfl rfl rfl rfl rfl rfl (by rw[Jt];omega) ?_;rw[show(l.drop 52).take (JV 120 52)=(l.take 120).drop 52 from by rw[Jt,List.drop_take]];conv=>whnf
    refine Yq (l:=[98]++l.take 44) (l':=(l.take 120).drop 52) rfl rfl rfl (by rw[List.length_append,List.length_take,List.length_drop,List.length_take];show 1+_+_≤_;omega) ?_;rw[show([98]++l.take 44)++(l.take 120).drop 52=ae8 l from rfl];generalize ae8 l=tx at hw3 ⊢;conv=>whnf
    refine Jk (n:=128) (l:=l) Ja rfl rfl rfl rfl rfl rfl ⟨52,rfl,by decide,44,rfl,by decide, ?_⟩;conv=>whnf
    refine Ju (fx:=some 128) (l:=l) Ja rfl rfl rfl rfl rfl rfl (by rw[Jt];omega) ?_;rw[show(l.drop 44).take (JV 52 44)=Jd l 44 52 from by rw[Jt];rfl];conv=>whnf
    refine Jb (Kr w2.front (Jd l 44 52) tx) rfl rfl ?_;conv=>whnf
    refine cs ?_;conv=>whnf
    refine Jk (n:=128) (l:=l) Ja rfl rfl rfl rfl rfl rfl ⟨128,rfl,by decide,120,rfl,by decide, ?_⟩;conv=>whnf
    refine Ju (fx:=some 128) (l:=l) Ja rfl rfl rfl rfl rfl rfl (by rw[Jt];omega) ?_;rw[show(l.drop 120).take (JV 128 120)=Jd l 120 128 from by rw[Jt];rfl];conv=>whnf
    refine Jb (Kr w2.back (Jd l 120 128) tx) rfl rfl ?_;conv=>whnf
    refine cs ?_;have e3:∀c,(w2.clash||(YG w2.front (Jd l 44 52) tx||YG w2.back (Jd l 120 128) tx))=c→(⟨YO w2.front (Jd l 44 52) tx,YO w2.back (Jd l 120 128) tx,c⟩:Wt)=XV i D[i] w1 (k+1):=fun c hc=>by rw[←hw3,←hc];rfl
    generalize YG w2.front (Jd l 44 52) tx=n1 at e3 ⊢;generalize YG w2.back (Jd l 120 128) tx=n2 at e3 ⊢;generalize hcl:w2.clash=cl at e3 ⊢;conv=>whnf
    cases cl with
    |true =>
     have hw3:=e3 true rfl;conv=>whnf
     refine nT fun hc=>?_;conv=>whnf
     conv=>whnf
     refine⟨_,wO, ?_⟩;refine⟨(k+1,_),⟨hkc,hw3⟩,by show 3-(k+1)<3-k;omega, ?_⟩;conv=>whnf
     refine⟨rfl, ?_⟩;conv=>whnf
     exact JE
    |false =>
     conv=>whnf
     refine nF fun hc=>?_;conv=>whnf
     cases n1 with
     |true =>
      have hw3:=e3 true rfl;conv=>whnf
      refine nT fun hc=>?_;conv=>whnf
      conv=>whnf
      refine⟨_,wO, ?_⟩;refine⟨(k+1,_),⟨hkc,hw3⟩,by show 3-(k+1)<3-k;omega, ?_⟩;conv=>whnf
      refine⟨rfl, ?_⟩;conv=>whnf
      exact JE
     |false =>
      have hw3:=e3 n2 rfl;conv=>whnf
      refine nF fun hc=>?_;conv=>whnf
      conv=>whnf
      refine⟨_,wO, ?_⟩;refine⟨(k+1,_),⟨hkc,hw3⟩,by show 3-(k+1)<3-k;omega, ?_⟩;conv=>whnf
      refine⟨rfl, ?_⟩;conv=>whnf
      exact JE
  ·have n2:¬(i:Int)<2:=by omega
   have p2:(2:Int)≤(i:Int):=by omega
   refine⟨fun hc=>absurd (show(i:Int)<2 from of_decide_eq_true hc) n2,fun hc=>?_⟩;conv=>whnf
   refine⟨fun hc=>?_,fun hc=>absurd p2 (show ¬(2:Int)≤(i:Int)from of_decide_eq_false hc)⟩;conv=>whnf
   refine Jm (l:=l) Ja rfl rfl rfl rfl rfl hal.symm ?_;conv=>whnf
   refine Jb (ae5 l hal) rfl rfl ?_;conv=>whnf
   refine cs ?_;conv=>whnf
   cases hb:Qu 2 l 22 with
   |false =>
    have hw3:w2=XV i D[i] w1 (k+1):=by rw[hsc];simp[XW,c2,hb]
    refine nF fun hc=>?_;conv=>whnf
    conv=>whnf
    refine⟨_,wO, ?_⟩;refine⟨(k+1,w2),⟨hkc,hw3⟩,by show 3-(k+1)<3-k;omega, ?_⟩;conv=>whnf
    refine⟨rfl, ?_⟩;conv=>whnf
    exact JE
   |true =>
    have hw3:ae7 w2 (Jd l 22 30) (Jd l 120 128) (VJ l)=XV i D[i] w1 (k+1):=by rw[hsc];simp[XW,c2,hb]
    refine nT fun hc=>?_;conv=>whnf
    refine Jk (n:=128) (l:=l) Ja rfl rfl rfl rfl rfl rfl ⟨22,rfl,by decide,0,rfl,by decide, ?_⟩;conv=>whnf
    refine Ju (fx:=some 128) (l:=l) Ja rfl rfl rfl rfl rfl rfl (by rw[Jt];omega) ?_;rw[show(l.drop 0).take (JV 22 0)=l.take 22 from by rw[Jt];rfl];conv=>whnf
    refine Yq (l:=[102]) (l':=l.take 22) rfl rfl rfl (by rw[List.length_take];show 1+_≤_;omega) ?_;conv=>whnf
    refine Jk (n:=128) (l:=l) Ja rfl rfl rfl rfl rfl rfl ⟨120,rfl,by decide,30,rfl,by decide, ?_⟩;conv=>whnf
    refine Ju (fx:=some 128) (l:=l) Ja rfl rfl rfl rfl rfl rfl (by rw[Jt];omega) ?_;rw[show(l.drop 30).take (JV 120 30)=(l.take 120).drop 30 from by rw[Jt,List.drop_take]];conv=>whnf
    refine Yq (l:=[102]++l.take 22) (l':=(l.take 120).drop 30) rfl rfl rfl (by rw[List.length_append,List.length_take,List.length_drop,List.length_take];show 1+_+_≤_;omega) ?_;rw[show([102]++l.take 22)++(l.take 120).drop 30=VJ l from rfl];generalize VJ l=tx at hw3 ⊢;conv=>whnf
    refine Jk (n:=128) (l:=l) Ja rfl rfl rfl rfl rfl rfl ⟨30,rfl,by decide,22,rfl,by decide, ?_⟩;conv=>whnf
    refine Ju (fx:=some 128) (l:=l) Ja rfl rfl rfl rfl rfl rfl (by rw[Jt];omega) ?_;rw[show(l.drop 22).take (JV 30 22)=Jd l 22 30 from by rw[Jt];rfl];conv=>whnf
    refine Jb (Kr w2.front (Jd l 22 30) tx) rfl rfl ?_;conv=>whnf
    refine cs ?_;conv=>whnf
    refine Jk (n:=128) (l:=l) Ja rfl rfl rfl rfl rfl rfl ⟨128,rfl,by decide,120,rfl,by decide, ?_⟩;conv=>whnf
    refine Ju (fx:=some 128) (l:=l) Ja rfl rfl rfl rfl rfl rfl (by rw[Jt];omega) ?_;rw[show(l.drop 120).take (JV 128 120)=Jd l 120 128 from by rw[Jt];rfl];conv=>whnf
    refine Jb (Kr w2.back (Jd l 120 128) tx) rfl rfl ?_;conv=>whnf
    refine cs ?_;have e3:∀c,(w2.clash||(YG w2.front (Jd l 22 30) tx||YG w2.back (Jd l 120 128) tx))=c→(⟨YO w2.front (Jd l 22 30) tx,YO w2.back (Jd l 120 128) tx,c⟩:Wt)=XV i D[i] w1 (k+1):=fun c hc=>by rw[←hw3,←hc];rfl
    generalize YG w2.front (Jd l 22 30) tx=n1 at e3 ⊢;generalize YG w2.back (Jd l 120 128) tx=n2 at e3 ⊢;generalize hcl:w2.clash=cl at e3 ⊢;conv=>whnf
    cases cl with
    |true =>
     have hw3:=e3 true rfl;conv=>whnf
     refine nT fun hc=>?_;conv=>whnf
     conv=>whnf
     refine⟨_,wO, ?_⟩;refine⟨(k+1,_),⟨hkc,hw3⟩,by show 3-(k+1)<3-k;omega, ?_⟩;conv=>whnf
     refine⟨rfl, ?_⟩;conv=>whnf
     exact JE
    |false =>
     conv=>whnf
     refine nF fun hc=>?_;conv=>whnf
     cases n1 with
     |true =>
      have hw3:=e3 true rfl;conv=>whnf
      refine nT fun hc=>?_;conv=>whnf
      conv=>whnf
      refine⟨_,wO, ?_⟩;refine⟨(k+1,_),⟨hkc,hw3⟩,by show 3-(k+1)<3-k;omega, ?_⟩;conv=>whnf
      refine⟨rfl, ?_⟩;conv=>whnf
      exact JE
     |false =>
      have hw3:=e3 n2 rfl;conv=>whnf
      refine nF fun hc=>?_;conv=>whnf
      conv=>whnf
      refine⟨_,wO, ?_⟩;refine⟨(k+1,_),⟨hkc,hw3⟩,by show 3-(k+1)<3-k;omega, ?_⟩;conv=>whnf
      refine⟨rfl, ?_⟩;conv=>whnf
      exact JE
 |some q =>
  have hcn:UI D[i]=2:=by simp[UI,hq]
  refine JZ (s:=D[i].1) (q:=q) Ja rfl rfl rfl rfl rfl rfl (Wp h hq) rfl (Xt h hq) ?_;conv=>whnf
  refine⟨fun hc=>?_,fun hc=>?_⟩
  rotate_left
  ·have hke:k=2:=by have:=of_decide_eq_false hc;dsimp only at this;omega
   conv=>whnf
   refine⟨_,wO, ?_⟩;refine⟨(i+1,w2),⟨h,Eq.trans hw2 (Eq.symm (hst.trans (by rw[hcn,hke])))⟩,by show D.length-(i+1)<D.length-i;omega, ?_⟩;conv=>whnf
   refine⟨rfl, ?_⟩;conv=>whnf
   exact JE
  have hk1:k≤1:=by have:=of_decide_eq_true hc;dsimp only at this;omega
  have hkc:k+1≤UI D[i]:=by omega
  conv=>whnf
  refine⟨i,rfl,h, ?_⟩;conv=>whnf
  refine XG Ja D[i].1 (.ghost 2 i) rfl rfl rfl rfl rfl rfl rfl (Wp h hq) ?_;have hd1:=D[i].1.h;conv=>whnf
  refine Jv Ja 128 rfl rfl rfl ?_;conv=>whnf
  refine Jp (l':=D[i].1.l) Ja rfl rfl rfl rfl rfl (by simp) (by rw[hd1];simp) (by decide) ?_;conv=>whnf
  by_cases hk0:k=0
  ·have hsk:(ae9 D[i] k).l=D[i].1.l:=by rw[hk0];rfl
   rw[hsk]at hsc;have hal:=hd1;generalize D[i].1.l=l at hsc hal ⊢;refine⟨fun hc=>absurd (show(0:Int)<(k:Int)from of_decide_eq_true hc) (by omega),fun hc=>?_⟩;conv=>whnf
   by_cases c2:i<2
   ·have n2:(i:Int)<2:=by omega
    have p2:¬(2:Int)≤(i:Int):=by omega
    refine⟨fun hc=>?_,fun hc=>absurd n2 (show ¬(i:Int)<2 from of_decide_eq_false hc)⟩;conv=>whnf
    refine Jm (l:=l) Ja rfl rfl rfl rfl rfl hal.symm ?_;conv=>whnf
    refine Jb (al2 l hal i (by omega)) rfl rfl ?_;conv=>whnf
    refine cs ?_;conv=>whnf
    refine⟨fun hc=>absurd (show(2:Int)≤(i:Int)from of_decide_eq_true hc) p2,fun hc=>?_⟩;cases hb:JF l i with
    |false =>
     have hw3:w2=XV i D[i] w1 (k+1):=by rw[hsc];simp[XW,c2,hb]
     conv=>whnf
     refine nF fun hc=>?_;conv=>whnf
     conv=>whnf
     refine⟨_,wO, ?_⟩;refine⟨(k+1,w2),⟨hkc,hw3⟩,by show 3-(k+1)<3-k;omega, ?_⟩;conv=>whnf
     refine⟨rfl, ?_⟩;conv=>whnf
     exact JE
    |true =>
     have hw3:ae7 w2 (Jd l 44 52) (Jd l 120 128) (ae8 l)=XV i D[i] w1 (k+1):=by rw[hsc];simp[XW,c2,hb]
     conv=>whnf
     refine nT fun hc=>?_;conv=>whnf
     refine Jk (n:=128) (l:=l) Ja rfl rfl rfl rfl rfl rfl ⟨44,rfl,by decide,0,rfl,by decide, ?_⟩;conv=>whnf
     refine Ju (fx:=some 128) (l:=l) Ja rfl rfl rfl rfl rfl rfl (by rw[Jt];omega) ?_;rw[show(l.drop 0).take (JV 44 0)=l.take 44 from by rw[Jt];rfl];conv=>whnf
     refine Yq (l:=[98]) (l':=l.take 44) rfl rfl rfl (by rw[List.length_take];show 1+_≤_;omega) ?_;conv=>whnf
     refine Jk (n:=128) (l:=l) Ja rfl rfl rfl rfl rfl rfl ⟨120,rfl,by decide,52,rfl,by decide, ?_⟩;conv=>whnf
     refine Ju (fx:=some 128) (l:=l) Ja rfl rfl rfl rfl rfl rfl (by rw[Jt];omega) ?_;rw[show(l.drop 52).take (JV 120 52)=(l.take 120).drop 52 from by rw[Jt,List.drop_take]];conv=>whnf
     refine Yq (l:=[98]++l.take 44) (l':=(l.take 120).drop 52) rfl rfl rfl (by rw[List.length_append,List.length_take,List.length_drop,List.length_take];show 1+_+_≤_;omega) ?_;rw[show([98]++l.take 44)++(l.take 120).drop 52=ae8 l from rfl];generalize ae8 l=tx at hw3 ⊢;conv=>whnf
     refine Jk (n:=128) (l:=l) Ja rfl rfl rfl rfl rfl rfl ⟨52,rfl,by decide,44,rfl,by decide, ?_⟩;conv=>whnf
     refine Ju (fx:=some 128) (l:=l) Ja rfl rfl rfl rfl rfl rfl (by rw[Jt];omega) ?_;rw[show(l.drop 44).take (JV 52 44)=Jd l 44 52 from by rw[Jt];rfl];conv=>whnf
     refine Jb (Kr w2.front (Jd l 44 52) tx) rfl rfl ?_;conv=>whnf
     refine cs ?_;conv=>whnf
     refine Jk (n:=128) (l:=l) Ja rfl rfl rfl rfl rfl rfl ⟨128,rfl,by decide,120,rfl,by decide, ?_⟩;conv=>whnf
     refine Ju (fx:=some 128) (l:=l) Ja rfl rfl rfl rfl rfl rfl (by rw[Jt];omega) ?_;rw[show(l.drop 120).take (JV 128 120)=Jd l 120 128 from by rw[Jt];rfl];conv=>whnf
     refine Jb (Kr w2.back (Jd l 120 128) tx) rfl rfl ?_;conv=>whnf
     refine cs ?_;have e3:∀c,(w2.clash||(YG w2.front (Jd l 44 52) tx||YG w2.back (Jd l 120 128) tx))=c→(⟨YO w2.front (Jd l 44 52) tx,YO w2.back (Jd l 120 128) tx,c⟩:Wt)=XV i D[i] w1 (k+1):=fun c hc=>by rw[←hw3,←hc];rfl
     generalize YG w2.front (Jd l 44 52) tx=n1 at e3 ⊢;generalize YG w2.back (Jd l 120 128) tx=n2 at e3 ⊢;generalize hcl:w2.clash=cl at e3 ⊢;conv=>whnf
     cases cl with
     |true =>
      have hw3:=e3 true rfl;conv=>whnf
      refine nT fun hc=>?_;conv=>whnf
      conv=>whnf
      refine⟨_,wO, ?_⟩;refine⟨(k+1,_),⟨hkc,hw3⟩,by show 3-(k+1)<3-k;omega, ?_⟩;conv=>whnf
      refine⟨rfl, ?_⟩;conv=>whnf
      exact JE
     |false =>
      conv=>whnf
      refine nF fun hc=>?_;conv=>whnf
      cases n1 with
      |true =>
       have hw3:=e3 true rfl;conv=>whnf
       refine nT fun hc=>?_;conv=>whnf
       conv=>whnf
       refine⟨_,wO, ?_⟩;refine⟨(k+1,_),⟨hkc,hw3⟩,by show 3-(k+1)<3-k;omega, ?_⟩;conv=>whnf
       refine⟨rfl, ?_⟩;conv=>whnf
       exact JE
      |false =>
       have hw3:=e3 n2 rfl;conv=>whnf
       refine nF fun hc=>?_;conv=>whnf
       conv=>whnf
       refine⟨_,wO, ?_⟩;refine⟨(k+1,_),⟨hkc,hw3⟩,by show 3-(k+1)<3-k;omega, ?_⟩;conv=>whnf
       refine⟨rfl, ?_⟩;conv=>whnf
       exact JE
   ·have n2:¬(i:Int)<2:=by omega
    have p2:(2:Int)≤(i:Int):=by omega
    refine⟨fun hc=>absurd (show(i:Int)<2 from of_decide_eq_true hc) n2,fun hc=>?_⟩;conv=>whnf
    refine⟨fun hc=>?_,fun hc=>absurd p2 (show ¬(2:Int)≤(i:Int)from of_decide_eq_false hc)⟩;conv=>whnf
    refine Jm (l:=l) Ja rfl rfl rfl rfl rfl hal.symm ?_;conv=>whnf
    refine Jb (ae5 l hal) rfl rfl ?_;conv=>whnf
    refine cs ?_;conv=>whnf
    cases hb:Qu 2 l 22 with
    |false =>
     have hw3:w2=XV i D[i] w1 (k+1):=by rw[hsc];simp[XW,c2,hb]
     refine nF fun hc=>?_;conv=>whnf
     conv=>whnf
     refine⟨_,wO, ?_⟩;refine⟨(k+1,w2),⟨hkc,hw3⟩,by show 3-(k+1)<3-k;omega, ?_⟩;conv=>whnf
     refine⟨rfl, ?_⟩;conv=>whnf
     exact JE
    |true =>
     have hw3:ae7 w2 (Jd l 22 30) (Jd l 120 128) (VJ l)=XV i D[i] w1 (k+1):=by rw[hsc];simp[XW,c2,hb]
     refine nT fun hc=>?_;conv=>whnf
     refine Jk (n:=128) (l:=l) Ja rfl rfl rfl rfl rfl rfl ⟨22,rfl,by decide,0,rfl,by decide, ?_⟩;conv=>whnf
     refine Ju (fx:=some 128) (l:=l) Ja rfl rfl rfl rfl rfl rfl (by rw[Jt];omega) ?_;rw[show(l.drop 0).take (JV 22 0)=l.take 22 from by rw[Jt];rfl];conv=>whnf
     refine Yq (l:=[102]) (l':=l.take 22) rfl rfl rfl (by rw[List.length_take];show 1+_≤_;omega) ?_;conv=>whnf
     refine Jk (n:=128) (l:=l) Ja rfl rfl rfl rfl rfl rfl ⟨120,rfl,by decide,30,rfl,by decide, ?_⟩;conv=>whnf
     refine Ju (fx:=some 128) (l:=l) Ja rfl rfl rfl rfl rfl rfl (by rw[Jt];omega) ?_;rw[show(l.drop 30).take (JV 120 30)=(l.take 120).drop 30 from by rw[Jt,List.drop_take]];conv=>whnf
     refine Yq (l:=[102]++l.take 22) (l':=(l.take 120).drop 30) rfl rfl rfl (by rw[List.length_append,List.length_take,List.length_drop,List.length_take];show 1+_+_≤_;omega) ?_;rw[show([102]++l.take 22)++(l.take 120).drop 30=VJ l from rfl];generalize VJ l=tx at hw3 ⊢;conv=>whnf
     refine Jk (n:=128) (l:=l) Ja rfl rfl rfl rfl rfl rfl ⟨30,rfl,by decide,22,rfl,by decide, ?_⟩;conv=>whnf
     refine Ju (fx:=some 128) (l:=l) Ja rfl rfl rfl rfl rfl rfl (by rw[Jt];omega) ?_;rw[show(l.drop 22).take (JV 30 22)=Jd l 22 30 from by rw[Jt];rfl];conv=>whnf
     refine Jb (Kr w2.front (Jd l 22 30) tx) rfl rfl ?_;conv=>whnf
     refine cs ?_;conv=>whnf
     refine Jk (n:=128) (l:=l) Ja rfl rfl rfl rfl rfl rfl ⟨128,rfl,by decide,120,rfl,by decide, ?_⟩;conv=>whnf
     refine Ju (fx:=some 128) (l:=l) Ja rfl rfl rfl rfl rfl rfl (by rw[Jt];omega) ?_;rw[show(l.drop 120).take (JV 128 120)=Jd l 120 128 from by rw[Jt];rfl];conv=>whnf
     refine Jb (Kr w2.back (Jd l 120 128) tx) rfl rfl ?_;conv=>whnf
     refine cs ?_;have e3:∀c,(w2.clash||(YG w2.front (Jd l 22 30) tx||YG w2.back (Jd l 120 128) tx))=c→(⟨YO w2.front (Jd l 22 30) tx,YO w2.back (Jd l 120 128) tx,c⟩:Wt)=XV i D[i] w1 (k+1):=fun c hc=>by rw[←hw3,←hc];rfl
     generalize YG w2.front (Jd l 22 30) tx=n1 at e3 ⊢;generalize YG w2.back (Jd l 120 128) tx=n2 at e3 ⊢;generalize hcl:w2.clash=cl at e3 ⊢;conv=>whnf
     cases cl with
     |true =>
      have hw3:=e3 true rfl;conv=>whnf
      refine nT fun hc=>?_;conv=>whnf
      conv=>whnf
      refine⟨_,wO, ?_⟩;refine⟨(k+1,_),⟨hkc,hw3⟩,by show 3-(k+1)<3-k;omega, ?_⟩;conv=>whnf
      refine⟨rfl, ?_⟩;conv=>whnf
      exact JE
     |false =>
      conv=>whnf
      refine nF fun hc=>?_;conv=>whnf
      cases n1 with
      |true =>
       have hw3:=e3 true rfl;conv=>whnf
       refine nT fun hc=>?_;conv=>whnf
       conv=>whnf
       refine⟨_,wO, ?_⟩;refine⟨(k+1,_),⟨hkc,hw3⟩,by show 3-(k+1)<3-k;omega, ?_⟩;conv=>whnf
       refine⟨rfl, ?_⟩;conv=>whnf
       exact JE
      |false =>
       have hw3:=e3 n2 rfl;conv=>whnf
       refine nF fun hc=>?_;conv=>whnf
       conv=>whnf
       refine⟨_,wO, ?_⟩;refine⟨(k+1,_),⟨hkc,hw3⟩,by show 3-(k+1)<3-k;omega, ?_⟩;conv=>whnf
       refine⟨rfl, ?_⟩;conv=>whnf
       exact JE
  ·have hke:k=1:=by omega
   have hsk:(ae9 D[i] k).l=q.l:=by rw[hke];show(D[i].2.getD D[i].1).l=_;rw[hq];rfl
   rw[hsk]at hsc;have hal:=q.h;have pk:(0:Int)<(k:Int):=by omega
   refine⟨fun hc=>?_,fun hc=>absurd pk (show ¬(0:Int)<(k:Int)from of_decide_eq_false hc)⟩;conv=>whnf
   refine⟨i,rfl,h, ?_⟩;conv=>whnf
   refine JZ (s:=D[i].1) (q:=q) Ja rfl rfl rfl rfl rfl rfl (Wp h hq) rfl (Xt h hq) ?_;conv=>whnf
   refine⟨0,by show IntKind.i64.wrap ((k:Int)-1)=0;rw[hke];rfl, ?_⟩;conv=>whnf
   refine⟨0,rfl,by decide, ?_⟩;conv=>whnf
   refine WM (s:=q) Ja rfl rfl rfl rfl rfl rfl rfl ?_;conv=>whnf
   refine Jp (l':=q.l) Ja rfl rfl rfl rfl rfl hd1.symm (by rw[hal,hd1]) (by decide) ?_;generalize q.l=l at hsc hal ⊢;conv=>whnf
   by_cases c2:i<2
   ·have n2:(i:Int)<2:=by omega
    have p2:¬(2:Int)≤(i:Int):=by omega
    refine⟨fun hc=>?_,fun hc=>absurd n2 (show ¬(i:Int)<2 from of_decide_eq_false hc)⟩;conv=>whnf
    refine Jm (l:=l) Ja rfl rfl rfl rfl rfl hal.symm ?_;conv=>whnf
    refine Jb (al2 l hal i (by omega)) rfl rfl ?_;conv=>whnf
    refine cs ?_;conv=>whnf
    refine⟨fun hc=>absurd (show(2:Int)≤(i:Int)from of_decide_eq_true hc) p2,fun hc=>?_⟩;cases hb:JF l i with
    |false =>
     have hw3:w2=XV i D[i] w1 (k+1):=by rw[hsc];simp[XW,c2,hb]
     conv=>whnf
     refine nF fun hc=>?_;conv=>whnf
     conv=>whnf
     refine⟨_,wO, ?_⟩;refine⟨(k+1,w2),⟨hkc,hw3⟩,by show 3-(k+1)<3-k;omega, ?_⟩;conv=>whnf
     refine⟨rfl, ?_⟩;conv=>whnf
     exact JE
    |true =>
     have hw3:ae7 w2 (Jd l 44 52) (Jd l 120 128) (ae8 l)=XV i D[i] w1 (k+1):=by rw[hsc];simp[XW,c2,hb]
     conv=>whnf
     refine nT fun hc=>?_;conv=>whnf
     refine Jk (n:=128) (l:=l) Ja rfl rfl rfl rfl rfl rfl ⟨44,rfl,by decide,0,rfl,by decide, ?_⟩;conv=>whnf
     refine Ju (fx:=some 128) (l:=l) Ja rfl rfl rfl rfl rfl rfl (by rw[Jt];omega) ?_;rw[show(l.drop 0).take (JV 44 0)=l.take 44 from by rw[Jt];rfl];conv=>whnf
     refine Yq (l:=[98]) (l':=l.take 44) rfl rfl rfl (by rw[List.length_take];show 1+_≤_;omega) ?_;conv=>whnf
     refine Jk (n:=128) (l:=l) Ja rfl rfl rfl rfl rfl rfl ⟨120,rfl,by decide,52,rfl,by decide, ?_⟩;conv=>whnf
     refine Ju (fx:=some 128) (l:=l) Ja rfl rfl rfl rfl rfl rfl (by rw[Jt];omega) ?_;rw[show(l.drop 52).take (JV 120 52)=(l.take 120).drop 52 from by rw[Jt,List.drop_take]];conv=>whnf
     refine Yq (l:=[98]++l.take 44) (l':=(l.take 120).drop 52) rfl rfl rfl (by rw[List.length_append,List.length_take,List.length_drop,List.length_take];show 1+_+_≤_;omega) ?_;rw[show([98]++l.take 44)++(l.take 120).drop 52=ae8 l from rfl];generalize ae8 l=tx at hw3 ⊢;conv=>whnf
     refine Jk (n:=128) (l:=l) Ja rfl rfl rfl rfl rfl rfl ⟨52,rfl,by decide,44,rfl,by decide, ?_⟩;conv=>whnf
     refine Ju (fx:=some 128) (l:=l) Ja rfl rfl rfl rfl rfl rfl (by rw[Jt];omega) ?_;rw[show(l.drop 44).take (JV 52 44)=Jd l 44 52 from by rw[Jt];rfl];conv=>whnf
     refine Jb (Kr w2.front (Jd l 44 52) tx) rfl rfl ?_;conv=>whnf
     refine cs ?_;conv=>whnf
     refine Jk (n:=128) (l:=l) Ja rfl rfl rfl rfl rfl rfl ⟨128,rfl,by decide,120,rfl,by decide, ?_⟩;conv=>whnf
     refine Ju (fx:=some 128) (l:=l) Ja rfl rfl rfl rfl rfl rfl (by rw[Jt];omega) ?_;rw[show(l.drop 120).take (JV 128 120)=Jd l 120 128 from by rw[Jt];rfl];conv=>whnf
     refine Jb (Kr w2.back (Jd l 120 128) tx) rfl rfl ?_;conv=>whnf
     refine cs ?_;have e3:∀c,(w2.clash||(YG w2.front (Jd l 44 52) tx||YG w2.back (Jd l 120 128) tx))=c→(⟨YO w2.front (Jd l 44 52) tx,YO w2.back (Jd l 120 128) tx,c⟩:Wt)=XV i D[i] w1 (k+1):=fun c hc=>by rw[←hw3,←hc];rfl
     generalize YG w2.front (Jd l 44 52) tx=n1 at e3 ⊢;generalize YG w2.back (Jd l 120 128) tx=n2 at e3 ⊢;generalize hcl:w2.clash=cl at e3 ⊢;conv=>whnf
     cases cl with
     |true =>
      have hw3:=e3 true rfl;conv=>whnf
      refine nT fun hc=>?_;conv=>whnf
      conv=>whnf
      refine⟨_,wO, ?_⟩;refine⟨(k+1,_),⟨hkc,hw3⟩,by show 3-(k+1)<3-k;omega, ?_⟩;conv=>whnf
      refine⟨rfl, ?_⟩;conv=>whnf
      exact JE
     |false =>
      conv=>whnf
      refine nF fun hc=>?_;conv=>whnf
      cases n1 with
      |true =>
       have hw3:=e3 true rfl;conv=>whnf
       refine nT fun hc=>?_;conv=>whnf
       conv=>whnf
       refine⟨_,wO, ?_⟩;refine⟨(k+1,_),⟨hkc,hw3⟩,by show 3-(k+1)<3-k;omega, ?_⟩;conv=>whnf
       refine⟨rfl, ?_⟩;conv=>whnf
       exact JE
      |false =>
       have hw3:=e3 n2 rfl;conv=>whnf
       refine nF fun hc=>?_;conv=>whnf
       conv=>whnf
       refine⟨_,wO, ?_⟩;refine⟨(k+1,_),⟨hkc,hw3⟩,by show 3-(k+1)<3-k;omega, ?_⟩;conv=>whnf
       refine⟨rfl, ?_⟩;conv=>whnf
       exact JE
   ·have n2:¬(i:Int)<2:=by omega
    have p2:(2:Int)≤(i:Int):=by omega
    refine⟨fun hc=>absurd (show(i:Int)<2 from of_decide_eq_true hc) n2,fun hc=>?_⟩;conv=>whnf
    refine⟨fun hc=>?_,fun hc=>absurd p2 (show ¬(2:Int)≤(i:Int)from of_decide_eq_false hc)⟩;conv=>whnf
    refine Jm (l:=l) Ja rfl rfl rfl rfl rfl hal.symm ?_;conv=>whnf
    refine Jb (ae5 l hal) rfl rfl ?_;conv=>whnf
    refine cs ?_;conv=>whnf
    cases hb:Qu 2 l 22 with
    |false =>
     have hw3:w2=XV i D[i] w1 (k+1):=by rw[hsc];simp[XW,c2,hb]
     refine nF fun hc=>?_;conv=>whnf
     conv=>whnf
     refine⟨_,wO, ?_⟩;refine⟨(k+1,w2),⟨hkc,hw3⟩,by show 3-(k+1)<3-k;omega, ?_⟩;conv=>whnf
     refine⟨rfl, ?_⟩;conv=>whnf
     exact JE
    |true =>
     have hw3:ae7 w2 (Jd l 22 30) (Jd l 120 128) (VJ l)=XV i D[i] w1 (k+1):=by rw[hsc];simp[XW,c2,hb]
     refine nT fun hc=>?_;conv=>whnf
     refine Jk (n:=128) (l:=l) Ja rfl rfl rfl rfl rfl rfl ⟨22,rfl,by decide,0,rfl,by decide, ?_⟩;conv=>whnf
     refine Ju (fx:=some 128) (l:=l) Ja rfl rfl rfl rfl rfl rfl (by rw[Jt];omega) ?_;rw[show(l.drop 0).take (JV 22 0)=l.take 22 from by rw[Jt];rfl];conv=>whnf
     refine Yq (l:=[102]) (l':=l.take 22) rfl rfl rfl (by rw[List.length_take];show 1+_≤_;omega) ?_;conv=>whnf
     refine Jk (n:=128) (l:=l) Ja rfl rfl rfl rfl rfl rfl ⟨120,rfl,by decide,30,rfl,by decide, ?_⟩;conv=>whnf
     refine Ju (fx:=some 128) (l:=l) Ja rfl rfl rfl rfl rfl rfl (by rw[Jt];omega) ?_;rw[show(l.drop 30).take (JV 120 30)=(l.take 120).drop 30 from by rw[Jt,List.drop_take]];conv=>whnf
     refine Yq (l:=[102]++l.take 22) (l':=(l.take 120).drop 30) rfl rfl rfl (by rw[List.length_append,List.length_take,List.length_drop,List.length_take];show 1+_+_≤_;omega) ?_;rw[show([102]++l.take 22)++(l.take 120).drop 30=VJ l from rfl];generalize VJ l=tx at hw3 ⊢;conv=>whnf
     refine Jk (n:=128) (l:=l) Ja rfl rfl rfl rfl rfl rfl ⟨30,rfl,by decide,22,rfl,by decide, ?_⟩;conv=>whnf
     refine Ju (fx:=some 128) (l:=l) Ja rfl rfl rfl rfl rfl rfl (by rw[Jt];omega) ?_;rw[show(l.drop 22).take (JV 30 22)=Jd l 22 30 from by rw[Jt];rfl];conv=>whnf
     refine Jb (Kr w2.front (Jd l 22 30) tx) rfl rfl ?_;conv=>whnf
     refine cs ?_;conv=>whnf
     refine Jk (n:=128) (l:=l) Ja rfl rfl rfl rfl rfl rfl ⟨128,rfl,by decide,120,rfl,by decide, ?_⟩;conv=>whnf
     refine Ju (fx:=some 128) (l:=l) Ja rfl rfl rfl rfl rfl rfl (by rw[Jt];omega) ?_;rw[show(l.drop 120).take (JV 128 120)=Jd l 120 128 from by rw[Jt];rfl];conv=>whnf
     refine Jb (Kr w2.back (Jd l 120 128) tx) rfl rfl ?_;conv=>whnf
     refine cs ?_;have e3:∀c,(w2.clash||(YG w2.front (Jd l 22 30) tx||YG w2.back (Jd l 120 128) tx))=c→(⟨YO w2.front (Jd l 22 30) tx,YO w2.back (Jd l 120 128) tx,c⟩:Wt)=XV i D[i] w1 (k+1):=fun c hc=>by rw[←hw3,←hc];rfl
     generalize YG w2.front (Jd l 22 30) tx=n1 at e3 ⊢;generalize YG w2.back (Jd l 120 128) tx=n2 at e3 ⊢;generalize hcl:w2.clash=cl at e3 ⊢;conv=>whnf
     cases cl with
     |true =>
      have hw3:=e3 true rfl;conv=>whnf
      refine nT fun hc=>?_;conv=>whnf
      conv=>whnf
      refine⟨_,wO, ?_⟩;refine⟨(k+1,_),⟨hkc,hw3⟩,by show 3-(k+1)<3-k;omega, ?_⟩;conv=>whnf
      refine⟨rfl, ?_⟩;conv=>whnf
      exact JE
     |false =>
      conv=>whnf
      refine nF fun hc=>?_;conv=>whnf
      cases n1 with
      |true =>
       have hw3:=e3 true rfl;conv=>whnf
       refine nT fun hc=>?_;conv=>whnf
       conv=>whnf
       refine⟨_,wO, ?_⟩;refine⟨(k+1,_),⟨hkc,hw3⟩,by show 3-(k+1)<3-k;omega, ?_⟩;conv=>whnf
       refine⟨rfl, ?_⟩;conv=>whnf
       exact JE
      |false =>
       have hw3:=e3 n2 rfl;conv=>whnf
       refine nF fun hc=>?_;conv=>whnf
       conv=>whnf
       refine⟨_,wO, ?_⟩;refine⟨(k+1,_),⟨hkc,hw3⟩,by show 3-(k+1)<3-k;omega, ?_⟩;conv=>whnf
       refine⟨rfl, ?_⟩;conv=>whnf
       exact JE
abbrev xwH(own:Bool)(n:Nat)(D:Dk)(x:Xl)(ks:List Xk)(w:Wt):Je :=
 [(5,own, .cells (shC n w.clash)),(0,own,YE 1 n),(1,own,Vc 2 D),(2,own,Vv D),(3,own, .cells (xlC n x 4 ks.length)),(4,own, .arr (aXk ks)),(6,own,UD w.front),(7,own,UD w.back)]
def w00:Wt:=⟨[],[],false⟩
theorem cp0(n:Nat)(hn:6≤n∧n≤65536)(hs:YF (Qp n) n=Sv0)(hg:XU (Qp n) 2=0)(D:Dk)(hD:Wg n=D)(hg1:XU D 2=1)(hb:JF (Qi D 1) 1=true)(m0:Nat)(hs1:(YF D n).2.2=m0)(hm:m0<4294967295)
 (hf:(JX (Qi D 1)).first.toNat≤1000) (x:Xl) (hx:aF4 D m0=x) (ks:List Xk) (hks:aj3 D x=ks) :
 Triple Tryz.prog 32 [iv .i64 n] [] 0 (.c (.p 5 0 0 0)) (xwH true n D x ks (YP D w00 n)):=by
 have hl0:=Ka n;have hl:D.length=n:=by rw[←hD];exact GD n
 have hnd:=bP5 n ⟨by omega,hn.2⟩;have hft:=cc3 n hn hs hg;rw[hl0]at hnd hft;rw[hD]at hft;have hop:=bF9 D (by omega) hg1 hb m0 (by rw[hl];exact hs1) hm hf;rw[hx,hks]at hop;dsimp only[dkH]at hop;rw[hl]at hop;have hsc:=aQ1 D (by omega) x ks w00;dsimp only[shH,wtH]at hsc;rw[hl]at hsc;generalize Qp n=D0 at hnd hft;generalize YP D w00 n=w at hsc ⊢;refine Jc Ja Tryz.func32 rfl Tryz.call32 rfl ?_;intro ρ w hH;conv=>whnf
 refine Jb hnd rfl rfl ?_;conv=>whnf
 refine Qs ?_;conv=>whnf
 rw[←JI rfl];refine Jb hft rfl rfl ?_;conv=>whnf
 refine Qs ?_;conv=>whnf
 rw[←JI rfl];refine Jb hop rfl rfl ?_;conv=>whnf
 refine Qs ?_;conv=>whnf
 refine aR8 rfl ?_;conv=>whnf
 refine aR8 rfl ?_;conv=>whnf
 refine Jb hsc rfl rfl ?_;conv=>whnf
 refine Qs ?_;conv=>whnf
 exact JE
theorem bA6(D:Dk)(n:Nat)(hl:D.length=n)(hd:6≤n∧n≤65536)(x:Xl)(hss:x.sess≤4611686018427387904)(ks:List Xk)(hk:ks.length≤100000)(hbf:∀i,i≤ks.length→Xd ks i≤1000000)(q:Nat)(link:List UInt8)(hq:x.first+Xd ks ks.length=q)(he:ar9 x ks=link)(hlk:link.length=8)
 (hqb:q≤1000000) (s:List UInt8) (hsl:s.length≤6000) (hroom:Xd ks ks.length+Qe s≤n-2) (hfree:UH D n q (Qe s)) (w:Wt) (a':Ap) (ha':WA n x.sess s ⟨D,q,link⟩ (Qe s)=a') (ks':List Xk) (hks:ks++[⟨s,Qe s,a'.link⟩]=ks') :
 Triple Tryz.prog 33 [.c (.p 5 0 0 0),YC s] (xwH true n D x ks w) 8 (iv .i64 0)
  [(0,true,YE 1 n),(1,true,Vc 8 a'.D),(8,true,Vv a'.D),(3,true, .cells (xlC n x 9 ks'.length)),(9,true, .arr (aXk ks')),
   (5,true, .cells (shC n (YP a'.D w n).clash)),(6,true,UD (YP a'.D w n).front),(7,true,UD (YP a'.D w n).back)]:=by
 have hI:=(bc3 (sess:=x.sess) (s:=s) (a:=⟨D,q,link⟩) (q0:=q) (m:=Qe s) (n:=n) ⟨hl,rfl,hlk,hfree⟩ (by omega) (Qe s) (Nat.le_refl _)).len;rw[ha']at hI;have hap:=cc5 D (by omega) x hss ks hk hbf q link hq he hlk hqb s hsl (by rw[hl];exact hroom) (by rw[hl];exact hfree);rw[hl,ha',hks]at hap;have e1:ks.length+1=ks'.length:=by rw[←hks,List.length_append];rfl
 rw[e1]at hap;have hsc:=aQ1 a'.D (by omega) x ks' w;dsimp only[shH,wtH]at hsc;rw[hI]at hsc;generalize YP a'.D w n=w' at hsc ⊢;refine Jc Ja Tryz.func33 rfl Tryz.call33 rfl ?_;intro ρ w hH;conv=>whnf
 refine Jb hap rfl rfl ?_;conv=>whnf
 refine Qs ?_;conv=>whnf
 rw[←JI rfl];refine Jb hsc rfl rfl ?_;conv=>whnf
 refine Qs ?_;conv=>whnf
 exact JE
theorem bA7(D:Dk)(n:Nat)(hl:D.length=n)(hd:6≤n∧n≤65536)(x:Xl)(ks:List Xk)(w:Wt) :
 Triple Tryz.prog 35 [.c (.p 5 0 0 0)] (xwH true n D x ks w) 8 (iv .i64 0) (xwH true n (YD D) x ks (YP (YD D) w n)):=by
 have hI:(YD D).length=n:=by rw[XI,hl]
 have hap:=cc4 D (by omega) x ks;rw[hl]at hap;have hsc:=aQ1 (YD D) (by omega) x ks w;dsimp only[shH,wtH]at hsc;rw[hI]at hsc;generalize YP (YD D) w n=w' at hsc ⊢;generalize YD D=D' at hap hsc ⊢;refine Jc Ja Tryz.func35 rfl Tryz.call35 rfl ?_;intro ρ w hH;conv=>whnf
 refine Jb hap rfl rfl ?_;conv=>whnf
 refine Qs ?_;conv=>whnf
 rw[←JI rfl];refine Jb hsc rfl rfl ?_;conv=>whnf
 refine Qs ?_;conv=>whnf
 exact JE
theorem cc8(n:Nat)(hn:6≤n∧n≤65536)(D:Dk)(hl:D.length=n)(hg1:XU D 2=1)(hb:JF (Qi D 1) 1=true)(m0:Nat)(hs1:(YF D n).2.2=m0)(hm:m0<4294967295)
 (hf:(JX (Qi D 1)).first.toNat≤1000) (w:Wt) :
 Triple Tryz.prog 85 [.c (.p 5 0 0 0)] [(5,true, .cells [.p 0 0 0 0, .junk, .v (.int .i64 n), .m 6, .m 7, .v (.bool w.clash)]),(0,true,YE 1 n),(1,true,Vc 2 D),(2,true,Vv D),(6,true,UD w.front),(7,true,UD w.back)] 8 (.tup [])
  [(5,true, .cells [.junk, .junk, .junk, .junk, .junk, .v (.bool (YP D w n).clash)])]:=by
 have hop:=bF9 D (by omega) hg1 hb m0 (by rw[hl];exact hs1) hm hf;generalize aF4 D m0=x at hop;generalize aj3 D x=ks at hop;dsimp only[dkH]at hop;rw[hl]at hop;have hsc:=aQ1 D (by omega) x ks w;dsimp only[shH,wtH]at hsc;rw[hl]at hsc;generalize YP D w n=w' at hsc ⊢;refine Jc Ja Tryz.func85 rfl Tryz.call85 rfl ?_;intro ρ w hH;conv=>whnf
 refine Jb hop rfl rfl ?_;conv=>whnf
 refine Qs ?_;conv=>whnf
 refine nT fun hc=>?_;conv=>whnf
 refine Jb hsc rfl rfl ?_;conv=>whnf
 refine Qs ?_;conv=>whnf
 exact JE
theorem bP7(n:Nat)(hn:6≤n∧n≤65536)(D:Dk)(hl:D.length=n)(keep:List Int)(hk:keep.length≤1000000)(hkb:∀x∈keep,-9223372036854775808≤x∧x≤9223372036854775807)(D2:Dk)(hD:Yp keep D=D2)
 (hg1:XU D2 2=1) (hb:JF (Qi D2 1) 1=true) (m0:Nat) (hs1:(YF D2 n).2.2=m0) (hm:m0<4294967295) (hf:(JX (Qi D2 1)).first.toNat≤1000) (w:Wt) :
 Triple Tryz.prog 37 [.c (.p 5 0 0 0), .c (.s 8 0 keep.length 1)] [(5,true, .cells [.p 0 0 0 0, .junk, .v (.int .i64 n), .m 6, .m 7, .v (.bool w.clash)]),(0,true,YE 1 n),(1,true,Vc 2 D),(2,true,Vv D),(6,true,UD w.front),(7,true,UD w.back),(8,false, .arr (Yn keep))] 9 (.tup [])
  [(5,true, .cells [.junk, .junk, .junk, .junk, .junk, .v (.bool (YP D2 w n).clash)])]:=by
 have hl2:D2.length=n:=by rw[←hD,Ko,hl]
 have hcr:=co9 D keep (by omega) hk hkb;rw[hl,hD,hl2]at hcr;have hre:=cc8 n hn D2 hl2 hg1 hb m0 hs1 hm hf w;generalize YP D2 w n=w' at hre ⊢;refine Jc Ja Tryz.func37 rfl Tryz.call37 rfl ?_;intro ρ w hH;conv=>whnf
 refine Jb hcr rfl rfl ?_;conv=>whnf
 refine Qs ?_;conv=>whnf
 rw[←JI rfl];refine Jb hre rfl rfl ?_;conv=>whnf
 refine Qs ?_;conv=>whnf
 exact JE
end Go.Proofs
