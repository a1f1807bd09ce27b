/-
  A part of the proof that a law answers true: lemmas of a symbolic walk, plain functions, or contracts of the functions walked (Uj, V1, V2, V3). Conditions: none.
-/
import Derived.Test.YtfcdjkeamldkaaaGreatPart25
import Derived.Test.YtfcdjkeamldkaaaGreatPart14
set_option maxRecDepth 100000
set_option linter.unusedVariables false
set_option linter.unusedSimpArgs false
namespace Go.Proofs
open Go.Sx
theorem ca7(seed:List UInt8)(b:Int×Int)(hb:1≤b.2∧b.2≤200)(x:Int)(hx:x∈Yt seed b):1≤x∧x≤b.2:=by
 unfold Yt at hx;obtain⟨y,hy,rfl⟩:=List.mem_map.1 hx;have:=aL3 (Xv 51 [seed,JH b.1]) b.2.toNat (by omega) (b.2.toNat-1) (Nat.le_refl _) y hy;omega
theorem co0{p:Pl}(hok:PlanOK p)(seed:List UInt8)(x:Vj)(hx:x∈Vp p seed) :
 ∃b∈p.bales,∃k:Nat,(k:Int)<p.per∧x.1=b.1∧x.2.1=k+1∧x.2.2∈Yt seed b∧(Yt seed b).getD k 0=x.2.2:=by
 unfold Vp at hx;obtain⟨b,hb,hx⟩:=List.mem_flatMap.1 hx;unfold VQ at hx;obtain⟨k,hk,rfl⟩:=List.mem_map.1 hx;have hk:=List.mem_range.1 hk;have hb2:=hok.bale b hb;have hper:=hok.per;have hl:=UZ seed b;refine⟨b,hb,k,by omega,rfl,rfl, ?_,rfl⟩;show(Yt seed b).getD k 0∈_;rw[List.getD,List.getElem?_eq_getElem (show k<(Yt seed b).length by omega)];exact List.getElem_mem _
theorem aE7{p:Pl}(hok:PlanOK p)(seed:List UInt8)(x:Vj)(hx:x∈Vp p seed):(1≤x.1∧x.1≤1099511627776)∧(1≤x.2.1∧x.2.1≤12)∧1≤x.2.2∧x.2.2≤200:=by
 obtain⟨b,hb,k,hk,h1,h2,h3,_⟩:=co0 hok seed x hx;have hb2:=hok.bale b hb;have hper:=hok.per;have:=ca7 seed b ⟨by omega,hb2.2.2⟩ x.2.2 h3;omega
def okR(b s:Sec):Bool:=WK b&&WK s
def bO8(p:Pl)(b s:Sec):List (List UInt8):=[WJ (Yw 1 b).1,WJ (Yw 2 s).1,UB b,UB s]++(Vp p (Qg p.id b s).1).map WU
theorem ca8(p:Pl)(hf:p.fib.length≤140737488355328)(hp:Wu p=0)(b s:Sec)(hb:b.seed.length≤140737488355328∧b.salt.length≤140737488355328)(hs:s.seed.length≤140737488355328∧s.salt.length≤140737488355328) :
 Triple Tryz.prog 7 [an5 0 p,ar0 b,ar0 s] [(0,false, .arr (Gl p.bales))] 1
  (.tup [.inl (.s 1 0 (bO8 p b s).length 1), .inl (.v (GX (Qg p.id b s).1)), .inl (.v (.bool (okR b s)))]) [(1,true, .arr (Va (bO8 p b s)))]:=by
 have hok:=ao5 hp;have hlen:=hok.len;have hc1:=aR4 1 b;have hc2:=aR4 2 s;have hj:=Ux p.id b s;have hdl:(Vp p (Qg p.id b s).1).length≤480:=by
  unfold Vp;rw[ak8]
  calc _≤40*12:=Nat.mul_le_mul (by omega) (by have:=hok.per;omega)
   _=480:=rfl
 have hbd:=aE7 hok (Qg p.id b s).1;have hrec:bO8 p b s=[WJ (Yw 1 b).1,WJ (Yw 2 s).1,UB b,UB s]++(Vp p (Qg p.id b s).1).map WU:=rfl;refine Jc Ja Tryz.func7 rfl Tryz.call7 rfl ?_;intro ρ w hH;conv=>whnf
 refine Jv Ja 16 rfl rfl rfl ?_;conv=>whnf
 refine Jb (br7 1 (by decide) b) rfl rfl ?_;conv=>whnf
 refine cs ?_;conv=>whnf
 refine Jv Ja 16 rfl rfl rfl ?_;conv=>whnf
 refine Jp (l':=(Yw 1 b).1) Ja rfl rfl rfl rfl rfl (by simp) (by rw[hc1];simp) (by decide) ?_;conv=>whnf
 refine Jb (br7 2 (by decide) s) rfl rfl ?_;conv=>whnf
 refine cs ?_;conv=>whnf
 refine Jv Ja 16 rfl rfl rfl ?_;conv=>whnf
 refine Jp (l':=(Yw 2 s).1) Ja rfl rfl rfl rfl rfl (by simp) (by rw[hc2];simp) (by decide) ?_;conv=>whnf
 refine Jb (bD3 p.id hok.id b s) rfl rfl ?_;conv=>whnf
 refine cs ?_;conv=>whnf
 refine Jv Ja 16 rfl rfl rfl ?_;conv=>whnf
 refine Jp (l':=(Qg p.id b s).1) Ja rfl rfl rfl rfl rfl (by simp) (by rw[hj];simp) (by decide) ?_;conv=>whnf
 refine Jm (l:=(Qg p.id b s).1) Ja rfl rfl rfl rfl rfl hj.symm ?_;conv=>whnf
 refine Jb (br8 p hf hp (Qg p.id b s).1 hj) rfl rfl ?_;conv=>whnf
 refine cs ?_;generalize Vp p (Qg p.id b s).1=D at hdl hbd hrec ⊢;conv=>whnf
 refine Jm (l:=(Yw 1 b).1) Ja rfl rfl rfl rfl rfl hc1.symm ?_;conv=>whnf
 refine Jb (cr8 (Yw 1 b).1 hc1) rfl rfl ?_;conv=>whnf
 refine cs ?_;conv=>whnf
 refine Jm (l:=(Yw 2 s).1) Ja rfl rfl rfl rfl rfl hc2.symm ?_;conv=>whnf
 refine Jb (cr8 (Yw 2 s).1 hc2) rfl rfl ?_;conv=>whnf
 refine cs ?_;conv=>whnf
 refine Jb (bj2 b hb.1 hb.2) rfl rfl ?_;conv=>whnf
 refine cs ?_;conv=>whnf
 refine Jb (bj2 s hs.1 hs.2) rfl rfl ?_;conv=>whnf
 refine cs ?_;conv=>whnf
 refine Yf Ja (Va [WJ (Yw 1 b).1,WJ (Yw 2 s).1,UB b,UB s]) rfl rfl ?_;conv=>whnf
 refine⟨⟨rfl,cl⟩, ?_⟩;generalize hL0:[WJ (Yw 1 b).1,WJ (Yw 2 s).1,UB b,UB s]=L0 at hrec ⊢;have hL0l:L0.length=4:=by rw[←hL0];rfl
 conv=>whnf
 refine Jz Ja (G:=Nat) 1 [9] (fun k=>[(18,iv .i64 k),(17, .c (.s 10 0 (L0++(D.take k).map WU).length 1))]) (fun k=>[(10,true, .arr (Va (L0++(D.take k).map WU)))])
  (fun k=>k≤D.length) (fun k=>D.length-k) ?_
 conv=>whnf
 refine⟨⟨0,Nat.zero_le _, ?_⟩, ?_⟩
 ·dsimp only;rw[List.take_zero,List.map_nil,List.append_nil,hL0l];conv=>whnf
  exact cl
 intro k hk ρ1 t1 hρ1;conv=>whnf
 refine⟨fun hc=>?_,fun hc=>?_⟩
 ·have h:k<D.length:=by simp at hc;omega
  have hx:=hbd D[k] (List.getElem_mem h);have hpl:(L0++(D.take k).map WU).length≤484:=by rw[List.length_append,hL0l,List.length_map,List.length_take];omega
  have hst:L0++(D.take (k+1)).map WU=L0++(D.take k).map WU++[WU D[k]]:=by
   rw[JR h,List.map_append,←List.append_assoc];rfl
  generalize L0++(D.take k).map WU=pr at hpl hst ⊢;conv=>whnf
  refine⟨k,rfl,h, ?_⟩;conv=>whnf
  refine⟨h, ?_⟩;conv=>whnf
  refine Jb (bj3 D[k] (by omega) (by omega) (by omega)) rfl rfl ?_;conv=>whnf
  refine cs ?_;generalize WU D[k]=x at hst ⊢;conv=>whnf
  refine Yf Ja (Va [x]) rfl rfl ?_;conv=>whnf
  refine⟨⟨rfl,cl⟩, ?_⟩;conv=>whnf
  refine VE Ja (Va pr) [x] (fun _=>rfl) rfl rfl rfl rfl ?_;conv=>whnf
  refine⟨⟨rfl,rfl,Nat.le_refl _,Nat.le_refl _,by show(pr.length+1)*17≤140737488355328;omega⟩, ?_⟩;have e2:Va (pr.take pr.length++(([x]:List (List UInt8)).drop 0).take 1)=Va (pr++[x]):=congrArg Va ab0;have e3:(pr++[x]).length=pr.length+1:=by rw[List.length_append];rfl
  conv=>whnf
  refine⟨_,wO, ?_⟩;refine⟨k+1,h,by show D.length-(k+1)<D.length-k;omega, ?_⟩;dsimp only;rw[hst,e3,←e2];conv=>whnf
  refine⟨rfl, ?_⟩;conv=>whnf
  exact cl
 ·have hke:k=D.length:=by simp at hc;omega
  subst hke;rw[List.take_length,←hrec];cases hsb:WK b with
  |true =>
   have x1:(Yw 1 b).2=0:=by simp[Yw,hsb]
   cases hss:WK s with
   |true =>
    have x2:(Yw 2 s).2=0:=by simp[Yw,hss]
    have x3:(Qg p.id b s).2=0:=by simp[Qg,hsb,hss]
    rw[show okR b s=true from by simp[okR,hsb,hss],x1,x2,x3];conv=>whnf
    refine Jm (l:=(Qg p.id b s).1) Ja rfl rfl rfl rfl rfl hj.symm ?_;conv=>whnf
    refine nT fun hc=>?_;conv=>whnf
    refine nT fun hc=>?_;conv=>whnf
    refine nT fun hc=>?_;conv=>whnf
    refine Jp (l':=(Qg p.id b s).1) Ja rfl rfl rfl rfl rfl (by simp) (by rw[hj];simp) (by decide) ?_;conv=>whnf
    refine⟨Js (Qg p.id b s).1,⟨(Yy hj).1,(by rw[Jo,hj]),rfl⟩, ?_⟩;conv=>whnf
    exact cl
   |false =>
    have x2:(Yw 2 s).2=1:=by simp[Yw,hss]
    rw[show okR b s=false from by simp[okR,hsb,hss],x1,x2];conv=>whnf
    refine Jm (l:=(Qg p.id b s).1) Ja rfl rfl rfl rfl rfl hj.symm ?_;conv=>whnf
    refine nT fun hc=>?_;conv=>whnf
    refine nF fun hc=>?_;conv=>whnf
    refine Jp (l':=(Qg p.id b s).1) Ja rfl rfl rfl rfl rfl (by simp) (by rw[hj];simp) (by decide) ?_;conv=>whnf
    refine⟨Js (Qg p.id b s).1,⟨(Yy hj).1,(by rw[Jo,hj]),rfl⟩, ?_⟩;conv=>whnf
    exact cl
  |false =>
   have x1:(Yw 1 b).2=1:=by simp[Yw,hsb]
   rw[show okR b s=false from by simp[okR,hsb],x1];conv=>whnf
   refine Jm (l:=(Qg p.id b s).1) Ja rfl rfl rfl rfl rfl hj.symm ?_;conv=>whnf
   refine nF fun hc=>?_;conv=>whnf
   refine Jp (l':=(Qg p.id b s).1) Ja rfl rfl rfl rfl rfl (by simp) (by rw[hj];simp) (by decide) ?_;conv=>whnf
   refine⟨Js (Qg p.id b s).1,⟨(Yy hj).1,(by rw[Jo,hj]),rfl⟩, ?_⟩;conv=>whnf
   exact cl
abbrev YE(kc n:Nat):SO:=.cells [.s kc 0 n 129, .v (.int .i64 (-1)), .v (.bool false)]
abbrev Vc(kp:Nat)(D:Dk):SO:=.arr (XF kp (Qv D))
abbrev Vv(D:Dk):SO:=.box (WL (VY D))
abbrev dkH(D:Dk):Je:=[(0,false,YE 1 D.length),(1,false,Vc 2 D),(2,false,Vv D)]
theorem bE4{D:Dk}{kp i:Nat}(h:i<D.length):∃x,(XF kp (Qv D)).xs[i]? = some x∧(XF kp (Qv D)).enc x=JC (D[i].1).l++[pnd kp (D[i].2.map fun _=>i)]:=by
 refine⟨(D[i].1,D[i].2.map fun _=>i), ?_,rfl⟩;show(Qv D)[i]? = _;rw[WR,List.getElem?_eq_getElem h];rfl
theorem Wp{D:Dk}{kp i:Nat}{q:Sct}(h:i<D.length)(hq:D[i].2=some q):∃x,(XF kp (Qv D)).xs[i]? = some x∧(XF kp (Qv D)).enc x=JC (D[i].1).l++[.ghost kp i]:=by
 obtain⟨x,h1,h2⟩:=bE4 (kp:=kp) h;exact⟨x,h1,by rw[h2,hq];rfl⟩
theorem Wq{D:Dk}{kp i:Nat}(h:i<D.length)(hq:D[i].2=none):∃x,(XF kp (Qv D)).xs[i]? = some x∧(XF kp (Qv D)).enc x=JC (D[i].1).l++[.v Qf]:=by
 obtain⟨x,h1,h2⟩:=bE4 (kp:=kp) h;exact⟨x,h1,by rw[h2,hq];rfl⟩
theorem Xt{D:Dk}{i:Nat}{q:Sct}(h:i<D.length)(hq:D[i].2=some q):(VY D)[i]? = some (some q):=by
 show(D.map (·.2))[i]? = _;rw[List.getElem?_map,List.getElem?_eq_getElem h];exact congrArg some hq
theorem cF1(D:Dk)(i:Nat)(h:i<D.length):Triple Tryz.prog 140 [.c (.p 0 0 0 0),iv .i64 i] (dkH D) 3 (.tup [.inl (.p 1 i 129 0), .inl (.v (.int .i64 0))]) []:=by
 have hrl:=YH D;refine Jc Ja Tryz.func140 rfl Tryz.call140 rfl ?_;intro ρ w hH;conv=>whnf
 refine nF fun hc=>?_;conv=>whnf
 refine nF fun hc=>?_;conv=>whnf
 refine⟨fun hc=>?_,fun hc=>?_⟩
 ·simp at hc;omega
 conv=>whnf
 refine⟨i,rfl,h, ?_⟩;conv=>whnf
 exact cl
theorem ca9(D:Dk):Triple Tryz.prog 141 [.c (.p 0 0 0 0)] [(0,true,YE 1 D.length),(1,false,Vc 2 D),(2,false,Vv D)] 3 (iv .i64 0) [(0,true,YE 1 D.length)]:=by
 refine Jc Ja Tryz.func141 rfl Tryz.call141 rfl ?_;intro ρ w hH;conv=>whnf
 refine nF fun hc=>?_;conv=>whnf
 refine nF fun hc=>?_;conv=>whnf
 refine⟨_,wO, ?_⟩;conv=>whnf
 exact cl
def XE(r:Sct×Option Sct):Sct:=r.2.getD r.1
theorem cF2(D:Dk)(i:Nat)(h:i<D.length):Triple Tryz.prog 118 [.c (.p 0 0 0 0),iv .i64 i] (dkH D) 3 (.tup [.inl (.v (GX (XE D[i]).l)), .inl (.v (.int .i64 0))]) []:=by
 have hrl:=YH D;refine Jc Ja Tryz.func118 rfl Tryz.call118 rfl ?_;intro ρ w hH;conv=>whnf
 refine Jv Ja 128 rfl rfl rfl ?_;conv=>whnf
 refine Jb (cF1 D i h) rfl rfl ?_;conv=>whnf
 refine Qs ?_;conv=>whnf
 refine nF fun hc=>?_;conv=>whnf
 cases hq:D[i].2 with
 |none =>
  rw[show XE D[i]=D[i].1 from by simp[XE,hq]];refine VR (s:=D[i].1) (u:=Qf) Ja rfl rfl rfl rfl rfl rfl (Wq h hq) ?_;conv=>whnf
  refine nF fun hc=>?_;conv=>whnf
  refine XG (s:=D[i].1) (c:=.v Qf) Ja rfl rfl rfl rfl rfl rfl rfl (Wq h hq) ?_;conv=>whnf
  refine Jp (l':=D[i].1.l) Ja rfl rfl rfl rfl rfl (by simp) (by rw[D[i].1.h];simp) (by decide) ?_;conv=>whnf
  refine⟨Js D[i].1.l,⟨(Yy D[i].1.h).1,(by rw[Jo,D[i].1.h]),rfl⟩, ?_⟩;conv=>whnf
  exact cl
 |some q =>
  rw[show XE D[i]=q from by simp[XE,hq]];refine JZ (s:=D[i].1) (q:=q) Ja rfl rfl rfl rfl rfl rfl (Wp h hq) rfl (Xt h hq) ?_;conv=>whnf
  refine nT fun hc=>?_;conv=>whnf
  refine JZ (s:=D[i].1) (q:=q) Ja rfl rfl rfl rfl rfl rfl (Wp h hq) rfl (Xt h hq) ?_;conv=>whnf
  refine⟨0,by decide, ?_⟩;conv=>whnf
  refine⟨0,rfl,by decide, ?_⟩;conv=>whnf
  refine WM (s:=q) Ja rfl rfl rfl rfl rfl rfl rfl ?_;conv=>whnf
  refine Jp (l':=q.l) Ja rfl rfl rfl rfl rfl (by simp) (by rw[q.h];simp) (by decide) ?_;conv=>whnf
  refine⟨Js q.l,⟨(Yy q.h).1,(by rw[Jo,q.h]),rfl⟩, ?_⟩;conv=>whnf
  exact cl
theorem az6(D:Dk)(i:Nat)(h:i<D.length)(hn:D[i].2=none)(q:Sct):Triple Tryz.prog 81 [.c (.p 0 0 0 0),iv .i64 i,YQ q.l]
 [(0,true,YE 1 D.length),(1,true,Vc 2 D),(2,true,Vv D)] 3 (iv .i64 0) [(0,true,YE 1 D.length),(1,true,Vc 3 (YY D i q)),(3,true,Vv (YY D i q))]:=by
 have hrl:=YH D;refine Jc Ja Tryz.func81 rfl Tryz.call81 rfl ?_;intro ρ w hH;conv=>whnf
 refine YT (l:=q.l) rfl rfl ?_;rw[q.h];conv=>whnf
 refine Jb (cF1 D i h) rfl rfl ?_;conv=>whnf
 refine Qs ?_;conv=>whnf
 refine nF fun hc=>?_;conv=>whnf
 refine Jb (ca9 D) rfl rfl ?_;conv=>whnf
 refine Qs ?_;conv=>whnf
 refine nF fun hc=>?_;conv=>whnf
 refine VR (s:=D[i].1) (u:=Qf) Ja rfl rfl rfl rfl rfl rfl (Wq h hn) ?_;conv=>whnf
 refine Jm (l:=q.l) Ja rfl rfl rfl rfl rfl q.h.symm ?_;conv=>whnf
 refine aZ8 (s:=q) Ja rfl rfl rfl rfl rfl ?_;conv=>whnf
 refine aw1 Ja (GH []) [q] (fun x=>aR7 x _) rfl rfl rfl rfl ?_;conv=>whnf
 refine⟨⟨rfl,rfl,Nat.le_refl _,by decide⟩, ?_⟩;conv=>whnf
 refine au3 (D:=D) (d:=D[i].1) (q:=q) (i:=i) (k':=6) Ja rfl rfl rfl rfl rfl rfl rfl rfl (by rw[List.getElem?_eq_getElem h,←hn]) (by decide) (by decide) ?_;conv=>whnf
 exact JE
def YD(D:Dk):Dk:=D.map fun r=>(XE r,none)
theorem XI(D:Dk):(YD D).length=D.length:=by simp[YD]
def JN(D:Dk)(i:Nat):Dk:=(YD D).take i++D.drop i
theorem aM4(D:Dk)(i:Nat):(JN D i).length=D.length:=by
 simp only[JN,List.length_append,List.length_take,List.length_drop,XI];omega
theorem bj4(D:Dk){i:Nat}(h:i<D.length)(hz:i<(JN D i).length):(JN D i)[i]'hz=D[i]:=by
 have e:(JN D i)[i]? = some D[i]:=by
  unfold JN;rw[List.getElem?_append_right (by rw[List.length_take,XI];omega),List.getElem?_drop,←List.getElem?_eq_getElem h];congr 1;rw[List.length_take,XI];omega
 rw[List.getElem?_eq_getElem hz]at e;exact Option.some.inj e
theorem an8(D:Dk){i:Nat}(h:i<D.length):JN D (i+1)=(JN D i).set i (XE D[i],none):=by
 unfold JN;rw[JR (show i<(YD D).length by rw[XI];exact h),List.drop_eq_getElem_cons h,List.set_append_right _ _ (by rw[List.length_take,XI];omega)];rw[show i-((YD D).take i).length=0 from by rw[List.length_take,XI];omega,List.set_cons_zero,List.append_assoc];simp[YD]
theorem bj5(D:Dk)(i:Nat)(x:Sct):Qv (D.set i (x,none))=(Qv D).set i (x,none):=by
 apply List.ext_getElem?;intro j;rw[WR,List.getElem?_set,List.getElem?_set,YH,WR];by_cases hj:i=j
 ·subst hj;by_cases hl:i<D.length
  ·simp[hl]
  ·simp[hl]
 ·simp[hj]
theorem cz5(D:Dk)(hl:D.length≤100000):Triple Tryz.prog 83 [.c (.p 0 0 0 0)]
 ([(0,true,YE 1 D.length),(1,true,Vc 2 D)]++[(2,false,Vv D)]) 3 (iv .i64 0) [(0,true,YE 1 D.length),(1,true,Vc 2 (YD D))]:=by
 have hrl:=YH D;refine Jc Ja Tryz.func83 rfl Tryz.call83 rfl ?_;intro ρ w hH;conv=>whnf
 refine Jb (ca9 D) rfl rfl ?_;conv=>whnf
 refine Qs ?_;conv=>whnf
 refine nF fun hc=>?_;conv=>whnf
 refine Jz Ja (G:=Nat) 0 [] (fun i=>[(17,iv .i64 i)]) (fun i=>[(1,true,Vc 2 (JN D i))]) (fun i=>i≤D.length) (fun i=>D.length-i) ?_;conv=>whnf
 refine⟨⟨0,Nat.zero_le _, ?_⟩, ?_⟩
 ·dsimp only;rw[show JN D 0=D from by simp[JN]];conv=>whnf
  exact JE
 intro i hi ρ1 t1 hρ1;have hsl:=aM4 D i;have hsr:=YH (JN D i);conv=>whnf
 refine⟨fun hc=>?_,fun hc=>?_⟩
 ·have h:i<D.length:=by simp at hc;omega
  have h2:i<(JN D i).length:=by omega
  have hg:=bj4 D h h2;have hst:=bj5 (JN D i) i (XE D[i]);rw[←an8 D h]at hst;conv=>whnf
  refine⟨i,rfl,h, ?_⟩;conv=>whnf
  cases hq:D[i].2 with
  |none =>
   refine VR (s:=(JN D i)[i].1) (u:=Qf) Ja rfl rfl rfl rfl rfl rfl (Wq h2 (by rw[hg];exact hq)) ?_;conv=>whnf
   refine nF fun hc=>?_;conv=>whnf
   refine⟨_,wO, ?_⟩;refine⟨i+1,h,by show D.length-(i+1)<D.length-i;omega, ?_⟩;have e:JN D (i+1)=JN D i:=by
    rw[an8 D h,show(XE D[i],none)=(JN D i)[i]from by rw[hg];exact Prod.ext (by simp[XE,hq]) (by simp[hq]),List.set_getElem_self]
   dsimp only;rw[e];conv=>whnf
   refine⟨rfl, ?_⟩;conv=>whnf
   exact JE
  |some q =>
   refine JZ (s:=(JN D i)[i].1) (q:=q) Ja rfl rfl rfl rfl rfl rfl (Wp h2 (by rw[hg];exact hq)) rfl (Xt h hq) ?_;conv=>whnf
   refine nT fun hc=>?_;conv=>whnf
   refine JZ (s:=(JN D i)[i].1) (q:=q) Ja rfl rfl rfl rfl rfl rfl (Wp h2 (by rw[hg];exact hq)) rfl (Xt h hq) ?_;conv=>whnf
   refine⟨0,by decide, ?_⟩;conv=>whnf
   refine⟨0,rfl,by decide, ?_⟩;conv=>whnf
   refine WM (s:=q) Ja rfl rfl rfl rfl rfl rfl rfl ?_;conv=>whnf
   have hri:i<(Qv (JN D i)).length:=by omega
   have hrx:(Qv (JN D i))[i]'hri=(D[i].1,some i):=by
    have:=@WR (JN D i) i;rw[List.getElem?_eq_getElem hri,List.getElem?_eq_getElem h2,hg]at this;rw[Option.some.inj this];show(D[i].1,D[i].2.map fun _=>i)=_;rw[hq];rfl
   refine WB Ja (XF 2 (Qv (JN D i))) (D[i].1) q (.ghost 2 i) rfl rfl rfl rfl rfl rfl rfl hri (by show JC ((Qv (JN D i))[i]'hri).1.l++[pnd 2 ((Qv (JN D i))[i]'hri).2]=_;rw[hrx];rfl) (q,some i) rfl ?_;conv=>whnf
   have hri2:i<((Qv (JN D i)).set i (q,some i)).length:=by rw[List.length_set];exact hri
   have hrx2:((Qv (JN D i)).set i (q,some i))[i]'hri2=(q,some i):=List.getElem_set_self _
   refine bl6 Ja (XF 2 ((Qv (JN D i)).set i (q,some i))) q (.ghost 2 i) Qf rfl rfl rfl rfl rfl ⟨fun _=>by simp,fun _=>by simp⟩ rfl rfl hri2
    (by show JC (((Qv (JN D i)).set i (q,some i))[i]'hri2).1.l++[pnd 2 (((Qv (JN D i)).set i (q,some i))[i]'hri2).2]=_;rw[hrx2];rfl) (q,none) rfl ?_
   have e2:(XF 2 ((Qv (JN D i)).set i (q,some i))).setXs (((Qv (JN D i)).set i (q,some i)).set i (q,none))=XF 2 (Qv (JN D (i+1))):=by
    show XF 2 (((Qv (JN D i)).set i (q,some i)).set i (q,none))=_;rw[List.set_set,hst,show XE D[i]=q from by simp[XE,hq]]
   have e2':=congrArg SO.arr e2;conv=>whnf
   refine⟨_,wO, ?_⟩;refine⟨i+1,h,by show D.length-(i+1)<D.length-i;omega, ?_⟩;dsimp only;conv=>whnf
   refine⟨rfl, ?_⟩;conv=>whnf
   repeat' (first|exact(e2.trans (JI rfl))|exact trivial|exact rfl|refine And.intro ?_ ?_|((conv=>whnf);first|exact(e2.trans (JI rfl))|exact trivial|exact rfl|refine And.intro ?_ ?_|omega))
 ·have hie:i=D.length:=by simp at hc;omega
  subst hie;rw[show JN D D.length=YD D from by simp only[JN,List.drop_length,List.append_nil];exact List.take_of_length_le (by rw[XI];exact Nat.le_refl _)];conv=>whnf
  exact JE
theorem cb0(D:Dk)(hl:D.length≤100000):Triple Tryz.prog 83 [.c (.p 0 0 0 0)] [(0,true,YE 1 D.length),(1,true,Vc 2 D),(2,true,Vv D)] 3 (iv .i64 0)
 [(0,true,YE 1 D.length),(1,true,Vc 2 (YD D)),(2,true,Vv (YD D))] :=
 Triple.carry (b':=WL (VY (YD D))) (cz5 D hl) (by simp[keys]) rfl (by decide) (by simp[keys]) (by simp) (fun r w _ i s hi=>by
  have hi:((YD D).map (·.2))[i]? = some (some s):=hi;rw[List.getElem?_map]at hi;simp only[YD,List.getElem?_map]at hi;cases h:D[i]? <;> rw[h]at hi <;> simp at hi)
def Qp(n:Nat):Dk:=List.replicate n (JS,none)
theorem Ka(n:Nat):(Qp n).length=n:=by simp[Qp]
theorem bb9(n:Nat):Qv (Qp n)=(List.replicate n JS).map fun x=>(x,none):=by
 apply List.ext_getElem?;intro j;rw[WR,List.getElem?_map];simp only[Qp,List.getElem?_replicate];split <;> rfl
theorem bj6(n:Nat):VY (Qp n)=(List.replicate n JS).map fun _=>none:=by
 simp[VY,Qp]
theorem bO9(n:Nat)(hn:1≤n∧n≤65536):Triple Tryz.prog 29 [iv .i64 n] [] 0 (.tup [.inl (.p 1 0 0 0), .inl (.v (.int .i64 0))]) [(0,true, .arr (JD (List.replicate n JS))),(1,true,YE 0 n)]:=by
 refine Jc Ja Tryz.func29 rfl Tryz.call29 rfl ?_;intro ρ w hH;conv=>whnf
 refine⟨fun hc=>?_,fun hc=>?_⟩
 ·simp at hc;omega
 conv=>whnf
 refine⟨fun hc=>?_,fun hc=>?_⟩
 ·simp at hc;omega
 conv=>whnf
 refine aw3 Ja n rfl rfl rfl rfl rfl (by decide) rfl rfl (by omega) ?_;conv=>whnf
 exact cl
theorem cb1(n:Nat)(hn:1≤n∧n≤65536):Triple Tryz.prog 29 [iv .i64 n] [] 0 (.tup [.inl (.p 1 0 0 0), .inl (.v (.int .i64 0))]) [(0,true,Vc 2 (Qp n)),(2,true,Vv (Qp n)),(1,true,YE 0 (Qp n).length)]:=by
 have:=Triple.addBox (kb:=2) (bO9 n hn) (by decide) (by decide) (fun j own o hj=>by
  rw[Jh]at hj;by_cases h:j=1
  ·rw[if_pos h]at hj;simp at hj;obtain⟨_,rfl⟩:=hj;subst h;exact⟨by decide,rfl⟩
  ·rw[if_neg h]at hj;cases hj) rfl
 rw[←bb9,←bj6]at this;rw[Ka];exact this
def Kb(keep:List Int)(m:Nat):Int:=keep.getD (m%keep.length) 0
def Yh(d q:Sct):Sct:=⟨q.l.take 64++d.l.drop 64,by rw[List.length_append,List.length_take,List.length_drop,d.h,q.h];rfl⟩
def Qx(d q:Sct)(x:Int):Sct:=if x%3=0 then d else if x%3=1 then q else Yh d q
def Vb(keep:List Int):Nat→Dk→List Sct
 |_,[]=>[]
 |m,(d,none)::r=>d::Vb keep m r
 |m,(d,some q)::r=>Qx d q (Kb keep m)::Vb keep (m+1) r
def Kj(D:Dk):Nat:=(D.filter fun r=>r.2.isSome).length
theorem aa3(keep:List Int):∀(A B:Dk) (m:Nat),Vb keep m (A++B)=Vb keep m A++Vb keep (m+Kj A) B
 | [],B,m=>by simp[Vb,Kj]
 |(d,none)::r,B,m=>by
  have:=aa3 keep r B m;simp only[List.cons_append,Vb,this];simp[Kj]
 |(d,some q)::r,B,m=>by
  have:=aa3 keep r B (m+1);simp only[List.cons_append,Vb,this];have e:m+Kj ((d,some q)::r)=m+1+Kj r:=by simp[Kj];omega
  rw[e]
theorem Gx(keep:List Int):∀(D:Dk) (m:Nat),(Vb keep m D).length=D.length
 | [],_=>rfl
 |(d,none)::r,m=>by simp[Vb,Gx keep r m]
 |(d,some q)::r,m=>by simp[Vb,Gx keep r (m+1)]
theorem aS2(A B:Dk):Kj (A++B)=Kj A+Kj B:=by simp[Kj]
theorem bE5(D:Dk):Kj D≤D.length:=List.length_filter_le _ _
def cN(keep:List Int)(D:Dk)(i:Nat):List Sct:=Vb keep 0 (D.take i)
theorem bj7(keep:List Int)(D:Dk)(i:Nat)(h:i≤D.length):(cN keep D i).length=i:=by
 unfold cN;rw[Gx,List.length_take];omega
theorem bE6(keep:List Int)(D:Dk){i:Nat}(h:i<D.length)(hq:D[i].2=none):cN keep D (i+1)=cN keep D i++[D[i].1]∧Kj (D.take (i+1))=Kj (D.take i):=by
 have e:D[i]=(D[i].1,none):=Prod.ext rfl hq;constructor
 ·unfold cN;rw[JR h,aa3,e];rfl
 ·rw[JR h,aS2];simp[Kj,hq]
theorem bE7(keep:List Int)(D:Dk){i:Nat}(h:i<D.length){q:Sct}(hq:D[i].2=some q):cN keep D (i+1)=cN keep D i++[Qx D[i].1 q (Kb keep (Kj (D.take i)))]∧Kj (D.take (i+1))=Kj (D.take i)+1:=by
 have e:D[i]=(D[i].1,some q):=Prod.ext rfl hq;constructor
 ·unfold cN;rw[JR h,aa3,e];simp[Vb]
 ·rw[JR h,aS2];simp[Kj,hq]
def Yl(A:List Sct)(n:Nat):List Sct:=A++List.replicate (n-A.length) JS
theorem aS3{A:List Sct}{n:Nat}(h:A.length≤n):(Yl A n).length=n:=by
 simp only[Yl,List.length_append,List.length_replicate];omega
theorem aE8{A:List Sct}{n:Nat}(h:A.length<n)(x:Sct):(Yl A n).set A.length x=Yl (A++[x]) n:=by
 unfold Yl;rw[List.set_append_right _ _ (Nat.le_refl _),Nat.sub_self];obtain⟨m,hm⟩:∃m,n-A.length=m+1:=⟨n-A.length-1,by omega⟩;have hm2:n-(A++[x]).length=m:=by rw[List.length_append];show n-(A.length+1)=m;omega
 rw[hm,hm2,List.replicate_succ,List.set_cons_zero,List.append_assoc];rfl
theorem au6{A:List Sct}{n:Nat}(h:A.length<n)(x y:Sct):(Yl (A++[x]) n).set A.length y=Yl (A++[y]) n:=by
 rw[←aE8 h x,List.set_set,aE8 h y]
theorem bP0(x:Int):(-2≤x.tmod 3∧x.tmod 3≤2)∧(x.tmod 3+1+2).tmod 3=x%3:=by
 have h1:-2≤x.tmod 3∧x.tmod 3≤2∧(x.tmod 3+3)%3=x%3:=by
  by_cases hx:0≤x
  ·rw[Int.tmod_eq_emod_of_nonneg hx];omega
  ·have e:x=-(-x):=by omega
   rw[e,Int.neg_tmod,Int.tmod_eq_emod_of_nonneg (by omega)];omega
 refine⟨⟨h1.1,h1.2.1⟩, ?_⟩;rw[Int.tmod_eq_emod_of_nonneg (by omega)];have:=h1.2.2;omega
theorem co1(D:Dk)(keep:List Int)(hl:D.length≤65536)(hk:keep.length≤1000000)(hkb:∀x∈keep,-9223372036854775808≤x∧x≤9223372036854775807):Triple Tryz.prog 38 [.c (.p 0 0 0 0), .c (.s 3 0 keep.length 1)]
 [(0,false,YE 1 D.length),(1,false,Vc 2 D),(2,false,Vv D),(3,false, .arr (Yn keep))] 4 (.c (.p 5 0 0 0)) [(4,true, .arr (JD (Vb keep 0 D))),(5,true,YE 4 D.length)]:=by
 have hrl:=YH D;refine Jc Ja Tryz.func38 rfl Tryz.call38 rfl ?_;intro ρ w hH;conv=>whnf
 refine aw3 Ja D.length rfl rfl rfl rfl rfl (by decide) rfl rfl (by omega) ?_;conv=>whnf
 refine Jz Ja (G:=Nat) 0 [] (fun i=>[(26,iv .i64 i),(6,iv .i64 (Kj (D.take i):Int))]) (fun i=>[(4,true, .arr (JD (Yl (cN keep D i) D.length)))]) (fun i=>i≤D.length) (fun i=>D.length-i) ?_;conv=>whnf
 refine⟨⟨0,Nat.zero_le _, ?_⟩, ?_⟩
 ·dsimp only;rw[show Yl (cN keep D 0) D.length=List.replicate D.length JS from by simp[Yl,cN,Vb]];conv=>whnf
  exact JE
 intro i hi ρ1 t1 hρ1;have hi:i≤D.length:=hi;have hcl:=bj7 keep D i hi;have hol:=aS3 (A:=cN keep D i) (n:=D.length) (by omega);have hcnt:=bE5 (D.take i);rw[List.length_take]at hcnt;conv=>whnf
 refine⟨fun hc=>?_,fun hc=>?_⟩
 ·have h:i<D.length:=by simp at hc;omega
  have hio:i<(Yl (cN keep D i) D.length).length:=by omega
  cases hq:D[i].2 with
  |none =>
   obtain⟨hst,hct⟩:=bE6 keep D h hq;conv=>whnf
   refine⟨i,rfl,h, ?_⟩;conv=>whnf
   refine Xr Ja D[i].1 (.v Qf) rfl rfl rfl rfl rfl rfl rfl (Wq h hq) ?_;conv=>whnf
   refine Vz Ja rfl rfl rfl ?_;conv=>whnf
   refine XH (kp:=0) (b:=none) Ja (JD [JS]) JS D[i].1 (.v Qf) rfl rfl rfl rfl rfl rfl rfl (Nat.zero_lt_one) rfl D[i].1 rfl ?_;conv=>whnf
   refine XG Ja D[i].1 (.v Qf) rfl rfl rfl rfl rfl rfl rfl ⟨D[i].1,rfl,rfl⟩ ?_;conv=>whnf
   refine⟨i,rfl,h, ?_⟩;conv=>whnf
   refine WB Ja (JD (Yl (cN keep D i) D.length)) ((Yl (cN keep D i) D.length)[i]'hio) D[i].1 (.v Qf) rfl rfl rfl rfl rfl rfl rfl hio rfl D[i].1 rfl ?_;conv=>whnf
   refine VR (s:=D[i].1) (u:=Qf) Ja rfl rfl rfl rfl rfl rfl ⟨D[i].1,rfl,rfl⟩ ?_;conv=>whnf
   refine nT fun hc=>?_;conv=>whnf
   refine⟨_,wO, ?_⟩;refine⟨i+1,h,by show D.length-(i+1)<D.length-i;omega, ?_⟩;have e2:(JD (Yl (cN keep D i) D.length)).setXs ((Yl (cN keep D i) D.length).set i D[i].1)=JD (Yl (cN keep D (i+1)) D.length):=by
    show JD ((Yl (cN keep D i) D.length).set i D[i].1)=_;rw[hst,←aE8 (by omega) D[i].1,hcl]
   dsimp only;rw[hct];conv=>whnf
   refine⟨rfl, ?_⟩;conv=>whnf
   repeat' (first|exact e2|exact trivial|exact rfl|refine And.intro ?_ ?_|((conv=>whnf);first|exact e2|exact trivial|exact rfl|refine And.intro ?_ ?_|omega))
  |some q =>
   obtain⟨hst,hct⟩:=bE7 keep D h hq;conv=>whnf
   refine⟨i,rfl,h, ?_⟩;conv=>whnf
   refine Xr Ja D[i].1 (.ghost 2 i) rfl rfl rfl rfl rfl rfl rfl (Wp h hq) ?_;conv=>whnf
   refine Vz Ja rfl rfl rfl ?_;conv=>whnf
   refine aa1 (kp:=2) Ja JS D[i].1 i rfl rfl rfl rfl rfl rfl ?_;conv=>whnf
   refine XG Ja D[i].1 (.ghost 2 i) rfl rfl rfl rfl rfl rfl rfl ⟨(D[i].1,some i),rfl,rfl⟩ ?_;conv=>whnf
   refine⟨i,rfl,h, ?_⟩;conv=>whnf
   refine WB Ja (JD (Yl (cN keep D i) D.length)) ((Yl (cN keep D i) D.length)[i]'hio) D[i].1 (.v Qf) rfl rfl rfl rfl rfl rfl rfl hio rfl D[i].1 rfl ?_;have e1:(JD (Yl (cN keep D i) D.length)).setXs ((Yl (cN keep D i) D.length).set i D[i].1)=JD (Yl (cN keep D i++[D[i].1]) D.length):=by
    show JD ((Yl (cN keep D i) D.length).set i D[i].1)=_;rw[←aE8 (by omega) D[i].1,hcl]
   have e1':(JD (Yl (cN keep D i) D.length)).setXs ((JD (Yl (cN keep D i) D.length)).xs.set (JO 0 i) D[i].1)=JD (Yl (cN keep D i++[D[i].1]) D.length):=e1;rw[e1'];have hio2:i<(Yl (cN keep D i++[D[i].1]) D.length).length:=by rw[aS3 (by rw[List.length_append,hcl];exact h)];exact h
   conv=>whnf
   refine JZ (s:=D[i].1) (q:=q) Ja rfl rfl rfl rfl rfl rfl ⟨(D[i].1,some i),rfl,rfl⟩ rfl (Xt h hq) ?_;conv=>whnf
   refine nF fun hc=>?_;have hAl:(cN keep D i++[D[i].1]).length≤D.length:=by rw[List.length_append,hcl];exact h
   generalize hm:Kj (D.take i)=m at hcnt hst hct ⊢;conv=>whnf
   refine⟨fun hc=>?_,fun hc=>?_⟩
   ·have hkl:0<keep.length:=by simp at hc;exact List.length_pos_iff.2 (by intro h0;rw[h0]at hc;simp at hc)
    have hml:m%keep.length<keep.length:=Nat.mod_lt _ hkl;conv=>whnf
    refine⟨by omega,((m%keep.length:Nat):Int),by rw[Int.tmod_eq_emod_of_nonneg (by omega)];omega, ?_⟩;conv=>whnf
    refine⟨m%keep.length,rfl,hml, ?_⟩;conv=>whnf
    have hml2:JO 0 (m%keep.length)<keep.length:=by rw[Qc];omega
    refine⟨hml2, ?_⟩;have hx:(Yn keep).xs[JO 0 (m%keep.length)]'hml2=Kb keep m:=by
     show keep[JO 0 (m%keep.length)]'hml2=_;unfold Kb;simp only[Qc,Nat.zero_add,List.getD,List.getElem?_eq_getElem hml];rfl
    have hxb:-9223372036854775808≤Kb keep m∧Kb keep m≤9223372036854775807:=by rw[←hx];exact hkb _ (List.getElem_mem _)
    conv=>whnf
    rw[hx];generalize Kb keep m=x at hst hxb ⊢;obtain⟨⟨ht1,ht2⟩,ht3⟩:=bP0 x;conv=>whnf
    refine⟨_,wO, ?_⟩;conv=>whnf
    refine⟨3,by decide, ?_⟩;conv=>whnf
    refine⟨by decide,(x).tmod 3,rfl, ?_⟩;conv=>whnf
    refine⟨_,wO, ?_⟩;conv=>whnf
    refine⟨_,wO, ?_⟩;conv=>whnf
    refine⟨3,by decide, ?_⟩;conv=>whnf
    refine⟨by decide,x%3,ht3, ?_⟩;conv=>whnf
    refine⟨fun hc=>?_,fun hc=>?_⟩
    ·have hx0:x%3=0:=eq_of_beq hc;conv=>whnf
     refine⟨_,wO, ?_⟩;refine⟨i+1,h,by show D.length-(i+1)<D.length-i;omega, ?_⟩;have e3:JD (Yl (cN keep D i++[D[i].1]) D.length)=JD (Yl (cN keep D (i+1)) D.length):=by
      show JD (Yl (cN keep D i++[D[i].1]) D.length)=_;rw[hst,show Qx D[i].1 q x=D[i].1 from by first|(simp[Qx,hx0];done)|exact absurd rfl hx0]
      try rfl
     dsimp only;rw[hct];conv=>whnf
     refine⟨rfl, ?_⟩;conv=>whnf
     repeat' (first|exact e3|exact trivial|exact rfl|refine And.intro ?_ ?_|((conv=>whnf);first|exact e3|exact trivial|exact rfl|refine And.intro ?_ ?_|omega))
    ·have hx0:¬x%3=0:=ne_of_beq_false hc;conv=>whnf
     refine⟨2,by decide, ?_⟩;conv=>whnf
     refine⟨fun hc=>?_,fun hc=>?_⟩
     ·have hx2:x%3=2:=eq_of_beq hc;have hx1:¬x%3=1:=by omega
      conv=>whnf
      refine XG Ja D[i].1 (.ghost 2 i) rfl rfl rfl rfl rfl rfl rfl ⟨(D[i].1,some i),rfl,rfl⟩ ?_;conv=>whnf
      refine Jv Ja 128 rfl rfl rfl ?_;conv=>whnf
      refine Jp (l':=D[i].1.l) Ja rfl rfl rfl rfl rfl (by simp) (by rw[D[i].1.h];simp) (by decide) ?_;conv=>whnf
      refine nF fun hc=>?_;conv=>whnf
      refine Jk (n:=128) (l:=D[i].1.l) Ja rfl rfl rfl rfl rfl rfl ⟨64,rfl,by decide,Nat.zero_le _, ?_⟩;conv=>whnf
      refine JZ (s:=D[i].1) (q:=q) Ja rfl rfl rfl rfl rfl rfl ⟨(D[i].1,some i),rfl,rfl⟩ rfl (Xt h hq) ?_;conv=>whnf
      refine⟨0,by decide, ?_⟩;conv=>whnf
      refine⟨0,rfl,by decide, ?_⟩;conv=>whnf
      refine aL4 (s:=q) Ja rfl rfl rfl rfl rfl rfl ⟨64,rfl,by decide,Nat.zero_le _, ?_⟩;conv=>whnf
      refine bh1 Ja (Qr (some 128) D[i].1.l) q.l (fun _=>rfl) rfl rfl rfl rfl ?_;conv=>whnf
      refine⟨⟨rfl,rfl,(by show 0+64≤D[i].1.l.length;rw[D[i].1.h];decide),(by show 0+64≤q.l.length;rw[q.h];decide)⟩,64,rfl, ?_⟩;have et:(Qr (some 128) D[i].1.l).setXs (Qh D[i].1.l 0 ((q.l.drop 0).take 64))=Qr (some 128) (Yh D[i].1 q).l:=by
       show Qr (some 128) (Qh D[i].1.l 0 ((q.l.drop 0).take 64))=_;congr 1;unfold Qh Yh;rw[List.take_zero,List.nil_append,List.drop_zero,List.length_take,q.h];rfl
      have et':(Qr (some 128) D[i].1.l).setXs (Qh (Qr (some 128) D[i].1.l).xs 0 ((q.l.drop 0).take 64))=Qr (some 128) (Yh D[i].1 q).l:=et;conv=>whnf
      refine Jm (l:=(Yh D[i].1 q).l) (fx:=some 128) (own:=true) Ja rfl rfl rfl rfl (congrArg (fun A=>some (true,SO.arr A)) et') (Yh D[i].1 q).h.symm ?_;conv=>whnf
      refine⟨i,rfl,h, ?_⟩;conv=>whnf
      refine WB Ja (JD (Yl (cN keep D i++[D[i].1]) D.length)) ((Yl (cN keep D i++[D[i].1]) D.length)[i]'hio2) (Yh D[i].1 q) (.v Qf) rfl rfl rfl rfl rfl rfl rfl hio2 rfl (Yh D[i].1 q) rfl ?_;conv=>whnf
      refine⟨_,wO, ?_⟩;refine⟨i+1,h,by show D.length-(i+1)<D.length-i;omega, ?_⟩;have e3:(JD (Yl (cN keep D i++[D[i].1]) D.length)).setXs ((JD (Yl (cN keep D i++[D[i].1]) D.length)).xs.set (JO 0 i) (Yh D[i].1 q))=JD (Yl (cN keep D (i+1)) D.length):=by
       show JD ((Yl (cN keep D i++[D[i].1]) D.length).set i (Yh D[i].1 q))=_;rw[hst,show Qx D[i].1 q x=Yh D[i].1 q from by first|(simp[Qx,hx0,hx1];done)|exact absurd rfl hx0];rw[←au6 (by omega) D[i].1 (Yh D[i].1 q),hcl]
      dsimp only;rw[hct];conv=>whnf
      refine⟨rfl, ?_⟩;conv=>whnf
      repeat' (first|exact e3|exact trivial|exact rfl|refine And.intro ?_ ?_|((conv=>whnf);first|exact e3|exact trivial|exact rfl|refine And.intro ?_ ?_|omega))
     ·have hx1:x%3=1:=by simp at hc;omega
      conv=>whnf
      refine JZ (s:=D[i].1) (q:=q) Ja rfl rfl rfl rfl rfl rfl ⟨(D[i].1,some i),rfl,rfl⟩ rfl (Xt h hq) ?_;conv=>whnf
      refine⟨0,by rw[hx1];decide, ?_⟩;conv=>whnf
      refine⟨0,rfl,by decide, ?_⟩;conv=>whnf
      refine WM (s:=q) Ja rfl rfl rfl rfl rfl rfl rfl ?_;conv=>whnf
      refine⟨i,rfl,h, ?_⟩;conv=>whnf
      refine WB Ja (JD (Yl (cN keep D i++[D[i].1]) D.length)) ((Yl (cN keep D i++[D[i].1]) D.length)[i]'hio2) q (.v Qf) rfl rfl rfl rfl rfl rfl rfl hio2 rfl q rfl ?_;conv=>whnf
      refine⟨_,wO, ?_⟩;refine⟨i+1,h,by show D.length-(i+1)<D.length-i;omega, ?_⟩;have e3:(JD (Yl (cN keep D i++[D[i].1]) D.length)).setXs ((JD (Yl (cN keep D i++[D[i].1]) D.length)).xs.set (JO 0 i) q)=JD (Yl (cN keep D (i+1)) D.length):=by
       show JD ((Yl (cN keep D i++[D[i].1]) D.length).set i q)=_;rw[hst,show Qx D[i].1 q x=q from by first|(simp[Qx,hx0,hx1];done)|exact absurd rfl hx0];rw[←au6 (by omega) D[i].1 q,hcl]
      dsimp only;rw[hct];conv=>whnf
      refine⟨rfl, ?_⟩;conv=>whnf
      repeat' (first|exact e3|exact trivial|exact rfl|refine And.intro ?_ ?_|((conv=>whnf);first|exact e3|exact trivial|exact rfl|refine And.intro ?_ ?_|omega))
   ·have hk0:keep=[]:=by
     cases keep with
     |nil=>rfl
     |cons a l=>simp at hc
    have hx:Kb keep m=0:=by rw[hk0];rfl
    rw[hx]at hst;obtain⟨⟨ht1,ht2⟩,ht3⟩:=bP0 (0:Int);conv=>whnf
    refine⟨_,wO, ?_⟩;conv=>whnf
    refine⟨3,by decide, ?_⟩;conv=>whnf
    refine⟨by decide,((0:Int)).tmod 3,rfl, ?_⟩;conv=>whnf
    refine⟨_,wO, ?_⟩;conv=>whnf
    refine⟨_,wO, ?_⟩;conv=>whnf
    refine⟨3,by decide, ?_⟩;conv=>whnf
    refine⟨by decide,(0:Int)%3,ht3, ?_⟩;conv=>whnf
    refine⟨fun hc=>?_,fun hc=>?_⟩
    ·have hx0:(0:Int)%3=0:=eq_of_beq hc;conv=>whnf
     refine⟨_,wO, ?_⟩;refine⟨i+1,h,by show D.length-(i+1)<D.length-i;omega, ?_⟩;have e3:JD (Yl (cN keep D i++[D[i].1]) D.length)=JD (Yl (cN keep D (i+1)) D.length):=by
      show JD (Yl (cN keep D i++[D[i].1]) D.length)=_;rw[hst,show Qx D[i].1 q (0:Int)=D[i].1 from by first|(simp[Qx,hx0];done)|exact absurd rfl hx0]
      try rfl
     dsimp only;rw[hct];conv=>whnf
     refine⟨rfl, ?_⟩;conv=>whnf
     repeat' (first|exact e3|exact trivial|exact rfl|refine And.intro ?_ ?_|((conv=>whnf);first|exact e3|exact trivial|exact rfl|refine And.intro ?_ ?_|omega))
    ·have hx0:¬(0:Int)%3=0:=ne_of_beq_false hc;conv=>whnf
     refine⟨2,by decide, ?_⟩;conv=>whnf
     refine⟨fun hc=>?_,fun hc=>?_⟩
     ·have hx2:(0:Int)%3=2:=eq_of_beq hc;have hx1:¬(0:Int)%3=1:=by omega
      conv=>whnf
      refine XG Ja D[i].1 (.ghost 2 i) rfl rfl rfl rfl rfl rfl rfl ⟨(D[i].1,some i),rfl,rfl⟩ ?_;conv=>whnf
      refine Jv Ja 128 rfl rfl rfl ?_;conv=>whnf
      refine Jp (l':=D[i].1.l) Ja rfl rfl rfl rfl rfl (by simp) (by rw[D[i].1.h];simp) (by decide) ?_;conv=>whnf
      refine nF fun hc=>?_;conv=>whnf
      refine Jk (n:=128) (l:=D[i].1.l) Ja rfl rfl rfl rfl rfl rfl ⟨64,rfl,by decide,Nat.zero_le _, ?_⟩;conv=>whnf
      refine JZ (s:=D[i].1) (q:=q) Ja rfl rfl rfl rfl rfl rfl ⟨(D[i].1,some i),rfl,rfl⟩ rfl (Xt h hq) ?_;conv=>whnf
      refine⟨0,by decide, ?_⟩;conv=>whnf
      refine⟨0,rfl,by decide, ?_⟩;conv=>whnf
      refine aL4 (s:=q) Ja rfl rfl rfl rfl rfl rfl ⟨64,rfl,by decide,Nat.zero_le _, ?_⟩;conv=>whnf
      refine bh1 Ja (Qr (some 128) D[i].1.l) q.l (fun _=>rfl) rfl rfl rfl rfl ?_;conv=>whnf
      refine⟨⟨rfl,rfl,(by show 0+64≤D[i].1.l.length;rw[D[i].1.h];decide),(by show 0+64≤q.l.length;rw[q.h];decide)⟩,64,rfl, ?_⟩;have et:(Qr (some 128) D[i].1.l).setXs (Qh D[i].1.l 0 ((q.l.drop 0).take 64))=Qr (some 128) (Yh D[i].1 q).l:=by
       show Qr (some 128) (Qh D[i].1.l 0 ((q.l.drop 0).take 64))=_;congr 1;unfold Qh Yh;rw[List.take_zero,List.nil_append,List.drop_zero,List.length_take,q.h];rfl
      have et':(Qr (some 128) D[i].1.l).setXs (Qh (Qr (some 128) D[i].1.l).xs 0 ((q.l.drop 0).take 64))=Qr (some 128) (Yh D[i].1 q).l:=et;conv=>whnf
      refine Jm (l:=(Yh D[i].1 q).l) (fx:=some 128) (own:=true) Ja rfl rfl rfl rfl (congrArg (fun A=>some (true,SO.arr A)) et') (Yh D[i].1 q).h.symm ?_;conv=>whnf
      refine⟨i,rfl,h, ?_⟩;conv=>whnf
      refine WB Ja (JD (Yl (cN keep D i++[D[i].1]) D.length)) ((Yl (cN keep D i++[D[i].1]) D.length)[i]'hio2) (Yh D[i].1 q) (.v Qf) rfl rfl rfl rfl rfl rfl rfl hio2 rfl (Yh D[i].1 q) rfl ?_;conv=>whnf
      refine⟨_,wO, ?_⟩;refine⟨i+1,h,by show D.length-(i+1)<D.length-i;omega, ?_⟩;have e3:(JD (Yl (cN keep D i++[D[i].1]) D.length)).setXs ((JD (Yl (cN keep D i++[D[i].1]) D.length)).xs.set (JO 0 i) (Yh D[i].1 q))=JD (Yl (cN keep D (i+1)) D.length):=by
       show JD ((Yl (cN keep D i++[D[i].1]) D.length).set i (Yh D[i].1 q))=_;rw[hst,show Qx D[i].1 q (0:Int)=Yh D[i].1 q from by first|(simp[Qx,hx0,hx1];done)|exact absurd rfl hx0];rw[←au6 (by omega) D[i].1 (Yh D[i].1 q),hcl]
      dsimp only;rw[hct];conv=>whnf
      refine⟨rfl, ?_⟩;conv=>whnf
      repeat' (first|exact e3|exact trivial|exact rfl|refine And.intro ?_ ?_|((conv=>whnf);first|exact e3|exact trivial|exact rfl|refine And.intro ?_ ?_|omega))
     ·have hx1:(0:Int)%3=1:=by simp at hc;omega
      conv=>whnf
      refine JZ (s:=D[i].1) (q:=q) Ja rfl rfl rfl rfl rfl rfl ⟨(D[i].1,some i),rfl,rfl⟩ rfl (Xt h hq) ?_;conv=>whnf
      refine⟨0,by rw[hx1];decide, ?_⟩;conv=>whnf
      refine⟨0,rfl,by decide, ?_⟩;conv=>whnf
      refine WM (s:=q) Ja rfl rfl rfl rfl rfl rfl rfl ?_;conv=>whnf
      refine⟨i,rfl,h, ?_⟩;conv=>whnf
      refine WB Ja (JD (Yl (cN keep D i++[D[i].1]) D.length)) ((Yl (cN keep D i++[D[i].1]) D.length)[i]'hio2) q (.v Qf) rfl rfl rfl rfl rfl rfl rfl hio2 rfl q rfl ?_;conv=>whnf
      refine⟨_,wO, ?_⟩;refine⟨i+1,h,by show D.length-(i+1)<D.length-i;omega, ?_⟩;have e3:(JD (Yl (cN keep D i++[D[i].1]) D.length)).setXs ((JD (Yl (cN keep D i++[D[i].1]) D.length)).xs.set (JO 0 i) q)=JD (Yl (cN keep D (i+1)) D.length):=by
       show JD ((Yl (cN keep D i++[D[i].1]) D.length).set i q)=_;rw[hst,show Qx D[i].1 q (0:Int)=q from by first|(simp[Qx,hx0,hx1];done)|exact absurd rfl hx0];rw[←au6 (by omega) D[i].1 q,hcl]
      dsimp only;rw[hct];conv=>whnf
      refine⟨rfl, ?_⟩;conv=>whnf
      repeat' (first|exact e3|exact trivial|exact rfl|refine And.intro ?_ ?_|((conv=>whnf);first|exact e3|exact trivial|exact rfl|refine And.intro ?_ ?_|omega))
 ·have hie:i=D.length:=by simp at hc;omega
  subst hie;rw[show Yl (cN keep D D.length) D.length=Vb keep 0 D from by
   have hx:=Gx keep D 0;simp[Yl,cN,List.take_length,hx]]
  conv=>whnf
  exact JE
def Yp(keep:List Int)(D:Dk):Dk:=(Vb keep 0 D).map fun s=>(s,none)
theorem Ko(keep:List Int)(D:Dk):(Yp keep D).length=D.length:=by simp[Yp,Gx]
theorem bc0(l:List Sct):Qv (l.map fun s=>(s,none))=l.map fun x=>(x,none):=by
 apply List.ext_getElem?;intro j;rw[WR,List.getElem?_map,List.getElem?_map];cases l[j]? <;> rfl
theorem bj8(l:List Sct):VY (l.map fun s=>(s,none))=l.map fun _=>none:=by
 simp[VY]
theorem cz6(D:Dk)(keep:List Int)(hl:D.length≤65536)(hk:keep.length≤1000000)(hkb:∀x∈keep,-9223372036854775808≤x∧x≤9223372036854775807):Triple Tryz.prog 38 [.c (.p 0 0 0 0), .c (.s 3 0 keep.length 1)]
 [(0,false,YE 1 D.length),(1,false,Vc 2 D),(2,false,Vv D),(3,false, .arr (Yn keep))] 4 (.c (.p 5 0 0 0)) [(4,true,Vc 6 (Yp keep D)),(6,true,Vv (Yp keep D)),(5,true,YE 4 (Yp keep D).length)]:=by
 have:=Triple.addBox (kb:=6) (co1 D keep hl hk hkb) (by decide) (by decide) (fun j own o hj=>by
  rw[Jh]at hj;by_cases h:j=5
  ·rw[if_pos h]at hj;simp at hj;obtain⟨_,rfl⟩:=hj;subst h;exact⟨by decide,rfl⟩
  ·rw[if_neg h]at hj;cases hj) rfl
 rw[←bc0,←bj8]at this;rw[Ko];exact this
def JT(tag:Int)(l:List UInt8)(mark:Nat):List UInt8:=Xv tag [l.take mark++(l.take 120).drop (mark+8)]
theorem Qt(tag:Int)(l:List UInt8)(mark:Nat):(JT tag l mark).length=16:=XL _ _
theorem bv2{a:List UInt8}(h:a.length≤1000000):at9 [a]:=⟨by simp,fun p hp=>by simp at hp;subst hp;exact h⟩
theorem bv3(tag:Int)(ht:-9223372036854775808≤tag∧tag≤9223372036854775807)(l:List UInt8)(hl:l.length=128)(mark:Nat)(hm:mark≤112) :
 Triple Tryz.prog 119 [iv .i64 tag, .c (.p 0 0 1 0),iv .i64 mark] [(0,false, .arr (Qr (some 128) l))] 1 (YQ (JT tag l mark)) []:=by
 refine Jc Ja Tryz.func119 rfl Tryz.call119 rfl ?_;intro ρ w hH;conv=>whnf
 refine Jv Ja 16 rfl rfl rfl ?_;conv=>whnf
 refine Jk (n:=128) (l:=l) Ja rfl rfl rfl rfl rfl rfl ⟨mark,rfl,by omega,Nat.zero_le _, ?_⟩;conv=>whnf
 refine Ju (fx:=some 128) (l:=l) Ja rfl rfl rfl rfl rfl rfl (by rw[Jt];omega) ?_;rw[show(l.drop 0).take (JV mark 0)=l.take mark from by rw[Jt];rfl];conv=>whnf
 refine⟨((mark+8:Nat):Int),by rw[YX ⟨by omega,by omega⟩];rfl, ?_⟩;conv=>whnf
 refine Jk (n:=128) (l:=l) Ja rfl rfl rfl rfl rfl rfl ⟨120,rfl,by decide,mark+8,rfl,by omega, ?_⟩;conv=>whnf
 refine Ju (fx:=some 128) (l:=l) Ja rfl rfl rfl rfl rfl rfl (by rw[Jt];omega) ?_;rw[show(l.drop (mark+8)).take (JV 120 (mark+8))=(l.take 120).drop (mark+8)from by rw[Jt,List.drop_take]];conv=>whnf
 refine Yq (l:=l.take mark) (l':=(l.take 120).drop (mark+8)) rfl rfl rfl (by rw[List.length_take,List.length_drop,List.length_take];omega) ?_;conv=>whnf
 refine Yf Ja (Va [l.take mark++(l.take 120).drop (mark+8)]) rfl rfl ?_;conv=>whnf
 refine⟨⟨rfl,cl⟩, ?_⟩;conv=>whnf
 refine Jb (aO9 tag ht [l.take mark++(l.take 120).drop (mark+8)] (bv2 (by rw[List.length_append,List.length_take,List.length_drop,List.length_take];omega))) rfl rfl ?_;conv=>whnf
 refine cs ?_;have hd:=Qt tag l mark;rw[show Xv tag [l.take mark++(l.take 120).drop (mark+8)]=JT tag l mark from rfl];conv=>whnf
 refine Jp (l':=JT tag l mark) Ja rfl rfl rfl rfl rfl (by simp) (by rw[hd];simp) (by decide) ?_;conv=>whnf
 refine⟨Js (JT tag l mark),⟨(Yy hd).1,(by rw[Jo,hd]),rfl⟩, ?_⟩;conv=>whnf
 exact cl
def WO(tag:Int)(l:List UInt8)(mark:Nat):List UInt8:=Qh (Qh l mark ((JT tag l mark).take 8)) 120 ((JT tag l mark).drop 8)
theorem Qn{l ys:List UInt8}{o n:Nat}(hl:l.length=n)(h:o+ys.length≤n):(Qh l o ys).length=n:=by rw[Vy (by omega),hl]
theorem Ur(tag:Int)(l:List UInt8)(hl:l.length=128)(mark:Nat)(hm:mark≤112):(WO tag l mark).length=128:=by
 have hd:=Qt tag l mark;unfold WO;exact Qn (Qn hl (by rw[List.length_take];omega)) (by rw[List.length_drop];omega)
theorem cb2(tag:Int)(ht:-9223372036854775808≤tag∧tag≤9223372036854775807)(l:List UInt8)(hl:l.length=128)(mark:Nat)(hm:mark≤112) :
 Triple Tryz.prog 139 [iv .i64 tag, .c (.p 0 0 1 0),iv .i64 mark] [(0,true, .arr (Qr (some 128) l))] 1 (.tup []) [(0,true, .arr (Qr (some 128) (WO tag l mark)))]:=by
 have hd:=Qt tag l mark;rw[show WO tag l mark=Qh (Qh l mark ((JT tag l mark).take 8)) 120 ((JT tag l mark).drop 8)from rfl];refine Jc Ja Tryz.func139 rfl Tryz.call139 rfl ?_;intro ρ w hH;conv=>whnf
 refine Jb (bv3 tag ht l hl mark hm) rfl rfl ?_;conv=>whnf
 refine cs ?_;generalize JT tag l mark=d at hd ⊢;conv=>whnf
 refine Jv Ja 16 rfl rfl rfl ?_;conv=>whnf
 refine Jp (l':=d) Ja rfl rfl rfl rfl rfl (by simp) (by rw[hd];simp) (by decide) ?_;conv=>whnf
 refine Jk (n:=128) (l:=l) Ja rfl rfl rfl rfl rfl rfl ⟨Nat.le_refl _,mark,rfl,by omega, ?_⟩;conv=>whnf
 refine Jk (n:=16) (l:=d) Ja rfl rfl rfl rfl rfl rfl ⟨8,rfl,by decide,Nat.zero_le _, ?_⟩;conv=>whnf
 refine ba2 (n:=8) (l:=l) (l':=d) Ja rfl rfl rfl rfl rfl rfl rfl rfl rfl (by rw[Jt];omega) rfl rfl (by rw[Jt];omega) (by rw[Jt,Jt];omega) ?_;rw[List.drop_zero];have h1:(Qh l mark (d.take 8)).length=128:=Qn hl (by rw[List.length_take];omega);generalize Qh l mark (d.take 8)=l1 at h1 ⊢;conv=>whnf
 refine Jk (n:=128) (l:=l1) Ja rfl rfl rfl rfl rfl rfl ⟨Nat.le_refl _,120,rfl,by decide, ?_⟩;conv=>whnf
 refine Jk (n:=16) (l:=d) Ja rfl rfl rfl rfl rfl rfl ⟨Nat.le_refl _,8,rfl,by decide, ?_⟩;conv=>whnf
 refine ba2 (n:=8) (l:=l1) (l':=d) Ja rfl rfl rfl rfl rfl rfl rfl rfl rfl (by show 120+8≤_;omega) rfl rfl (by show 8+8≤_;omega) rfl ?_;rw[List.take_of_length_le (show(d.drop 8).length≤8 by rw[List.length_drop];omega)];conv=>whnf
 exact cl
def Qu(tag:Int)(l:List UInt8)(mark:Nat):Bool:=decide ((l.take (mark+8)).drop mark=(JT tag l mark).take 8)&&decide (l.drop 120=(JT tag l mark).drop 8)
theorem aV8(tag:Int)(ht:-9223372036854775808≤tag∧tag≤9223372036854775807)(l:List UInt8)(hl:l.length=128)(mark:Nat)(hm:mark≤112) :
 Triple Tryz.prog 72 [iv .i64 tag, .c (.p 0 0 1 0),iv .i64 mark] [(0,false, .arr (Qr (some 128) l))] 1 (bv (Qu tag l mark)) []:=by
 have hd:=Qt tag l mark;rw[show Qu tag l mark=(decide ((l.take (mark+8)).drop mark=(JT tag l mark).take 8)&&decide (l.drop 120=(JT tag l mark).drop 8))from rfl];refine Jc Ja Tryz.func72 rfl Tryz.call72 rfl ?_;intro ρ w hH;conv=>whnf
 refine Jb (bv3 tag ht l hl mark hm) rfl rfl ?_;conv=>whnf
 refine cs ?_;generalize JT tag l mark=d at hd ⊢;conv=>whnf
 refine Jv Ja 16 rfl rfl rfl ?_;conv=>whnf
 refine Jp (l':=d) Ja rfl rfl rfl rfl rfl (by simp) (by rw[hd];simp) (by decide) ?_;conv=>whnf
 refine⟨((mark+8:Nat):Int),by rw[YX ⟨by omega,by omega⟩];rfl, ?_⟩;conv=>whnf
 refine Jk (n:=128) (l:=l) Ja rfl rfl rfl rfl rfl rfl ⟨mark+8,rfl,by omega,mark,rfl,by omega, ?_⟩;conv=>whnf
 refine Ju (fx:=some 128) (l:=l) Ja rfl rfl rfl rfl rfl rfl (by rw[Jt];omega) ?_;rw[show(l.drop mark).take (JV (mark+8) mark)=(l.take (mark+8)).drop mark from by rw[Jt,List.drop_take]];conv=>whnf
 refine Jk (n:=16) (l:=d) Ja rfl rfl rfl rfl rfl rfl ⟨8,rfl,by decide,Nat.zero_le _, ?_⟩;conv=>whnf
 refine Ju (fx:=some 16) (l:=d) Ja rfl rfl rfl rfl rfl rfl (by show 0+8≤_;omega) ?_;rw[show(d.drop 0).take (JV 8 0)=d.take 8 from rfl];conv=>whnf
 refine KI (l:=(l.take (mark+8)).drop mark) (l':=d.take 8) rfl rfl rfl ?_;conv=>whnf
 refine⟨fun hc=>?_,fun hc=>?_⟩
 ·rw[hc];conv=>whnf
  refine Jk (n:=128) (l:=l) Ja rfl rfl rfl rfl rfl rfl ⟨Nat.le_refl _,120,rfl,by decide, ?_⟩;conv=>whnf
  refine Ju (fx:=some 128) (l:=l) Ja rfl rfl rfl rfl rfl rfl (by show 120+8≤_;omega) ?_;rw[show(l.drop 120).take (JV 128 120)=l.drop 120 from List.take_of_length_le (by show(l.drop 120).length≤8;rw[List.length_drop];omega)];conv=>whnf
  refine Jk (n:=16) (l:=d) Ja rfl rfl rfl rfl rfl rfl ⟨Nat.le_refl _,8,rfl,by decide, ?_⟩;conv=>whnf
  refine Ju (fx:=some 16) (l:=d) Ja rfl rfl rfl rfl rfl rfl (by show 8+8≤_;omega) ?_;rw[show(d.drop 8).take (JV 16 8)=d.drop 8 from List.take_of_length_le (by show(d.drop 8).length≤8;rw[List.length_drop];omega)];conv=>whnf
  refine KI (l:=l.drop 120) (l':=d.drop 8) rfl rfl rfl ?_;rw[Bool.true_and];conv=>whnf
  exact cl
 ·rw[hc,Bool.false_and];conv=>whnf
  exact cl
end Go.Proofs
