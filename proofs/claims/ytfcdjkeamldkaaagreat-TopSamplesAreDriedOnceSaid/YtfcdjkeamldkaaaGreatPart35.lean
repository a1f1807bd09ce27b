/-
  A part of the proof that a law answers true: lemmas of a symbolic walk, plain functions, or contracts of the functions walked (QS, QT, QU, QV, QW, Fh). Conditions: none.
-/
import Derived.Test.YtfcdjkeamldkaaaGreatPart34
import Derived.Test.YtfcdjkeamldkaaaGreatPart26
import Derived.Test.YtfcdjkeamldkaaaGreatPart13
import Derived.Test.YtfcdjkeamldkaaaGreatPart25
set_option maxRecDepth 100000
set_option linter.unusedVariables false
set_option linter.unusedSimpArgs false
namespace Go.Proofs
open Go.Sx
abbrev Nt:=List UInt8×List UInt8×List UInt8
def ntB(l:List UInt8):Nt:=(Jd l 44 52,Jd l 120 128,ae8 l)
def ntF(l:List UInt8):Nt:=(Jd l 22 30,Jd l 120 128,VJ l)
def as2(P:List Nt):Bool:=P.all fun p=>P.all fun q=>(!decide (p.1=q.1)||decide (p.2.2=q.2.2))&&(!decide (p.2.1=q.2.1)||decide (p.2.2=q.2.2))
theorem cF7{P:List Nt}(h:as2 P=true){p q:Nt}(hp:p∈P)(hq:q∈P)(e:p.1=q.1):p.2.2=q.2.2:=by
 have:=List.all_eq_true.1 (List.all_eq_true.1 h p hp) q hq;simp[e]at this;exact this.1
theorem cF8{P:List Nt}(h:as2 P=true){p q:Nt}(hp:p∈P)(hq:q∈P)(e:p.2.1=q.2.1):p.2.2=q.2.2:=by
 have:=List.all_eq_true.1 (List.all_eq_true.1 h p hp) q hq;simp[e]at this;exact this.2
structure NtI (P:List Nt) (w:Wt):Prop where
 clash:w.clash=false
 front:∀k t,Yj w.front k=(t,true)→∃p∈P,p.1=k∧p.2.2=t
 back:∀k t,Yj w.back k=(t,true)→∃p∈P,p.2.1=k∧p.2.2=t
theorem bG2{M:SMs}{k:List UInt8}(h:(Yj M k).2=true):Yj M k=((Yj M k).1,true):=Prod.ext rfl h
theorem NtI.note{P:List Nt}(hP:as2 P=true){w:Wt}(h:NtI P w){p:Nt}(hp:p∈P):NtI P (ae7 w p.1 p.2.1 p.2.2):=by
 have c1:YG w.front p.1 p.2.2=false:=by
  unfold YG;cases h2:(Yj w.front p.1).2 with
  |false=>rfl
  |true =>
   obtain⟨q,hq,e1,e2⟩:=h.front _ _ (bG2 h2);rw[←e2,cF7 hP hq hp e1];simp
 have c2:YG w.back p.2.1 p.2.2=false:=by
  unfold YG;cases h2:(Yj w.back p.2.1).2 with
  |false=>rfl
  |true =>
   obtain⟨q,hq,e1,e2⟩:=h.back _ _ (bG2 h2);rw[←e2,cF8 hP hq hp e1];simp
 refine⟨?_,fun k t hk=>?_,fun k t hk=>?_⟩
 ·show(w.clash||(YG w.front p.1 p.2.2||YG w.back p.2.1 p.2.2))=false;rw[h.clash,c1,c2];rfl
 ·have hk:Yj (YO w.front p.1 p.2.2) k=(t,true):=hk;by_cases e:p.1=k
  ·subst e;rw[aa4]at hk;exact⟨p,hp,rfl,(Prod.mk.inj hk).1⟩
  ·rw[aw9 _ _ e]at hk;exact h.front k t hk
 ·have hk:Yj (YO w.back p.2.1 p.2.2) k=(t,true):=hk;by_cases e:p.2.1=k
  ·subst e;rw[aa4]at hk;exact⟨p,hp,rfl,(Prod.mk.inj hk).1⟩
  ·rw[aw9 _ _ e]at hk;exact h.back k t hk
def an9(P:List Nt)(i:Nat)(l:List UInt8):Prop:=(i<2→JF l i=true→ntB l∈P)∧(2≤i→Qu 2 l 22=true→ntF l∈P)
theorem NtI.sec{P:List Nt}(hP:as2 P=true){w:Wt}(h:NtI P w){i:Nat}{l:List UInt8}(hl:an9 P i l):NtI P (XW i l w):=by
 unfold XW;split
 ·rename_i h2
  split
  ·rename_i hb;exact h.note hP (hl.1 h2 hb)
  ·exact h
 ·rename_i h2
  split
  ·rename_i hb;exact h.note hP (hl.2 (by omega) hb)
  ·exact h
theorem NtI.secs{P:List Nt}(hP:as2 P=true){w:Wt}(h:NtI P w){i:Nat}{r:Sct×Option Sct}:∀m,(∀k,k<m→an9 P i (ae9 r k).l)→NtI P (XV i r w m)
 |0,_=>h
 |m+1,hl=>(NtI.secs hP h m fun k hk=>hl k (by omega)).sec hP (hl m (by omega))
theorem NtI.scan{P:List Nt}(hP:as2 P=true){w:Wt}(h:NtI P w){D:Dk}:∀m,(∀i,i<m→∀k,k<UI (D.getD i (JS,none))→an9 P i (ae9 (D.getD i (JS,none)) k).l)→NtI P (YP D w m)
 |0,_=>h
 |m+1,hl=>(NtI.scan hP h m fun i hi=>hl i (by omega)).secs hP _ (hl m (by omega))
def am0(l:List (List UInt8)):List Nt:=ntB KQ.l::(List.range (Yr l l.length)).map fun j=>ntF (KW l j).l
theorem aQ3(P:List Nt)(i:Nat):an9 P i JS.l:=by
 have hz:JS.l=YN:=rfl;rw[hz];exact⟨fun _ h=>(by rw[Gc]at h;cases h),fun _ h=>(by rw[UP]at h;cases h)⟩
theorem ai0(l:List (List UInt8)){j:Nat}(hj:j<Yr l l.length){i:Nat}(h2:2≤i):an9 (am0 l) i (KW l j).l :=
 ⟨fun h=>by omega,fun _ _=>List.mem_cons_of_mem _ (List.mem_map.2 ⟨j,List.mem_range.2 hj,rfl⟩)⟩
theorem bG3(l:List (List UInt8)):an9 (am0 l) 1 KQ.l:=⟨fun _ _=>List.mem_cons_self,fun h=>by omega⟩
theorem aA1{D:Dk}{i:Nat}{r:Sct×Option Sct}(h:D[i]? = some r):D.getD i (JS,none)=r:=by rw[List.getD_eq_getElem?_getD,h];rfl
theorem bw7{n:Nat}(hn:6≤n){l:List (List UInt8)}{D:Dk}{cnt dur:Nat}(h:LayI n (KW l) D cnt dur)(hc:cnt≤Yr l l.length):∀i,i<n→∀k,k<UI (D.getD i (JS,none))→an9 (am0 l) i (ae9 (D.getD i (JS,none)) k).l:=by
 intro i hi k hk;have hle:=h.le;by_cases h0:i=0
 ·subst h0;rw[aA1 h.z]at hk ⊢;have:k=0:=by have:k<1:=hk;omega
  subst this;exact aQ3 _ _
 by_cases h1:i=1
 ·subst h1;rw[aA1 h.b]at hk ⊢;have:k=0:=by have:k<1:=hk;omega
  subst this;exact bG3 _
 obtain⟨j,hj,hji⟩:=aN1 hn (show 2≤i by omega) hi;have hr:=h.at_ j hj;rw[hji]at hr;rw[aA1 hr]at hk ⊢;by_cases c1:j<dur
 ·rw[if_pos c1]at hk ⊢;have:k=0:=by have:k<1:=hk;omega
  subst this;exact ai0 l (by omega) (by omega)
 rw[if_neg c1]at hk ⊢;by_cases c2:j<cnt
 ·rw[if_pos c2]at hk ⊢;have:k<2:=hk;by_cases hk0:k=0
  ·subst hk0;exact aQ3 _ _
  ·have:k=1:=by omega
   subst this;exact ai0 l (by omega) (by omega)
 ·rw[if_neg c2]at hk ⊢;have:k=0:=by have:k<1:=hk;omega
  subst this;exact aQ3 _ _
theorem cd5{n:Nat}(hn:6≤n){l:List (List UInt8)}(hl:Yr l l.length≤n-2)(committed:Int)(hP:as2 (am0 l)=true):∀i,i≤l.length→NtI (am0 l) (Kf n committed l i).w
 |0,_=>by
  refine NtI.scan hP (w:=w00) ⟨rfl,fun k t h=>by simp[w00,Yj]at h,fun k t h=>by simp[w00,Yj]at h⟩ n ?_;exact bw7 hn (LayI.new hn _) (Nat.zero_le _)
 |i+1,h=>by
  have ih:=cd5 hn hl committed hP i (by omega);obtain⟨dur,i1,_⟩:=bd1 hn hl committed i (by omega);have e:l.getD i []=l[i]'(by omega):=by rw[List.getD_eq_getElem?_getD,List.getElem?_eq_getElem (by omega)];rfl
  show NtI (am0 l) (Ut n committed i (l.getD i []) (Kf n committed l i)).w;rw[e];have ha:=i1.app hn hl (by omega);have hm:=av0 l (show i+1≤l.length by omega);have hw:NtI (am0 l) (XX n (l[i]'(by omega)) (Kf n committed l i)).w:=NtI.scan hP ih n (bw7 hn ha.lay hm);unfold Ut;split
  ·exact NtI.scan hP hw n (bw7 hn ha.lay.sync hm)
  ·exact hw
theorem cd6{n:Nat}(hn:6≤n∧n≤65536){l:List (List UInt8)}(hl:Yr l l.length≤n-2)(hne:0<l.length)(hP:as2 (am0 l)=true)(keep:List Int) :
 (YP (Yp keep (Kf n l.length l l.length).D) (Kf n l.length l l.length).w n).clash=false:=by
 have hw:=cd5 hn.1 hl l.length hP l.length (Nat.le_refl _);obtain⟨dur,i1,i2⟩:=bd1 hn.1 hl l.length l.length (Nat.le_refl _);have hd:=i2 (by omega) (by omega);rw[Int.toNat_natCast]at hd;have hle:=i1.lay.le;have hdur:dur=Yr l l.length:=by omega
 subst hdur;have hL:=bg1 i1.lay keep;generalize hD2:Yp keep (Kf n l.length l l.length).D=D2 at hL;have hnone:∀i,i<n→∃s:Sct,D2.getD i (JS,none)=(s,none)∧Qi D2 i=s.l:=fun i hi=>by
  have h1:i<D2.length:=by rw[hL.len];exact hi
  have h2:D2[i]? = some D2[i]:=List.getElem?_eq_getElem h1;have h3:D2[i].2=none:=by
   have h4:D2[i]? = ((Vb keep 0 (Kf n l.length l l.length).D)[i]?).map fun s=>(s,none):=by rw[←hD2];unfold Yp;rw[List.getElem?_map]
   rw[h2]at h4;cases hq:(Vb keep 0 (Kf n l.length l l.length).D)[i]? with
   |none=>rw[hq]at h4;cases h4
   |some s=>rw[hq]at h4;have h4:=Option.some.inj h4;rw[h4]
  refine⟨D2[i].1,by rw[aA1 h2];exact Prod.ext rfl h3, ?_⟩;unfold Qi;rw[aA1 h2];unfold XE;rw[h3];rfl
 refine(NtI.scan hP hw n fun i hi k hk=>?_).clash;obtain⟨s,hs,hat⟩:=hnone i hi;rw[hs]at hk ⊢;have:k=0:=by have:k<1:=hk;omega
 subst this;show an9 _ _ s.l;rw[←hat];have hz:an9 (am0 l) i YN:=aQ3 _ i;by_cases h0:i=0
 ·subst h0;rw[hL.z];exact hz
 by_cases h1:i=1
 ·subst h1;rw[hL.b];exact bG3 _
 obtain⟨j,hj,hji⟩:=aN1 hn.1 (show 2≤i by omega) hi;rw[←hji]at hz ⊢;rcases hL.at_ j hj with ⟨c,e⟩|⟨c,_⟩|⟨_,e⟩
 ·rw[e];exact ai0 l c (by omega)
 ·rcases hL.at_ j hj with ⟨c,e⟩|⟨c2,e|e|e⟩|⟨_,e⟩
  ·rw[e];exact ai0 l c (by omega)
  ·rw[e];exact hz
  ·rw[e];exact ai0 l c (by omega)
  ·have hr:=i1.lay.at_ j hj;rw[if_pos c]at hr;obtain⟨x,hx⟩:=as1 (keep:=keep) hr;rw[hD2]at hx;have hx:Qi D2 (Xe n j)=(KW l j).l:=hx;rw[hx];exact ai0 l c (by omega)
  ·rw[e];exact hz
 ·rw[e];exact hz
theorem bd2(D:Dk)(n:Nat):∀(f:Nat) (g:Fo),(Kq D n f g).recs.length≤g.recs.length+f
 |0,g=>Nat.le_refl _
 |f+1,g=>by
  show(if WD (Qi D (2+g.q%(n-2))) g then g else Kq D n f (Wz (Qi D (2+g.q%(n-2))) g)).recs.length≤_;split
  ·omega
  ·have:=bd2 D n f (Wz (Qi D (2+g.q%(n-2))) g);have h2:(Wz (Qi D (2+g.q%(n-2))) g).recs.length≤g.recs.length+1:=by
    unfold Wz;dsimp only;split
    ·omega
    ·rw[List.length_append];exact Nat.le_refl _
   omega
def ct1(l:List (List UInt8))(committed:Int)(c:Bool)(R:List (List UInt8)):Prop :=
 (c=true∧R=[])∨(c=false∧∃r,r≤l.length∧(1≤committed→committed≤l.length→committed≤r)∧R=l.take r)
theorem cF9(l:List (List UInt8))(hl:l.length≤1000)(hs:∀s∈l,s.length≤6000)(committed:Int)(n:Nat)(hn:6≤n∧n≤65536)(hr:Yr l l.length≤n-2)(keep:List Int)(hk:keep.length≤1000000)(hkb:∀x∈keep,-9223372036854775808≤x∧x≤9223372036854775807) :
 ∃c R,ct1 l committed c R∧(as2 (am0 l)=true→committed=l.length→0<l.length→c=false) ∧
 Triple Tryz.prog 8 [.c (.s 0 0 l.length 1),iv .i64 committed,iv .i64 n, .c (.s 1 0 keep.length 1)] [(0,false, .arr (Va l)),(1,false, .arr (Yn keep))] 2 (.tup [.inl (.s 2 0 R.length 1), .inl (.v (.bool true)), .inl (.v (.bool c))]) [(2,true, .arr (Va R))]:=by
 have hrest:af0 l 0≤n-2:=by
  have:=cd1 l 0;rw[aN0]at this;omega
 obtain⟨dur,i1,_⟩:=bd1 hn.1 hr committed l.length (Nat.le_refl _);have hL:=bg1 i1.lay keep;obtain⟨m0,hm0,hsv⟩:=bk8 hn.1 hL n (Nat.le_refl _) (by omega);refine⟨(YP (Yp keep (Kf n committed l l.length).D) (Kf n committed l l.length).w n).clash,_, ?_, ?_,bQ1 l hl hs committed n hn hrest keep hk hkb _ rfl (bQ3 hL) (by rw[hL.b];exact ah7) m0 hsv (by omega) (by rw[hL.b,aj4];decide) ?_ _ rfl _ rfl⟩
 ·cases hc:(YP (Yp keep (Kf n committed l l.length).D) (Kf n committed l l.length).w n).clash with
  |true=>exact .inl ⟨rfl,rfl⟩
  |false=>exact .inr ⟨rfl,cp4 hn hr committed keep hc⟩
 ·intro hP hc h0;subst hc;exact cd6 hn hr h0 hP keep
 ·have:=bd2 (Yp keep (Kf n committed l l.length).D) (Yp keep (Kf n committed l l.length).D).length ((Yp keep (Kf n committed l l.length).D).length-2) ⟨b0.first.toNat,b0.link,[],false,[]⟩;rw[hL.len]at this;unfold GL;rw[hL.len];have e:([]:List Kp).length=0:=rfl;dsimp only at this;omega
theorem cd7(l:List (List UInt8))(hl:l.length≤1000)(hs:∀s∈l,s.length≤6000)(committed:Int)(n:Nat)(hn:6≤n∧n≤65536)(hr:Yr l l.length≤n-2) :
 ∃c R,ct1 l committed c R∧(as2 (am0 l)=true→committed=l.length→0<l.length→c=false) ∧
 Triple Tryz.prog 8 [.c (.s 0 0 l.length 1),iv .i64 committed,iv .i64 n, .c (.v Qf)] [(0,false, .arr (Va l))] 1 (.tup [.inl (.s 2 0 R.length 1), .inl (.v (.bool true)), .inl (.v (.bool c))]) [(2,true, .arr (Va R))]:=by
 obtain⟨c,R,h1,h2,h⟩:=cF9 l hl hs committed n hn hr [] (Nat.zero_le _) (fun x hx=>by cases hx);refine⟨c,R,h1,h2,Triple.nilK (k:=1) (o:=.arr (Yn [])) (H:=[(0,false, .arr (Va l))]) h rfl rfl rfl ?_⟩;intro ρ vals hv
 match vals,hv with
 | [a,b,x,y],hv =>
  obtain⟨h1,h2,h3,h4,_⟩:=hv;refine⟨?_,h2,h3, ?_,trivial⟩
  ·have h1:(SC.s 0 0 l.length 1).rel ρ a:=h1;show(SC.s 0 0 l.length 1).rel _ a;exact SC.rel_agree (fun j hj=>Jx (show j≠1 from by simp[SC.nms]at hj;omega)) h1
  ·have h4:y=.slice none 0 0:=h4;subst h4;exact⟨none,by rw[Jq];rfl,by rw[Jq];exact Nat.le_refl _,fun h=>by rw[Jq]at h;cases h⟩
def awP:Pl:=⟨5,[115,105,108,107],[(3,4)],2⟩
def awB:Sec:=⟨[98],[120]⟩
def awS:Sec:=⟨[115],[121]⟩
def UQ:List (List UInt8):=bO8 awP awB awS
def awD:List Vj:=Vp awP (Qg awP.id awB awS).1
theorem bd3:UQ.length=6:=rfl
theorem cG0:as2 (am0 UQ)=true:=by decide +kernel
theorem cp5:((awD.getD 0 (0,0,0)).2.2==(awD.getD 1 (0,0,0)).2.2)=false:=by decide +kernel
theorem cA7:Triple Tryz.prog 8 [.c (.s 0 0 UQ.length 1),iv .i64 UQ.length,iv .i64 100, .c (.v Qf)] [(0,false, .arr (Va UQ))] 1 (.tup [.inl (.s 2 0 UQ.length 1), .inl (.v (.bool true)), .inl (.v (.bool false))]) [(2,true, .arr (Va UQ))]:=by
 have hsum:Yr UQ UQ.length=6:=by decide +kernel
 have hsh:∀s∈UQ,s.length≤6000:=by decide +kernel
 obtain⟨c,R,hk1,hk2,hkt⟩:=cd7 UQ (by rw[bd3];decide) hsh UQ.length 100 (by decide) (by rw[hsum];decide);have hc:=hk2 cG0 rfl (by rw[bd3];decide);have hR:R=UQ:=by
  rcases hk1 with ⟨h,_⟩|⟨_,r,h1,h2,h3⟩
  ·rw[h]at hc;cases hc
  ·have h2:=h2 (by rw[bd3];decide) (by rw[bd3];decide);rw[h3,List.take_of_length_le (by omega)]
 rw[hc,hR]at hkt;exact hkt
theorem cG1:Triple Tryz.prog 7 [an5 0 awP,ar0 awB,ar0 awS] [(0,false, .arr (Gl [(3,4)]))] 1
 (.tup [.inl (.s 1 0 UQ.length 1), .inl (.v (GX (Qg awP.id awB awS).1)), .inl (.v (.bool true))]) [(1,true, .arr (Va UQ))] :=
 ca8 awP (by decide) (by decide +kernel) awB awS (by decide) (by decide)
theorem cA8:Triple Tryz.prog 15 [an5 0 awP,YQ (Qg awP.id awB awS).1] [(0,false, .arr (Gl [(3,4)]))] 1 (.tup [.inl (.s 1 0 awD.length 3), .inl (.v (.int .i64 0))]) [(1,true, .arr (KU awD))] :=
 br8 awP (by decide) (by decide +kernel) (Qg awP.id awB awS).1 (Ux _ _ _)
theorem cp6:∀x∈awD,(1≤x.1∧x.1≤1099511627776)∧(1≤x.2.1∧x.2.1≤12)∧1≤x.2.2∧x.2.2≤200:=aE7 (ao5 (by decide +kernel)) _
theorem cL0:∃(x y:Vj) (a b c d e:List UInt8),awD=[x,y]∧UQ=[a,b,c,d,e,WU y]∧(x.2.2==y.2.2)=false :=
 ⟨awD.getD 0 (0,0,0),awD.getD 1 (0,0,0),UQ.getD 0 [],UQ.getD 1 [],UQ.getD 2 [],UQ.getD 3 [],UQ.getD 4 [],rfl,rfl,cp5⟩
theorem UC:Triple Tryz.prog 6 [] [] 0 (bv true) []:=by
 have hj:(Qg awP.id awB awS).1.length=16:=Ux _ _ _;obtain⟨x,y,l0,l1,l2,l3,l4,hd,hl,hne⟩:=cL0;have hrec:=cG1;have hdr:=cA8;have hkt:=cA7;have hy:=cp6 y (by rw[hd];simp);rw[hd]at hdr;rw[hl]at hrec hkt;clear hd hl;have hst:=bj3 y (by omega) (by omega) (by omega);generalize WU y=l5 at hrec hkt hst;generalize (Qg awP.id awB awS).1=J at hj hrec hdr;refine Jc Ja Tryz.func6 rfl Tryz.call6 rfl ?_;intro ρ w hH;conv=>whnf
 refine Yf Ja (Gl [(3,4)]) rfl rfl ?_;conv=>whnf
 refine⟨⟨rfl,cl⟩, ?_⟩;conv=>whnf
 refine Jb hrec rfl rfl ?_;conv=>whnf
 refine cs ?_;conv=>whnf
 refine Jv Ja 16 rfl rfl rfl ?_;conv=>whnf
 refine Jp (l':=J) Ja rfl rfl rfl rfl rfl (by simp) (by rw[hj];simp) (by decide) ?_;conv=>whnf
 refine Jb hkt rfl rfl ?_;conv=>whnf
 refine cs ?_;conv=>whnf
 refine Jm (l:=J) Ja rfl rfl rfl rfl rfl hj.symm ?_;conv=>whnf
 refine Jb hdr rfl rfl ?_;conv=>whnf
 refine cs ?_;conv=>whnf
 refine nT fun hc=>?_;conv=>whnf
 refine nT fun hc=>?_;conv=>whnf
 refine nT fun hc=>?_;conv=>whnf
 refine nT fun hc=>?_;conv=>whnf
 refine nT fun hc=>?_;conv=>whnf
 refine nT fun hc=>?_;conv=>whnf
 refine⟨5,rfl,(show 5<6 from by decide), ?_⟩;conv=>whnf
 refine⟨(show 5<6 from by decide), ?_⟩;conv=>whnf
 refine⟨1,rfl,(show 1<2 from by decide), ?_⟩;conv=>whnf
 refine⟨(show 1<2 from by decide), ?_⟩;conv=>whnf
 refine Jb hst rfl rfl ?_;conv=>whnf
 refine cs ?_;conv=>whnf
 refine KI (l:=l5) (l':=l5) rfl rfl rfl ?_;rw[decide_eq_true rfl];conv=>whnf
 refine nT fun hc=>?_;conv=>whnf
 refine⟨0,rfl,(show 0<2 from by decide), ?_⟩;conv=>whnf
 refine⟨(show 0<2 from by decide), ?_⟩;conv=>whnf
 refine⟨1,rfl,(show 1<2 from by decide), ?_⟩;conv=>whnf
 refine⟨(show 1<2 from by decide), ?_⟩;conv=>whnf
 have hb:(x.2.2 != y.2.2)=true:=by rw[bne,hne];rfl
 repeat' (first|exact hb|exact congrArg Value.bool hb|exact trivial|exact rfl|refine And.intro ?_ ?_|((conv=>whnf);first|exact hb|exact congrArg Value.bool hb|exact trivial|exact rfl|refine And.intro ?_ ?_|omega))
structure Actt where
 kind:Int
 a:Int
 b:Int
 k:Ky
 mass:Int
def bQ8(xs:List Actt):Arr:=⟨Actt,6,fun a=>[.v (.int .i64 a.kind), .v (.int .i64 a.a), .v (.int .i64 a.b), .v (.int .i64 a.k.1), .v (.int .i64 a.k.2), .v (.int .i64 a.mass)],[],fun _=>rfl,(by
 intro x c hc k hk;simp at hc;rcases hc with rfl|rfl|rfl|rfl|rfl|rfl <;> cases hk),xs,none,none⟩
theorem cJ3{xs:List Actt}{i:Nat}{a:Actt}(h:xs[i]? = some a):∀hz,(bQ8 xs).xs[JO 0 i]'hz=a:=fun hz=>by
 have h2:xs[JO 0 i]? = some (xs[JO 0 i]'hz):=List.getElem?_eq_getElem hz;have h3:xs[JO 0 i]? = some a:=by rw[Qc,Nat.zero_add];exact h
 exact Option.some.inj (h2.symm.trans h3)
theorem af1{xs:List Vj}{i:Nat}{a:Vj}(h:xs[i]? = some a):∀hz,(KU xs).xs[JO 0 i]'hz=a:=fun hz=>by
 have h2:xs[JO 0 i]? = some (xs[JO 0 i]'hz):=List.getElem?_eq_getElem hz;have h3:xs[JO 0 i]? = some a:=by rw[Qc,Nat.zero_add];exact h
 exact Option.some.inj (h2.symm.trans h3)
theorem bQ9{p:Pl}(hp:PlanOK p)(seed:List UInt8){m:Nat}(hm:p.per=m):SmpOK (Vp p seed) where
 len:=by
  rw[bj1 seed hm];have h1:=hp.len;have h2:=hp.per
  calc _≤40*12:=Nat.mul_le_mul (by omega) (by omega)
   _=480:=rfl
 ok x hx:=by
  have h1:=aE7 hp seed x hx;simp only[bf2,Jf,Bool.and_eq_true,decide_eq_true_eq];omega
 one:=by
  refine List.pairwise_iff_getElem.2 fun i j hi hj hij=>?_;have hil:i<(Vp p seed).length:=by simpa using hi
  have hjl:j<(Vp p seed).length:=by simpa using hj
  obtain⟨b1,g1,g2⟩:=aM3 hp seed hm hil;obtain⟨b2,g3,g4⟩:=aM3 hp seed hm hjl;rw[List.getElem_map,List.getElem_map];intro e;have e1:=(List.getElem?_eq_some_iff.1 g2).2;have e2:=(List.getElem?_eq_some_iff.1 g4).2;rw[e1,e2,cv8]at e;have hper:=hp.per;have hm0:0<m:=by omega
  have q1:=hp.bale b1 (List.mem_of_getElem? g1);have q2:=hp.bale b2 (List.mem_of_getElem? g3);have l1:i%m<m:=Nat.mod_lt _ hm0;have l2:j%m<m:=Nat.mod_lt _ hm0;refine bv1 hp seed (x:=(i/m,i%m)) (y:=(j/m,j%m)) ⟨b1,g1,by show((i%m:Nat):Int)<b1.2;omega⟩ ⟨b2,g3,by show((j%m:Nat):Int)<b2.2;omega⟩ (fun h=>?_) e.1 (.inr e.2);have h1:i/m=j/m:=congrArg Prod.fst h;have h2:i%m=j%m:=congrArg Prod.snd h;have d1:=Nat.div_add_mod i m;have d2:=Nat.div_add_mod j m;rw[h1,h2]at d1;omega
abbrev cp7(p:Pl)(b s:Sec)(lease:Int)(rooms:List (List Int))(acts:List Actt):List SV:=[an5 0 p,ar0 b,ar0 s,iv .i64 lease, .c (.s 1 0 rooms.length 1), .c (.s 3 0 acts.length 6)]
abbrev cA9(p:Pl)(rooms:List (List Int))(acts:List Actt):Je:=[(0,false, .arr (Gl p.bales)),(1,false, .arr (aGs 2 rooms.length)),(2,false, .box (KE rooms)),(3,false, .arr (bQ8 acts))]
theorem cd8(l:List Vj)(hl:SmpOK l)(lease:Int)(rooms:List (List Int))(hbig:∀r∈rooms,r.length≤9223372036854775807) :
 (∃er,er≠0∧Triple Tryz.prog 16 (ao6 l lease rooms) (az4 l rooms) 3 (.tup [.inl (.v (.pointer none)), .inl (.v (.int .i64 er))]) []) ∨
 (Jf lease 1 1000=true∧Jf rooms.length 1 6=true∧(∀r∈rooms,Yo r=0)):=by
 cases h1:Jf lease 1 1000 with
 |false=>exact .inl ⟨1,by omega,bu8 l lease h1 rooms⟩
 |true =>
  cases h2:Jf rooms.length 1 6 with
  |false=>exact .inl ⟨2,by omega,bO4 l hl lease h1 rooms h2⟩
  |true =>
   by_cases h3:∃r∈rooms,Yo r≠0
   ·refine .inl ⟨aM1 rooms, ?_,cy8 l hl lease h1 rooms h2 hbig h3⟩;obtain⟨r,hr,hne⟩:=h3;unfold aM1;cases hf:rooms.find? fun r=>Yo r != 0 with
    |none =>
     have:=List.find?_eq_none.1 hf r hr;simp at this;exact absurd this hne
    |some r' =>
     have:=List.find?_some hf;show Yo r'≠0
     simpa using this
   ·exact .inr ⟨rfl,rfl,fun r hr=>by
     by_cases h0:Yo r=0
     ·exact h0
     ·exact absurd ⟨r,hr,h0⟩ h3⟩
theorem cG2(l:List Vj)(hl:SmpOK l)(lease:Int)(hle:Jf lease 1 1000=true)(rooms:List (List Int))(hn:Jf rooms.length 1 6=true)(hok:∀r∈rooms,Yo r=0) :
 Triple Tryz.prog 16 (ao6 l lease rooms) (az4 l rooms) 3 (.tup [.inl (.p 3 0 0 0), .inl (.v (.int .i64 0))])
  [(3,true, .cells [.p 4 0 0 0, .s 5 0 (wb0 lease l rooms).sts.length 1, .v (.int .i64 (wb0 lease l rooms).now), .s 6 0 (wb0 lease l rooms).mail.length 7, .v (.int .i64 (wb0 lease l rooms).sent), .m 7]),(4,true,VZ 8 (wb0 lease l rooms).d),(5,true, .arr (UO 9 (wb0 lease l rooms).sts.length)),
   (6,true, .arr (Xw (wb0 lease l rooms).mail)),(7,true,Jw false 2 (wb0 lease l rooms).puts),(8,true,Jw true 2 (wb0 lease l rooms).d.known),(9,true, .box (Wm (wb0 lease l rooms).sts))]:=by
 rw[show(wb0 lease l rooms).sts.length=rooms.length from ar6 _ _];exact cI9 l hl lease hle rooms hn hok
set_option maxHeartbeats 4000000 in
theorem cG3(p:Pl)(hf:p.fib.length≤140737488355328)(hb:p.bales.length≤140737488355328)(b s:Sec)(hbl:b.seed.length≤140737488355328∧b.salt.length≤140737488355328)(hsl:s.seed.length≤140737488355328∧s.salt.length≤140737488355328)
  (lease:Int) (rooms:List (List Int)) (hbig:∀r∈rooms,r.length≤9223372036854775807) (acts:List Actt) :
  Triple Tryz.prog 4 (cp7 p b s lease rooms acts) (cA9 p rooms acts) 4 (bv true) []:=by
 have hpl:=br6 p hf hb;by_cases hP:Wu p=0
 rotate_left
 ·have hne:(Wu p != 0)=true:=by simp[hP]
  generalize Wu p=e at hne hpl;refine Jc Ja Tryz.func4 rfl Tryz.call4 rfl ?_;intro ρ w hH;conv=>whnf
  refine Jb hpl rfl rfl ?_;conv=>whnf
  refine cs ?_;conv=>whnf
  refine⟨fun hc=>?_,fun hc=>absurd (Eq.trans (Eq.symm hne) hc) (by decide)⟩;conv=>whnf
  refine Jb UC rfl rfl ?_;conv=>whnf
  refine cs ?_;conv=>whnf
  exact cl
 have hok:=ao5 hP;have hne:(Wu p != 0)=false:=by simp[hP]
 have hdr:=br8 p hf hP (Qg p.id b s).1 (Ux p.id b s);obtain⟨m,hm⟩:∃m:Nat,p.per=m:=⟨p.per.toNat,by have:=hok.per;omega⟩;have hso:=bQ9 hok (Qg p.id b s).1 hm;generalize Wu p=e at hne hpl;refine Jc Ja Tryz.func4 rfl Tryz.call4 rfl ?_;intro ρ w hH;conv=>whnf
 refine Jb hpl rfl rfl ?_;conv=>whnf
 refine cs ?_;conv=>whnf
 refine⟨fun hc=>absurd (Eq.trans (Eq.symm hne) hc) (by decide),fun hc=>?_⟩;conv=>whnf
 refine⟨fun hc=>?_,fun hc=>?_⟩
 ·conv=>whnf
  refine Jb UC rfl rfl ?_;conv=>whnf
  refine cs ?_;conv=>whnf
  exact cl
 conv=>whnf
 have hbl6:p.bales.length≤6:=by have:=of_decide_eq_false hc;omega
 refine⟨fun hc=>?_,fun hc=>?_⟩
 ·conv=>whnf
  refine Jb UC rfl rfl ?_;conv=>whnf
  refine cs ?_;conv=>whnf
  exact cl
 conv=>whnf
 have hper6:p.per≤6:=by have:=of_decide_eq_false hc;omega
 refine⟨fun hc=>?_,fun hc=>?_⟩
 ·conv=>whnf
  refine Jb UC rfl rfl ?_;conv=>whnf
  refine cs ?_;conv=>whnf
  exact cl
 conv=>whnf
 have hact:acts.length≤60:=by have:=of_decide_eq_false hc;omega
 refine⟨fun hc=>?_,fun hc=>?_⟩
 ·conv=>whnf
  refine Jb UC rfl rfl ?_;conv=>whnf
  refine cs ?_;conv=>whnf
  exact cl
 conv=>whnf
 refine Jb (bD3 p.id hok.id b s) rfl rfl ?_;conv=>whnf
 refine cs ?_;conv=>whnf
 have hjl:=Ux p.id b s;refine Jv Ja 16 rfl rfl rfl ?_;conv=>whnf
 refine Jp (l':=(Qg p.id b s).1) Ja rfl rfl rfl rfl rfl (by simp) (by rw[hjl];simp) (by decide) ?_;conv=>whnf
 refine Jm (l:=(Qg p.id b s).1) Ja rfl rfl rfl rfl rfl hjl.symm ?_;conv=>whnf
 refine Jb hdr rfl rfl ?_;conv=>whnf
 refine cs ?_;conv=>whnf
 have hlm:=bj1 (p:=p) (Qg p.id b s).1 hm;generalize hje:(Qg p.id b s).2=je;rcases cd8 (Vp p (Qg p.id b s).1) hso lease rooms hbig with ⟨er,he,hT⟩|⟨g1,g2,g3⟩
 ·have e1:(er != 0)=true:=by simp[he]
  refine Jb hT rfl rfl ?_;conv=>whnf
  refine⟨cl,(by repeat' (first|exact(aP6 rfl)|exact trivial|exact rfl|refine And.intro ?_ ?_|((conv=>whnf);first|exact(aP6 rfl)|exact trivial|exact rfl|refine And.intro ?_ ?_|omega))), ?_⟩;conv=>whnf
  by_cases j0:je=0
  ·subst j0;repeat ((first|refine qT fun hc=>?_|refine qF fun hc=>?_);conv=>whnf)
   refine Jb UC rfl rfl ?_;conv=>whnf
   refine cs ?_;conv=>whnf
   repeat ((first|refine qT fun hc=>?_|refine qF fun hc=>?_);conv=>whnf)
   exact cl
  ·have j1:(je != 0)=true:=by simp[j0]
   repeat ((first|refine qT fun hc=>?_|refine qF fun hc=>?_);conv=>whnf)
   refine Jb UC rfl rfl ?_;conv=>whnf
   refine cs ?_;conv=>whnf
   repeat ((first|refine qT fun hc=>?_|refine qF fun hc=>?_);conv=>whnf)
   exact cl
 have hT:=cG2 (Vp p (Qg p.id b s).1) hso lease g1 rooms g2 g3;have hI:=cz3 g1 (Vp p (Qg p.id b s).1) g2 g3;generalize wb0 lease (Vp p (Qg p.id b s).1) rooms=b0 at hT hI;refine Jb hT rfl rfl ?_;conv=>whnf
 refine⟨cl,(by repeat' (first|exact(aP6 rfl)|exact trivial|exact rfl|refine And.intro ?_ ?_|((conv=>whnf);first|exact(aP6 rfl)|exact trivial|exact rfl|refine And.intro ?_ ?_|omega))), ?_⟩;conv=>whnf
 rw[←VW rfl];conv=>whnf
 by_cases j0:je=0
 rotate_left
 ·have j1:(je != 0)=true:=by simp[j0]
  repeat ((first|refine qT fun hc=>?_|refine qF fun hc=>?_);conv=>whnf)
  refine Jb UC rfl rfl ?_;conv=>whnf
  refine cs ?_;conv=>whnf
  repeat ((first|refine qT fun hc=>?_|refine qF fun hc=>?_);conv=>whnf)
  exact cl
 subst j0;repeat ((first|refine qT fun hc=>?_|refine qF fun hc=>?_);conv=>whnf)
 generalize hD:Vp p (Qg p.id b s).1=D at hso hlm hdr hI
 refine Jz Ja (G:=Nat×Wb×(Ky→Option Int)) 2 [12,15] (fun g=>[(19,iv .i64 g.1)])
  (fun g=>[(9,true, .cells [.p 10 0 0 0, .s 11 0 g.2.1.sts.length 1, .v (.int .i64 g.2.1.now), .s 16 0 g.2.1.mail.length 7, .v (.int .i64 g.2.1.sent), .m 13]),(10,true,VZ 14 g.2.1.d),(11,true, .arr (UO 17 g.2.1.sts.length)),(16,true, .arr (Xw g.2.1.mail)),(13,true,Jw false 2 g.2.1.puts),(14,true,Jw true 2 g.2.1.d.known),(17,true, .box (Wm g.2.1.sts))])
  (fun g=>g.1≤acts.length∧WInv (KpL D) rooms.length g.2.2 g.2.1) (fun g=>acts.length-g.1) ?_
 conv=>whnf
 refine⟨⟨(0,b0,fun _=>none),⟨Nat.zero_le _,hI⟩, ?_⟩, ?_⟩
 ·conv=>whnf
  exact cl2
 clear hI
 rintro ⟨i,b1,own⟩ ⟨hi,hI⟩ ρ1 t1 hρ1
 have hi:i≤acts.length:=hi;have hI:WInv (KpL D) rooms.length own b1:=hI;dsimp only;conv=>whnf
 refine⟨fun hc=>?_,fun hc=>?_⟩
 ·have h:i<acts.length:=by have:=of_decide_eq_true hc;omega
  have hrow:acts[i]? = some acts[i]:=List.getElem?_eq_getElem h;generalize acts[i]=a at hrow;obtain⟨kd,ga,gb,gk,gm⟩:=a;obtain⟨e,b2,own2,ho,hI2,hTd⟩:=cn5 hI kd ga gb gk gm;conv=>whnf
  refine⟨i,rfl,h,h, ?_⟩;conv=>whnf
  erw[cJ3 hrow];refine Jb hTd rfl rfl ?_;conv=>whnf
  refine⟨cl,cl2, ?_⟩;conv=>whnf
  rw[←VW rfl];conv=>whnf
  refine⟨_,wO, ?_⟩;refine⟨(i+1,b2,own2),⟨h,hI2⟩,by show acts.length-(i+1)<acts.length-i;omega, ?_⟩;dsimp only;conv=>whnf
  refine⟨rfl, ?_⟩;conv=>whnf
  exact cl2
 have hn16:=hI.n16;have h0l:0<b1.sts.length:=by have:=hI.len;omega
 have h0:b1.sts[0]? = some b1.sts[0]:=List.getElem?_eq_getElem h0l;conv=>whnf
 refine Jb (cn0 h0 hI.puts) rfl rfl ?_;conv=>whnf
 refine⟨cl,cl2, ?_⟩;conv=>whnf
 rw[←VW rfl];conv=>whnf
 repeat ((first|refine qT fun hc=>?_|refine qF fun hc=>?_);conv=>whnf)
 refine aU4 Ja (Yn (List.replicate p.bales.length 0)) rfl rfl ?_;conv=>whnf
 refine⟨p.bales.length,⟨by show(List.replicate p.bales.length (0:Int)).length=_;simp,rfl,rfl,by show p.bales.length*9≤140737488355328;omega, ?_⟩, ?_⟩
 ·intro x hx;rw[show x=(0:Int)from List.eq_of_mem_replicate (show x∈List.replicate p.bales.length (0:Int)from hx)];exact⟨rfl,trivial⟩
 have hm0:0<m:=by have:=hok.per;omega
 have hU0:=UInv.zero p m;obtain⟨sd,hsd⟩:∃sd,(Qg p.id b s).1=sd:=⟨_,rfl⟩;have hjl2:=Ux p.id b s;rw[hsd]at hD hjl2;conv=>whnf
 rw[hsd]
 refine Jz Ja (G:=Nat×Wb×List (Nat×Nat)×List Int) 3 [18,19] (fun g=>[(22,iv .i64 g.1),(20, .c (.s 23 0 (g.2.2.1.map (XD p sd)).length 3))])
  (fun g=>[(9,true, .cells [.p 10 0 0 0, .s 11 0 g.2.1.sts.length 1, .v (.int .i64 g.2.1.now), .s 21 0 g.2.1.mail.length 7, .v (.int .i64 g.2.1.sent), .m 13]),(10,true,VZ 14 g.2.1.d),(11,true, .arr (UO 22 g.2.1.sts.length)),(21,true, .arr (Xw g.2.1.mail)),(13,true,Jw false 2 g.2.1.puts),(14,true,Jw true 2 g.2.1.d.known),(22,true, .box (Wm g.2.1.sts)),
   (20,true, .arr (Yn g.2.2.2)),(23,true, .arr (KU (g.2.2.1.map (XD p sd))))])
  (fun g=>g.1≤D.length∧WInv (KpL D) rooms.length own g.2.1∧UInv p m g.1 g.2.2.1 g.2.2.2) (fun g=>D.length-g.1) ?_
 conv=>whnf
 refine⟨⟨(0,b1,[],List.replicate p.bales.length 0),⟨Nat.zero_le _,hI,hU0⟩, ?_⟩, ?_⟩
 ·conv=>whnf
  exact cl2
 clear hI hU0 h0 h0l
 rintro ⟨k,b2,U,lost⟩ ⟨hk,hI,hU⟩ ρ2 t2 hρ2
 have hk:k≤D.length:=hk;have hI:WInv (KpL D) rooms.length own b2:=hI;have hU:UInv p m k U lost:=hU;dsimp only;conv=>whnf
 refine⟨fun hc=>?_,fun hc=>?_⟩
 ·have h:k<D.length:=by have:=of_decide_eq_true hc;omega
  have hDk:∃b,p.bales[k/m]? = some b∧D[k]? = some (XD p sd (k/m,k%m)):=by
   rw[←hD]at h ⊢;exact aM3 hok sd hm h
  obtain⟨bl,hbl1,hDk⟩:=hDk;have hDm:XD p sd (k/m,k%m)∈D:=List.mem_of_getElem? hDk;have hbl2:(XD p sd (k/m,k%m)).1=bl.1:=by unfold XD;rw[bb7 hbl1]
  generalize hx:XD p sd (k/m,k%m)=x at hDk hDm hbl2;have h0l:0<b2.sts.length:=by have:=hI.len;omega
  have h0:b2.sts[0]? = some b2.sts[0]:=List.getElem?_eq_getElem h0l;have hH:=cy6 h0 hI.dsk.vals (x.1,x.2.1);rw[hI.dsk.keys (x.1,x.2.1) ⟨x,hDm,rfl⟩]at hH;have hI3:WInv (KpL D) rooms.length own { b2 with d:=YK b2.d b2.now }:={ hI with dsk:=hI.dsk.at_ b2.now };generalize ({ b2 with d:=YK b2.d b2.now }:Wb)=b3 at hH hI3;generalize YZ b2.d b2.now (x.1,x.2.1)=hd at hH;conv=>whnf
  refine⟨k,rfl,h,h, ?_⟩;conv=>whnf
  refine⟨k,rfl,h,h, ?_⟩;conv=>whnf
  erw[af1 hDk];refine Jb hH rfl rfl ?_;conv=>whnf
  refine⟨cl,cl2, ?_⟩;conv=>whnf
  rw[←VW rfl];conv=>whnf
  have hul:=hU.ul;have hDl:D.length≤480:=hso.len;by_cases s5:hd.state=5
  rotate_left
  ·have n5:(hd.state != 5)=true:=by simp[s5]
   have hmap:(U++[(k/m,k%m)]).map (XD p sd)=U.map (XD p sd)++[x]:=by rw[List.map_append,←hx];rfl
   have hUl:(U.map (XD p sd)).length=U.length:=List.length_map _;have hUk:=hU.keep hok hm hbl1;generalize U.map (XD p sd)=us at hmap hUl ⊢;repeat ((first|refine qT fun hc=>?_|refine qF fun hc=>?_);conv=>whnf)
   refine⟨k,rfl,h,h, ?_⟩;conv=>whnf
   erw[af1 hDk];refine Yf Ja (KU [x]) rfl rfl ?_;conv=>whnf
   refine⟨⟨rfl,cl⟩, ?_⟩;conv=>whnf
   have e:us.take us.length++(([x]:List Vj).drop 0).take 1=us++[x]:=by
    rw[List.take_of_length_le (Nat.le_refl _)];rfl
   refine VG Ja (KU us) [x] (us++[x]) (fun _=>rfl) rfl rfl rfl rfl ?_;conv=>whnf
   refine⟨⟨rfl,rfl,Nat.le_refl _,Nat.le_refl _,by show(us.length+1)*25≤140737488355328;omega,e⟩, ?_⟩;conv=>whnf
   refine⟨_,wO, ?_⟩;refine⟨(k+1,b3,U++[(k/m,k%m)],lost),⟨h,hI3,hUk⟩,by show D.length-(k+1)<D.length-k;omega, ?_⟩;dsimp only;rw[hmap];conv=>whnf
   refine⟨rfl, ?_⟩;conv=>whnf
   exact cl2
  have n5:(hd.state != 5)=false:=by rw[s5];rfl
  repeat ((first|refine qT fun hc=>?_|refine qF fun hc=>?_);conv=>whnf)
  have hper:=hok.per;have hq:k/m<p.bales.length:=(List.getElem?_eq_some_iff.1 hbl1).1;have hqk:k/m≤k:=Nat.div_le_self _ _;have hdv:(k:Int).tdiv (m:Int)=((k/m:Nat):Int):=rfl;have hll:=hU.len;have hbd:=hU.bd (k/m);have hR:=ca6 p hf hP sd hjl2 hbl1 (lost.getD (k/m) 0+1) (by omega);rw[←hbl2]at hR;have hUn:=hU.none hq;have hUr:=fun hc=>hU.repl hbl1 hc;have hrn:=@cn9 p m hm sd bl (lost.getD (k/m) 0);have hra:=@cn8 p m hm sd (k/m) bl hbl1 (lost.getD (k/m) 0) hbd.1;have hcq:lost[k/m]? = some (lost.getD (k/m) 0):=by rw[List.getD,List.getElem?_eq_getElem (by omega)];rfl
  have hcs:(lost.set (k/m) (lost.getD (k/m) 0+1))[k/m]? = some (lost.getD (k/m) 0+1):=List.getElem?_set_self (by omega);have hbq:p.bales[k/m]? = some bl:=hbl1;generalize lost.getD (k/m) 0=c at hbd hR hUn hUr hrn hra hcq hcs;have hsq:(lost.set (k/m) (c+1)).length=p.bales.length:=by rw[List.length_set];exact hll
  generalize k/m=q at hq hqk hdv hcq hcs hUn hUr hra hbq hsq;have hql:q<lost.length:=by omega
  refine⟨by omega,(q:Int),by rw[hm,hdv];exact wO, ?_⟩;conv=>whnf
  refine⟨q,rfl,hq,hql, ?_⟩;conv=>whnf
  erw[ba7 hcq];refine⟨c+1,YX (z:=c+1) ⟨by omega,by omega⟩, ?_⟩;conv=>whnf
  refine⟨q,rfl,hq, ?_⟩;conv=>whnf
  refine⟨hql,_,rfl, ?_⟩;conv=>whnf
  refine Jm (l:=sd) Ja rfl rfl rfl rfl rfl hjl2.symm ?_;conv=>whnf
  refine⟨k,rfl,h,h, ?_⟩;conv=>whnf
  erw[af1 hDk];refine⟨q,rfl,hq,by show q<(lost.set q (c+1)).length;omega, ?_⟩;conv=>whnf
  erw[ba7 hcs];by_cases hc5:bl.2-m<c+1
  ·rw[hrn hc5]at hR;dsimp only at hR;have dle:decide (p.per+(c+1)≤bl.2)=false:=decide_eq_false (by omega);refine Jb hR rfl rfl ?_;conv=>whnf
   refine cs ?_;conv=>whnf
   repeat ((first|refine qT fun hc=>?_|refine qF fun hc=>?_);conv=>whnf)
   refine⟨q,rfl,hq,by show q<(lost.set q (c+1)).length;omega, ?_⟩;conv=>whnf
   erw[ba7 hcs];refine⟨p.per+(c+1),YX (z:=p.per+(c+1)) ⟨by omega,by omega⟩, ?_⟩;conv=>whnf
   refine⟨q,rfl,hq,hq, ?_⟩;conv=>whnf
   erw[ca5 hbq];repeat ((first|refine qT fun hc=>?_|refine qF fun hc=>?_);conv=>whnf)
   refine⟨_,wO, ?_⟩;refine⟨(k+1,b3,U,lost.set q (c+1)),⟨h,hI3,hUn⟩,by show D.length-(k+1)<D.length-k;omega, ?_⟩;dsimp only;conv=>whnf
   refine⟨rfl, ?_⟩;conv=>whnf
   exact cl2
  ·rw[hra hc5]at hR;dsimp only at hR;have hUr:=hUr hc5;generalize hy:XD p sd (q,m+c.toNat)=y at hR;have hmap:(U++[(q,m+c.toNat)]).map (XD p sd)=U.map (XD p sd)++[y]:=by rw[List.map_append,←hy];rfl
   have hUl:(U.map (XD p sd)).length=U.length:=List.length_map _;generalize U.map (XD p sd)=us at hmap hUl ⊢;refine Jb hR rfl rfl ?_;conv=>whnf
   refine cs ?_;conv=>whnf
   repeat ((first|refine qT fun hc=>?_|refine qF fun hc=>?_);conv=>whnf)
   refine Yf Ja (KU [y]) rfl rfl ?_;conv=>whnf
   refine⟨⟨rfl,cl⟩, ?_⟩;conv=>whnf
   have e:us.take us.length++(([y]:List Vj).drop 0).take 1=us++[y]:=by
    rw[List.take_of_length_le (Nat.le_refl _)];rfl
   refine VG Ja (KU us) [y] (us++[y]) (fun _=>rfl) rfl rfl rfl rfl ?_;conv=>whnf
   refine⟨⟨rfl,rfl,Nat.le_refl _,Nat.le_refl _,by show(us.length+1)*25≤140737488355328;omega,e⟩, ?_⟩;conv=>whnf
   repeat ((first|refine qT fun hc=>?_|refine qF fun hc=>?_);conv=>whnf)
   refine⟨_,wO, ?_⟩;refine⟨(k+1,b3,U++[(q,m+c.toNat)],lost.set q (c+1)),⟨h,hI3,hUr⟩,by show D.length-(k+1)<D.length-k;omega, ?_⟩;dsimp only;rw[hmap];conv=>whnf
   refine⟨rfl, ?_⟩;conv=>whnf
   exact cl2
 have hdis:∀(i j:Nat) (x y:Vj),i<j→(U.map (XD p sd))[i]? = some x→(U.map (XD p sd))[j]? = some y→x.1=y.1→¬(x.2.2=y.2.2∨x.2.1=y.2.1):=by
  intro i j x y hij hx hy h1 h2;rw[List.getElem?_map]at hx hy;obtain⟨u,hu,rfl⟩:=Option.map_eq_some_iff.1 hx;obtain⟨v,hv,rfl⟩:=Option.map_eq_some_iff.1 hy;refine bv1 hok sd (hU.pl u (List.mem_of_getElem? hu)).1 (hU.pl v (List.mem_of_getElem? hv)).1 (fun e=>?_) h1 h2;rw[e]at hu;have:=(List.getElem?_inj (List.getElem?_eq_some_iff.1 hu).1 hU.nd).1 (hu.trans hv.symm);omega
 have hul:=hU.ul;have hDl:D.length≤480:=hso.len;have hUl:(U.map (XD p sd)).length=U.length:=List.length_map _;generalize U.map (XD p sd)=us at hdis hUl;conv=>whnf
 refine Jz Ja (G:=Nat) 0 [] (fun i=>[(28,iv .i64 i)]) (fun _=>[]) (fun i=>i≤us.length) (fun i=>us.length-i) ?_;conv=>whnf
 refine⟨⟨0,Nat.zero_le _, ?_⟩, ?_⟩
 ·conv=>whnf
  exact cl
 intro k2 hk2 ρ3 t3 hρ3;have hk2:k2≤us.length:=hk2;conv=>whnf
 refine⟨fun hc=>?_,fun hc=>?_⟩
 rotate_left
 ·conv=>whnf
  refine Jb UC rfl rfl ?_;conv=>whnf
  refine cs ?_;conv=>whnf
  exact cl
 have h2:k2<us.length:=by have:=of_decide_eq_true hc;omega
 conv=>whnf
 refine Jz Ja (G:=Nat) 0 [] (fun i=>[(29,iv .i64 i)]) (fun _=>[]) (fun i=>i≤k2) (fun i=>k2-i) ?_;conv=>whnf
 refine⟨⟨0,Nat.zero_le _, ?_⟩, ?_⟩
 ·conv=>whnf
  exact cl
 intro i2 hi2 ρ4 t4 hρ4;have hi2:i2≤k2:=hi2;conv=>whnf
 refine⟨fun hc=>?_,fun hc=>?_⟩
 rotate_left
 ·conv=>whnf
  refine⟨_,wO, ?_⟩;refine⟨k2+1,h2,by show us.length-(k2+1)<us.length-k2;omega, ?_⟩;conv=>whnf
  refine⟨rfl, ?_⟩;conv=>whnf
  exact cl
 have h3:i2<k2:=by have:=of_decide_eq_true hc;omega
 have hi3:i2<us.length:=by omega
 have hxg:us[i2]? = some us[i2]:=List.getElem?_eq_getElem hi3;have hyg:us[k2]? = some us[k2]:=List.getElem?_eq_getElem h2;generalize us[i2]=x at hxg;generalize us[k2]=y at hyg;have hxy:=hdis i2 k2 x y h3 hxg hyg;conv=>whnf
 refine⟨i2,rfl,hi3,hi3, ?_⟩;conv=>whnf
 erw[af1 hxg];refine⟨k2,rfl,h2,h2, ?_⟩;conv=>whnf
 erw[af1 hyg];by_cases e1:x.1=y.1
 ·have n1:(x.1==y.1)=true:=by simp[e1]
  have hno:=hxy e1;have n2:(x.2.2==y.2.2)=false:=by simp;exact fun h=>hno (.inl h)
  have n3:(x.2.1==y.2.1)=false:=by simp;exact fun h=>hno (.inr h)
  repeat ((first|refine qT fun hc=>?_|refine qF fun hc=>?_);conv=>whnf)
  refine⟨i2,rfl,hi3,hi3, ?_⟩;conv=>whnf
  erw[af1 hxg];refine⟨k2,rfl,h2,h2, ?_⟩;conv=>whnf
  erw[af1 hyg];repeat ((first|refine qT fun hc=>?_|refine qF fun hc=>?_);conv=>whnf)
  refine⟨i2,rfl,hi3,hi3, ?_⟩;conv=>whnf
  erw[af1 hxg];refine⟨k2,rfl,h2,h2, ?_⟩;conv=>whnf
  erw[af1 hyg];repeat ((first|refine qT fun hc=>?_|refine qF fun hc=>?_);conv=>whnf)
  refine⟨_,wO, ?_⟩;refine⟨i2+1,h3,by show k2-(i2+1)<k2-i2;omega, ?_⟩;conv=>whnf
  refine⟨rfl, ?_⟩;conv=>whnf
  exact cl
 ·have n1:(x.1==y.1)=false:=by simp[e1]
  repeat ((first|refine qT fun hc=>?_|refine qF fun hc=>?_);conv=>whnf)
  refine⟨_,wO, ?_⟩;refine⟨i2+1,h3,by show k2-(i2+1)<k2-i2;omega, ?_⟩;conv=>whnf
  refine⟨rfl, ?_⟩;conv=>whnf
  exact cl
end Go.Proofs
