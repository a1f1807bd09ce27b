/-
  A part of the proof that a law answers true: lemmas of a symbolic walk, plain functions, or contracts of the functions walked (Sx19, Sx20, Sx21). Conditions: none.
-/
import Derived.Test.YtfcdjkeamldkaaaGreatPart07
import Derived.LoopNIn
import Derived.Laws.MakeOwn
set_option maxRecDepth 100000
set_option linter.unusedVariables false
set_option linter.unusedSimpArgs false
namespace Go
namespace Sx
def bq0:List Oper→Nat→Nat
 | [],m=>m
 |o::r,m=>match o.dst with
  |some d=>bq0 r (Nat.lor m (bit d))
  |none=>bq0 r m
def al7:Code→Nat→Nat
 | .region _ ops _,m=>bq0 ops.toList m
 | .seq x y,m=>al7 x (al7 y m)
 | .cond _ x y,m=>al7 x (al7 y m)
 | .block _ b,m=>al7 b m
 | .loop b,m=>al7 b m
 | .rangeFunc _ ps x y,m=>al7 x (al7 y (ps.toList.foldl (fun m d=>Nat.lor m (bit d)) m))
 |_,m=>m
def ak4:List (Nat×SV)→Env→Env
 | [],e=>e
 |(i,v)::r,e=>.put i v (ak4 r e)
def Gi:List Nat→Je→Je
 | [],H=>H
 |k::r,H=>(k,false, .cells [])::Gi r H
def aO3:List Nat→Je→(Je→Prop)→Prop
 | [],H,K=>K H
 |k::r,H,K=>aO3 r H fun H=>K ((k,false, .cells [])::H)
def aO4:List (Nat×SV)→Env→(Env→Prop)→Prop
 | [],e,K=>K e
 |(i,v)::r,e,K=>ao1 v fun v=>aO4 r e fun e=>K (.put i v e)
theorem bJ1{l:List Nat}{H:Je}{K:Je→Prop}:aO3 l H K=K (Gi l H):=by
 induction l generalizing K with
 |nil=>rfl
 |cons c l ih=>simp[aO3,ih,Gi]
theorem bJ2{l:List (Nat×SV)}{e:Env}{K:Env→Prop}:aO4 l e K=K (ak4 l e):=by
 induction l generalizing K with
 |nil=>rfl
 |cons c l ih=>obtain⟨i,v⟩:=c;simp[aO4,ih,ak4,am4]
def KP(s:St)(m nl:Nat)(dead:List Nat)(st:List (Nat×SV))(hp:Je):St :=
 ⟨ak4 st (.mask m s.e),hp++Gi dead s.H,s.nx+nl⟩
def aO5(s:St)(m nl:Nat)(dead:List Nat)(st:List (Nat×SV))(hp:Je)(K:St→Prop):Prop:=match s with
 |⟨e,H,nx⟩=>aO3 dead H fun H=>aj6 hp H fun H=>XY (nx+nl) fun nx=>aO4 st (.mask m e) fun e=>K ⟨e,H,nx⟩
theorem aY1{s:St}{m nl:Nat}{dead:List Nat}{st:List (Nat×SV)}{hp:Je}{K:St→Prop}:aO5 s m nl dead st hp K=K (KP s m nl dead st hp):=by
 obtain⟨e,H,nx⟩:=s;simp[aO5,bJ1,aH8,WQ,bJ2,KP]
def lcx(cx:Cx)(nx m:Nat)(ρ:Jn)(t0:Array Value):Cx:={ cx with md:=some m,t0:=t0,ρ0:=ρ,n0:=nx }
def aY2(np nx:Nat):List (Nat×SV)→Env→List (Nat×Nat)→List (Nat×Nat)
 | [],_,τ=>τ
 |(i,v)::r,e,τ=>aY2 np nx r e (aI8 np nx v (e.get i) τ)
def aO6(np nx:Nat):List (Nat×SV)→Env→List (Nat×Nat)→(List (Nat×Nat)→Prop)→Prop
 | [],_,τ,K=>K τ
 |(i,v)::r,e,τ,K=>ay0 np nx v (e.get i) τ fun τ=>aO6 np nx r e τ K
theorem aY3{np nx:Nat}:∀ {l:List (Nat×SV)} {e:Env} {τ:List (Nat×Nat)} {K:List (Nat×Nat)→Prop},aO6 np nx l e τ K=K (aY2 np nx l e τ)
 | [],_,_,_=>rfl
 |(i,v)::r,e,τ,K=>by simp only[aO6,aB5,aY2,aY3]
def bm1(nl:List Nat)(σ:Nat→Nat):List (Nat×SV)→Env→Prop
 | [],_=>True
 |(i,v)::r,e=>aO0 nl (e.get i) (v.ren σ)∧bm1 nl σ r e
def an2:List (Nat×SV)→List Nat
 | []=>[]
 |(_,v)::r=>v.nms++an2 r
def at7(nx:Nat)(dead:List Nat)(τ:List (Nat×Nat)):List Nat→Bool
 | []=>true
 |k::r=>bif Nat.beq (JM τ k) k then at7 nx dead τ r else bif Nat.ble nx (JM τ k)then at7 nx dead τ r else bif Ys (JM τ k) dead then at7 nx dead τ r else false
def bm2(s:St)(nl:Nat)(dead:List Nat)(st:List (Nat×SV))(hp:Je)(s':St):Prop :=
 aO6 s.nx s'.nx st s'.e [] fun τ=>ak0 s.nx s'.nx s'.H hp τ fun τ =>
  bif ap6 s.nx τ&&(VF (VO (JM τ) (keys hp))&&(XR (s.nx+nl) (an2 st)&&(XR (s.nx+nl) (Vl hp)&&(at7 s.nx dead τ (keys hp)&&XR s.nx dead))))then
   Gy (Vu s'.nx τ) fun nl'=>bm1 nl' (JM τ) st s'.e∧aq2 nl' s'.H (JM τ) hp else False
theorem UV{m i:Nat}{e:Env}:(Env.mask m e).get i=if XB m i=true then .c .junk else e.get i:=by
 simp only[Env.get];cases XB m i <;> simp
theorem ad7:∀ {st:List (Nat×SV)} {e:Env} {i:Nat},(∃v,(i,v)∈st∧(ak4 st e).get i=v)∨(ak4 st e).get i=e.get i
 | [],_,_=>.inr rfl
 |(j,v)::r,e,i=>by
  simp only[ak4];rw[XA];by_cases h:i=j
  ·rw[if_pos h];exact .inl ⟨v,by simp[h],rfl⟩
  ·rw[if_neg h];rcases ad7 (st:=r) (e:=e) (i:=i)with ⟨u,hu,he⟩|he
   ·exact .inl ⟨u,List.mem_cons_of_mem _ hu,he⟩
   ·exact .inr he
theorem GU:∀ {st:List (Nat×SV)} {e:Env},(ak4 st e).marks=e.marks
 | [],_=>rfl
 |(_,_)::r,e=>GU (st:=r) (e:=e)
theorem aJ6{nl:List Nat}{σ:Nat→Nat}:∀ {st:List (Nat×SV)} {e:Env},bm1 nl σ st e→∀i v,(i,v)∈st→aO0 nl (e.get i) (v.ren σ)
 | [],_,_,_,_,h=>by cases h
 |(j,u)::r,e,h,i,v,hm=>by
  rcases List.mem_cons.1 hm with he|hm
  ·simp at he;obtain⟨rfl,rfl⟩:=he;exact h.1
  ·exact aJ6 h.2 i v hm
theorem ak5{st:List (Nat×SV)}{i:Nat}{v:SV}{k:Nat}(h:(i,v)∈st)(hk:k∈v.nms):k∈an2 st:=by
 induction st with
 |nil=>cases h
 |cons p r ih =>
  obtain⟨j,u⟩:=p;rcases List.mem_cons.1 h with he|h
  ·simp at he;obtain⟨rfl,rfl⟩:=he;simp[an2,hk]
  ·simp[an2,ih h]
theorem an3{dead:List Nat}{H:Je}{k:Nat}:look (Gi dead H) k=if k∈dead then some (false, .cells [])else look H k:=by
 induction dead with
 |nil=>simp[Gi]
 |cons j r ih =>
  simp only[Gi,Jh,List.mem_cons];by_cases h:k=j
  ·simp[h]
  ·simp[h,ih]
theorem aJ7{nx:Nat}{dead:List Nat}{τ:List (Nat×Nat)}:∀ {l:List Nat},at7 nx dead τ l=true→∀k∈l,JM τ k=k∨nx≤JM τ k∨JM τ k∈dead
 | [],_,_,h=>by cases h
 |j::r,h,k,hk=>by
  simp only[at7]at h;have key:(JM τ j=j∨nx≤JM τ j∨JM τ j∈dead)∧at7 nx dead τ r=true:=by
   cases h1:Nat.beq (JM τ j) j with
   |true=>simp[h1]at h;exact⟨.inl (Nat.eq_of_beq_eq_true h1),h⟩
   |false =>
    simp only[h1,cond_false]at h;cases h2:Nat.ble nx (JM τ j)with
    |true=>simp[h2]at h;exact⟨.inr (.inl (Nat.le_of_ble_eq_true h2)),h⟩
    |false =>
     simp only[h2,cond_false]at h;cases h3:Ys (JM τ j) dead with
     |true=>simp[h3]at h;exact⟨.inr (.inr (JY.1 h3)),h⟩
     |false=>simp[h3]at h
  rcases List.mem_cons.1 hk with rfl|hk
  ·exact key.1
  ·exact aJ7 key.2 k hk
theorem be7{cx:Cx}{ρ ρ':Jn}{s s':St}{a a':Act}{w w':World}{m nl:Nat}{dead:List Nat}{st:List (Nat×SV)}{hp:Je}
 (hs:Sat cx ρ s a w) (hs':Sat (lcx cx s.nx m ρ a.tmps) ρ' s' a' w') (hE:bm2 s nl dead st hp s')
 (hbase:∀k,k<s.nx→k∉keys hp→k∉dead→look s'.H k=look s.H k) (hmk:s'.e.marks=s.e.marks):∃ρ'',Sat (lcx cx s.nx m ρ a.tmps) ρ'' (KP s m nl dead st hp) a' w':=by
 simp only[bm2,aY3,ab8]at hE;generalize am6 s.nx s'.nx s'.H hp (aY2 s.nx s'.nx st s'.e [])=τ at hE;simp only[ac9]at hE;obtain⟨hc,hst,hhp⟩:=YS hE;simp only[Bool.and_eq_true]at hc;obtain⟨c1,c2,c3,c4,c5,c6⟩:=hc;have c3:=Xj.1 c3;have c4:=Xj.1 c4;have c5:=aJ7 c5;have c6:=Xj.1 c6;have hinj:=ad0 c2;have hid:∀k,k<s.nx→JM τ k=k:=fun k hk=>bp2 c1 hk;obtain⟨ρn,hρn⟩:∃ρn:Jn,ρn=fun k=>if k∈Vu s'.nx τ then⟨0,0,0,[]⟩else ρ' k:=⟨_,rfl⟩
 have hin:∀k,k∈Vu s'.nx τ→ρn k=⟨0,0,0,[]⟩:=fun k hk=>by rw[hρn];simp only;rw[if_pos hk]
 have hlow:∀k,k<s'.nx→ρn k=ρ' k:=fun k hk=>by
  rw[hρn];simp only;rw[if_neg fun hm=>by have:=aj9 hm;omega]
 have hnn:aB1 ρn (Vu s'.nx τ):=fun k hk=>by rw[hin k hk]
 have hnx:s.nx≤s'.nx:=hs'.n0;have hreg:∀k own o,look s'.H k=some (own,o)→SatO ρn w' k own o∧ρn k=ρ' k:=fun k own o hl=>by
  have hb:=hs'.bnd.heap k own o hl;exact⟨(hs'.heap.reg k own o hl).asg (hlow k hb.1) (fun n hn=>hlow n (hb.2 n hn)),hlow k hb.1⟩
 have hold:∀k,k<s.nx→ρn (JM τ k)=ρ k:=fun k hk=>by
  rw[hid k hk,hlow k (by omega)];exact hs'.base k hk
 have hcase:∀k own o,look (hp++Gi dead s.H) k=some (own,o) →
  (k∈keys hp∧JM τ k∈Vu s'.nx τ∧aI6 o) ∨
  (∃own' o',look s'.H (JM τ k)=some (own',o')∧(own=true→own'=true)∧ad3 (Vu s'.nx τ) o' (o.ren (JM τ))∧k∈keys hp) ∨
  (own=false∧o=.cells []∧k<s.nx) ∨
  (k<s.nx∧k∉keys hp∧k∉dead∧look s'.H k=some (own,o)∧∀n,o.uses [n]=true→n<s.nx):=by
  intro k own o hl;rw[Yi]at hl;cases h1:look hp k with
  |some x =>
   rw[h1]at hl;simp at hl;subst hl;rcases af9 hhp h1 with ⟨hm,hn⟩|⟨_,own',o',h2,h3,h4⟩
   ·exact .inl ⟨Xm h1,hm,hn⟩
   ·exact .inr (.inl ⟨own',o',h2,h3,h4,Xm h1⟩)
  |none =>
   rw[h1]at hl;simp only[Option.none_or]at hl;rw[an3]at hl;by_cases hd:k∈dead
   ·rw[if_pos hd]at hl;simp at hl;exact .inr (.inr (.inl ⟨hl.1,hl.2.symm,c6 k hd⟩))
   ·rw[if_neg hd]at hl;have hb:=hs.bnd.heap k own o hl;have hkk:k∉keys hp:=fun hk=>by obtain⟨x,hx⟩:=GP hk;rw[hx]at h1;cases h1
    exact .inr (.inr (.inr ⟨hb.1,hkk,hd,by rw[hbase k hb.1 hkk hd];exact hl,hb.2⟩))
 have hsrc:∀k own o,look (hp++Gi dead s.H) k=some (own,o)→0<o.room (ρn (JM τ k)) →
  ∃own' o',look s'.H (JM τ k)=some (own',o')∧(own=true→own'=true)∧o'.room (ρ' (JM τ k))=o.room (ρn (JM τ k))∧ρn (JM τ k)=ρ' (JM τ k) ∧
   (k∈keys hp∨(k<s.nx∧k∉keys hp∧k∉dead))∧∀r,o.fp r=o'.fp r:=by
  intro k own o hl hr;rcases hcase k own o hl with ⟨_,hm,hn⟩|⟨own',o',h1,h2,h3,h4⟩|⟨_,rfl,_⟩|⟨h1,h2,h3,h4,_⟩
  ·rw[(KH (ρ:=fun k=>ρn (JM τ k)) (w:=w') (own:=true) hn (hin _ hm)).2]at hr;omega
  ·have e:=(hreg _ _ _ h1).2;exact⟨own',o',h1,h2,by rw[e,←GT h3,SO.ren_room],e, .inl h4,WW h3⟩
  ·simp[SO.room]at hr
  ·have e:=(hreg _ _ _ h4).2;rw[hid k h1];exact⟨own,o,h4,id,by rw[e],e, .inr ⟨h1,h2,h3⟩,fun _=>rfl⟩
 have hne:∀k own o k' own' o',look (hp++Gi dead s.H) k=some (own,o)→look (hp++Gi dead s.H) k'=some (own',o')→k≠k' →
  (k∈keys hp∨(k<s.nx∧k∉keys hp∧k∉dead))→(k'∈keys hp∨(k'<s.nx∧k'∉keys hp∧k'∉dead))→JM τ k≠JM τ k':=by
  intro k own o k' own' o' _ _ hkk h1 h2 he;rcases h1 with h1|⟨h1,h1',h1''⟩ <;> rcases h2 with h2|⟨h2,h2',h2''⟩
  ·exact hkk (hinj k h1 k' h2 he)
  ·rw[hid k' h2]at he;rcases c5 k h1 with h3|h3|h3
   ·exact hkk (h3.symm.trans he)
   ·omega
   ·rw[he]at h3;exact h2'' h3
  ·rw[hid k h1]at he;rcases c5 k' h2 with h3|h3|h3
   ·exact hkk (he.trans h3)
   ·omega
   ·rw[←he]at h3;exact h1'' h3
  ·rw[hid k h1,hid k' h2]at he;exact hkk he
 refine⟨fun k=>ρn (JM τ k),hs'.size, ?_, ?_,⟨hs'.heap.frm, ?_, ?_, ?_, ?_⟩,⟨?_, ?_, ?_⟩, ?_,hs'.keep,Nat.le_add_right _ _⟩
 ·rw[hs'.defers,hmk];simp only[KP,GU,Env.marks];refine(Vt fun k hk=>?_).symm;have h1:=hs.bnd.mks k hk;rw[hid k h1,hlow k (by omega)]
 ·intro i;simp only[KP];rcases ad7 (st:=st) (e:=.mask m s.e) (i:=i)with ⟨v,hv,he⟩|he
  ·rw[he];refine SV.ren_rel.1 (at3 hnn (aJ6 hst i v hv) ?_);exact SV.rel_agree (fun k hk=>hlow k (hs'.bnd.env i k hk)) (hs'.env i)
  ·rw[he,UV];by_cases hb:XB m i=true
   ·rw[if_pos hb];trivial
   ·rw[if_neg hb];have:=hs'.keep i (by simp[lcx,af2,hb]);rw[this];exact SV.rel_agree (fun k hk=>hold k (hs.bnd.env i k hk)) (hs.env i)
 ·intro k own o hl;rcases hcase k own o hl with ⟨_,hm,hn⟩|⟨own',o',h1,h2,h3,h4⟩|⟨rfl,rfl,_⟩|⟨h1,h2,h3,h4,h5⟩
  ·exact(KH (ρ:=fun k=>ρn (JM τ k)) hn (hin _ hm)).1
  ·exact(aq1 hnn h3 ((hreg _ _ _ h1).1.less' h2)).of_ren
  ·exact GM _ _ _
  ·refine(hreg _ _ _ h4).1.asg ?_ (fun n hn=>?_)
   ·rw[hid k h1]
   ·rw[hid n (h5 n hn)]
 ·intro k k' o own' o' hkk hl hl' hr hr';obtain⟨own1,o1,h1,h2,h3,h4,h5,h6⟩:=hsrc k true o hl hr;obtain⟨own2,o2,h1',h2',h3',h4',h5',h6'⟩:=hsrc k' own' o' hl' hr';have:=h2 rfl;subst this;simp only[h4,h4',h6,h6'];exact hs'.heap.apart _ _ _ _ _ (hne k _ _ k' _ _ hl hl' hkk h5 h5') h1 h1' (by rw[h3];exact hr) (by rw[h3'];exact hr')
 ·intro k o hl hr;obtain⟨own1,o1,h1,h2,h3,h4,h5,h6⟩:=hsrc k true o hl hr;have:=h2 rfl;subst this;simp only[h4,h6];exact hs'.heap.fresh _ _ h1 (by rw[h3];exact hr)
 ·intro k own o hl hr;obtain⟨own1,o1,h1,h2,h3,h4,h5,h6⟩:=hsrc k own o hl hr;simp only[h4,h6];exact hs'.heap.valid _ _ _ h1 (by rw[h3];exact hr)
 ·intro i k hk;simp only[KP]at hk ⊢;rcases ad7 (st:=st) (e:=.mask m s.e) (i:=i)with ⟨v,hv,he⟩|he
  ·rw[he]at hk;exact c3 k (ak5 hv (SV.uses_nms.1 hk))
  ·rw[he,UV]at hk;by_cases hb:XB m i=true
   ·rw[if_pos hb]at hk;simp[SV.uses,SC.uses,SC.nms,Jy]at hk
   ·rw[if_neg hb]at hk;have:=hs.bnd.env i k hk;omega
 ·intro k hk;simp only[KP,GU,Env.marks]at hk ⊢;have:=hs.bnd.mks k hk;omega
 ·intro k own o hl;simp only[KP]at hl ⊢;rw[Yi]at hl;cases h1:look hp k with
  |some x =>
   rw[h1]at hl;simp at hl;subst hl;have:=VP h1;exact⟨c4 k this.1,fun n hn=>c4 n (this.2 n (SO.uses_nms.1 hn))⟩
  |none =>
   rw[h1]at hl;simp only[Option.none_or]at hl;rw[an3]at hl;by_cases hd:k∈dead
   ·rw[if_pos hd]at hl;simp at hl;obtain⟨_,rfl⟩:=hl;exact⟨by have:=c6 k hd;omega,fun n hn=>by simp[SO.uses,XP]at hn⟩
   ·rw[if_neg hd]at hl;have hb:=hs.bnd.heap k own o hl;exact⟨by omega,fun n hn=>by have:=hb.2 n hn;omega⟩
 ·intro k hk;exact hold k hk
def aY4(m:Nat):Option Nat→Bool
 |none=>true
 |some m0=>Nat.beq (Nat.land m m0) m
theorem bT9{m:Nat}{md:Option Nat}(h:aY4 m md=true){i:Nat}(hi:af2 md i=false):XB m i=false:=by
 cases md with
 |none=>cases hi
 |some m0 =>
  simp only[aY4]at h;have:=Nat.eq_of_beq_eq_true h;simp only[af2]at hi;rw[UT]at *
  have h2:(Nat.land m m0).testBit i=(m.testBit i&&m0.testBit i):=Nat.testBit_and m m0 i;rw[this,hi]at h2
  simpa using h2
def bq1:Je→Nat
 | []=>0
 |_::r=>bq1 r+1
def aO7:Nat→Je→Je
 |0,H=>H
 |_+1,[]=>[]
 |n+1,_::r=>aO7 n r
def ag2(nx:Nat)(ks dead:List Nat):Nat→Je→Bool
 |0,_=>true
 |_+1,[]=>true
 |n+1,(k,_)::r=>bif Nat.ble nx k then ag2 nx ks dead n r else bif Ys k ks then ag2 nx ks dead n r else bif Ys k dead then ag2 nx ks dead n r else false
def cr2(s:St)(nl:Nat)(dead:List Nat)(st:List (Nat×SV))(hp:Je)(s':St):Prop :=
 bif ag2 s.nx (keys hp) dead (bq1 s'.H-bq1 s.H) s'.H&&av7 s'.e.marks s.e.marks then aO7 (bq1 s'.H-bq1 s.H) s'.H=s.H∧bm2 s nl dead st hp s' else False
theorem aB9{nx:Nat}{ks dead:List Nat}:∀ {n:Nat} {H H0:Je},ag2 nx ks dead n H=true→aO7 n H=H0→∀k,k<nx→k∉ks→k∉dead→look H k=look H0 k
 |0,H,H0,_,hd,_,_,_,_=>by simp only[aO7]at hd;rw[hd]
 |n+1,[],H0,_,hd,_,_,_,_=>by simp only[aO7]at hd;rw[←hd]
 |n+1,(j,x)::r,H0,hf,hd,k,h1,h2,h3=>by
  simp only[ag2]at hf;simp only[aO7]at hd;have hjk:k≠j∧ag2 nx ks dead n r=true:=by
   cases q1:Nat.ble nx j with
   |true=>simp[q1]at hf;exact⟨by have:=Nat.le_of_ble_eq_true q1;omega,hf⟩
   |false =>
    simp only[q1,cond_false]at hf;cases q2:Ys j ks with
    |true=>simp[q2]at hf;exact⟨by rintro rfl;exact h2 (JY.1 q2),hf⟩
    |false =>
     simp only[q2,cond_false]at hf;cases q3:Ys j dead with
     |true=>simp[q3]at hf;exact⟨by rintro rfl;exact h3 (JY.1 q3),hf⟩
     |false=>simp[q3]at hf
  rw[Jh,if_neg hjk.1];exact aB9 hjk.2 hd k h1 h2 h3
def cr3(cx:Cx)(B:Tabs)(b:Code)(Q:Exit→St→Prop)(s:St){G:Type}(nl:Nat)(dead:List Nat)(st:G→List (Nat×SV))(hp:G→Je)(I:G→Prop)(μ:G→Nat):Prop :=
 XY (al7 b 0) fun m=>bif aY4 m cx.md then
  (∃g,I g∧bm2 s nl dead (st g) (hp g) s) ∧
  (∀g,I g→∀ρ t0,(∀k,k<cx.n0→ρ k=cx.ρ0 k)→aO5 s m nl dead (st g) (hp g) fun s1=>vc (lcx cx s.nx m ρ t0) B b (fun ex s'=>match ex with
   | .normal=>∃g',I g'∧μ g'<μ g∧cr2 s nl dead (st g') (hp g') s'
   |ex=>Q ex s') s1)
 else False
theorem Sat.out{cx:Cx}{ρ ρ':Jn}{s s':St}{a a':Act}{w w':World}{m:Nat}(hs:Sat cx ρ s a w)(hm:aY4 m cx.md=true)(h:Sat (lcx cx s.nx m ρ a.tmps) ρ' s' a' w'):Sat cx ρ' s' a' w' :=
 {
  size:=h.size,defers:=h.defers,env:=h.env,heap:=h.heap,bnd:=h.bnd
  base:=fun k hk=>(h.base k (Nat.lt_of_lt_of_le hk hs.n0)).trans (hs.base k hk)
  keep:=fun i hi=>(h.keep i (by have:=bT9 hm hi;simpa [lcx,af2] using this)).trans (hs.keep i hi)
  n0:=Nat.le_trans hs.n0 h.n0 }
theorem Jz{cx:Cx}{B:Tabs}(hB:TabsOK cx.P B){b:Code}{Q:Exit→St→Prop}{s:St}{G:Type}(nl:Nat)(dead:List Nat)(st:G→List (Nat×SV))(hp:G→Je)(I:G→Prop)(μ:G→Nat)
 (h:cr3 cx B b Q s nl dead st hp I μ):Sound cx (.loop b) Q s:=by
 refine⟨fun ρ a w hs QQ hQ=>?_⟩;simp only[cr3,WQ]at h;generalize al7 b 0=m at h;obtain⟨hm,⟨g0,hg0,h0⟩,hstep⟩:=YS h;simp only[aY1]at hstep;have hs1:Sat (lcx cx s.nx m ρ a.tmps) ρ s a w :=
  { size:=hs.size,defers:=hs.defers,env:=hs.env,heap:=hs.heap,bnd:=hs.bnd,base:=fun _ _=>rfl,keep:=fun _ _=>rfl,n0:=Nat.le_refl _ }
 obtain⟨ρ1,h1⟩:=be7 hs hs1 h0 (fun _ _ _ _=>rfl) rfl;refine wpIn_loop_rounds (μ g0+1) ?_;have key:∀n g ρ' a' w',μ g<n→I g→Sat (lcx cx s.nx m ρ a.tmps) ρ' (KP s m nl dead (st g) (hp g)) a' w'→Code.roundsIn (WF cx.rd) 0 cx.P b QQ n a' w':=by
  intro n
  induction n with
  |zero=>intro g ρ' a' w' h;omega
  |succ n ih =>
   intro g ρ' a1 w1 hlt hg hsat;refine(Vm (cx:=lcx cx s.nx m ρ a.tmps) hB b _ _ (hstep g hg ρ a.tmps hs.base)).h ρ' a1 w1 hsat _ ?_;intro ex s' ρ2 a2 w2 hq hs2;cases ex with
   |normal =>
    obtain⟨g',hg',hlt',hback⟩:=hq;obtain⟨hf,hd,hK⟩:=YS hback;simp only[Bool.and_eq_true]at hf;obtain⟨ρ3,h3⟩:=be7 hs hs2 hK (aB9 hf.1 hd) (ao3 hf.2);exact ih g' ρ3 a2 w2 (by omega) hg' h3
   |_=>exact hQ _ _ _ _ _ hq (hs.out hm hs2)
 exact key _ g0 ρ1 a w (Nat.lt_succ_self _) hg0 h1
end Sx
end Go
namespace Go
namespace Sx
def cC2(B:Tabs)(A:Arr)(t:TypeId)(x y:SV)(nx:Nat)(K:Eff→Prop):Prop :=
 match Ji B.T t,x,y with
 |some ⟨.slice el,_,_,_⟩, .c (.v (.int _ n)), .c (.v (.int _ m))=>(match Ji B.T el with
  |some ti=>bif Nat.beq ti.size 1&&Nat.beq A.sz 1 then
   ∃N:Nat,(A.xs.length=N∧n=(N:Int)∧m=(N:Int)∧N*(ti.bytes+1)≤140737488355328∧∀x∈A.xs,ad2 [] (ti.zero.map cC) (A.enc x)) ∧
   K ⟨.c (.s nx 0 N 1),[],[(nx,true, .arr A)],[nx]⟩else False
  |none=>False)
 |_,_,_=>False
theorem aJ8{ρ:Jn}{l l':List SC}{vs:List Value}(h:ad2 [] l l')(hr:Yb ρ l vs):Yb ρ l' vs:=aq0 (by intro k hk;cases hk) h hr
theorem aU4{cx:Cx}{B:Tabs}(hB:TabsOK cx.P B){o:Oper}{e:Env}{H:Je}{nx:Nat}{K:Eff→Prop}{x y:Operand}{t:TypeId}(A:Arr)
 (hA:A.nm=[]) (ho:o.op=.makeSlice t x y) (h:cC2 B A t (ev e x) (ev e y) nx K) (hfx:A.fx=none:=by rfl) (hty:A.ty=none:=by rfl):∃F,CallOK cx o e H nx F∧K F:=by
 have hx:x∈o.op.operands.toList:=by simp[ho,Op.operands]
 have hy:y∈o.op.operands.toList:=by simp[ho,Op.operands]
 unfold cC2 at h;split at h
 ·rename_i el s0 b0 z0 kn n km m ht hex hey
  split at h
  ·rename_i ti hti
   obtain⟨hb,N,⟨rfl,hn,hm,h1,h2⟩,hK⟩:=YS h;simp only[Bool.and_eq_true]at hb;have hs1:=Nat.eq_of_beq_eq_true hb.1;have hs2:=Nat.eq_of_beq_eq_true hb.2;refine⟨_,⟨Ws (by simp[ho]) af6 ?_ ?_,fun j hj=>by simp at hj;subst hj;simp⟩,hK⟩
   ·intro n' _ j hj;simp only[SO.uses,hA]at hj;cases hj
   ·intro ρ a w hr _;obtain⟨i,z,hi,hz,hisz,hiby,hzz⟩:=Gg hB hti;have hx1:=Jg hx hr;rw[hex]at hx1;simp only[SV.rel,SC.rel]at hx1;have hy1:=Jg hy hr;rw[hey]at hy1;simp only[SV.rel,SC.rel]at hy1;have hbd:A.xs.length*ti.bytes≤140737488355328:=Nat.le_trans (Nat.mul_le_mul_left _ (Nat.le_succ _)) h1;have hln:A.xs.length*1≤140737488355328:=Nat.le_trans (Nat.mul_le_mul_left _ (by omega)) h1
    have hrun:=run_make (P:=cx.P) w t el i z (QX hB ht) hi hz kn km n m (by omega) (by omega) (by
     rw[hm,hiby];have h9:((ti.bytes*A.xs.length:Nat):Int)≤281474976710656:=by rw[Nat.mul_comm];omega
     rwa[Int.natCast_mul]at h9) (by omega)
    have hzsz:z.cells.size=1:=by
     have:=congrArg List.length hzz;rw[hB.zsz el ti hti,hs1]at this
     simpa using this
    refine⟨.slice (some ⟨w.heap.size,0,none⟩) A.xs.length A.xs.length, .cells (madeCells z.cells (A.xs.length*1)) el (0,0),A.xs.length, ?_, ?_,VN (Nat.le_refl _) (by rw[size_madeCells,hs2]) ?_ (fun n h=>by rw[hfx]at h;cases h) (fun n h=>by rw[hty]at h;cases h)⟩
    ·simp only[execOp,ho,hx1,hy1,Sem.run_bind,hrun,Result.andThen_ok,Sem.run_pure];rw[hn,hm,hisz,hs1];rfl
    ·simp only[SV.rel,SC.rel,Jq,Nat.sub_zero,Nat.zero_mul,Nat.zero_add,hn,hm,Int.toNat_natCast];exact⟨_,rfl,Nat.le_refl _,fun _=>by simp[Jr,Jq]⟩
    ·intro i' xx hxx j d hd;have hxm:=List.mem_of_getElem? hxx;have hlt:i'<A.xs.length:=(List.getElem?_eq_some_iff.1 hxx).1;have hj:j<1:=by have h8:=(List.getElem?_eq_some_iff.1 hd).1;have h9:=A.hl xx;omega
     have hj0:j=0:=by omega
     subst hj0;have hrl:Yb (Ya ρ nx ⟨w.heap.size,0,A.xs.length,[]⟩) (A.enc xx) z.cells.toList:=aJ8 (h2 xx hxm) (by rw[hzz];exact KG _ _);obtain⟨v,hv,hvr⟩:=GO hrl hd;refine⟨v, ?_,hvr⟩;rw[hs2];have hv':z.cells[0]? = some v:=by simpa using hv
     have hv2:z.cells[0]! = v:=by
      rw[getElem!_def,hv']
     obtain⟨h0,hv3⟩:=Array.getElem?_eq_some_iff.1 hv';simp[madeCells,hlt,hzsz,Nat.mod_one,hv3]
  ·exact h.elim
 ·exact h.elim
def aY5(sz:Nat):List SC→List (Nat×SV)→Option (List SC)
 |cells,[]=>some cells
 |cells,(i,v)::rest=>match cellsOf v with
  |some l=>bif Nat.beq l.length sz&&Nat.ble (i*sz+l.length) cells.length then aY5 sz (XQ cells (i*sz) l) rest else none
  |none=>none
def GV(A:Arr):List A.α→List SC
 | []=>[]
 |x::r=>A.enc x++GV A r
def aY6:Nat→List SC
 |0=>[]
 |n+1=>.junk::aY6 n
def bsK(B:Tabs)(A:Arr)(e:Env)(t:TypeId)(len:Nat)(parts:List (Nat×Operand))(nx:Nat)(K:Eff→Prop):Prop :=
 match Ji B.T t with
 |some ⟨.slice el,_,_,_⟩=>(match Ji B.T el with
  |some ti=>(match aY5 ti.size (aY6 (len*ti.size)) (KS e parts)with
   |some l=>bif Nat.beq ti.size A.sz&&(Nat.ble 1 ti.size&&Nat.ble (len*ti.size) 16777216)then
    (A.xs.length=len∧ad2 [] l (GV A A.xs))∧K ⟨.c (.s nx 0 len ti.size),[],[(nx,true, .arr A)],[nx]⟩else False
   |none=>False)
  |none=>False)
 |_=>False
theorem aC0{A:Arr}:∀ {xs:List A.α} {i j:Nat} {x:A.α} {c:SC},xs[i]? = some x→(A.enc x)[j]? = some c→(GV A xs)[i*A.sz+j]? = some c
 | [],i,_,_,_,h,_=>by simp at h
 |y::r,0,j,x,c,h,hc=>by
  simp at h;subst h;simp only[GV,Nat.zero_mul,Nat.zero_add];have hj:j<(A.enc y).length:=(List.getElem?_eq_some_iff.1 hc).1;rw[List.getElem?_append_left hj];exact hc
 |y::r,i+1,j,x,c,h,hc=>by
  simp only[GV];have hl:=A.hl y;have:(i+1)*A.sz+j=(A.enc y).length+(i*A.sz+j):=by rw[hl,Nat.add_mul];omega
  rw[this,List.getElem?_append_right (by omega),Nat.add_sub_cancel_left];exact aC0 (by simpa using h) hc
theorem aJ9{ρ:Jn}:∀ {vs:List Value},Yb ρ (aY6 vs.length) vs
 | []=>trivial
 |_::_=>⟨trivial,aJ9⟩
theorem aU5{ρ:Jn}{e:Env}{a:Act}{sz:Nat} :
 ∀(parts:List (Nat×Operand)) (cells:List SC) (cs:Array Value) (l:List SC),Yb ρ cells cs.toList→(∀p∈parts,(ev e p.2).rel ρ (a.eval p.2)) →
  aY5 sz cells (KS e parts)=some l→∃out,Instr.fill (fun i=>some (i*sz,sz)) cs (parts.map fun p=>(p.1,a.eval p.2))=some out∧Yb ρ l out.toList
 | [],cells,cs,l,hc,_,h=>by simp[KS,aY5]at h;subst h;exact⟨cs,by simp[Instr.fill],hc⟩
 |(i,x)::parts,cells,cs,l,hc,hp,h=>by
  simp only[KS,aY5]at h;split at h
  ·rename_i lx hlx
   cases hb:Nat.beq lx.length sz&&Nat.ble (i*sz+lx.length) cells.length with
   |false=>simp[hb]at h
   |true =>
    simp only[hb,cond_true]at h;simp only[Bool.and_eq_true]at hb;have hlen:lx.length=sz:=Nat.eq_of_beq_eq_true hb.1;have hle:i*sz+lx.length≤cells.length:=Nat.le_of_ble_eq_true hb.2;have hx:=(ai3 hlx (hp (i,x) (List.mem_cons_self ..))).1;have hl1:=Xu hx;have hl2:=Xu hc;have hsz:(a.eval x).cells.size=sz:=by simp at hl1;omega
    have hfit:i*sz+(a.eval x).cells.size≤cs.size:=by simp at hl1 hl2;omega
    have hf:=aT3 (a.eval x).cells.toList 0 cs (i*sz) (by simpa using hfit);have hrel:Yb ρ (XQ cells (i*sz) lx) (((a.eval x).cells.toList.zipIdx 0).foldl (fun cs (p:Value×Nat)=>cs.setIfInBounds (i*sz+p.2) p.1) cs).toList:=by
     rw[hf];simpa using aQ9 (o:=i*sz) hc hx
    obtain⟨out,ho,hr⟩:=aU5 parts (XQ cells (i*sz) lx) _ l hrel (fun p hpm=>hp p (List.mem_cons_of_mem _ hpm)) h;refine⟨out, ?_,hr⟩;simp only[List.map_cons,Instr.fill];rw[if_neg (by simp[hsz];omega)];rw[←ho];congr 1;rw[←Array.foldl_toList,Array.toList_zipIdx]
  ·cases h
theorem Yf{cx:Cx}{B:Tabs}(hB:TabsOK cx.P B){o:Oper}{e:Env}{H:Je}{nx:Nat}{K:Eff→Prop}{t:TypeId}{len:Nat}{parts:Array (Nat×Operand)}(A:Arr)
 (hA:A.nm=[]) (ho:o.op=.buildSlice t len parts) (h:bsK B A e t len parts.toList nx K) (hfx:A.fx=none:=by rfl) (hty:∀el s b z t',Ji B.T t=some ⟨.slice el,s,b,z⟩→A.ty=some t'→el=t':=by intro _ _ _ _ _ _ h;cases h):∃F,CallOK cx o e H nx F∧K F:=by
 have hmem:∀p∈parts.toList,p.2∈o.op.operands.toList:=fun p hp=>by
  simp[ho,Op.operands];exact⟨p.1,by simpa using hp⟩
 unfold bsK at h;split at h
 ·rename_i el s0 b0 z0 ht
  split at h
  ·rename_i ti hti
   split at h
   ·rename_i l hl
    obtain⟨hb,⟨hlen,hent⟩,hK⟩:=YS h;simp only[Bool.and_eq_true]at hb;have hb1:=Nat.eq_of_beq_eq_true hb.1;have hb2:=Nat.le_of_ble_eq_true hb.2.1;have hb3:=Nat.le_of_ble_eq_true hb.2.2;refine⟨_,⟨Ws (by simp[ho]) af6 ?_ ?_,fun j hj=>by simp at hj;subst hj;simp⟩,hK⟩
    ·intro n' _ j hj;simp only[SO.uses,hA]at hj;cases hj
    ·intro ρ a w hr hfr;obtain⟨i,z,hi,hz,hisz,hiby,hzz⟩:=Gg hB hti;have hr':∀p∈parts.toList,(ev e p.2).rel (Ya ρ nx ⟨w.heap.size,0,len,[]⟩) (a.eval p.2):=by
      intro p hp;refine SV.rel_upd' (Jg (hmem p hp) hr) ?_;have hm:=hmem p hp;cases hx:p.2 with
      |tmp t=>rw[hx]at hm;exact hfr t hm
      |const v=>exact ap0 v _
      |global g=>simp[ev,SV.uses,SC.uses,SC.nms,Jy]
      |func g=>simp[ev,SV.uses,SC.uses,SC.nms,Jy]
     have hinit:((Array.range (len*i.size)).map (z.cells[· % z.cells.size]!)).size=len*ti.size:=by simp[hisz]
     obtain⟨out,hout,hrel⟩:=aU5 (ρ:=Ya ρ nx ⟨w.heap.size,0,len,[]⟩) (a:=a) (e:=e) (sz:=ti.size) parts.toList (aY6 (len*ti.size)) ((Array.range (len*i.size)).map (z.cells[· % z.cells.size]!)) l
      (by have:=@aJ9 (Ya ρ nx ⟨w.heap.size,0,len,[]⟩) ((Array.range (len*i.size)).map (z.cells[· % z.cells.size]!)).toList;rwa[Array.length_toList,hinit]at this) hr' hl
     have hlo:=Xu hrel;have hrelA:=aJ8 hent hrel;have hlA:=Xu hrelA;have hencl:∀xs:List A.α,(GV A xs).length=xs.length*A.sz:=by
      intro xs;induction xs with
      |nil=>simp[GV]
      |cons x r ih=>simp only[GV,List.length_append,ih,A.hl,List.length_cons,Nat.add_mul];omega
     refine⟨.slice (some ⟨w.heap.size,0,none⟩) len len, .cells out el (0,0),len, ?_, ?_,VN (by omega) ?_ ?_ (fun n h=>by rw[hfx]at h;cases h) (fun t' h=>hty _ _ _ _ t' ht h)⟩
     ·have hsz:(sizeOf el).run cx.P w=.ok i.size w:=by simp[sizeOf,typeInfo,hi]
      have hle:¬(len*i.size>2 ^ 24):=by rw[hisz];omega
      have h2:(Array.map (fun x=>(x.fst,a.eval x.snd)) parts).toList=parts.toList.map fun p=>(p.1,a.eval p.2):=by simp
      simp only[execOp,ho,Instr.buildSlice,Sem.run_bind,run_underlying (QX hB ht),Result.andThen_ok,hsz,if_neg hle,h2];by_cases h0:len*i.size=0
      ·have hl0:len=0:=by
        rcases Nat.mul_eq_zero.1 h0 with h|h
        ·exact h
        ·omega
       subst hl0;simp only[Nat.zero_mul,if_true,Sem.run_pure,Result.andThen_ok];simp only[Nat.zero_mul]at hout;rw[←hisz]at hout;have e0:(Array.map (fun x=>(#[]:Array Value)[x%(#[]:Array Value).size]!) (Array.range 0))=(Array.map (fun x=>z.cells[x%z.cells.size]!) (Array.range 0)):=by simp
       simp only[e0,hout,Sem.run_bind,newRow,newObj,Sem.run,Result.andThen_ok,Sem.run_pure];rfl
      ·have hzr:(zeroValue el).run cx.P w=.ok z w:=by simp[zeroValue,typeInfo,hi,hz]
       rw[←hisz]at hout;simp only[if_neg h0,Sem.run_bind,hzr,Result.andThen_ok,Sem.run_pure,hout,newRow,newObj,Sem.run];rfl
     ·simp only[SV.rel,SC.rel,Jq,Nat.sub_zero,Nat.zero_mul,Nat.zero_add];exact⟨_,rfl,Nat.le_refl _,fun _=>by simp[Jr,Jq]⟩
     ·rw[hencl]at hlA;rw[←hlen];simpa using hlA.symm
     ·intro i' xx hxx j d hd;obtain⟨v,hv,hvr⟩:=GO hrelA (aC0 hxx hd);exact⟨v,by simpa using hv,hvr⟩
   ·exact h.elim
  ·exact h.elim
 ·exact h.elim
end Sx
end Go
namespace Go
namespace Sx
def Kh(fn:FuncId)(T0:Array Value)(ps:Array Tmp)(asg body:Code)(d:Nat):SO :=
 .raw (fun x=>x=.loop { state:=.ready,pending:=none,fn:=fn,tmps:=T0,params:=ps,assign:=asg,body:=body,defers:=d })
def cH5(fn:FuncId)(T0:Array Value)(ps:Array Tmp)(asg body:Code)(d:Nat):SO :=
 .raw (fun x=>x=.loop { state:=.busy,pending:=none,fn:=fn,tmps:=T0,params:=ps,assign:=asg,body:=body,defers:=d })
def cC3:SO:=.raw (fun x=>x=.deferred (some []))
theorem Sat.setObj{cx:Cx}{ρ:Jn}{s:St}{a:Act}{w:World}(h:Sat cx ρ s a w){k:Nat}{Φ Φ':Obj→Prop}(hl:look s.H k=some (true, .raw Φ))(o:Obj)(ho:Φ' o) :
 Sat cx ρ { s with H:=(k,true, .raw Φ')::s.H } a (w.putObj (ρ k).blk o):=by
 have hr:0<(SO.raw Φ).room (ρ k):=by simp[SO.room]
 have hv:=h.heap.valid k true _ hl hr _ Xf;have hne:∀b,b≠(ρ k).blk→(w.putObj (ρ k).blk o).heap[b]? = w.heap[b]?:=fun b hb=>World.putObj_heap_other hb;have hd:∀j own' p,look s.H j=some (own',p)→j≠k→0<p.room (ρ j)→∀b∈p.fp (ρ j),b≠(ρ k).blk:=fun j own' p hj hjk hpr b hb he =>
  h.heap.apart k j _ own' p (Ne.symm hjk) hl hj hr hpr (ρ k).blk Xf (he▸hb)
 have hk:=(h.bnd.heap k true _ hl).1
 exact {
  size := h.size, defers := h.defers, env := h.env
  heap:=h.heap.cons (fun j own q _ _=>⟨rfl,fun _ _=>rfl⟩) (by rw[World.putObj_size];exact Nat.le_refl _)
   ⟨by rw[World.putObj_size];exact h.heap.frm.size,fun b hb hM=>by
    rw[hne b (by
     rintro rfl
     rcases h.heap.fresh k _ hl hr _ Xf with h1|h1
     ·omega
     ·exact hM h1)]
    exact h.heap.frm.same b hb hM,h.heap.frm.io,h.heap.frm.quiet⟩
   (fun b _ hb=>hne b hb) rfl (fun j own' q hj hjk hq _=>hd j own' q hj hjk hq) (fun j own' q hj hjk hq b hb=>hne _ (hd j own' q hj hjk hq b hb))
   ⟨trivial,(fun i j c hc=>by simp[SO.cell?]at hc),(fun _ hx=>absurd rfl (hx Φ')),(fun _=>(h.heap.reg k true _ hl).off0 rfl),(fun Ψ hΨ=>by
    cases hΨ;exact⟨o,World.putObj_heap_same hv,ho⟩),(fun _ hb=>by cases hb),(fun _ hb=>by cases hb),(fun _ hb=>by cases hb)⟩
   (fun _ _=>h.heap.fresh k _ hl hr _ Xf) (fun _=>by rw[World.putObj_size];exact hv)
  bnd:=h.bnd.cons hk (by intro j hj;simp[SO.uses]at hj),base:=h.base,keep:=h.keep,n0:=h.n0 }
theorem Sat.newObj{cx:Cx}{ρ:Jn}{s:St}{a:Act}{w:World}(h:Sat cx ρ s a w){Φ:Obj→Prop}(o:Obj)(ho:Φ o) :
 Sat cx (Ya ρ s.nx ⟨w.heap.size,0,0,[]⟩) { s with H:=(s.nx,true, .raw Φ)::s.H,nx:=s.nx+1 } a (push w o) :=
 h.new (cap:=0) (o:=.raw Φ) (ob:=o) (by intro j hj;simp[SO.uses]at hj)
  ⟨trivial,(fun i j c hc=>by simp[SO.cell?]at hc),(fun _ hx=>absurd rfl (hx Φ)),(fun _=>by rw[Jq]),(fun Ψ hΨ=>by
   cases hΨ;rw[Jq];exact⟨o,KF w o,ho⟩),(fun _ hb=>by cases hb),(fun _ hb=>by cases hb),(fun _ hb=>by cases hb)⟩
structure RoundT (P:Program) (nt:Nat) (stO:List (Nat×SV)) (ps:Array Tmp) (asg body:Code) (args:List SV) (pre:Je) (np:Nat) (post:Je):Prop where
 h:∀(fn:FuncId) (T0:Array Value) (d:Nat) (ρ:Jn) (w:World) (vals:Array Value),T0.size=nt→(∀i sv,(i,sv)∈stO→sv.rel ρ (T0.getD i undef))→YR ρ args vals.toList→vals.size=ps.size →
  SatH w (Xi ρ ((0,true,Kh fn T0 ps asg body d)::pre)) ρ ((0,true,Kh fn T0 ps asg body d)::pre) w →
  RoundIn Fence.wide 0 P (ρ 0).blk fn ((ps.zip vals).foldl (fun tmps (t,a)=>tmps.setIfInBounds t a) T0) asg body w
   fun e w'=>∃ρ',(∀k,k<np→ρ' k=ρ k)∧e=.returned (.bool true)∧SatH w (Xi ρ ((0,true,Kh fn T0 ps asg body d)::pre)) ρ' ((0,true,Kh fn T0 ps asg body d)::post) w'
def Gj:List Nat→List SV→Env→Env
 |p::ps,a::avs,e=>Gj ps avs (.put p a e)
 |_,_,e=>e
def aC1:List (Nat×SV)→Env
 | []=>.nil
 |(i,v)::r=>.put i v (aC1 r)
def bq2(n:Nat):List Nat→Bool
 | []=>true
 |x::r=>bif Nat.blt x n then bq2 n r else false
def bq3(cx:Cx)(B:Tabs)(asg body:Code)(np:Nat)(R R':SO)(post:Je)(s:St):Prop :=
 vc cx B asg (fun ex s1=>match ex with
  | .normal=>(match s1,look s1.H 0 with
   |⟨e,H,nx⟩,some (true,o)=>o=R∧vc cx B body (fun ex s2=>match ex with
    | .normal=>(match s2,look s2.H 0 with
     |⟨_,H,nx⟩,some (true,o)=>o=R'∧aB6 (.c (.b true)) ((0,true,R)::H) nx np (.c (.b true)) ((0,true,R)::post)
     |_,_=>False)
    |_=>False) ⟨e,(0,true,R')::H,nx⟩
   |_,_=>False)
  |_=>False) s
theorem av9:∀ {ps:List Nat} {avs:List SV} {e:Env},(Gj ps avs e).marks=e.marks
 | [],_,_=>by simp[Gj]
 |_::_,[],_=>by simp[Gj]
 |p::ps,a::avs,e=>by simp only[Gj];rw[av9];rfl
theorem aC2:∀ {l:List (Nat×SV)},(aC1 l).marks=[]
 | []=>rfl
 |_::l=>aC2 (l:=l)
theorem aU6:∀ {l:List (Nat×SV)} {i:Nat},(∃v,(i,v)∈l∧(aC1 l).get i=v)∨(aC1 l).get i=.c .junk
 | [],_=>.inr rfl
 |(j,v)::r,i=>by
  simp only[aC1];rw[XA];by_cases h:i=j
  ·rw[if_pos h];exact .inl ⟨v,by simp[h],rfl⟩
  ·rw[if_neg h];rcases aU6 (l:=r) (i:=i)with ⟨u,hu,he⟩|he
   ·exact .inl ⟨u,List.mem_cons_of_mem _ hu,he⟩
   ·exact .inr he
theorem bh0{ρ:Jn}{nt:Nat}:∀ {ps:List Nat} {avs:List SV} {vs:List Value} {e:Env} {T:Array Value},T.size=nt→(∀p∈ps,p<nt)→ps.length=vs.length→YR ρ avs vs→(∀i,(e.get i).rel ρ (T.getD i undef)) →
    ((ps.zip vs).foldl (fun tmps (t,a)=>tmps.setIfInBounds t a) T).size=nt ∧
      ∀i,((Gj ps avs e).get i).rel ρ (((ps.zip vs).foldl (fun tmps (t,a)=>tmps.setIfInBounds t a) T).getD i undef)
  | [],avs,vs,e,T,hs,_,_,_,h=>by
    simp only[Gj,List.zip_nil_left,List.foldl_nil];exact⟨hs,h⟩
  |p::ps,[],[],_,_,_,_,hl,_,_=>by simp at hl
  |p::ps,[],_::_,_,_,_,_,_,hr,_=>hr.elim
  |p::ps,_::_,[],_,_,_,_,_,hr,_=>hr.elim
  |p::ps,a::avs,v::vs,e,T,hs,hp,hl,hr,h=>by
    simp only[Gj,List.zip_cons_cons,List.foldl_cons];have hp0:=hp p (by simp);refine bh0 (by simp[hs]) (fun q hq=>hp q (by simp[hq])) (by simpa using hl) hr.2 ?_;intro i;rw[XA];by_cases hi:i=p
    · subst hi;rw[if_pos rfl];have:(T.setIfInBounds i v).getD i undef=v:=by simp[Array.getD_eq_getD_getElem?,hs,hp0]
      rw[this];exact hr.1
    · rw[if_neg hi];have:(T.setIfInBounds p v).getD i undef=T.getD i undef:=by
        have:¬p=i:=fun hh=>hi hh.symm;simp[Array.getD_eq_getD_getElem?,Array.getElem?_setIfInBounds,this]
      rw[this];exact h i
theorem aY7:∀ {ps:List Nat} {avs:List SV} {e:Env} {i k:Nat},((Gj ps avs e).get i).uses [k]=true→(∃a∈avs,a.uses [k]=true)∨(e.get i).uses [k]=true
 | [],_,_,_,_,h=>.inr (by simpa [Gj] using h)
 |_::_,[],_,_,_,h=>.inr (by simpa [Gj] using h)
 |p::ps,a::avs,e,i,k,h=>by
  simp only[Gj]at h;rcases aY7 h with ⟨b,hb,hu⟩|hu
  ·exact .inl ⟨b,List.mem_cons_of_mem _ hb,hu⟩
  ·rw[XA]at hu;by_cases hi:i=p
   ·rw[if_pos hi]at hu;exact .inl ⟨a,by simp,hu⟩
   ·rw[if_neg hi]at hu;exact .inr hu
theorem cg5{P:Program}{B:Tabs}(hB:TabsOK P B){nt:Nat}{stO:List (Nat×SV)}{ps:Array Tmp}{asg body:Code}{args:List SV}{pre:Je}{np:Nat}{post:Je}
 (hn:(XR np (av5 args)&&(XR np (Vl pre)&&(XR np (an2 stO)&&(bq2 nt ps.toList&&Nat.ble 1 np))))=true)
 (h:∀(Φ Φ':Obj→Prop) (ρ:Jn) (w:World),bq3 ⟨P,w,Xi ρ ((0,true, .raw Φ)::pre),nt,some (ρ 0).blk,ρ,np,none,#[],[]⟩ B asg body np (.raw Φ) (.raw Φ') post
  ⟨Gj ps.toList args (aC1 stO),(0,true, .raw Φ)::pre,np⟩) :
 RoundT P nt stO ps asg body args pre np post where
 h fn T0 d ρ w vals hT hO hv hsz hH:=by
  simp only[Bool.and_eq_true]at hn;obtain⟨n1,n2,n3,n4,n5⟩:=hn;have n1:=Xj.1 n1;have n2:=Xj.1 n2;have n3:=Xj.1 n3;have n5:=Nat.le_of_ble_eq_true n5;have n4:∀p∈ps.toList,p<nt:=by
   clear h hsz;revert n4;generalize ps.toList=l;intro n4
   induction l with
   |nil=>simp
   |cons x r ih =>
    simp only[bq2]at n4;cases hb:Nat.blt x nt with
    |false=>simp[hb]at n4
    |true =>
     simp[hb]at n4;intro p hp;rcases List.mem_cons.1 hp with rfl|hp
     ·exact Eq.mp Nat.blt_eq hb
     ·exact ih n4 p hp
  have hK:=h (fun x=>x=.loop { state:=.ready,pending:=none,fn:=fn,tmps:=T0,params:=ps,assign:=asg,body:=body,defers:=d }) (fun x=>x=.loop { state:=.busy,pending:=none,fn:=fn,tmps:=T0,params:=ps,assign:=asg,body:=body,defers:=d }) ρ w;have hK:bq3 ⟨P,w,Xi ρ ((0,true,Kh fn T0 ps asg body d)::pre),nt,some (ρ 0).blk,ρ,np,none,#[],[]⟩ B asg body np (Kh fn T0 ps asg body d) (cH5 fn T0 ps asg body d) post ⟨Gj ps.toList args (aC1 stO),(0,true,Kh fn T0 ps asg body d)::pre,np⟩:=hK;generalize hcx:(⟨P,w,Xi ρ ((0,true,Kh fn T0 ps asg body d)::pre),nt,some (ρ 0).blk,ρ,np,none,#[],[]⟩:Cx)=cx at hK;have e1:cx.P=P:=by rw[←hcx]
  have e2:cx.rd=some (ρ 0).blk:=by rw[←hcx]
  have hB':TabsOK cx.P B:=by rw[e1];exact hB
  have hput:=bh0 (ρ:=ρ) (nt:=nt) (ps:=ps.toList) (avs:=args) (vs:=vals.toList) (e:=aC1 stO) (T:=T0) hT n4 (by simp[hsz]) hv (fun i=>by
   rcases aU6 (l:=stO) (i:=i)with ⟨v,hm,he⟩|he
   ·rw[he];exact hO i v hm
   ·rw[he];trivial)
  have hfold:(ps.zip vals).foldl (fun tmps (t,a)=>tmps.setIfInBounds t a) T0=(ps.toList.zip vals.toList).foldl (fun tmps (t,a)=>tmps.setIfInBounds t a) T0:=by
   rw[←Array.foldl_toList,Array.toList_zip]
  rw[hfold];have hs:Sat cx ρ ⟨Gj ps.toList args (aC1 stO),(0,true,Kh fn T0 ps asg body d)::pre,np⟩ { tmps:=(ps.toList.zip vals.toList).foldl (fun tmps (t,a)=>tmps.setIfInBounds t a) T0,defers:=[] } w:=by
   rw[←hcx];refine⟨hput.1,by simp[av9,aC2],hput.2,hH,⟨?_,by simp only[av9,aC2];simp, ?_⟩,fun _ _=>rfl,(fun _ h=>by cases h),Nat.le_refl _⟩
   ·intro i k hk;rcases aY7 hk with ⟨a,ha,hu⟩|hu
    ·exact n1 k (bp8 ha (SV.uses_nms.1 hu))
    ·rcases aU6 (l:=stO) (i:=i)with ⟨v,hm,he⟩|he
     ·rw[he]at hu;exact n3 k (ak5 hm (SV.uses_nms.1 hu))
     ·rw[he]at hu;simp[SV.uses,SC.uses,SC.nms,Jy]at hu
   ·intro k own o hl;rw[Jh]at hl;by_cases hk:k=0
    ·rw[if_pos hk]at hl;simp at hl;obtain⟨_,rfl⟩:=hl;subst hk;exact⟨n5,fun j hj=>by simp[Kh,SO.uses]at hj⟩
    ·rw[if_neg hk]at hl;have:=VP hl;exact⟨n2 k this.1,fun j hj=>n2 j (this.2 j (SO.uses_nms.1 hj))⟩
  refine roundIn_of_wpIn trivial ?_;have hfr:Fence.wide.inRound (ρ 0).blk=WF cx.rd:=by rw[e2];rfl
  rw[hfr,←e1];unfold bq3 at hK;refine(Vm hB' asg _ _ hK).h ρ _ w hs _ ?_;intro ex s1 ρ1 a1 w1 hq hs1;cases ex with
  |normal =>
   obtain⟨es,Hs,nxs⟩:=s1;simp only at hq;split at hq
   ·rename_i e0 H0 nx0 o heq hl
    simp only[St.mk.injEq]at heq;obtain⟨rfl,rfl,rfl⟩:=heq;obtain⟨rfl,hbody⟩:=hq;have hb0:ρ1 0=ρ 0:=by have:=hs1.base 0 (by rw[←hcx];exact n5);rw[this,←hcx]
    obtain⟨x,hx,hxx⟩:=(hs1.heap.reg 0 true _ hl).keys _ rfl;have hx:w1.heap[(ρ 0).blk]? = some (.loop { state:=.ready,pending:=none,fn:=fn,tmps:=T0,params:=ps,assign:=asg,body:=body,defers:=d }):=by
     rw[←hb0,hx];exact congrArg some hxx
    refine⟨_,run_beginRound hx rfl, ?_⟩;have hs2:=hs1.setObj (Φ':=fun x=>x=.loop { state:=.busy,pending:=none,fn:=fn,tmps:=T0,params:=ps,assign:=asg,body:=body,defers:=d }) hl _ rfl;rw[hb0]at hs2;refine(Vm hB' body _ _ hbody).h ρ1 _ _ hs2 _ ?_;intro ex s2 ρ2 a2 w2 hq hs3;cases ex with
    |normal =>
     obtain⟨es2,Hs2,nxs2⟩:=s2;simp only at hq;split at hq
     ·rename_i e0 H0 nx0 o heq hl2
      simp only[St.mk.injEq]at heq;obtain⟨rfl,rfl,rfl⟩:=heq;obtain⟨rfl,hret⟩:=hq;have hb2:ρ2 0=ρ 0:=by have:=hs3.base 0 (by rw[←hcx];exact n5);rw[this,←hcx]
      obtain⟨y,hy,hyy⟩:=(hs3.heap.reg 0 true _ hl2).keys _ rfl;have hy:w2.heap[(ρ 0).blk]? = some (.loop { state:=.busy,pending:=none,fn:=fn,tmps:=T0,params:=ps,assign:=asg,body:=body,defers:=d }):=by
       rw[←hb2,hy];exact congrArg some hyy
      have hs4:=hs3.setObj (Φ':=fun x=>x=.loop { state:=.ready,pending:=none,fn:=fn,tmps:=T0,params:=ps,assign:=asg,body:=body,defers:=d }) hl2 _ rfl;rw[hb2]at hs4;obtain⟨ρ3,h1,h2,h3⟩:=bC3 (rv:=.c (.b true)) (v:=.bool true) hs4 (by rw[←hcx]) (show SV.rel ρ2 (.c (.b true)) (.bool true)from rfl) (WT _ _) hret;refine⟨_,_,run_endRound none hy,ρ3,fun k hk=>by have:=h1 k hk;rw[this,←hcx],rfl, ?_⟩;rw[←hcx]at h3;exact h3
     ·exact hq.elim
    |_=>exact hq.elim
   ·exact hq.elim
  |_=>exact hq.elim
end Sx
end Go
