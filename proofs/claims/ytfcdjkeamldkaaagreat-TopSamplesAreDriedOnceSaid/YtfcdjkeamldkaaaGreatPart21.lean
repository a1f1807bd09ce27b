/-
  A part of the proof that a law answers true: lemmas of a symbolic walk, plain functions, or contracts of the functions walked (Sx79, EJ, Sx80, Sx81). Conditions: none.
-/
import Derived.Test.YtfcdjkeamldkaaaGreatPart05
import Derived.Test.YtfcdjkeamldkaaaGreatPart20
import Derived.Test.YtfcdjkeamldkaaaGreatPart16
import Derived.Test.YtfcdjkeamldkaaaGreatPart15
import Derived.Test.YtfcdjkeamldkaaaGreatPart09
set_option maxRecDepth 100000
set_option linter.unusedVariables false
set_option linter.unusedSimpArgs false
namespace Go
namespace Sx
def WN(x y:LogE):Bool :=
 bif Xb x.d y.rs then true else bif Xb y.d x.rs then true else bif Gd x.d y.d then true else bif Jy (keys x.wr) y.rd then true else
 bif Jy (keys x.wr) (keys y.wr)then true else bif Jy x.news y.nms then true else Jy y.news x.nms
def cD9(x y:LogE):Bool:=Jy (keys y.wr) x.rd
def au4(p q i j:Nat)(x y:LogE):Bool:=bif WN x y then true else bif cD9 x y then !(Nat.beq i p&&Nat.beq j q)else false
def aE5(p q m j:Nat)(y:LogE):List (Nat×LogE)→Bool
 | []=>true
 |(i,x)::r=>bif au4 p q i j x y then(bif XB m i then(bif Jy y.news x.nms then false else aE5 p q m j y r)else false)else aE5 p q m j y r
def aP4(p q:Nat)(A:List (Nat×Nat)):Nat→List LogE→List (Nat×LogE)→Bool
 |_,[],_=>true
 |i,y::r,done=>match Ku A i with
  |some m=>bif aE5 p q m i y done then aP4 p q A (i+1) r ((i,y)::done)else false
  |none=>false
def cE0(cx:Cx)(ops:Array Oper)(s:St)(log:List LogE)(p q:Nat):Prop:=match ops[p]?,log[p]?,log[q]? with
 |some o,some x,some y=>o.guard=none∧x.news=[]∧We cx o (YB (s.e,s.H) (log.take p)).1 (y.wr++(YB (s.e,s.H) (log.take p)).2) ⟨x.sv,x.rd,x.wr,x.news⟩
 |_,_,_=>False
def cI6(cx:Cx)(B:Tabs)(ops:Array Oper)(p q:Nat)(Q:St→Prop)(s:St):Prop :=
 aX2 ops.toList 0 [] fun A=>Kc cx B ops ops.toList s [] [] fun log s' gs =>
  match s' with
  |⟨e',H',nx'⟩=>bif (aP4 p q A 0 log []&&ap8 s.nx nx' log)&&Nat.blt p q then cE0 cx ops s log p q∧ax5 gs e' fun e'=>Q ⟨e',H',nx'⟩else False
theorem bt5{p q m j:Nat}{y:LogE}:∀ {l:List (Nat×LogE)},aE5 p q m j y l=true→∀i x,(i,x)∈l→au4 p q i j x y=true→XB m i=true∧Jy y.news x.nms=false
 | [],_,_,_,h,_=>by cases h
 |(i0,x0)::r,h,i,x,hm,hc=>by
  simp only[aE5]at h;rcases List.mem_cons.1 hm with he|hm
  ·simp at he;obtain⟨rfl,rfl⟩:=he;rw[hc]at h;simp only[cond_true]at h;cases hb:XB m i with
   |false=>simp[hb]at h
   |true =>
    simp only[hb,cond_true]at h;cases hn:Jy y.news x.nms with
    |true=>simp[hn]at h
    |false=>exact⟨rfl,rfl⟩
  ·have hr:aE5 p q m j y r=true:=by
    cases h0:au4 p q i0 j x0 y with
    |false=>simpa [h0] using h
    |true =>
     simp only[h0,cond_true]at h;cases hb:XB m i0 with
     |false=>simp[hb]at h
     |true =>
      simp only[hb,cond_true]at h;cases hn:Jy y.news x0.nms with
      |true=>simp[hn]at h
      |false=>simpa [hn] using h
   exact bt5 hr i x hm hc
theorem ba8{p q:Nat}{A:List (Nat×Nat)}:∀(l:List LogE) (k:Nat) (done:List (Nat×LogE)),aP4 p q A k l done=true →
 ∀j y,l[j]? = some y→∃m,(k+j,m)∈A∧(∀i x,(i,x)∈done→au4 p q i (k+j) x y=true→XB m i=true∧Jy y.news x.nms=false) ∧
  ∀i x,i<j→l[i]? = some x→au4 p q (k+i) (k+j) x y=true→XB m (k+i)=true∧Jy y.news x.nms=false
 | [],_,_,_,j,y,h=>by simp at h
 |z::l,k,done,h,j,y,hy=>by
  simp only[aP4]at h;split at h
  ·rename_i m hm
   cases hc:aE5 p q m k z done with
   |false=>simp[hc]at h
   |true =>
    simp only[hc,cond_true]at h;cases j with
    |zero =>
     simp at hy;subst hy;exact⟨m,as5 hm,fun i x hi hcf=>bt5 hc i x hi hcf,fun i x hi=>by omega⟩
    |succ j =>
     obtain⟨m',h1,h2,h3⟩:=ba8 l (k+1) ((k,z)::done) h j y (by simpa using hy);have e:k+(j+1)=k+1+j:=by omega
     refine⟨m',by rw[e];exact h1,fun i x hi=>by rw[e];exact h2 i x (List.mem_cons_of_mem _ hi),fun i x hij hx hcf=>?_⟩;rw[e]at hcf;cases i with
     |zero=>simp at hx;subst hx;exact h2 k z (List.mem_cons_self ..) hcf
     |succ i =>
      have e2:k+(i+1)=k+1+i:=by omega
      rw[e2]at hcf ⊢;exact h3 i x (by omega) (by simpa using hx) hcf
  ·cases h
theorem bN2{x y:LogE}{d:Nat}(h1:x.d=some d)(h2:d∈y.rs):WN x y=true:=by
 simp[WN,Xb,h1,JY.2 h2]
theorem bN3{x y:LogE}{d:Nat}(h1:y.d=some d)(h2:d∈x.rs):WN x y=true:=by
 have:Xb y.d x.rs=true:=by simp[Xb,h1,JY.2 h2]
 simp only[WN,this];cases Xb x.d y.rs <;> rfl
theorem bY3{x y:LogE}{d:Nat}(h1:x.d=some d)(h2:y.d=some d):WN x y=true:=by
 have:Gd x.d y.d=true:=by simp[Gd,h1,h2]
 simp only[WN,this];cases Xb x.d y.rs <;> cases Xb y.d x.rs <;> rfl
theorem aw5{x y:LogE}{k:Nat}(h1:k∈keys x.wr)(h2:k∈y.rd):WN x y=true:=by
 have:Jy (keys x.wr) y.rd=true:=Qm.2 ⟨k,h2,h1⟩;simp only[WN,this];cases Xb x.d y.rs <;> cases Xb y.d x.rs <;> cases Gd x.d y.d <;> rfl
theorem bz3{x y:LogE}{k:Nat}(h1:k∈keys x.wr)(h2:k∈keys y.wr):WN x y=true:=by
 have:Jy (keys x.wr) (keys y.wr)=true:=Qm.2 ⟨k,h2,h1⟩;simp only[WN,this];cases Xb x.d y.rs <;> cases Xb y.d x.rs <;> cases Gd x.d y.d <;> cases Jy (keys x.wr) y.rd <;> rfl
theorem bN4{x y:LogE}{k:Nat}(h1:k∈x.news)(h2:k∈y.nms):WN x y=true:=by
 have:Jy x.news y.nms=true:=Qm.2 ⟨k,h2,h1⟩;simp only[WN,this];cases Xb x.d y.rs <;> cases Xb y.d x.rs <;> cases Gd x.d y.d <;> cases Jy (keys x.wr) y.rd <;> cases Jy (keys x.wr) (keys y.wr) <;> rfl
theorem bz4{x y:LogE}{k:Nat}(h1:k∈y.news)(h2:k∈x.nms):WN x y=true:=by
 have:Jy y.news x.nms=true:=Qm.2 ⟨k,h2,h1⟩;simp only[WN,this];cases Xb x.d y.rs <;> cases Xb y.d x.rs <;> cases Gd x.d y.d <;> cases Jy (keys x.wr) y.rd <;> cases Jy (keys x.wr) (keys y.wr) <;> cases Jy x.news y.nms <;> rfl
theorem bz5{cx:Cx}{B:Tabs}(hB:TabsOK cx.P B){id:Nat}{ops:Array Oper}{Q:Exit→St→Prop}{s:St}(p q:Nat)(h:cI6 cx B ops p q (fun s'=>Q .normal s') s):Sound cx (.region id ops true) Q s:=by
 refine⟨fun ρ a w hs QQ hQ=>?_⟩;obtain⟨A,h,hA,hback⟩:=aT8 (ops:=ops) ops.toList 0 [] (by simp) (by intro i m hm;cases hm) h;obtain⟨log,s',gs,hK,hlog,hfin,hgs,hle⟩:=aT6 hB ops.toList s [] [] h (by intro d t hm;cases hm) hs.n0;simp only[List.reverse_nil,List.nil_append]at hK;obtain⟨hchk,hobl,hq⟩:=YS hK;simp only[aX4]at hq;simp only[Bool.and_eq_true]at hchk;obtain⟨⟨hchk,hnews⟩,hpq⟩:=hchk;have hpq:p<q:=Eq.mp Nat.blt_eq hpq;have hchk:=ba8 log 0 [] hchk;have hnews:=aI4 hnews;obtain⟨hlen,hget⟩:=hlog.get;have hlen':log.length=ops.size:=by simpa using hlen
 simp only[Nat.zero_add]at hchk hback;have pairX:∀i j x y,i<j→log[i]? = some x→log[j]? = some y→au4 p q i j x y=true→(∀S,UK ops S→S j=true→S i=true)∧∀k∈y.news,k∉x.nms:=by
  intro i j x y hij hx hy hc;obtain⟨m,hm,_,h3⟩:=hchk j y hy;have:=h3 i x hij hx hc;refine⟨fun S hS hj=>hA j m hm S hS hj i this.1,fun k hk hkx=>?_⟩;have h4:Jy y.news x.nms=true:=Qm.2 ⟨k,hkx,hk⟩;rw[this.2]at h4;cases h4
 have pair:∀i j x y,i<j→log[i]? = some x→log[j]? = some y→WN x y=true→(∀S,UK ops S→S j=true→S i=true)∧∀k∈y.news,k∉x.nms:=by
  intro i j x y hij hx hy hc;exact pairX i j x y hij hx hy (by simp[au4,hc])
 have pairL:∀i j x y,i<j→log[i]? = some x→log[j]? = some y→∀k,k∈keys y.wr→k∈x.rd→¬(i=p∧j=q)→(∀S,UK ops S→S j=true→S i=true):=by
  intro i j x y hij hx hy k h1 h2 hne;refine(pairX i j x y hij hx hy ?_).1;have hl:cD9 x y=true:=Qm.2 ⟨k,h2,h1⟩;have hb:(Nat.beq i p&&Nat.beq j q)=false:=by
   cases e1:Nat.beq i p with
   |false=>rfl
   |true =>
    cases e2:Nat.beq j q with
    |false=>rfl
    |true=>exact absurd ⟨Nat.eq_of_beq_eq_true e1,Nat.eq_of_beq_eq_true e2⟩ hne
  unfold au4;rw[hl,hb];cases WN x y <;> rfl
 let stS:(Nat→Bool)→St:=fun S=>⟨(YB (s.e,s.H) (Vf S 0 log)).1,(YB (s.e,s.H) (Vf S 0 log)).2,s'.nx⟩
 have key:∀fuel (listed:Array Bool) (ρ:Jn) (a:Act) (w:World),listed.size=ops.size→listed.toList.count false=fuel→UK ops (fun i=>listed.getD i false) →
  Sat cx ρ (stS fun i=>listed.getD i false) a w→wpAnyIn (WF cx.rd) 0 cx.P .any ops QQ fuel listed a w:=by
  intro fuel
  induction fuel with
  |zero =>
   intro listed ρ a w hsz hcnt hcl hsat;have hall:∀i,i<ops.size→listed.getD i false=true:=by
    intro i hi
    have:listed[i]'(by omega)≠false:=by
     intro hf;have hm:false∈listed.toList:=by rw[←hf];simp
     have:=List.count_pos_iff.2 hm;omega
    simp[Array.getD,show i<listed.size by omega]
    simpa using this
   refine wpAnyIn_done ?_ ?_ 0
   ·cases hr:Region.ready .any ops listed with
    |nil=>rfl
    |cons j r =>
     have hj:j∈Region.ready .any ops listed:=by rw[hr];exact List.mem_cons_self ..
     obtain⟨h1,o,ho,_⟩:=mem_ready.1 hj;have hlt:j<ops.size:=(Array.getElem?_eq_some_iff.1 ho).1;have:=hall j hlt;simp[Array.getD,show j<listed.size by omega]at h1 this;rw[h1]at this;cases this
   ·have hsel:Vf (fun i=>listed.getD i false) 0 log=log:=be4 _ _ _ fun i hi=>by
     simp only[Nat.zero_add];exact hall i (by omega)
    have e1:stS (fun i=>listed.getD i false)=⟨s'.e,s'.H,s'.nx⟩:=by
     simp only[stS,hsel,←hfin]
    rw[e1]at hsat;refine hQ _ ⟨ovl gs s'.e,s'.H,s'.nx⟩ ρ a w hq (hsat.congr (fun i=>?_) (fun _=>rfl) rfl Ga);simp only[Kk];cases hg:Ve gs i with
    |none=>exact .inl rfl
    |some t=>exact .inr ⟨t,hgs i t (Kv hg), .inl rfl⟩
  |succ fuel ih =>
   intro listed ρ a w hsz hcnt hcl hsat;obtain⟨S,hS⟩:∃S:Nat→Bool,S=fun i=>listed.getD i false:=⟨_,rfl⟩;rw[←hS]at hcl hsat;refine⟨fun hr=>?_,fun j hj=>?_⟩
   ·
     exfalso;have hex:∃i,i<ops.size∧S i=false:=by
      have hm:false∈listed.toList:=List.count_pos_iff.1 (by omega);obtain⟨i,hi,he⟩:=List.mem_iff_getElem.1 hm;refine⟨i,by simpa [hsz] using hi, ?_⟩;have hi':i<listed.size:=by simpa using hi
      rw[hS];simp[Array.getD,hi']
      simpa using he
     have hmin:∀n i,i<n→i<ops.size→S i=false→∃j,j<ops.size∧S j=false∧∀i,i<j→S i=true:=by
      intro n
      induction n with
      |zero=>intro i hi;omega
      |succ n ihn =>
       intro i hi hio hSi;by_cases hlow:∃i',i'<i∧S i'=false
       ·obtain⟨i',h1,h2⟩:=hlow;exact ihn i' (by omega) (by omega) h2
       ·refine⟨i,hio,hSi,fun i' hi'=>?_⟩;cases hb:S i' with
        |true=>rfl
        |false=>exact absurd ⟨i',hi',hb⟩ hlow
     obtain⟨i,hio,hSi⟩:=hex;obtain⟨j,hjo,hSj,hbefore⟩:=hmin (i+1) i (by omega) hio hSi;have:j∈Region.ready .any ops listed:=by
      refine mem_ready.2 ⟨?_,ops[j],by simp[hjo],fun e he hb=>?_⟩
      ·rw[hS]at hSj;simp[Array.getD,show j<listed.size by omega]at hSj ⊢;exact hSj
      ·rw[ai7]at hb;have:=hbefore e.on (hback j ops[j] (by simp[hjo]) e he hb);rw[hS]at this;exact this
     rw[hr]at this;cases this
   ·obtain⟨hun,o,ho,hdeps⟩:=mem_ready.1 hj;have hjo:j<ops.size:=(Array.getElem?_eq_some_iff.1 ho).1;have hjl:j<listed.size:=by omega
    have hSj:S j=false:=by
     rw[hS];simp[Array.getD,hjl]at hun ⊢;exact hun
    have ho':ops.toList[j]? = some o:=by simpa using ho
    obtain⟨x,hx,hent⟩:=hget j o ho';have hS':(fun i=>(listed.setIfInBounds j true).getD i false)=Vg S j:=by
     funext i;rw[hS];simp only[Vg];by_cases hij:i=j
     ·subst hij;simp[Array.getD_eq_getD_getElem?,hjl]
     ·have:¬j=i:=fun h=>hij h.symm;simp[Array.getD_eq_getD_getElem?,Array.getElem?_setIfInBounds,hij,this]
    have hcl':UK ops (Vg S j):=by
     intro i oi hoi hsi e he hb;have hone:S e.on=true:=by
      by_cases hij:i=j
      ·subst hij;rw[ho]at hoi;simp at hoi;subst hoi;have:=hdeps e he (by rw[ai7];exact hb);rw[hS];exact this
      ·simp only[Vg]at hsi;rw[if_neg hij]at hsi;exact hcl i oi hoi hsi e he hb
     simp only[Vg];split
     ·rfl
     ·exact hone
    have hins:∀i,i≠j→Vg S j i=S i:=fun i hi=>by simp only[Vg];rw[if_neg hi]
    have hinsj:Vg S j j=true:=by simp[Vg]
    have hbef:∀i y,i<j→log[i]? = some y→WN y x=true→S i=true:=fun i y hij hy hc=>by
     rw[←hins i (by omega)];exact(pair i j y x hij hy hx hc).1 _ hcl' hinsj
    have haft:∀i y,j<i→log[i]? = some y→WN x y=true→S i=false:=fun i y hij hy hc=>by
     cases hb:S i with
     |false=>rfl
     |true =>
      have:=(pair j i x y hij hx hy hc).1 _ hcl hb;rw[hSj]at this;cases this
    have haftL:∀i y k,j<i→log[i]? = some y→k∈keys y.wr→k∈x.rd→¬(j=p∧i=q)→S i=false:=fun i y k hij hy h1 h2 hne=>by
     cases hb:S i with
     |false=>rfl
     |true =>
      have:=pairL j i x y hij hx hy k h1 h2 hne _ hcl hb;rw[hSj]at this;cases this
    have hslot:∀t∈x.rs,(stS S).e.get t=(YB (s.e,s.H) (log.take j)).1.get t:=by
     intro t ht;simp only[stS];rw[XJ (q:=(s.e,s.H)) rfl,XJ (l:=log.take j) (q:=(s.e,s.H)) rfl];rw[GR (p:=dIs t) S log 0 j];intro i y hy hp;simp only[Nat.zero_add];simp only[dIs,beq_iff_eq]at hp;constructor
     ·intro hi;rcases Nat.lt_trichotomy i j with h1|h1|h1
      ·exact h1
      ·subst h1;rw[hSj]at hi;cases hi
      ·have:=haft i y h1 hy (bN3 hp ht);rw[hi]at this;cases this
     ·intro hij;exact hbef i y hij hy (bN2 hp ht)
    have hreg:∀k∈x.rd,¬(j=p∧S q=true)→look (stS S).H k=look (YB (s.e,s.H) (log.take j)).2 k:=by
     intro k hk hnx;simp only[stS];rw[Yd (q:=(s.e,s.H)) rfl,Yd (l:=log.take j) (q:=(s.e,s.H)) rfl];rw[GR (p:=wIs k) S log 0 j];intro i y hy hp;simp only[Nat.zero_add];have hp:=JY.1 hp;constructor
     ·intro hi;rcases Nat.lt_trichotomy i j with h1|h1|h1
      ·exact h1
      ·subst h1;rw[hSj]at hi;cases hi
      ·have:=haftL i y k h1 hy hp hk (fun hh=>hnx ⟨hh.1,by rw[←hh.2];exact hi⟩);rw[hi]at this;cases this
     ·intro hij;exact hbef i y hij hy (aw5 hp hk)
    have hregX:j=p→S q=true→∀yq,log[q]? = some yq→∀k∈x.rd,look (stS S).H k=look (yq.wr++(YB (s.e,s.H) (log.take j)).2) k:=by
     intro hjp hSq yq hyq k hk;by_cases hkq:k∈keys yq.wr
     ·let S':Nat→Bool:=fun i=>if i=q then false else S i
      have hSS:∀i,S i=Vg S' q i:=by
       intro i;simp only[Vg,S'];by_cases hi:i=q
       ·rw[if_pos hi,hi];exact hSq
       ·rw[if_neg hi,if_neg hi]
      have hSf:S=Vg S' q:=funext hSS;have hS'q:S' q=false:=by simp[S']
      have hlater:∀i y,log[i]? = some y→q<i→wIs k y=true→S i=false:=fun i y hy hi hp =>
       haftL i y k (by omega) hy (JY.1 hp) hk (by omega)
      have hsi:=ao2 (p:=wIs k) S' log 0 q yq hyq (by simpa using hS'q) (fun i y hy hi _ hp=>by
       simp only[Nat.zero_add,S'];split
       ·rfl
       ·exact hlater i y hy hi hp)
      rw[Nat.zero_add,←hSf]at hsi;simp only[stS];rw[Yd (q:=(s.e,s.H)) rfl,hsi,←Yd (p:=(s.e,s.H)) (q:=(s.e,s.H)) rfl];have happ:∀(l:List LogE) (p:Env×Je),YB p (l++[yq])=Kg (YB p l) yq:=by
       intro l;induction l with
       |nil=>intro p;rfl
       |cons z l ihl=>intro p;simp only[List.cons_append,YB];exact ihl _
      rw[happ];show look (yq.wr++(YB (s.e,s.H) (Vf S' 0 log)).2) k=_;rw[Yi,Yi];congr 1;rw[Yd (q:=(s.e,s.H)) rfl,Yd (l:=log.take j) (q:=(s.e,s.H)) rfl];rw[GR (p:=wIs k) S' log 0 j];intro i y hy hp;simp only[Nat.zero_add];have hpm:=JY.1 hp;constructor
      ·intro hi;have hiq:i≠q:=fun h=>by rw[h,hS'q]at hi;cases hi
       have hi:S i=true:=by simp only[S']at hi;rw[if_neg hiq]at hi;exact hi
       rcases Nat.lt_trichotomy i j with h1|h1|h1
       ·exact h1
       ·subst h1;rw[hSj]at hi;cases hi
       ·have:=haftL i y k h1 hy hpm hk (fun hh=>hiq hh.2);rw[hi]at this;cases this
      ·intro hij;simp only[S'];rw[if_neg (by omega)];exact hbef i y hij hy (aw5 hpm hk)
     ·rw[Yi];have hnone:look yq.wr k=none:=by
       cases hl:look yq.wr k with
       |none=>rfl
       |some z=>exact absurd (Xm hl) hkq
      rw[hnone];show _=look (YB (s.e,s.H) (log.take j)).2 k;simp only[stS];rw[Yd (q:=(s.e,s.H)) rfl,Yd (l:=log.take j) (q:=(s.e,s.H)) rfl];rw[GR (p:=wIs k) S log 0 j];intro i y hy hp;simp only[Nat.zero_add];have hpm:=JY.1 hp;constructor
      ·intro hi;rcases Nat.lt_trichotomy i j with h1|h1|h1
       ·exact h1
       ·subst h1;rw[hSj]at hi;cases hi
       ·have:=haftL i y k h1 hy hpm hk (fun hh=>by
         rw[hh.2,hyq]at hy;cases hy;exact hkq hpm)
        rw[hi]at this;cases this
      ·intro hij;exact hbef i y hij hy (aw5 hpm hk)
    have hnextE:∀t,(stS (Vg S j)).e.get t=if x.d=some t then x.sv else(stS S).e.get t:=by
     intro t;simp only[stS];rw[XJ (q:=(s.e,s.H)) rfl]
     have hsi:=ao2 (p:=dIs t) S log 0 j x hx (by simpa using hSj) (fun i y hy hij hpx hpy=>by
      simp only[Nat.zero_add];simp only[dIs,beq_iff_eq]at hpx hpy;exact haft i y hij hy (bY3 hpx hpy))
     rw[Nat.zero_add]at hsi;rw[hsi,←XJ (p:=(s.e,s.H)) (q:=(s.e,s.H)) rfl];have happ:∀(l:List LogE) (p:Env×Je),YB p (l++[x])=Kg (YB p l) x:=by
      intro l;induction l with
      |nil=>intro p;rfl
      |cons z l ihl=>intro p;simp only[List.cons_append,YB];exact ihl _
     rw[happ];simp only[Kg];cases hd:x.d with
     |none=>simp[putO]
     |some d =>
      simp only[putO];rw[XA];by_cases htd:t=d
      ·simp[htd]
      ·rw[if_neg htd,if_neg (by simp;exact fun h=>htd h.symm)]
    have hnextH:∀k,look (stS (Vg S j)).H k=look (x.wr++(stS S).H) k:=by
     intro k;simp only[stS];rw[Yd (q:=(s.e,s.H)) rfl]
     have hsi:=ao2 (p:=wIs k) S log 0 j x hx (by simpa using hSj) (fun i y hy hij hpx hpy=>by
      simp only[Nat.zero_add];exact haft i y hij hy (bz3 (JY.1 hpx) (JY.1 hpy)))
     rw[Nat.zero_add]at hsi;rw[hsi,←Yd (p:=(s.e,s.H)) (q:=(s.e,s.H)) rfl];have happ:∀(l:List LogE) (p:Env×Je),YB p (l++[x])=Kg (YB p l) x:=by
      intro l;induction l with
      |nil=>intro p;rfl
      |cons z l ihl=>intro p;simp only[List.cons_append,YB];exact ihl _
     rw[happ];rfl
    have hcnt':(listed.setIfInBounds j true).toList.count false=fuel:=by
     have hj':j<listed.toList.length:=by simpa using hjl
     have hval:listed.toList[j]=false:=by
      rw[hS]at hSj;simp[Array.getD,hjl]at hSj
      simpa using hSj
     rw[Array.toList_setIfInBounds,List.count_set hj'];have hcnt2:Array.count false listed=fuel+1:=by simpa using hcnt
     simp[hval,hcnt2]
    have hgo:∀ρ' a' w',Sat cx ρ' (stS (Vg S j)) a' w'→wpAnyIn (WF cx.rd) 0 cx.P .any ops QQ fuel (listed.setIfInBounds j true) a' w':=fun ρ' a' w' hsat' =>
     ih _ ρ' a' w' (by simpa using hsz) hcnt' (by rw[hS'];exact hcl') (by rw[hS'];exact hsat')
    have hdst:=aH9 hent.dst;have hguard:∀j' want d t,o.guard=some (j',want)→UR ops j'=some d→d∈x.rs→WV ((YB (s.e,s.H) (log.take j)).1.get d) t→Region.wanted o (yielded ops a.tmps)=(t==want):=by
     intro j' want d t hg hd hdr hb;have hv:a.tmps.getD d undef=.bool t:=by
      have:=hsat.env d;rw[hslot d hdr]at this;exact(am5 hb).1 this
     simp only[Region.wanted,hg,aA9 hd hv];cases t <;> cases want <;> rfl
    unfold wpOpIn;simp only[ho];by_cases hexc:j=p∧S q=true
    ·obtain⟨hjp,hSq⟩:=hexc;subst hjp;have hob:=hobl;unfold cE0 at hob;rw[ho,hx]at hob;cases hyq:log[q]? with
     |none=>rw[hyq]at hob;exact hob.elim
     |some yq =>
      rw[hyq]at hob;obtain⟨hg0,hn0,hloc⟩:=hob;have hrds:∀t,Wr o t→t∈x.rs:=by
       rcases hent.act with ⟨⟨_,_,_,_,_,_,_,_,hr⟩,_⟩|⟨_,j',want,d,hg,_⟩
       ·exact hr
       ·rw[hg0]at hg;cases hg
      rw[if_pos (by simp[Region.wanted,hg0])];refine hloc ρ _ a w hsat ?_ ?_ ?_ hdst _ _ ?_
      ·intro t ht;exact hslot t (hrds t ht)
      ·intro k hk;exact hregX rfl hSq yq hyq k hk
      ·intro k hk;have hk:k∈x.news:=hk;rw[hn0]at hk;cases hk
      ·intro ρ' a' w' hsat' _;refine hgo ρ' a' w' (hsat'.congr (fun i=>?_) (fun k=>?_) rfl (by simp only[stS,Kx,Ge]))
       ·rw[hnextE i,hent.d];cases hd:o.dst with
        |none=>simp only[Sx.putO];rw[if_neg (by simp)];exact .inl rfl
        |some d =>
         simp only[Sx.putO];rw[XA];by_cases hid:i=d
         ·rw[if_pos hid,if_pos (by rw[hid])];exact .inl rfl
         ·rw[if_neg hid,if_neg (by simp;exact fun h=>hid h.symm)];exact .inl rfl
       ·rw[hnextH k]
    rcases hent.act with ⟨⟨gs1,f,hgs1,hloc,f1,f2,f3,f4,hrds⟩,hg⟩|⟨⟨f1,f2,f3,f4⟩,j',want,d,hg,hd,hdr,hb⟩
    ·have hw:Region.wanted o (yielded ops a.tmps)=true:=by
      rcases hg with hg|⟨j',want,d,hg,hd,hdr,hb⟩
      ·simp[Region.wanted,hg]
      ·rw[hguard j' want d want hg hd hdr hb];cases want <;> rfl
     rw[if_pos hw];have hsat1:Sat cx ρ { stS S with e:=ovl (gs1.filter fun p=>Ys p.1 x.rs) (stS S).e } a w:=by
      refine hsat.congr (fun i=>?_) (fun _=>rfl) rfl Ga;simp only[Kk];cases hl:Ve (gs1.filter fun p=>Ys p.1 x.rs) i with
      |none=>exact .inl rfl
      |some t =>
       have hm:=List.mem_filter.1 (Kv hl);refine .inr ⟨t, ?_, .inl rfl⟩;rw[hslot i (JY.1 hm.2)];exact hgs1 i t hm.1
     have hlk:∀i,i∈x.rs→Ve (gs1.filter fun p=>Ys p.1 x.rs) i=Ve gs1 i:=by
      intro i hi;clear hgs1 hloc hsat1
      induction gs1 with
      |nil=>rfl
      |cons p r ihg =>
       obtain⟨d,t⟩:=p;by_cases hid:i=d
       ·subst hid;rw[List.filter_cons_of_pos (by simpa using JY.2 hi)];simp[Ve]
       ·have hbq:Nat.beq i d=false:=by cases hq:Nat.beq i d with
         |false=>rfl
         |true=>exact absurd (Nat.eq_of_beq_eq_true hq) hid
        simp only[List.filter_cons];split
        ·simp only[Ve,hbq,cond_false];exact ihg
        ·simp only[Ve,hbq,cond_false];exact ihg
     refine hloc ρ _ a w hsat1 ?_ ?_ ?_ hdst _ _ ?_
     ·intro t ht;have htr:=hrds t ht;simp only[Kk,hlk t htr];rw[hslot t htr]
     ·intro k hk;rw[f2]at hk;exact hreg k hk hexc
     ·intro k hk;rw[f4]at hk;have hxm:x∈log:=List.mem_of_getElem? hx;have hkge:=hent.news k hk;have hno:∀y,y∈Vf S 0 log→k∉y.nms:=by
       intro y hy hky;obtain⟨i,hi,hsi⟩:=aN9 hy;simp only[Nat.zero_add]at hsi;rcases Nat.lt_trichotomy i j with h1|h1|h1
       ·exact(pair i j y x h1 hi hx (bz4 hk hky)).2 k hk hky
       ·subst h1;rw[hSj]at hsi;cases hsi
       ·have:=haft i y h1 hi (bN4 hk hky);rw[hsi]at this;cases this
      have hk0:s.nx≤k:=(hnews x hxm k hk).1;refine⟨⟨fun i=>?_,fun hm=>by
       simp only[Ga,stS,Kx]at hm;have:=hs.bnd.mks k hm;omega,fun j' own q hl=>?_⟩,(hnews x hxm k hk).2,hkge⟩
      ·simp only[Kk];cases Ve (gs1.filter fun p=>Ys p.1 x.rs) i with
       |some t=>simp[SV.uses,SC.uses,SC.nms,Jy]
       |none =>
        cases hu:((stS S).e.get i).uses [k]with
        |false=>rfl
        |true =>
         simp only[stS]at hu;rcases av6 (l:=Vf S 0 log) (p:=(s.e,s.H)) (t:=i)with h1|⟨y,hy,h1⟩
         ·rw[h1]at hu;have:=hs.bnd.env i k hu;omega
         ·rw[h1]at hu;exact absurd (bT5 hu) (hno y hy)
      ·simp only[stS]at hl;rcases ap9 hl with h1|⟨y,hy,h1⟩
       ·have:=hs.bnd.heap j' own q h1;refine⟨by omega, ?_⟩;cases hu:q.uses [k]with
        |false=>rfl
        |true=>have:=this.2 k hu;omega
       ·have h2:=hno y hy;refine⟨fun he=>h2 (aX5 h1 (.inl he)), ?_⟩;cases hu:q.uses [k]with
        |false=>rfl
        |true=>exact absurd (aX5 h1 (.inr hu)) h2
     ·intro ρ' a' w' hsat' _;refine hgo ρ' a' w' (hsat'.congr (fun i=>?_) (fun k=>?_) rfl (by simp only[stS,Kx,Ge,Ga]))
      ·rw[hnextE i,hent.d,f1];cases hd:o.dst with
       |none =>
        simp only[Sx.putO,Kk,hd];rw[if_neg (by simp)];cases hl:Ve (gs1.filter fun p=>Ys p.1 x.rs) i with
        |none=>exact .inl rfl
        |some t =>
         have hm:=List.mem_filter.1 (Kv hl);refine .inr ⟨t, .inl rfl, ?_⟩;rw[hslot i (JY.1 hm.2)];exact hgs1 i t hm.1
       |some d =>
        simp only[Sx.putO,hd];rw[XA];by_cases hid:i=d
        ·rw[if_pos hid,if_pos (by rw[hid])];exact .inl rfl
        ·rw[if_neg hid,if_neg (by simp;exact fun h=>hid h.symm)];simp only[Kk];cases hl:Ve (gs1.filter fun p=>Ys p.1 x.rs) i with
         |none=>exact .inl rfl
         |some t =>
          have hm:=List.mem_filter.1 (Kv hl);refine .inr ⟨t, .inl rfl, ?_⟩;rw[hslot i (JY.1 hm.2)];exact hgs1 i t hm.1
      ·rw[hnextH k,f3]
    ·have hw:Region.wanted o (yielded ops a.tmps)=false:=by
      rcases hb with hb|hb
      ·rw[hguard j' want d (!want) hg hd hdr hb];cases want <;> rfl
      ·have hv:a.tmps.getD d undef=.tuple #[]:=by
        have:=hsat.env d;rw[hslot d hdr,hb]at this;exact aT5 this
       simp only[Region.wanted,hg,al4 hd hv];rfl
     rw[if_neg (by simp[hw])];refine⟨fun _ _=>trivial,hgo ρ _ w ((hsat.putO (sv:=.tup []) (v:=undef) hdst as8 ai6).congr (fun i=>?_) (fun k=>?_) rfl (by simp only[stS,Kx,Ge]))⟩
     ·rw[hnextE i,hent.d,f1];cases hd:o.dst with
      |none=>simp only[Sx.putO,hd];rw[if_neg (by simp)];exact .inl rfl
      |some d =>
       simp only[Sx.putO,hd];rw[XA];by_cases hid:i=d
       ·rw[if_pos hid,if_pos (by rw[hid])];exact .inl rfl
       ·rw[if_neg hid,if_neg (by simp;exact fun h=>hid h.symm)];exact .inl rfl
     ·rw[hnextH k,f3];rfl
 have hmixed:=hB.mixed;refine wpIn_region_any hmixed ?_;refine key ops.size _ ρ a _ (by simp) (by simp[List.count_replicate]) ?_ ?_
 ·intro i o ho hi;exfalso;have h0:(Array.replicate ops.size false).getD i false=false:=by
   simp only[Array.getD_eq_getD_getElem?,Array.getElem?_replicate];split <;> rfl
  have hi:(Array.replicate ops.size false).getD i false=true:=hi;rw[h0]at hi;cases hi
 ·have hsel:Vf (fun i=>(Array.replicate ops.size false).getD i false) 0 log=[]:=by
   have:∀(l:List LogE) k,Vf (fun i=>(Array.replicate ops.size false).getD i false) k l=[]:=by
    intro l;induction l with
    |nil=>intro k;rfl
    |cons x l ihl =>
     intro k;simp only[Vf];have h0:(Array.replicate ops.size false).getD k false=false:=by
      simp only[Array.getD_eq_getD_getElem?,Array.getElem?_replicate];split <;> rfl
     rw[if_neg (by rw[h0];simp),ihl]
   exact this log 0
  simp only[stS,hsel,YB];exact(hs.bump hle).eqHeap rfl
end Sx
end Go
namespace Go.Proofs
open Go.Sx
theorem bz6{cx:Cx}{o:Oper}{e:Env}{H:Je}{nx:Nat}{f:Eff}(h:∃F,CallOK cx o e H nx F∧F=f):We cx o e H f:=by
 obtain⟨F,hF,rfl⟩:=h;exact hF.loc
theorem Mp.ent_get(M:Mp)(k z:List Int):((M.ent k z).get k).getD z=(M.get k).getD z:=by
 unfold Mp.get Mp.ent;cases h:M.at k with
 |some x=>simp[h]
 |none =>
  have:Mp.at ⟨M.es++[(k,z,M.clk)],M.clk+1⟩ k=some (k,z,M.clk):=by
   unfold Mp.at at h ⊢;rw[List.find?_append,h];simp
  simp[this]
theorem bN5(v:Wv)(num:Int)(i:Nat)(hil6:i<6)(hi:v.os[i]? = some none)(b mass:Int)(k:Ky)(n:Nat)(hn:n≤4)(hj:Jf b 0 ((n:Int)-1)=false) :
 Triple Tryz.prog 17 [.c (.p 0 0 0 0),YM 5 ((i:Int)+1) b k mass]
  (XS v++[(6,false, .cells [.junk, .s 7 0 n 1, .junk, .v (.int .i64 num), .junk, .junk]),(7,false, .cells [])]) 8 (iv .i64 1) (XN 8 v v.d v.puts):=by
 have hil:i<v.os.length:=(List.getElem?_eq_some_iff.1 hi).1;have hw:=JA ((i:Int)+1) 1 v.os.length;rw[VI hil]at hw;have hp:=cj6 num n hn k b hj;refine Jc Ja Tryz.func17 rfl Tryz.call17 rfl ?_;intro ρ w hH;conv=>whnf
 repeat ((first|refine qT fun hc=>?_|refine qF fun hc=>?_);conv=>whnf)
 refine Jb hw rfl rfl ?_;conv=>whnf
 refine cs ?_;conv=>whnf
 repeat ((first|refine qT fun hc=>?_|refine qF fun hc=>?_);conv=>whnf)
 refine⟨(i:Int),by rw[Int.add_sub_cancel];exact wO, ?_⟩;conv=>whnf
 refine⟨i,rfl,hil,hil, ?_⟩;conv=>whnf
 erw[KC hi];refine Jb hp rfl rfl ?_;conv=>whnf
 refine cs ?_;conv=>whnf
 repeat ((first|refine qT fun hc=>?_|refine qF fun hc=>?_);conv=>whnf)
 exact cl
theorem bY4(v:Wv)(s:Stn)(hs:StnV s)(i:Nat)(hil6:i<6)(hi:v.os[i]? = some none)(mass:Int)(k:Ky)(size:List Int)(os:List (Option Value))(ov:List Ky)(hl:os.length≤4)(hsz:size.length=os.length)(j:Nat)(hj:os[j]? = some none)(z:Int)(hz:size[j]? = some z)
 (he:ae1 s k ov.length z≠0) :
 Triple Tryz.prog 17 [.c (.p 0 0 0 0),YM 5 ((i:Int)+1) j k mass]
  (XS v++[(6,false, .cells [.s 7 0 size.length 1, .s 8 0 os.length 1, .m 9, .v (.int .i64 s.num), .junk, .m 10]),(7,false, .arr (Yn size)),(8,false, .arr (Gv 11 ov.length os)),(9,false,Jw true 2 s.did),(10,false,Jw false 2 s.goes),(11,false, .arr (Vn ov))]) 12
  (iv .i64 (ae1 s k ov.length z)) (XN 12 v v.d v.puts):=by
 have hil:i<v.os.length:=(List.getElem?_eq_some_iff.1 hi).1;have hw:=JA ((i:Int)+1) 1 v.os.length;rw[VI hil]at hw;have hp:=cw1 s hs size os ov hl hsz k j hj z hz he;generalize ae1 s k ov.length z=er at hp he;have b0:(er != 0)=true:=by simp[he]
 refine Jc Ja Tryz.func17 rfl Tryz.call17 rfl ?_;intro ρ w hH;conv=>whnf
 repeat ((first|refine qT fun hc=>?_|refine qF fun hc=>?_);conv=>whnf)
 refine Jb hw rfl rfl ?_;conv=>whnf
 refine cs ?_;conv=>whnf
 repeat ((first|refine qT fun hc=>?_|refine qF fun hc=>?_);conv=>whnf)
 refine⟨(i:Int),by rw[Int.add_sub_cancel];exact wO, ?_⟩;conv=>whnf
 refine⟨i,rfl,hil,hil, ?_⟩;conv=>whnf
 erw[KC hi];refine Jb hp rfl rfl ?_;conv=>whnf
 refine⟨cl,(by repeat' (first|exact(XM rfl)|exact trivial|exact rfl|refine And.intro ?_ ?_|((conv=>whnf);first|exact(XM rfl)|exact trivial|exact rfl|refine And.intro ?_ ?_|omega))), ?_⟩;conv=>whnf
 repeat ((first|refine qT fun hc=>?_|refine qF fun hc=>?_);conv=>whnf)
 exact cl
theorem bY5(v:Wv)(hpv:Yk 1 v.puts)(s:Stn)(hs:StnV s)(i:Nat)(hil6:i<6)(hi:v.os[i]? = some none)(mass:Int)(k:Ky)(hpb:0≤Xc v.puts k∧Xc v.puts k≤1000000)
 (size:List Int) (os:List (Option Value)) (ov:List Ky) (hl:os.length≤4) (hsz:size.length=os.length) (ho:ov.length≤100000) (j:Nat) (hj:os[j]? = some none) (hu:∀i,os[i]? = some none→i=j) (z:Int) (hz:size[j]? = some z)
 (h1:JP s.did k=false) (h2:JP s.goes k=true) (h3:ov.length<z) :
 Triple Tryz.prog 17 [.c (.p 0 0 0 0),YM 5 ((i:Int)+1) j k mass]
  (XS v++[(6,false, .cells [.s 7 0 size.length 1, .s 8 0 os.length 1, .m 9, .v (.int .i64 s.num), .junk, .m 10]),(7,false, .arr (Yn size)),(8,true, .arr (Gv 11 ov.length os)),(9,true,Jw true 2 s.did),(10,false,Jw false 2 s.goes),(11,true, .arr (Vn ov))]) 12
  (iv .i64 0) (XN 12 v v.d (v.puts.put (Qb k) [Xc v.puts k+1])++[(8,true, .arr (Gv 13 (ov++[k]).length os)),(9,true,Jw true 2 (s.did.put (Qb k) [Xc s.goes k,j,0])),(13,true, .arr (Vn (ov++[k])))]):=by
 have hil:i<v.os.length:=(List.getElem?_eq_some_iff.1 hi).1;have hw:=JA ((i:Int)+1) 1 v.os.length;rw[VI hil]at hw;have hp:=cw2 s hs size os ov hl hsz ho k j hj hu z hz h1 h2 h3;have hg:=VH hpv k;refine Jc Ja Tryz.func17 rfl Tryz.call17 rfl ?_;intro ρ w hH;conv=>whnf
 repeat ((first|refine qT fun hc=>?_|refine qF fun hc=>?_);conv=>whnf)
 refine Jb hw rfl rfl ?_;conv=>whnf
 refine cs ?_;conv=>whnf
 repeat ((first|refine qT fun hc=>?_|refine qF fun hc=>?_);conv=>whnf)
 refine⟨(i:Int),by rw[Int.add_sub_cancel];exact wO, ?_⟩;conv=>whnf
 refine⟨i,rfl,hil,hil, ?_⟩;conv=>whnf
 erw[KC hi];refine Jb hp rfl rfl ?_;conv=>whnf
 refine⟨cl,(by repeat' (first|exact(XM rfl)|exact trivial|exact rfl|refine And.intro ?_ ?_|((conv=>whnf);first|exact(XM rfl)|exact trivial|exact rfl|refine And.intro ?_ ?_|omega))), ?_⟩;conv=>whnf
 rw[←XM rfl];conv=>whnf
 repeat ((first|refine qT fun hc=>?_|refine qF fun hc=>?_);conv=>whnf)
 refine bz5 Ja 6 8 ?_;conv=>whnf
 refine JL Ja (k:=Qb k) (vs:=false) [0] _ _ YL YW rfl rfl rfl rfl rfl rfl rfl hg rfl ?_;conv=>whnf
 refine⟨Xc v.puts k+1,YX (z:=Xc v.puts k+1) ⟨by omega,by omega⟩, ?_⟩;conv=>whnf
 refine aE1 Ja (k:=Qb k) (vs:=false) [0] _ YL YW rfl rfl rfl rfl rfl rfl rfl hg ?_;conv=>whnf
 refine aE2 (k:=Qb k) (M:=v.puts) (z0:=[0]) (v:=[Xc v.puts k+1]) rfl rfl rfl rfl rfl rfl ?_;conv=>whnf
 refine⟨?_, ?_⟩
 ·conv=>whnf
  refine⟨rfl,rfl, ?_⟩;refine bz6 (JL (K:=fun F=>F=_) (nx:=100) Ja (k:=Qb k) (M:=v.puts.ent (Qb k) [0]) (vs:=false) [0] [Xc v.puts k] _ YL YW rfl rfl rfl rfl rfl rfl rfl (by rw[Mp.ent_get];exact hg) rfl rfl)
 conv=>whnf
 repeat' (first|exact(XM rfl)|exact trivial|exact rfl|refine And.intro ?_ ?_|((conv=>whnf);first|exact(XM rfl)|exact trivial|exact rfl|refine And.intro ?_ ?_|omega))
theorem ck7(v:Wv)(num:Int)(did:Mp)(size:List Int)(vs:List Value)(n:Nat)(i:Nat)(hil6:i<6)(hi:v.os[i]? = some none)(b mass:Int)(k:Ky) :
 Triple Tryz.prog 17 [.c (.p 0 0 0 0),YM 10 ((i:Int)+1) b k mass]
  (XS v++[(6,true, .cells [.s 7 0 size.length 1, .s 8 0 n 1, .m 9, .v (.int .i64 num), .junk, .junk]),(7,false, .arr (Yn size)),(8,false, .arr (ah0 vs)),(9,false,Jw true 2 did)]) 10
  (iv .i64 0) (XN 10 v v.d v.puts++[(6,true, .cells [.s 7 0 size.length 1, .s 8 0 n 1, .m 9, .v (.int .i64 num), .m 11, .m 12]),(11,true,Jw false 2 Mp.nil),(12,true,Jw false 2 Mp.nil)]):=by
 have hil:i<v.os.length:=(List.getElem?_eq_some_iff.1 hi).1;have hw:=JA ((i:Int)+1) 1 v.os.length;rw[VI hil]at hw;refine Jc Ja Tryz.func17 rfl Tryz.call17 rfl ?_;intro ρ w hH;conv=>whnf
 repeat ((first|refine qT fun hc=>?_|refine qF fun hc=>?_);conv=>whnf)
 refine Jb hw rfl rfl ?_;conv=>whnf
 refine cs ?_;conv=>whnf
 repeat ((first|refine qT fun hc=>?_|refine qF fun hc=>?_);conv=>whnf)
 refine⟨(i:Int),by rw[Int.add_sub_cancel];exact wO, ?_⟩;conv=>whnf
 refine⟨i,rfl,hil,hil, ?_⟩;conv=>whnf
 erw[KC hi];refine Jb (bX2 num did size vs n) rfl rfl ?_;conv=>whnf
 refine cs ?_;conv=>whnf
 exact cl
end Go.Proofs
namespace Go
namespace Sx
open Go.ChangeMaps (setBlock)
theorem ar4:∀(L:List MapEntry) (e:MapEntry),e∈L→(L.map (·.born)).Nodup→(L.filter fun x=>!(x.born==e.born)).length+1=L.length
 | [],_,h,_=>by cases h
 |x::L,e,h,hn=>by
  rw[List.map_cons,List.nodup_cons]at hn;by_cases hx:x.born=e.born
  ·rw[List.filter_cons_of_neg (by simp[hx])];have:L.filter (fun y=>!(y.born==e.born))=L:=List.filter_eq_self.2 fun y hy=>by
    have:y.born≠e.born:=fun hh=>hn.1 (List.mem_map.2 ⟨y,hy,by rw[hh,hx]⟩)
    simpa using this
   rw[this];rfl
  ·rw[List.filter_cons_of_pos (by simpa using hx)];have he:e∈L:=by
    rcases List.mem_cons.1 h with rfl|h
    ·exact absurd rfl hx
    ·exact h
   have:=ar4 L e he hn.2;simp only[List.length_cons];omega
theorem bY6{es:Array MapEntry}{seen:Array Nat}{e:MapEntry}(he:e∈(leftOf es seen).toList)(hn:(es.toList.map (·.born)).Nodup) :
 (leftOf es (seen.push e.born)).size+1=(leftOf es seen).size:=by
 have hl:(leftOf es (seen.push e.born)).toList=(leftOf es seen).toList.filter fun x=>!(x.born==e.born):=by
  unfold leftOf;rw[Array.toList_filter,Array.toList_filter,List.filter_filter];refine List.filter_congr fun x _=>?_;by_cases h1:x.born=e.born
  ·simp[h1]
  ·simp[h1]
 have hsub:((leftOf es seen).toList.map (·.born)).Nodup:=by
  unfold leftOf;rw[Array.toList_filter];exact(List.Sublist.map _ List.filter_sublist).nodup hn
 have:=ar4 _ e he hsub;rw[←hl]at this
 simpa using this
theorem bz7{w:World}{b:Nat}{o:Obj}(h:w.heap[b]? = some o):w.putObj b o=w:=by
 have:w.heap.setIfInBounds b o=w.heap:=by
  apply Array.ext_getElem?;intro i;rw[Array.getElem?_setIfInBounds];by_cases hi:b=i
  ·subst hi;rw[if_pos rfl,h];have:=(Array.getElem?_eq_some_iff.1 h).1;simp[this]
  ·rw[if_neg hi]
 show { w with heap:=w.heap.setIfInBounds b o }=w;rw[this]
def itO(bm:Nat)(vs:Bool)(M:Mp)(m:Nat):SO:=.raw fun x=>∃seen c,x=.mapIter (some bm) M.clk seen c∧M.clk≤c∧(leftOf (M.es.map (Qw vs)).toArray seen).size=m
def cE1(bm:Nat)(vs:Bool)(M:Mp)(m:Nat):SO:=.raw fun x=>∃(seen:Array Nat) (y:List Int×List Int×Nat),x=.mapIter (some bm) M.clk (seen.push y.2.2) M.clk∧y∈M.es∧(leftOf (M.es.map (Qw vs)).toArray (seen.push y.2.2)).size=m
section
variable {cx:Cx} {B:Tabs} {o:Oper} {e:Env} {H:Je} {nx:Nat} {K:Eff→Prop}
theorem bz8(hB:TabsOK cx.P B){t kt et s0 b0:TypeId}{zz:List Value}{x:Operand}{own vs:Bool}{kx n:Nat}{M:Mp}(ho:o.op=.range t x)(ht:Ji B.T t=some ⟨.map kt et,s0,b0,zz⟩)
 (hx:ev e x=.c (.m kx)) (hk0:kx<cx.n0) (hl:look H kx=some (own,Jw vs n M))
 (h:K ⟨.c (.p nx 0 0 0),[kx],[(nx,true,itO (cx.ρ0 kx).blk vs M M.es.length)],[nx]⟩) (hnx:cx.n0≤nx):∃F,CallOK cx o e H nx F∧K F:=by
 have hxo:x∈o.op.operands.toList:=by simp[ho,Op.operands]
 refine⟨_,⟨?_,fun j hj=>by simp at hj;subst hj;simp⟩,h⟩;intro ρ s a w hs hr hkr hnew hdst KK Q hKK;have hl1:look s.H kx=some (own,Jw vs n M):=by rw[hkr kx (by simp)];exact hl
 have hx1:=Jg hxo (fun t ht=>by rw[←hr t ht];exact hs.env t);rw[hx]at hx1;simp only[SV.rel,SC.rel]at hx1;obtain⟨ob,hob,rfl,hM⟩:=(hs.heap.reg kx own _ hl1).keys _ rfl;have hob':w.heap[(ρ kx).blk]? = some (.map (M.es.map (Qw vs)).toArray M.clk):=hob;obtain⟨hf,hlt,hn0⟩:=hnew nx (by simp);have hρ:ρ kx=cx.ρ0 kx:=hs.base kx hk0;rw[hρ]at hx1 hob';have hrun:(execOp a.eval o).run cx.P w=.ok (.value (.pointer (some ⟨w.heap.size,0,none⟩))) (push w (.mapIter (some (cx.ρ0 kx).blk) M.clk #[] M.clk)):=by
  have:=run_range_map (P:=cx.P) w t kt et (cx.ρ0 kx).blk _ _ (Kl hB ht) hob';simp only[execOp,ho,hx1,Sem.run_bind,this,Result.andThen_ok,Sem.run_pure];rfl
 have h1:=hs.newAt (cap:=0) (o:=itO (cx.ρ0 kx).blk vs M M.es.length) (ob:=.mapIter (some (cx.ρ0 kx).blk) M.clk #[] M.clk) hf hlt hn0 (by intro j hj;cases hj)
  ⟨trivial,(fun i j c hc=>by simp[itO,SO.cell?]at hc),(fun _ hx=>absurd rfl (hx _)),(fun _=>by rw[Jq]),(fun Ψ hΨ=>by
   cases hΨ;refine⟨_,by rw[Jq];exact KF ..,#[],M.clk,rfl,Nat.le_refl _, ?_⟩;have:leftOf (M.es.map (Qw vs)).toArray #[]=(M.es.map (Qw vs)).toArray:=Array.filter_eq_self.2 (fun x _=>by simp);rw[this];simp),(fun _ hb=>by cases hb),(fun _ hb=>by cases hb),(fun _ hb=>by cases hb)⟩
 refine JQ (by simp[ho]) hrun (hKK (Ya ρ nx ⟨w.heap.size,0,0,[]⟩) _ _ ?_ (fun j hj=>Jx (by simpa using hj)));refine h1.putO hdst ?_ (by rw[SV.below_c];intro j hj;simp[SC.nms]at hj;subst hj;exact hlt);simp only[SV.rel,SC.rel,Jr,Jq]
theorem bt6{ρ:Jn}{s:St}{a:Act}{w:World}(hs:Sat cx ρ s a w){it:Nat}{o:SO}(hl:look s.H it=some (true,o)){v:Value}(h:(SC.p it 0 0 0).rel ρ v):v=.pointer (some ⟨(ρ it).blk,0,none⟩):=by
 have h0:=(hs.heap.reg it true _ hl).off0 rfl;simp only[SC.rel,Jr,h0]at h
 simpa using h
theorem bt7{x:Operand}{n kx it:Nat}{own vs:Bool}{M:Mp}(ho:o.op=.next x false)
 (hx:ev e x=.c (.p it 0 0 0)) (hk0:kx<cx.n0) {bk:Nat} (hbk:bk=(cx.ρ0 kx).blk) (hit:look H it=some (true,itO bk vs M 0)) (hl:look H kx=some (own,Jw vs n M))
 (h:K ⟨.tup [.inl (.v (.bool false))],[it,kx],[],[]⟩):∃F,CallOK cx o e H nx F∧K F:=by
 subst hbk;have hxo:x∈o.op.operands.toList:=by simp[ho,Op.operands]
 refine⟨_,⟨?_,fun j hj=>by cases hj⟩,h⟩;intro ρ s a w hs hr hkr _ hdst KK Q hKK;have hl1:look s.H kx=some (own,Jw vs n M):=by rw[hkr kx (by simp)];exact hl
 have hl2:look s.H it=some (true,itO (cx.ρ0 kx).blk vs M 0):=by rw[hkr it (by simp)];exact hit
 have hx1:=Jg hxo (fun t ht=>by rw[←hr t ht];exact hs.env t);rw[hx]at hx1;have hxv:=bt6 hs hl2 hx1;have hρ:ρ kx=cx.ρ0 kx:=hs.base kx hk0;obtain⟨ob,hob,rfl,hM⟩:=(hs.heap.reg kx own _ hl1).keys _ rfl;have hob':w.heap[(cx.ρ0 kx).blk]? = some (.map (M.es.map (Qw vs)).toArray M.clk):=by rw[←hρ];exact hob
 obtain⟨oi,hoi,seen,c,rfl,hc,hm⟩:=(hs.heap.reg it true _ hl2).keys _ rfl;have hold:∀y∈(M.es.map (Qw vs)).toArray.toList,y.born<M.clk:=fun y hy=>by
  simp at hy;obtain⟨a,b,c,h,rfl⟩:=hy;exact hM.clk _ h
 have hrun:(execOp a.eval o).run cx.P w=.ok (.value (.tuple #[.bool false])) w:=by
  rcases run_next_at (P:=cx.P) w o.type (ρ it).blk (cx.ρ0 kx).blk M.clk c seen _ _ hoi hob' hold hc with ⟨_,h⟩|⟨y,hy,_⟩
  ·simp only[execOp,ho,hxv,Sem.run_bind,h,Result.andThen_ok,Sem.run_pure]
  ·have:(leftOf (M.es.map (Qw vs)).toArray seen).toList=[]:=by
    have:=Array.eq_empty_of_size_eq_zero hm;rw[this]
   rw[this]at hy;cases hy
 refine JQ (by simp[ho]) hrun (hKK ρ _ _ ?_ (fun _ _=>rfl));refine hs.putO hdst ⟨_,rfl,rfl,trivial⟩ ?_;intro j hj;cases hj
theorem bz9{x:Operand}{n kx it m:Nat}{own vs:Bool}{M:Mp}(ho:o.op=.next x false)
 (hx:ev e x=.c (.p it 0 0 0)) (hk0:kx<cx.n0) {bk:Nat} (hbk:bk=(cx.ρ0 kx).blk) (hit:look H it=some (true,itO bk vs M (m+1))) (hl:look H kx=some (own,Jw vs n M))
 (h:K ⟨.tup [.inl (.v (.bool true)), .inl .junk, .inl .junk],[it,kx],[(it,true,cE1 bk vs M m)],[]⟩):∃F,CallOK cx o e H nx F∧K F:=by
 subst hbk;have hxo:x∈o.op.operands.toList:=by simp[ho,Op.operands]
 refine⟨_,⟨?_,fun j hj=>by cases hj⟩,h⟩;intro ρ s a w hs hr hkr _ hdst KK Q hKK;have hl1:look s.H kx=some (own,Jw vs n M):=by rw[hkr kx (by simp)];exact hl
 have hl2:look s.H it=some (true,itO (cx.ρ0 kx).blk vs M (m+1)):=by rw[hkr it (by simp)];exact hit
 have hx1:=Jg hxo (fun t ht=>by rw[←hr t ht];exact hs.env t);rw[hx]at hx1;have hxv:=bt6 hs hl2 hx1;have hρ:ρ kx=cx.ρ0 kx:=hs.base kx hk0;obtain⟨ob,hob,rfl,hM⟩:=(hs.heap.reg kx own _ hl1).keys _ rfl;have hob':w.heap[(cx.ρ0 kx).blk]? = some (.map (M.es.map (Qw vs)).toArray M.clk):=by rw[←hρ];exact hob
 obtain⟨oi,hoi,seen,c,rfl,hc,hm⟩:=(hs.heap.reg it true _ hl2).keys _ rfl;have hold:∀y∈(M.es.map (Qw vs)).toArray.toList,y.born<M.clk:=fun y hy=>by
  simp at hy;obtain⟨a,b,c,h,rfl⟩:=hy;exact hM.clk _ h
 have hborn:((M.es.map (Qw vs)).toArray.toList.map (·.born)).Nodup:=by
  have:=hM.born
  simpa [Qw,Function.comp_def] using this
 rcases run_next_at (P:=cx.P) w o.type (ρ it).blk (cx.ρ0 kx).blk M.clk c seen _ _ hoi hob' hold hc with ⟨h0,_⟩|⟨y,hy,w1,hw1,h⟩
 ·omega
 have hpush:=bY6 hy hborn;have hym:∃z∈M.es,Qw vs z=y:=by
  have:=(mem_left hy).1
  simpa using this
 obtain⟨z,hz,rfl⟩:=hym;have hrun:(execOp a.eval o).run cx.P w=.ok (.value (.tuple #[.bool true,(Qw vs z).key,(Qw vs z).val])) (w1.putObj (ρ it).blk (.mapIter (some (cx.ρ0 kx).blk) M.clk (seen.push z.2.2) M.clk)):=by
  simp only[execOp,ho,hxv,Sem.run_bind,h,Result.andThen_ok,Sem.run_pure];rfl
 have hsw:Sat cx ρ s a w1:=by
  rcases hw1 with rfl|rfl
  ·exact hs
  ·exact hs.eqHeap rfl
 have hs':=hsw.setObj hl2 (Φ':=fun x=>∃(seen:Array Nat) (y:List Int×List Int×Nat),x=.mapIter (some (cx.ρ0 kx).blk) M.clk (seen.push y.2.2) M.clk∧y∈M.es∧(leftOf (M.es.map (Qw vs)).toArray (seen.push y.2.2)).size=m)
  (.mapIter (some (cx.ρ0 kx).blk) M.clk (seen.push z.2.2) M.clk) ⟨seen,z,rfl,hz,by have:(Qw vs z).born=z.2.2:=rfl;rw[this]at hpush;omega⟩
 refine JQ (by simp[ho]) hrun (hKK ρ _ _ ?_ (fun _ _=>rfl));refine hs'.putO hdst ⟨_,rfl,rfl,trivial,trivial,trivial⟩ ?_;intro j hj;cases hj
end
theorem bA0{cx:Cx}{B:Tabs}(hB:TabsOK cx.P B){id:Nat}{ops:Array Oper}{Q:Exit→St→Prop}{s:St}{o:Oper}{r:List Oper}{x:Operand}{kx it m:Nat}{own:Bool}{M:Mp}{c:Int}(hc:∀y∈M.es,y.2.1=[c])
 (hops:ops.toList=o::r) (ho:o.op=.entry x) (hg:o.guard=none) (hdst:ai5 o.dst cx=true) (hx:ev s.e x=.c (.p it 0 0 0)) (hk0:kx<cx.n0) {bk:Nat} (hbk:bk=(cx.ρ0 kx).blk)
 (hit:look s.H it=some (true,cE1 bk false M m)) (hl:look s.H kx=some (own,Jw false 2 M))
 (h:∀a b:Int,as9 cx B ops r ⟨putO o.dst (.tup [.inr [.v (.int .i64 a), .v (.int .i64 b)], .inl (.v (.int .i64 c))]) s.e,(it,true,itO bk false M m)::s.H,s.nx⟩ (fun s'=>Q .normal s')):Sound cx (.region id ops false) Q s:=by
 subst hbk;refine⟨fun ρ a w hs QQ hQ=>wpIn_region ?_⟩;have hsz:ops.size=r.length+1:=by
  have:=congrArg List.length hops
  simpa using this
 have hget:∀j:Nat,(o::r)[j]? = ops[j]?:=fun j=>by rw[←hops];simp
 have h0:ops[0]? = some o:=by rw[←hget];rfl
 have hx1:=Jg (e:=s.e) (o:=o) (x:=x) (by simp[ho,Op.operands]) (fun t _=>hs.env t);rw[hx]at hx1;have hxv:=bt6 hs hit hx1;have hρ:ρ kx=cx.ρ0 kx:=hs.base kx hk0;obtain⟨ob,hob,rfl,hM⟩:=(hs.heap.reg kx own _ hl).keys _ rfl;have hob':w.heap[(cx.ρ0 kx).blk]? = some (.map (M.es.map (Qw false)).toArray M.clk):=by rw[←hρ];exact hob
 obtain⟨oi,hoi,seen,y,rfl,hy,hm⟩:=(hs.heap.reg it true _ hit).keys _ rfl;have hborn:((M.es.map (Qw false)).toArray.toList.map (·.born)).Nodup:=by
  have:=hM.born
  simpa [Qw,Function.comp_def] using this
 have hlen:=hM.len y hy;obtain⟨a1,b1,hab⟩:∃a1 b1,y.1=[a1,b1]:=by
  match hk:y.1,hlen with
  | [a,b],_=>exact⟨a,b,rfl⟩
 have hrun:(execOp a.eval o).run cx.P w=.ok (.value (.tuple #[Yv y.1, .int .i64 c])) w:=by
  have:=run_entry_at (P:=cx.P) w (ρ it).blk (cx.ρ0 kx).blk M.clk seen (M.es.map (Qw false)).toArray M.clk (Qw false y) hoi hob' (by simpa using ⟨_,_,_,hy,rfl⟩) hborn;simp only[execOp,ho,hxv,Sem.run_bind,this,Result.andThen_ok,Sem.run_pure];simp[Qw,GI,hc y hy]
 have hs':=hs.setObj hit (Φ':=fun x=>∃seen c,x=.mapIter (some (cx.ρ0 kx).blk) M.clk seen c∧M.clk≤c∧(leftOf (M.es.map (Qw false)).toArray seen).size=m)
  (.mapIter (some (cx.ρ0 kx).blk) M.clk (seen.push y.2.2) M.clk) ⟨seen.push y.2.2,M.clk,rfl,Nat.le_refl _,hm⟩
 rw[bz7 hoi]at hs';rw[List.range_eq_range',hsz,List.range'_succ];simp only[wpOpsIn,h0];rw[if_pos (by simp[Region.wanted,hg])];refine JQ (by simp[ho]) hrun ?_;refine av3 hB (K:=fun s'=>Q .normal s') (Q:=QQ) (fun ρ' s' a' w' h1 h2=>hQ _ _ _ _ _ h1 h2) r 1 (fun j=>by rw[Nat.add_comm,←hget];rfl) _ ρ _ w (h a1 b1) ?_;refine hs'.putO (aH9 hdst) ⟨_,rfl,⟨_,rfl, ?_⟩,rfl,trivial⟩ (by intro j hj;cases hj);rw[hab];exact⟨rfl,rfl,trivial⟩
end Sx
end Go
namespace Go
namespace Sx
section
variable {cx:Cx} {B:Tabs} {o:Oper} {e:Env} {H:Je} {nx:Nat} {K:Eff→Prop}
theorem bN6(hB:TabsOK cx.P B){t:TypeId}{x y:Operand}{ba:ByteArray}{k:IntKind}{i:Int}{s0 b0:Nat}{z0:List Value}(ho:o.op=.index t x y)(ht:Ji B.T t=some ⟨.string,s0,b0,z0⟩)
 (hx:ev e x=.c (.v (.string ba))) (hy:ev e y=iv k i) (j:Nat) (hj:i=(j:Int)) (b:UInt8) (h3:ba[j]? = some b) (hK:K ⟨iv .u8 (b.toNat:Nat),[],[],[]⟩):∃f,CallOK cx o e H nx f∧K f:=by
 refine Yx (by simp[ho]) (Xp (fun n=>YJ n _ _) fun ρ a w hr=>⟨_, ?_,rfl⟩) hK;have h1:=Xg (x:=x) (by simp[ho,Op.operands]) hx hr;have h2:=Xg (x:=y) (by simp[ho,Op.operands]) hy hr;have hu:=aC4 hB ht w;subst hj;simp[execOp,ho,h1,h2,Instr.index,asIntOf,hu,h3]
end
end Sx
end Go
