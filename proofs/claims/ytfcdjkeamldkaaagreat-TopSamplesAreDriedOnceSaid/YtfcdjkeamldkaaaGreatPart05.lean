/-
  A part of the proof that a law answers true: lemmas of a symbolic walk, plain functions, or contracts of the functions walked (SxC, SxD, Sx15). Conditions: none.
-/
import Derived.Test.YtfcdjkeamldkaaaGreatPart04
set_option maxRecDepth 100000
set_option linter.unusedVariables false
set_option linter.unusedSimpArgs false
namespace Go
namespace Sx
structure Sound (cx:Cx) (c:Code) (Q:Exit→St→Prop) (s:St):Prop where
 h:∀(ρ:Jn) (a:Act) (w:World),Sat cx ρ s a w→∀(QQ:Exit→Act→World→Prop),
  (∀ex s' ρ' a' w',Q ex s'→Sat cx ρ' s' a' w'→QQ ex a' w')→c.wpIn (WF cx.rd) 0 cx.P QQ a w
def GQ(e:Edge):Bool:=match e.ground with
 | .textOnly _=>false
 | .gcOnly _=>false
 |_=>true
theorem ai7(e:Edge):Region.binds .any e=GQ e:=by
 unfold Region.binds GQ;cases e.ground <;> rfl
def be3(A:List (Nat×Nat))(i:Nat):List Edge→Nat→Option Nat
 | [],m=>some m
 |e::r,m=>bif GQ e then(bif Nat.blt e.on i then(match Ku A e.on with
  |some m'=>be3 A i r (Nat.lor (bit e.on) (Nat.lor m' m))
  |none=>none)else none)else be3 A i r m
def aX2:List Oper→Nat→List (Nat×Nat)→(List (Nat×Nat)→Prop)→Prop
 | [],_,A,K=>K A
 |o::r,i,A,K=>match be3 A i o.after.toList 0 with
  |some m=>XY m fun m=>XY (i+1) fun j=>aX2 r j ((i,m)::A) K
  |none=>False
def Xb(d:Option Nat)(l:List Nat):Bool:=match d with
 |some d=>Ys d l
 |none=>false
def Gd(d e:Option Nat):Bool:=match d,e with
 |some d,some e=>Nat.beq d e
 |_,_=>false
def WH(x y:LogE):Bool :=
 bif Xb x.d y.rs then true else bif Xb y.d x.rs then true else bif Gd x.d y.d then true else bif Jy (keys x.wr) y.rd then true else
 bif Jy (keys x.wr) (keys y.wr)then true else bif Jy (keys y.wr) x.rd then true else bif Jy x.news y.nms then true else Jy y.news x.nms
def aT7(m:Nat)(y:LogE):List (Nat×LogE)→Bool
 | []=>true
 |(i,x)::r=>bif WH x y then(bif XB m i then(bif Jy y.news x.nms then false else aT7 m y r)else false)else aT7 m y r
def aX3(A:List (Nat×Nat)):Nat→List LogE→List (Nat×LogE)→Bool
 |_,[],_=>true
 |i,y::r,done=>match Ku A i with
  |some m=>bif aT7 m y done then aX3 A (i+1) r ((i,y)::done)else false
  |none=>false
def ap7(n:Nat):List Nat→Bool
 | []=>true
 |x::r=>bif Nat.ble n x then ap7 n r else false
theorem bg7{n:Nat}:∀ {l:List Nat},ap7 n l=true→∀k∈l,n≤k
 | [],_,_,h=>by cases h
 |x::r,h,k,hk=>by
  simp only[ap7]at h;cases hb:Nat.ble n x with
  |false=>simp[hb]at h
  |true =>
   simp[hb]at h;rcases List.mem_cons.1 hk with rfl|hk
   ·exact Nat.le_of_ble_eq_true hb
   ·exact bg7 h k hk
def ap8(nx n:Nat):List LogE→Bool
 | []=>true
 |x::r=>bif XR n x.news then(bif ap7 nx x.news then ap8 nx n r else false)else false
def ax5:List (Nat×Bool)→Env→(Env→Prop)→Prop
 | [],e,K=>K e
 |(d,t)::r,e,K=>ax5 r e fun e=>K (.put d (.c (.b t)) e)
theorem aX4{l:List (Nat×Bool)}{e:Env}{K:Env→Prop}:ax5 l e K=K (ovl l e):=by
 induction l generalizing K with
 |nil=>rfl
 |cons c l ih=>simp[ax5,ih,ovl]
def cr1(cx:Cx)(B:Tabs)(ops:Array Oper)(Q:St→Prop)(s:St):Prop :=
 aX2 ops.toList 0 [] fun A=>Kc cx B ops ops.toList s [] [] fun log s' gs =>
  match s' with
  |⟨e',H',nx'⟩=>bif aX3 A 0 log []&&ap8 s.nx nx' log then ax5 gs e' fun e'=>Q ⟨e',H',nx'⟩else False
theorem Kk{gs:List (Nat×Bool)}{e:Env}{i:Nat}:(ovl gs e).get i=match Ve gs i with
 |some t=>.c (.b t)
 |none=>e.get i:=by
 induction gs with
 |nil=>rfl
 |cons p r ih =>
  obtain⟨d,t⟩:=p;simp only[ovl,Ve];rw[XA];cases hb:Nat.beq i d with
  |true=>simp[Nat.eq_of_beq_eq_true hb]
  |false=>rw[if_neg (Nat.ne_of_beq_eq_false hb),ih];simp
def bp4(a b:SV):Prop:=a=b∨∃t,WV a t∧WV b t
theorem am5{ρ:Jn}{sv:SV}{t:Bool}{v:Value}(h:WV sv t):sv.rel ρ v↔v=.bool t:=by
 rcases h with rfl|rfl <;> simp[SV.rel,SC.rel]
theorem bx5{sv:SV}{t:Bool}{ks:List Nat}(h:WV sv t):sv.uses ks=false:=by
 rcases h with rfl|rfl <;> simp[SV.uses,SC.uses,SC.nms,Jy]
theorem bp4.rel{ρ:Jn}{a b:SV}{v:Value}(h:bp4 a b)(hr:a.rel ρ v):b.rel ρ v:=by
 rcases h with rfl|⟨t,h1,h2⟩
 ·exact hr
 ·exact(am5 h2).2 ((am5 h1).1 hr)
theorem bp4.uses{a b:SV}{ks:List Nat}(h:bp4 a b)(hr:b.uses ks=true):a.uses ks=true:=by
 rcases h with rfl|⟨t,h1,h2⟩
 ·exact hr
 ·rw[bx5 h2]at hr;cases hr
theorem Sat.congr{cx:Cx}{ρ:Jn}{s s':St}{a:Act}{w:World}(h:Sat cx ρ s a w)(he:∀i,bp4 (s.e.get i) (s'.e.get i))(hH:∀k,look s'.H k=look s.H k)(hn:s'.nx=s.nx)(hmk:s'.e.marks=s.e.marks):Sat cx ρ s' a w where
 size:=h.size
 defers:=by rw[hmk];exact h.defers
 env i:=(he i).rel (h.env i)
 heap :=
  {
   frm:=h.heap.frm
   reg:=fun k own o hl=>h.heap.reg k own o (by rw[←hH];exact hl)
   apart:=fun k k' o own' o' hne hl hl'=>h.heap.apart k k' o own' o' hne (by rw[←hH];exact hl) (by rw[←hH];exact hl')
   fresh:=fun k o hl=>h.heap.fresh k o (by rw[←hH];exact hl)
   valid:=fun k own o hl=>h.heap.valid k own o (by rw[←hH];exact hl) }
 bnd:=⟨fun i k hk=>by rw[hn];exact h.bnd.env i k ((he i).uses hk),fun k hk=>by rw[hn];exact h.bnd.mks k (by rw[←hmk];exact hk),fun k own o hl=>by rw[hn];exact h.bnd.heap k own o (by rw[←hH];exact hl)⟩
 base:=h.base
 keep:=h.keep
 n0:=by rw[hn];exact h.n0
theorem Ga{gs:List (Nat×Bool)}{e:Env}:(ovl gs e).marks=e.marks:=by
 induction gs with
 |nil=>rfl
 |cons p r ih=>obtain⟨d,t⟩:=p;simpa [ovl,Env.marks] using ih
theorem Ge{d:Option Nat}{sv:SV}{e:Env}:(putO d sv e).marks=e.marks:=by cases d <;> rfl
theorem Kx:∀ {l:List LogE} {p:Env×Je},(YB p l).1.marks=p.1.marks
 | [],_=>rfl
 |x::l,p=>by simp only[YB];rw[Kx];simp[Kg,Ge]
def Vf(S:Nat→Bool):Nat→List LogE→List LogE
 |_,[]=>[]
 |k,x::r=>if S k then x::Vf S (k+1) r else Vf S (k+1) r
def dIs(t:Nat)(x:LogE):Bool:=x.d==some t
def wIs(k:Nat)(x:LogE):Bool:=Ys k (keys x.wr)
theorem XJ{t:Nat}:∀ {l:List LogE} {p q:Env×Je},p.1.get t=q.1.get t→(YB p l).1.get t=(YB q (l.filter (dIs t))).1.get t
 | [],_,_,h=>h
 |x::l,p,q,h=>by
  simp only[YB];by_cases hx:dIs t x=true
  ·rw[List.filter_cons_of_pos hx];simp only[YB];refine XJ ?_;simp only[dIs,beq_iff_eq]at hx;simp[Kg,hx,putO,XA]
  ·rw[List.filter_cons_of_neg (by simpa using hx)];refine XJ ?_;simp only[dIs,beq_iff_eq]at hx;simp only[Kg];cases hd:x.d with
   |none=>exact h
   |some d =>
    rw[hd]at hx;simp only[putO];rw[XA,if_neg (by rintro rfl;exact hx rfl)];exact h
theorem Yd{k:Nat}:∀ {l:List LogE} {p q:Env×Je},look p.2 k=look q.2 k→look (YB p l).2 k=look (YB q (l.filter (wIs k))).2 k
 | [],_,_,h=>h
 |x::l,p,q,h=>by
  simp only[YB];have hlk:∀p:Env×Je,look (Kg p x).2 k=(look x.wr k).or (look p.2 k):=fun p=>Yi;by_cases hx:wIs k x=true
  ·rw[List.filter_cons_of_pos hx];simp only[YB];refine Yd ?_;rw[hlk,hlk,h]
  ·rw[List.filter_cons_of_neg (by simpa using hx)];refine Yd ?_;rw[hlk,h];have:look x.wr k=none:=by
    cases hl:look x.wr k with
    |none=>rfl
    |some y=>exact absurd (JY.2 (Xm hl)) hx
   simp[this]
theorem GR{p:LogE→Bool}:∀(S:Nat→Bool) (l:List LogE) (k m:Nat),(∀i x,l[i]? = some x→p x=true→(S (k+i)=true↔i<m))→(Vf S k l).filter p=(l.take m).filter p
 |S,[],k,m,h=>by simp[Vf]
 |S,x::l,k,m,h=>by
  have ih:=fun m=>GR (p:=p) S l (k+1) m;simp only[Vf];by_cases hp:p x=true
  ·have h0:=h 0 x (by simp) hp;by_cases hm:0<m
   ·obtain⟨m',rfl⟩:∃m',m=m'+1:=⟨m-1,by omega⟩;rw[if_pos (by simpa using h0.2 hm),List.take_succ_cons,List.filter_cons_of_pos hp,List.filter_cons_of_pos hp];congr 1;refine ih m' fun i y hy hpy=>?_;have:=h (i+1) y (by simpa using hy) hpy;rw[show k+1+i=k+(i+1)from by omega,this];omega
   ·have hm0:m=0:=by omega
    subst hm0;rw[if_neg (by intro hs;have:=h0.1 (by simpa using hs);omega)];have:=ih 0 fun i y hy hpy=>by
     have:=h (i+1) y (by simpa using hy) hpy;rw[show k+1+i=k+(i+1)from by omega,this];omega
    rw[this];simp
  ·cases m with
   |zero =>
    have:=ih 0 fun i y hy hpy=>by
     have:=h (i+1) y (by simpa using hy) hpy;rw[show k+1+i=k+(i+1)from by omega,this];omega
    split
    ·rw[List.filter_cons_of_neg hp,this];simp
    ·rw[this];simp
   |succ m =>
    have:=ih m fun i y hy hpy=>by
     have:=h (i+1) y (by simpa using hy) hpy;rw[show k+1+i=k+(i+1)from by omega,this];omega
    rw[List.take_succ_cons,List.filter_cons_of_neg hp];split
    ·rw[List.filter_cons_of_neg hp,this]
    ·rw[this]
def Vg(S:Nat→Bool)(j:Nat):Nat→Bool:=fun i=>if i=j then true else S i
theorem bp5:∀(S S':Nat→Bool) (l:List LogE) (k:Nat),(∀i,k≤i→S i=S' i)→Vf S k l=Vf S' k l
 |_,_,[],_,_=>rfl
 |S,S',x::l,k,h=>by
  simp only[Vf];rw[h k (Nat.le_refl _),bp5 S S' l (k+1) (fun i hi=>h i (by omega))]
theorem ao2{p:LogE→Bool}:∀(S:Nat→Bool) (l:List LogE) (k j:Nat) (y:LogE),l[j]? = some y→S (k+j)=false→(∀i x,l[i]? = some x→j<i→p y=true→p x=true→S (k+i)=false) →
 (Vf (Vg S (k+j)) k l).filter p=(Vf S k l++[y]).filter p
 |S,[],k,j,y,h,_,_=>by simp at h
 |S,x::l,k,0,y,h,hs,hl=>by
  simp at h;subst h;simp only[Vf,Nat.add_zero]at hs ⊢;have h1:Vg S k k=true:=by simp[Vg]
  rw[if_pos h1,if_neg (by simp[hs]),bp5 (Vg S k) S l (k+1) (fun i hi=>by simp only[Vg];rw[if_neg (by omega)])];rw[List.filter_append];by_cases hp:p x=true
  ·rw[List.filter_cons_of_pos hp];have hnil:(Vf S (k+1) l).filter p=[]:=by
    have:=GR (p:=p) S l (k+1) 0 (fun i z hz hpz=>by
     have:=hl (i+1) z (by simpa using hz) (by omega) hp hpz;rw[show k+1+i=k+(i+1)from by omega,this];simp)
    rw[this];simp
   rw[hnil];simp[hp]
  ·rw[List.filter_cons_of_neg hp];simp[hp]
 |S,x::l,k,j+1,y,h,hs,hl=>by
  have ih:=ao2 S l (k+1) j y (by simpa using h) (by rw[show k+1+j=k+(j+1)from by omega];exact hs) (fun i z hz hij hpy hpz=>by
   have:=hl (i+1) z (by simpa using hz) (by omega) hpy hpz;rw[show k+1+i=k+(i+1)from by omega];exact this)
  rw[show k+1+j=k+(j+1)from by omega]at ih;simp only[Vf];have h1:Vg S (k+(j+1)) k=S k:=by simp only[Vg];rw[if_neg (by omega)]
  rw[h1];split
  ·rw[List.cons_append,List.filter_cons,List.filter_cons,ih]
  ·exact ih
theorem be4:∀(S:Nat→Bool) (l:List LogE) (k:Nat),(∀i,i<l.length→S (k+i)=true)→Vf S k l=l
 |_,[],_,_=>rfl
 |S,x::l,k,h=>by
  simp only[Vf];rw[if_pos (by simpa using h 0 (by simp)),be4 S l (k+1) (fun i hi=>by rw[show k+1+i=k+(i+1)from by omega];exact h (i+1) (by simpa using hi))]
theorem aN9:∀ {S:Nat→Bool} {l:List LogE} {k:Nat} {x:LogE},x∈Vf S k l→∃i,l[i]? = some x∧S (k+i)=true
 |_,[],_,_,h=>by cases h
 |S,y::l,k,x,h=>by
  simp only[Vf]at h;split at h
  ·rename_i hs
   rcases List.mem_cons.1 h with rfl|h
   ·exact⟨0,by simp,by simpa using hs⟩
   ·obtain⟨i,h1,h2⟩:=aN9 h;exact⟨i+1,by simpa using h1,by rw[show k+(i+1)=k+1+i from by omega];exact h2⟩
  ·obtain⟨i,h1,h2⟩:=aN9 h;exact⟨i+1,by simpa using h1,by rw[show k+(i+1)=k+1+i from by omega];exact h2⟩
theorem av6:∀ {l:List LogE} {p:Env×Je} {t:Nat},(YB p l).1.get t=p.1.get t∨∃x∈l,(YB p l).1.get t=x.sv
 | [],_,_=>.inl rfl
 |x::l,p,t=>by
  simp only[YB];rcases av6 (l:=l) (p:=Kg p x) (t:=t)with h|⟨y,hy,h⟩
  ·rw[h];cases hd:x.d with
   |none=>left;simp[Kg,hd,putO]
   |some d =>
    by_cases ht:t=d
    ·right;exact⟨x,by simp,by simp[Kg,hd,putO,XA,ht]⟩
    ·left;simp[Kg,hd,putO,XA,ht]
  ·exact .inr ⟨y,List.mem_cons_of_mem _ hy,h⟩
theorem ap9:∀ {l:List LogE} {p:Env×Je} {k:Nat} {o:Bool×SO},look (YB p l).2 k=some o→look p.2 k=some o∨∃x∈l,look x.wr k=some o
 | [],_,_,_,h=>.inl h
 |x::l,p,k,o,h=>by
  simp only[YB]at h;rcases ap9 (l:=l) (p:=Kg p x) h with h|⟨y,hy,h⟩
  ·simp only[Kg]at h;rw[Yi]at h;cases hx:look x.wr k with
   |none=>rw[hx]at h;simp at h;exact .inl h
   |some z=>rw[hx]at h;simp at h;subst h;exact .inr ⟨x,by simp,hx⟩
  ·exact .inr ⟨y,List.mem_cons_of_mem _ hy,h⟩
def UK(ops:Array Oper)(S:Nat→Bool):Prop:=∀i o,ops[i]? = some o→S i=true→∀e∈o.after,GQ e=true→S e.on=true
def bl9(ops:Array Oper)(A:List (Nat×Nat)):Prop:=∀i m,(i,m)∈A→∀S,UK ops S→S i=true→∀j,XB m j=true→S j=true
theorem bg8(a b j:Nat):XB (Nat.lor a b) j=(XB a j||XB b j):=by
 simp only[UT];exact Nat.testBit_or a b j
theorem bT1(a j:Nat):XB (bit a) j=true↔j=a:=by
 rw[UT];show(1<<<a).testBit j=true↔_;rw[Nat.one_shiftLeft,Nat.testBit_two_pow];simp[eq_comm]
theorem bH9(j:Nat):XB 0 j=false:=by rw[UT];simp
theorem be5{ops:Array Oper}{A:List (Nat×Nat)}(hA:bl9 ops A){i:Nat}:∀(es:List Edge) (m m':Nat),be3 A i es m=some m' →
 (∀S,UK ops S→(∀e∈es,GQ e=true→S e.on=true)→(∀j,XB m j=true→S j=true)→∀j,XB m' j=true→S j=true)∧∀e∈es,GQ e=true→e.on<i
 | [],m,m',h=>by simp[be3]at h;subst h;exact⟨fun S _ _ h=>h,by simp⟩
 |e::r,m,m',h=>by
  simp only[be3]at h;cases hb:GQ e with
  |false =>
   simp[hb]at h;have ih:=be5 hA r m m' h;refine⟨fun S hS he hm=>ih.1 S hS (fun e' he'=>he e' (List.mem_cons_of_mem _ he')) hm,fun e' he' hb'=>?_⟩;rcases List.mem_cons.1 he' with rfl|he'
   ·rw[hb]at hb';cases hb'
   ·exact ih.2 e' he' hb'
  |true =>
   simp only[hb,cond_true]at h;cases hl:Nat.blt e.on i with
   |false=>simp[hl]at h
   |true =>
    simp only[hl,cond_true]at h;split at h
    ·rename_i mm hmm
     have ih:=be5 hA r _ m' h;refine⟨fun S hS he hm=>ih.1 S hS (fun e' he'=>he e' (List.mem_cons_of_mem _ he')) ?_,fun e' he' hb'=>?_⟩
     ·intro j hj;rw[bg8,bg8]at hj;simp only[Bool.or_eq_true]at hj;have hon:=he e (List.mem_cons_self ..) hb;rcases hj with hj|hj|hj
      ·rw[(bT1 _ _).1 hj];exact hon
      ·exact hA _ _ (as5 hmm) S hS hon j hj
      ·exact hm j hj
     ·rcases List.mem_cons.1 he' with rfl|he'
      ·exact Eq.mp Nat.blt_eq hl
      ·exact ih.2 e' he' hb'
    ·cases h
theorem aT8{ops:Array Oper}{K:List (Nat×Nat)→Prop}:∀(l:List Oper) (i:Nat) (A:List (Nat×Nat)),(∀j,l[j]? = ops[i+j]?)→bl9 ops A→aX2 l i A K →
 ∃A',K A'∧bl9 ops A'∧∀j o,l[j]? = some o→∀e∈o.after,GQ e=true→e.on<i+j
 | [],i,A,hl,hA,h=>⟨A,h,hA,by simp⟩
 |o::r,i,A,hl,hA,h=>by
  simp only[aX2]at h;split at h
  ·rename_i m hm
   simp only[WQ]at h;have ho:ops[i]? = some o:=by simpa using (hl 0).symm
   have he:=be5 hA o.after.toList 0 m hm;have hA':bl9 ops ((i,m)::A):=by
    intro i' m' hmem S hS hSi j hj;rcases List.mem_cons.1 hmem with heq|hmem
    ·simp at heq;obtain⟨rfl,rfl⟩:=heq;refine he.1 S hS (fun e hee hb=>hS _ o ho hSi e (by simpa using hee) hb) (fun j hj=>by rw[bH9]at hj;cases hj) j hj
    ·exact hA i' m' hmem S hS hSi j hj
   obtain⟨A',hK,hA2,hb⟩:=aT8 r (i+1) _ (fun j=>by have:=hl (j+1);simpa [Nat.add_assoc,Nat.add_comm 1 j] using this) hA' h;refine⟨A',hK,hA2,fun j o' ho' e hee hb'=>?_⟩;cases j with
   |zero=>simp at ho';subst ho';have:=he.2 e (by simpa using hee) hb';omega
   |succ j=>have:=hb j o' (by simpa using ho') e hee hb';omega
  ·exact h.elim
theorem bC1{m:Nat}{y:LogE}:∀ {l:List (Nat×LogE)},aT7 m y l=true→∀i x,(i,x)∈l→WH x y=true→XB m i=true∧Jy y.news x.nms=false
 | [],_,_,_,h,_=>by cases h
 |(i0,x0)::r,h,i,x,hm,hc=>by
  simp only[aT7]at h;rcases List.mem_cons.1 hm with he|hm
  ·simp at he;obtain⟨rfl,rfl⟩:=he;rw[hc]at h;simp only[cond_true]at h;cases hb:XB m i with
   |false=>simp[hb]at h
   |true =>
    simp only[hb,cond_true]at h;cases hn:Jy y.news x.nms with
    |true=>simp[hn]at h
    |false=>exact⟨rfl,rfl⟩
  ·have hr:aT7 m y r=true:=by
    cases h0:WH x0 y with
    |false=>simpa [h0] using h
    |true =>
     simp only[h0,cond_true]at h;cases hb:XB m i0 with
     |false=>simp[hb]at h
     |true =>
      simp only[hb,cond_true]at h;cases hn:Jy y.news x0.nms with
      |true=>simp[hn]at h
      |false=>simpa [hn] using h
   exact bC1 hr i x hm hc
theorem bg9{A:List (Nat×Nat)}:∀(l:List LogE) (k:Nat) (done:List (Nat×LogE)),aX3 A k l done=true →
 ∀j y,l[j]? = some y→∃m,(k+j,m)∈A∧(∀i x,(i,x)∈done→WH x y=true→XB m i=true∧Jy y.news x.nms=false) ∧
  ∀i x,i<j→l[i]? = some x→WH x y=true→XB m (k+i)=true∧Jy y.news x.nms=false
 | [],_,_,_,j,y,h=>by simp at h
 |z::l,k,done,h,j,y,hy=>by
  simp only[aX3]at h;split at h
  ·rename_i m hm
   cases hc:aT7 m z done with
   |false=>simp[hc]at h
   |true =>
    simp only[hc,cond_true]at h;cases j with
    |zero =>
     simp at hy;subst hy;exact⟨m,as5 hm,fun i x hi hcf=>bC1 hc i x hi hcf,fun i x hi=>by omega⟩
    |succ j =>
     obtain⟨m',h1,h2,h3⟩:=bg9 l (k+1) ((k,z)::done) h j y (by simpa using hy);refine⟨m',by rw[show k+(j+1)=k+1+j from by omega];exact h1,fun i x hi=>h2 i x (List.mem_cons_of_mem _ hi),fun i x hij hx hcf=>?_⟩;cases i with
     |zero=>simp at hx;subst hx;exact h2 k z (List.mem_cons_self ..) hcf
     |succ i =>
      have:=h3 i x (by omega) (by simpa using hx) hcf;rw[show k+(i+1)=k+1+i from by omega];exact this
  ·cases h
theorem aI4{nx n:Nat}:∀ {l:List LogE},ap8 nx n l=true→∀x∈l,∀k∈x.news,nx≤k∧k<n
 | [],_,_,h=>by cases h
 |y::l,h,x,hx=>by
  simp only[ap8]at h;obtain⟨h1,h⟩:XR n y.news=true∧(bif ap7 nx y.news then ap8 nx n l else false)=true:=by
   cases h1:XR n y.news <;> simp_all
  obtain⟨h2,h⟩:ap7 nx y.news=true∧ap8 nx n l=true:=by
   cases h1:ap7 nx y.news <;> simp_all
  rcases List.mem_cons.1 hx with rfl|hx
  ·exact fun k hk=>⟨bg7 h2 k hk,Xj.1 h1 k hk⟩
  ·exact aI4 h x hx
theorem bT2{x y:LogE}{d:Nat}(h1:x.d=some d)(h2:d∈y.rs):WH x y=true:=by
 simp[WH,Xb,h1,JY.2 h2]
theorem bT3{x y:LogE}{d:Nat}(h1:y.d=some d)(h2:d∈x.rs):WH x y=true:=by
 have:Xb y.d x.rs=true:=by simp[Xb,h1,JY.2 h2]
 simp only[WH,this];cases Xb x.d y.rs <;> rfl
theorem cg3{x y:LogE}{d:Nat}(h1:x.d=some d)(h2:y.d=some d):WH x y=true:=by
 have:Gd x.d y.d=true:=by simp[Gd,h1,h2]
 simp only[WH,this];cases Xb x.d y.rs <;> cases Xb y.d x.rs <;> rfl
theorem bI0{x y:LogE}{k:Nat}(h1:k∈keys x.wr)(h2:k∈y.rd):WH x y=true:=by
 have:Jy (keys x.wr) y.rd=true:=Qm.2 ⟨k,h2,h1⟩;simp only[WH,this];cases Xb x.d y.rs <;> cases Xb y.d x.rs <;> cases Gd x.d y.d <;> rfl
theorem bI1{x y:LogE}{k:Nat}(h1:k∈keys x.wr)(h2:k∈keys y.wr):WH x y=true:=by
 have:Jy (keys x.wr) (keys y.wr)=true:=Qm.2 ⟨k,h2,h1⟩;simp only[WH,this];cases Xb x.d y.rs <;> cases Xb y.d x.rs <;> cases Gd x.d y.d <;> cases Jy (keys x.wr) y.rd <;> rfl
theorem bI2{x y:LogE}{k:Nat}(h1:k∈keys y.wr)(h2:k∈x.rd):WH x y=true:=by
 have:Jy (keys y.wr) x.rd=true:=Qm.2 ⟨k,h2,h1⟩;simp only[WH,this];cases Xb x.d y.rs <;> cases Xb y.d x.rs <;> cases Gd x.d y.d <;> cases Jy (keys x.wr) y.rd <;> cases Jy (keys x.wr) (keys y.wr) <;> rfl
theorem bT4{x y:LogE}{k:Nat}(h1:k∈x.news)(h2:k∈y.nms):WH x y=true:=by
 have:Jy x.news y.nms=true:=Qm.2 ⟨k,h2,h1⟩;simp only[WH,this];cases Xb x.d y.rs <;> cases Xb y.d x.rs <;> cases Gd x.d y.d <;> cases Jy (keys x.wr) y.rd <;> cases Jy (keys x.wr) (keys y.wr) <;> cases Jy (keys y.wr) x.rd <;> rfl
theorem bI3{x y:LogE}{k:Nat}(h1:k∈y.news)(h2:k∈x.nms):WH x y=true:=by
 have:Jy y.news x.nms=true:=Qm.2 ⟨k,h2,h1⟩;simp only[WH,this];cases Xb x.d y.rs <;> cases Xb y.d x.rs <;> cases Gd x.d y.d <;> cases Jy (keys x.wr) y.rd <;> cases Jy (keys x.wr) (keys y.wr) <;> cases Jy (keys y.wr) x.rd <;> cases Jy x.news y.nms <;> rfl
theorem bT5{x:LogE}{k:Nat}(h:x.sv.uses [k]=true):k∈x.nms:=List.mem_append_left _ (SV.uses_nms.1 h)
theorem aX5{x:LogE}{k j:Nat}{own:Bool}{o:SO}(h:look x.wr j=some (own,o))(hk:j=k∨o.uses [k]=true):k∈x.nms:=by
 have:=VP h;rcases hk with rfl|hk
 ·exact List.mem_append_right _ this.1
 ·exact List.mem_append_right _ (this.2 k (SO.uses_nms.1 hk))
theorem bI4{cx:Cx}{B:Tabs}(hB:TabsOK cx.P B){id:Nat}{ops:Array Oper}{Q:Exit→St→Prop}{s:St}(h:cr1 cx B ops (fun s'=>Q .normal s') s):Sound cx (.region id ops true) Q s:=by
 refine⟨fun ρ a w hs QQ hQ=>?_⟩;obtain⟨A,h,hA,hback⟩:=aT8 (ops:=ops) ops.toList 0 [] (by simp) (by intro i m hm;cases hm) h;obtain⟨log,s',gs,hK,hlog,hfin,hgs,hle⟩:=aT6 hB ops.toList s [] [] h (by intro d t hm;cases hm) hs.n0;simp only[List.reverse_nil,List.nil_append]at hK;obtain⟨hchk,hq⟩:=YS hK;simp only[aX4]at hq;simp only[Bool.and_eq_true]at hchk;obtain⟨hchk,hnews⟩:=hchk;have hchk:=bg9 log 0 [] hchk;have hnews:=aI4 hnews;obtain⟨hlen,hget⟩:=hlog.get;have hlen':log.length=ops.size:=by simpa using hlen
 simp only[Nat.zero_add]at hchk hback;have pair:∀i j x y,i<j→log[i]? = some x→log[j]? = some y→WH x y=true→(∀S,UK ops S→S j=true→S i=true)∧∀k∈y.news,k∉x.nms:=by
  intro i j x y hij hx hy hc;obtain⟨m,hm,_,h3⟩:=hchk j y hy;have:=h3 i x hij hx hc;refine⟨fun S hS hj=>hA j m hm S hS hj i this.1,fun k hk hkx=>?_⟩;have h4:Jy y.news x.nms=true:=Qm.2 ⟨k,hkx,hk⟩;rw[this.2]at h4;cases h4
 let stS:(Nat→Bool)→St:=fun S=>⟨(YB (s.e,s.H) (Vf S 0 log)).1,(YB (s.e,s.H) (Vf S 0 log)).2,s'.nx⟩
 have key:∀fuel (listed:Array Bool) (ρ:Jn) (a:Act) (w:World),listed.size=ops.size→listed.toList.count false=fuel→UK ops (fun i=>listed.getD i false) →
  Sat cx ρ (stS fun i=>listed.getD i false) a w→wpAnyIn (WF cx.rd) 0 cx.P .any ops QQ fuel listed a w:=by
  intro fuel
  induction fuel with
  |zero =>
   intro listed ρ a w hsz hcnt hcl hsat;have hall:∀i,i<ops.size→listed.getD i false=true:=by
    intro i hi
    have:listed[i]'(by omega)≠false:=by
     intro hf;have hm:false∈listed.toList:=by rw[←hf];simp
     have:=List.count_pos_iff.2 hm;omega
    simp[Array.getD,show i<listed.size by omega]
    simpa using this
   refine wpAnyIn_done ?_ ?_ 0
   ·cases hr:Region.ready .any ops listed with
    |nil=>rfl
    |cons j r =>
     have hj:j∈Region.ready .any ops listed:=by rw[hr];exact List.mem_cons_self ..
     obtain⟨h1,o,ho,_⟩:=mem_ready.1 hj;have hlt:j<ops.size:=(Array.getElem?_eq_some_iff.1 ho).1;have:=hall j hlt;simp[Array.getD,show j<listed.size by omega]at h1 this;rw[h1]at this;cases this
   ·have hsel:Vf (fun i=>listed.getD i false) 0 log=log:=be4 _ _ _ fun i hi=>by
     simp only[Nat.zero_add];exact hall i (by omega)
    have e1:stS (fun i=>listed.getD i false)=⟨s'.e,s'.H,s'.nx⟩:=by
     simp only[stS,hsel,←hfin]
    rw[e1]at hsat;refine hQ _ ⟨ovl gs s'.e,s'.H,s'.nx⟩ ρ a w hq (hsat.congr (fun i=>?_) (fun _=>rfl) rfl Ga);simp only[Kk];cases hg:Ve gs i with
    |none=>exact .inl rfl
    |some t=>exact .inr ⟨t,hgs i t (Kv hg), .inl rfl⟩
  |succ fuel ih =>
   intro listed ρ a w hsz hcnt hcl hsat;obtain⟨S,hS⟩:∃S:Nat→Bool,S=fun i=>listed.getD i false:=⟨_,rfl⟩;rw[←hS]at hcl hsat;refine⟨fun hr=>?_,fun j hj=>?_⟩
   ·
     exfalso;have hex:∃i,i<ops.size∧S i=false:=by
      have hm:false∈listed.toList:=List.count_pos_iff.1 (by omega);obtain⟨i,hi,he⟩:=List.mem_iff_getElem.1 hm;refine⟨i,by simpa [hsz] using hi, ?_⟩;have hi':i<listed.size:=by simpa using hi
      rw[hS];simp[Array.getD,hi']
      simpa using he
     have hmin:∀n i,i<n→i<ops.size→S i=false→∃j,j<ops.size∧S j=false∧∀i,i<j→S i=true:=by
      intro n
      induction n with
      |zero=>intro i hi;omega
      |succ n ihn =>
       intro i hi hio hSi;by_cases hlow:∃i',i'<i∧S i'=false
       ·obtain⟨i',h1,h2⟩:=hlow;exact ihn i' (by omega) (by omega) h2
       ·refine⟨i,hio,hSi,fun i' hi'=>?_⟩;cases hb:S i' with
        |true=>rfl
        |false=>exact absurd ⟨i',hi',hb⟩ hlow
     obtain⟨i,hio,hSi⟩:=hex;obtain⟨j,hjo,hSj,hbefore⟩:=hmin (i+1) i (by omega) hio hSi;have:j∈Region.ready .any ops listed:=by
      refine mem_ready.2 ⟨?_,ops[j],by simp[hjo],fun e he hb=>?_⟩
      ·rw[hS]at hSj;simp[Array.getD,show j<listed.size by omega]at hSj ⊢;exact hSj
      ·rw[ai7]at hb;have:=hbefore e.on (hback j ops[j] (by simp[hjo]) e he hb);rw[hS]at this;exact this
     rw[hr]at this;cases this
   ·obtain⟨hun,o,ho,hdeps⟩:=mem_ready.1 hj;have hjo:j<ops.size:=(Array.getElem?_eq_some_iff.1 ho).1;have hjl:j<listed.size:=by omega
    have hSj:S j=false:=by
     rw[hS];simp[Array.getD,hjl]at hun ⊢;exact hun
    have ho':ops.toList[j]? = some o:=by simpa using ho
    obtain⟨x,hx,hent⟩:=hget j o ho';have hS':(fun i=>(listed.setIfInBounds j true).getD i false)=Vg S j:=by
     funext i;rw[hS];simp only[Vg];by_cases hij:i=j
     ·subst hij;simp[Array.getD_eq_getD_getElem?,hjl]
     ·have:¬j=i:=fun h=>hij h.symm;simp[Array.getD_eq_getD_getElem?,Array.getElem?_setIfInBounds,hij,this]
    have hcl':UK ops (Vg S j):=by
     intro i oi hoi hsi e he hb;have hone:S e.on=true:=by
      by_cases hij:i=j
      ·subst hij;rw[ho]at hoi;simp at hoi;subst hoi;have:=hdeps e he (by rw[ai7];exact hb);rw[hS];exact this
      ·simp only[Vg]at hsi;rw[if_neg hij]at hsi;exact hcl i oi hoi hsi e he hb
     simp only[Vg];split
     ·rfl
     ·exact hone
    have hins:∀i,i≠j→Vg S j i=S i:=fun i hi=>by simp only[Vg];rw[if_neg hi]
    have hinsj:Vg S j j=true:=by simp[Vg]
    have hbef:∀i y,i<j→log[i]? = some y→WH y x=true→S i=true:=fun i y hij hy hc=>by
     rw[←hins i (by omega)];exact(pair i j y x hij hy hx hc).1 _ hcl' hinsj
    have haft:∀i y,j<i→log[i]? = some y→WH x y=true→S i=false:=fun i y hij hy hc=>by
     cases hb:S i with
     |false=>rfl
     |true =>
      have:=(pair j i x y hij hx hy hc).1 _ hcl hb;rw[hSj]at this;cases this
    have hslot:∀t∈x.rs,(stS S).e.get t=(YB (s.e,s.H) (log.take j)).1.get t:=by
     intro t ht;simp only[stS];rw[XJ (q:=(s.e,s.H)) rfl,XJ (l:=log.take j) (q:=(s.e,s.H)) rfl];rw[GR (p:=dIs t) S log 0 j];intro i y hy hp;simp only[Nat.zero_add];simp only[dIs,beq_iff_eq]at hp;constructor
     ·intro hi;rcases Nat.lt_trichotomy i j with h1|h1|h1
      ·exact h1
      ·subst h1;rw[hSj]at hi;cases hi
      ·have:=haft i y h1 hy (bT3 hp ht);rw[hi]at this;cases this
     ·intro hij;exact hbef i y hij hy (bT2 hp ht)
    have hreg:∀k∈x.rd,look (stS S).H k=look (YB (s.e,s.H) (log.take j)).2 k:=by
     intro k hk;simp only[stS];rw[Yd (q:=(s.e,s.H)) rfl,Yd (l:=log.take j) (q:=(s.e,s.H)) rfl];rw[GR (p:=wIs k) S log 0 j];intro i y hy hp;simp only[Nat.zero_add];have hp:=JY.1 hp;constructor
     ·intro hi;rcases Nat.lt_trichotomy i j with h1|h1|h1
      ·exact h1
      ·subst h1;rw[hSj]at hi;cases hi
      ·have:=haft i y h1 hy (bI2 hp hk);rw[hi]at this;cases this
     ·intro hij;exact hbef i y hij hy (bI0 hp hk)
    have hnextE:∀t,(stS (Vg S j)).e.get t=if x.d=some t then x.sv else(stS S).e.get t:=by
     intro t;simp only[stS];rw[XJ (q:=(s.e,s.H)) rfl]
     have hsi:=ao2 (p:=dIs t) S log 0 j x hx (by simpa using hSj) (fun i y hy hij hpx hpy=>by
      simp only[Nat.zero_add];simp only[dIs,beq_iff_eq]at hpx hpy;exact haft i y hij hy (cg3 hpx hpy))
     rw[Nat.zero_add]at hsi;rw[hsi,←XJ (p:=(s.e,s.H)) (q:=(s.e,s.H)) rfl];have happ:∀(l:List LogE) (p:Env×Je),YB p (l++[x])=Kg (YB p l) x:=by
      intro l;induction l with
      |nil=>intro p;rfl
      |cons z l ihl=>intro p;simp only[List.cons_append,YB];exact ihl _
     rw[happ];simp only[Kg];cases hd:x.d with
     |none=>simp[putO]
     |some d =>
      simp only[putO];rw[XA];by_cases htd:t=d
      ·simp[htd]
      ·rw[if_neg htd,if_neg (by simp;exact fun h=>htd h.symm)]
    have hnextH:∀k,look (stS (Vg S j)).H k=look (x.wr++(stS S).H) k:=by
     intro k;simp only[stS];rw[Yd (q:=(s.e,s.H)) rfl]
     have hsi:=ao2 (p:=wIs k) S log 0 j x hx (by simpa using hSj) (fun i y hy hij hpx hpy=>by
      simp only[Nat.zero_add];exact haft i y hij hy (bI1 (JY.1 hpx) (JY.1 hpy)))
     rw[Nat.zero_add]at hsi;rw[hsi,←Yd (p:=(s.e,s.H)) (q:=(s.e,s.H)) rfl];have happ:∀(l:List LogE) (p:Env×Je),YB p (l++[x])=Kg (YB p l) x:=by
      intro l;induction l with
      |nil=>intro p;rfl
      |cons z l ihl=>intro p;simp only[List.cons_append,YB];exact ihl _
     rw[happ];rfl
    have hcnt':(listed.setIfInBounds j true).toList.count false=fuel:=by
     have hj':j<listed.toList.length:=by simpa using hjl
     have hval:listed.toList[j]=false:=by
      rw[hS]at hSj;simp[Array.getD,hjl]at hSj
      simpa using hSj
     rw[Array.toList_setIfInBounds,List.count_set hj'];have hcnt2:Array.count false listed=fuel+1:=by simpa using hcnt
     simp[hval,hcnt2]
    have hgo:∀ρ' a' w',Sat cx ρ' (stS (Vg S j)) a' w'→wpAnyIn (WF cx.rd) 0 cx.P .any ops QQ fuel (listed.setIfInBounds j true) a' w':=fun ρ' a' w' hsat' =>
     ih _ ρ' a' w' (by simpa using hsz) hcnt' (by rw[hS'];exact hcl') (by rw[hS'];exact hsat')
    have hdst:=aH9 hent.dst;have hguard:∀j' want d t,o.guard=some (j',want)→UR ops j'=some d→d∈x.rs→WV ((YB (s.e,s.H) (log.take j)).1.get d) t→Region.wanted o (yielded ops a.tmps)=(t==want):=by
     intro j' want d t hg hd hdr hb;have hv:a.tmps.getD d undef=.bool t:=by
      have:=hsat.env d;rw[hslot d hdr]at this;exact(am5 hb).1 this
     simp only[Region.wanted,hg,aA9 hd hv];cases t <;> cases want <;> rfl
    unfold wpOpIn;simp only[ho];rcases hent.act with ⟨⟨gs1,f,hgs1,hloc,f1,f2,f3,f4,hrds⟩,hg⟩|⟨⟨f1,f2,f3,f4⟩,j',want,d,hg,hd,hdr,hb⟩
    ·have hw:Region.wanted o (yielded ops a.tmps)=true:=by
      rcases hg with hg|⟨j',want,d,hg,hd,hdr,hb⟩
      ·simp[Region.wanted,hg]
      ·rw[hguard j' want d want hg hd hdr hb];cases want <;> rfl
     rw[if_pos hw];have hsat1:Sat cx ρ { stS S with e:=ovl (gs1.filter fun p=>Ys p.1 x.rs) (stS S).e } a w:=by
      refine hsat.congr (fun i=>?_) (fun _=>rfl) rfl Ga;simp only[Kk];cases hl:Ve (gs1.filter fun p=>Ys p.1 x.rs) i with
      |none=>exact .inl rfl
      |some t =>
       have hm:=List.mem_filter.1 (Kv hl);refine .inr ⟨t, ?_, .inl rfl⟩;rw[hslot i (JY.1 hm.2)];exact hgs1 i t hm.1
     have hlk:∀i,i∈x.rs→Ve (gs1.filter fun p=>Ys p.1 x.rs) i=Ve gs1 i:=by
      intro i hi;clear hgs1 hloc hsat1
      induction gs1 with
      |nil=>rfl
      |cons p r ihg =>
       obtain⟨d,t⟩:=p;by_cases hid:i=d
       ·subst hid;rw[List.filter_cons_of_pos (by simpa using JY.2 hi)];simp[Ve]
       ·have hbq:Nat.beq i d=false:=by cases hq:Nat.beq i d with
         |false=>rfl
         |true=>exact absurd (Nat.eq_of_beq_eq_true hq) hid
        simp only[List.filter_cons];split
        ·simp only[Ve,hbq,cond_false];exact ihg
        ·simp only[Ve,hbq,cond_false];exact ihg
     refine hloc ρ _ a w hsat1 ?_ ?_ ?_ hdst _ _ ?_
     ·intro t ht;have htr:=hrds t ht;simp only[Kk,hlk t htr];rw[hslot t htr]
     ·intro k hk;rw[f2]at hk;exact hreg k hk
     ·intro k hk;rw[f4]at hk;have hxm:x∈log:=List.mem_of_getElem? hx;have hkge:=hent.news k hk;have hno:∀y,y∈Vf S 0 log→k∉y.nms:=by
       intro y hy hky;obtain⟨i,hi,hsi⟩:=aN9 hy;simp only[Nat.zero_add]at hsi;rcases Nat.lt_trichotomy i j with h1|h1|h1
       ·exact(pair i j y x h1 hi hx (bI3 hk hky)).2 k hk hky
       ·subst h1;rw[hSj]at hsi;cases hsi
       ·have:=haft i y h1 hi (bT4 hk hky);rw[hsi]at this;cases this
      have hk0:s.nx≤k:=(hnews x hxm k hk).1;refine⟨⟨fun i=>?_,fun hm=>by
       simp only[Ga,stS,Kx]at hm;have:=hs.bnd.mks k hm;omega,fun j' own q hl=>?_⟩,(hnews x hxm k hk).2,hkge⟩
      ·simp only[Kk];cases Ve (gs1.filter fun p=>Ys p.1 x.rs) i with
       |some t=>simp[SV.uses,SC.uses,SC.nms,Jy]
       |none =>
        cases hu:((stS S).e.get i).uses [k]with
        |false=>rfl
        |true =>
         simp only[stS]at hu;rcases av6 (l:=Vf S 0 log) (p:=(s.e,s.H)) (t:=i)with h1|⟨y,hy,h1⟩
         ·rw[h1]at hu;have:=hs.bnd.env i k hu;omega
         ·rw[h1]at hu;exact absurd (bT5 hu) (hno y hy)
      ·simp only[stS]at hl;rcases ap9 hl with h1|⟨y,hy,h1⟩
       ·have:=hs.bnd.heap j' own q h1;refine⟨by omega, ?_⟩;cases hu:q.uses [k]with
        |false=>rfl
        |true=>have:=this.2 k hu;omega
       ·have h2:=hno y hy;refine⟨fun he=>h2 (aX5 h1 (.inl he)), ?_⟩;cases hu:q.uses [k]with
        |false=>rfl
        |true=>exact absurd (aX5 h1 (.inr hu)) h2
     ·intro ρ' a' w' hsat' _;refine hgo ρ' a' w' (hsat'.congr (fun i=>?_) (fun k=>?_) rfl (by simp only[stS,Kx,Ge,Ga]))
      ·rw[hnextE i,hent.d,f1];cases hd:o.dst with
       |none =>
        simp only[Sx.putO,Kk,hd];rw[if_neg (by simp)];cases hl:Ve (gs1.filter fun p=>Ys p.1 x.rs) i with
        |none=>exact .inl rfl
        |some t =>
         have hm:=List.mem_filter.1 (Kv hl);refine .inr ⟨t, .inl rfl, ?_⟩;rw[hslot i (JY.1 hm.2)];exact hgs1 i t hm.1
       |some d =>
        simp only[Sx.putO,hd];rw[XA];by_cases hid:i=d
        ·rw[if_pos hid,if_pos (by rw[hid])];exact .inl rfl
        ·rw[if_neg hid,if_neg (by simp;exact fun h=>hid h.symm)];simp only[Kk];cases hl:Ve (gs1.filter fun p=>Ys p.1 x.rs) i with
         |none=>exact .inl rfl
         |some t =>
          have hm:=List.mem_filter.1 (Kv hl);refine .inr ⟨t, .inl rfl, ?_⟩;rw[hslot i (JY.1 hm.2)];exact hgs1 i t hm.1
      ·rw[hnextH k,f3]
    ·have hw:Region.wanted o (yielded ops a.tmps)=false:=by
      rcases hb with hb|hb
      ·rw[hguard j' want d (!want) hg hd hdr hb];cases want <;> rfl
      ·have hv:a.tmps.getD d undef=.tuple #[]:=by
        have:=hsat.env d;rw[hslot d hdr,hb]at this;exact aT5 this
       simp only[Region.wanted,hg,al4 hd hv];rfl
     rw[if_neg (by simp[hw])];refine⟨fun _ _=>trivial,hgo ρ _ w ((hsat.putO (sv:=.tup []) (v:=undef) hdst as8 ai6).congr (fun i=>?_) (fun k=>?_) rfl (by simp only[stS,Kx,Ge]))⟩
     ·rw[hnextE i,hent.d,f1];cases hd:o.dst with
      |none=>simp only[Sx.putO,hd];rw[if_neg (by simp)];exact .inl rfl
      |some d =>
       simp only[Sx.putO,hd];rw[XA];by_cases hid:i=d
       ·rw[if_pos hid,if_pos (by rw[hid])];exact .inl rfl
       ·rw[if_neg hid,if_neg (by simp;exact fun h=>hid h.symm)];exact .inl rfl
     ·rw[hnextH k,f3];rfl
 have hmixed:=hB.mixed;refine wpIn_region_any hmixed ?_;refine key ops.size _ ρ a _ (by simp) (by simp[List.count_replicate]) ?_ ?_
 ·intro i o ho hi;exfalso;have h0:(Array.replicate ops.size false).getD i false=false:=by
   simp only[Array.getD_eq_getD_getElem?,Array.getElem?_replicate];split <;> rfl
  have hi:(Array.replicate ops.size false).getD i false=true:=hi;rw[h0]at hi;cases hi
 ·have hsel:Vf (fun i=>(Array.replicate ops.size false).getD i false) 0 log=[]:=by
   have:∀(l:List LogE) k,Vf (fun i=>(Array.replicate ops.size false).getD i false) k l=[]:=by
    intro l;induction l with
    |nil=>intro k;rfl
    |cons x l ihl =>
     intro k;simp only[Vf];have h0:(Array.replicate ops.size false).getD k false=false:=by
      simp only[Array.getD_eq_getD_getElem?,Array.getElem?_replicate];split <;> rfl
     rw[if_neg (by rw[h0];simp),ihl]
   exact this log 0
  simp only[stS,hsel,YB];exact(hs.bump hle).eqHeap rfl
end Sx
end Go
namespace Go
namespace Sx
def cJ8(Q:Exit→Act→World→Prop):Exit→Act→World→Prop
 | .goto _,_,_=>False
 |e,a,w=>Q e a w
theorem aG6{F:Fence}{n:Nat}{P:Program}{Q:Exit→Act→World→Prop}{a:Act}{w:World}{c:Code}(h:c.wpIn F n P (cJ8 Q) a w):(Code.scope c).wpIn F n P Q a w:=by
 intro b k cs hro hb hr;have h0:(lone (b.atR a (.code (.scope c)::k)) cs w).fenced P F:=fenced_calm hb hr rfl;have e1:step P (lone (b.atR a (.code (.scope c)::k)) cs w)=.next (lone (b.atR a (.code c::.inScope c::k)) cs w):=step_lone_go (by simp[stepG,stepG.exec,Frame.atR]);have e2:∀(a:Act) (w:World),step P (lone (b.atR a (.inScope c::k)) cs w)=.next (lone (b.atR a k) cs w):=fun a w=>step_lone_go (by simp[stepG,stepG.exec,Frame.atR]);obtain⟨e,a₁,w₁,hq,harr⟩:=h b (.inScope c::k) cs hro hb hr;cases e with
 |normal=>exact⟨.normal,a₁,w₁,hq, .head h0 e1 (StepsIn.trans harr (.one (fenced_calm hb hr rfl) (e2 _ _)))⟩
 |exit id =>
  have hx:exitTo id (.inScope c::k)=exitTo id k:=by simp[exitTo]
  exact⟨.exit id,a₁,w₁,hq,fun k' hk=>.head h0 e1 (harr.1 k' (by rw[hx];exact hk)),fun hr' hk=>let ⟨k₁,h1,h2⟩:=harr.2 hr' (by rw[hx];exact hk);⟨k₁,h1, .head h0 e1 h2⟩⟩
 |goto l=>exact hq.elim
 |ret=>exact⟨_,a₁,w₁,hq, .of_steps (.one h0 e1) harr⟩
 |panic ch=>exact⟨_,a₁,w₁,hq, .of_steps (.one h0 e1) harr⟩
 |outgrown=>exact⟨_,a₁,w₁,hq, .of_steps (.one h0 e1) harr⟩
def cJ9:Oper→Bool
 |⟨_, .lookup ..,_,_,_,_⟩=>true
 |_=>false
def cK0:Oper→Bool
 |⟨_, .mapEntry ..,_,_,_,_⟩=>true
 |_=>false
def bI5(f:Oper→Bool):List Oper→Bool
 | []=>false
 |o::r=>bif f o then true else bI5 f r
def bC2(ops:Array Oper):Bool:=match ops.toList with
 |⟨_, .entry _,_,_,_,_⟩::_=>true
 |_=>false
def cC0(ops:Array Oper):Bool:=bif bI5 cK0 ops.toList then bI5 cJ9 ops.toList else false
def vc(cx:Cx)(B:Tabs):Code→(Exit→St→Prop)→St→Prop
 | .skip,Q,s=>Q .normal s
 | .label _,Q,s=>Q .normal s
 | .exit id,Q,s=>Q (.exit id) s
 | .goto l,Q,s=>Q (.goto l) s
 | .ret,Q,s=>Q .ret s
 | .region id ops false,Q,s=>bif bC2 ops then Sound cx (.region id ops false) Q s else as9 cx B ops ops.toList s fun s'=>Q .normal s'
 | .region id ops true,Q,s=>bif cC0 ops then Sound cx (.region id ops true) Q s else cr1 cx B ops (fun s'=>Q .normal s') s
 | .seq x y,Q,s=>vc cx B x (fun ex s'=>match ex with
  | .normal=>vc cx B y Q s'
  |ex=>Q ex s') s
 | .cond c x y,Q,s=>(match ev s.e c with
  | .c .any=>vc cx B x Q s∧vc cx B y Q s
  | .c (.b true)=>vc cx B x Q s
  | .c (.b false)=>vc cx B y Q s
  | .c (.v (.bool t))=>(t=true→vc cx B x Q s)∧(t=false→vc cx B y Q s)
  |_=>False)
 | .block id b,Q,s=>vc cx B b (fun ex s'=>match ex with
  | .exit id'=>bif Nat.beq id' id then Q .normal s' else Q (.exit id') s'
  |ex=>Q ex s') s
 | .loop b,Q,s=>Sound cx (.loop b) Q s
 | .rangeFunc f ps asg b,Q,s=>Sound cx (.rangeFunc f ps asg b) Q s
 | .scope b,Q,s=>vc cx B b (fun ex s'=>match ex with
  | .goto _=>False
  |ex=>Q ex s') s
 | .refuse _,_,_=>False
theorem Vm{cx:Cx}{B:Tabs}(hB:TabsOK cx.P B):∀(c:Code) (Q:Exit→St→Prop) (s:St),vc cx B c Q s→Sound cx c Q s
 | .skip,Q,s,h=>⟨fun ρ a w hs QQ hQ=>wpIn_skip (hQ _ _ _ _ _ h hs)⟩
 | .label _,Q,s,h=>⟨fun ρ a w hs QQ hQ=>wpIn_label (hQ _ _ _ _ _ h hs)⟩
 | .exit id,Q,s,h=>⟨fun ρ a w hs QQ hQ=>wpIn_exit (hQ _ _ _ _ _ h hs)⟩
 | .goto l,Q,s,h=>⟨fun ρ a w hs QQ hQ=>wpIn_goto (hQ _ _ _ _ _ h hs)⟩
 | .ret,Q,s,h=>⟨fun ρ a w hs QQ hQ=>wpIn_ret (hQ _ _ _ _ _ h hs)⟩
 | .region id ops false,Q,s,h=>by
  unfold vc at h;cases ho:bC2 ops with
  |true=>rw[ho]at h;exact h
  |false =>
   rw[ho]at h;have h:as9 cx B ops ops.toList s (fun s'=>Q .normal s'):=h;exact⟨fun ρ a w hs QQ hQ=>wpIn_region (by
    have:=av3 hB (Q:=QQ) (fun ρ' s' a' w' h1 h2=>hQ _ _ _ _ _ h1 h2) ops.toList 0 (by simp) s ρ a w h hs;rw[List.range_eq_range'];simpa using this)⟩
 | .region id ops true,Q,s,h=>by
  unfold vc at h;cases ho:cC0 ops with
  |true=>rw[ho]at h;exact h
  |false=>rw[ho]at h;exact bI4 hB h
 | .seq x y,Q,s,h=>⟨fun ρ a w hs QQ hQ=>wpIn_seq ((Vm hB x _ s h).h ρ a w hs _ fun ex s' ρ' a' w' h1 h2=>by
  cases ex with
  |normal=>exact(Vm hB y Q s' h1).h ρ' a' w' h2 QQ hQ
  |_=>exact hQ _ _ _ _ _ h1 h2)⟩
 | .cond c x y,Q,s,h=>⟨fun ρ a w hs QQ hQ=>by
  have hc:(ev s.e c).rel ρ (a.eval c):=bn2 fun t _=>hs.env t;simp only[vc]at h;split at h
  ·rename_i he
   rw[he]at hc;obtain⟨t,ht⟩:=hc;exact wpIn_cond_split ht (fun _=>(Vm hB x Q s h.1).h ρ a w hs QQ hQ) (fun _=>(Vm hB y Q s h.2).h ρ a w hs QQ hQ)
  ·rename_i he;rw[he]at hc;exact wpIn_cond_true hc ((Vm hB x Q s h).h ρ a w hs QQ hQ)
  ·rename_i he;rw[he]at hc;exact wpIn_cond_false hc ((Vm hB y Q s h).h ρ a w hs QQ hQ)
  ·rename_i t he
   rw[he]at hc;exact wpIn_cond_split hc (fun ht=>(Vm hB x Q s (h.1 ht)).h ρ a w hs QQ hQ) (fun ht=>(Vm hB y Q s (h.2 ht)).h ρ a w hs QQ hQ)
  ·exact h.elim⟩
 | .block id b,Q,s,h=>⟨fun ρ a w hs QQ hQ=>wpIn_block ((Vm hB b _ s h).h ρ a w hs _ fun ex s' ρ' a' w' h1 h2=>by
  cases ex with
  |exit id' =>
   simp only[Exit.inBlock];cases hb:Nat.beq id' id with
   |true=>simp only[hb,cond_true]at h1;rw[if_pos (Nat.eq_of_beq_eq_true hb)];exact hQ _ _ _ _ _ h1 h2
   |false=>simp only[hb,cond_false]at h1;rw[if_neg (Nat.ne_of_beq_eq_false hb)];exact hQ _ _ _ _ _ h1 h2
  |_=>exact hQ _ _ _ _ _ h1 h2)⟩
 | .loop b,Q,s,h=>h
 | .rangeFunc f ps asg b,Q,s,h=>h
 | .scope b,Q,s,h=>⟨fun ρ a w hs QQ hQ=>aG6 ((Vm hB b _ s h).h ρ a w hs _ fun ex s' ρ' a' w' h1 h2=>by
  cases ex with
  |goto l=>exact h1.elim
  |_=>exact hQ _ _ _ _ _ h1 h2)⟩
 | .refuse _,_,_,h=>h.elim
end Sx
end Go
namespace Go
namespace Sx
def SC.ren(σ:Nat→Nat):SC→SC
 | .v x=>.v x
 | .b x=>.b x
 | .p k i sz off=>.p (σ k) i sz off
 | .s k st len sz=>.s (σ k) st len sz
 | .f g caps=>.f g (caps.map σ)
 | .m k=>.m (σ k)
 | .cut k h sz=>.cut (σ k) h sz
 | .ghost k i=>.ghost (σ k) i
 | .gp k i=>.gp (σ k) i
 | .any=>.any
 | .junk=>.junk
def KT(σ:Nat→Nat):List SC→List SC
 | []=>[]
 |c::l=>c.ren σ::KT σ l
def aI5(σ:Nat→Nat):List (Sum SC (List SC))→List (Sum SC (List SC))
 | []=>[]
 | .inl c::l=>.inl (c.ren σ)::aI5 σ l
 | .inr cs::l=>.inr (KT σ cs)::aI5 σ l
def SV.ren(σ:Nat→Nat):SV→SV
 | .c x=>.c (x.ren σ)
 | .agg l=>.agg (KT σ l)
 | .tup l=>.tup (aI5 σ l)
 | .pk vs l=>.pk vs (KT σ l)
theorem af8(σ:Nat→Nat)(l:List SC):KT σ l=l.map (SC.ren σ):=by
 induction l with
 |nil=>rfl
 |cons c l ih=>simp[KT,ih]
theorem SC.ren_nms(σ:Nat→Nat)(c:SC):(c.ren σ).nms=c.nms.map σ:=by cases c <;> simp[SC.ren,SC.nms]
theorem arr_cell?(A:Arr)(i j:Nat):(SO.arr A).cell? i j=(A.xs[i]?).bind fun x=>(A.enc x)[j]?:=by
 simp only[SO.cell?];cases A.xs[i]? <;> rfl
def Arr.ren(σ:Nat→Nat)(a:Arr):Arr :=
 {
  α:=a.α,sz:=a.sz,enc:=fun x=>KT σ (a.enc x),nm:=a.nm.map σ,hl:=fun x=>by rw[af8,List.length_map,a.hl],
  hn:=fun x c hc k hk=>by
   rw[af8]at hc
   obtain⟨d,hd,rfl⟩:=List.mem_map.1 hc
   rw[SC.ren_nms]at hk
   obtain⟨j,hj,rfl⟩:=List.mem_map.1 hk
   exact List.mem_map.2 ⟨j,a.hn x d hd j hj,rfl⟩
  xs:=a.xs,fx:=a.fx,ty:=a.ty }
def SO.ren(σ:Nat→Nat):SO→SO
 | .cel ty l=>.cel ty (KT σ l)
 | .arr a=>match a.nm with
  | []=>.arr a
  |_::_=>.arr (a.ren σ)
 | .raw Φ=>.raw Φ
 | .box b=>.box b
theorem SC.ren_none{σ:Nat→Nat}{c:SC}(h:c.nms=[]):c.ren σ=c:=by
 cases c <;> simp_all [SC.ren,SC.nms]
theorem cu5{σ:Nat→Nat}{a:Arr}(h:a.nm=[])(x:a.α):KT σ (a.enc x)=a.enc x:=by
 rw[af8];conv=>rhs;rw[←List.map_id (a.enc x)]
 apply List.map_congr_left;intro c hc;refine SC.ren_none (List.eq_nil_iff_forall_not_mem.2 fun k hk=>?_);have:=a.hn x c hc k hk;rw[h]at this;cases this
def GF(σ:Nat→Nat):Je→Je
 | []=>[]
 |(k,own,o)::r=>(σ k,own,o.ren σ)::GF σ r
theorem SC.ren_rel{ρ:Jn}{σ:Nat→Nat}{c:SC}{v:Value}:(c.ren σ).rel ρ v↔c.rel (fun k=>ρ (σ k)) v:=by
 cases c <;> simp[SC.ren,SC.rel,Jr]
 rename_i g caps
 have:(caps.map ((fun k=>Value.pointer (some ⟨(ρ k).blk,(ρ k).off,none⟩))∘σ))=caps.map fun k=>Value.pointer (some ⟨(ρ (σ k)).blk,(ρ (σ k)).off,none⟩):=rfl;rw[this]
theorem aT9{ρ:Jn}{σ:Nat→Nat}:∀ {l:List SC} {vs:List Value},Yb ρ (KT σ l) vs↔Yb (fun k=>ρ (σ k)) l vs
 | [],[]=>Iff.rfl
 | [],_::_=>Iff.rfl
 |_::_,[]=>Iff.rfl
 |_::_,_::_=>by simp only[KT,Yb,SC.ren_rel,aT9]
theorem aU0{ρ:Jn}{σ:Nat→Nat}:∀ {l:List (Sum SC (List SC))} {vs:List Value},aa5 ρ (aI5 σ l) vs↔aa5 (fun k=>ρ (σ k)) l vs
 | [],[]=>Iff.rfl
 | [],_::_=>Iff.rfl
 | .inl _::_,[]=>Iff.rfl
 | .inr _::_,[]=>Iff.rfl
 | .inl _::_,_::_=>by simp only[aI5,aa5,SC.ren_rel,aU0]
 | .inr _::_,_::_=>by simp only[aI5,aa5,aT9,aU0]
theorem SV.ren_rel{ρ:Jn}{σ:Nat→Nat}{s:SV}{v:Value}:(s.ren σ).rel ρ v↔s.rel (fun k=>ρ (σ k)) v:=by
 cases s <;> simp only[SV.ren,SV.rel,SC.ren_rel,aT9,aU0]
theorem aU1{σ:Nat→Nat}{l:List SC}{j:Nat}:(KT σ l)[j]? = (l[j]?).map (SC.ren σ):=by rw[af8,List.getElem?_map]
theorem SO.ren_arr{σ:Nat→Nat}{a:Arr}:(SO.arr a).ren σ=.arr a∧a.nm=[]∨(SO.arr a).ren σ=.arr (a.ren σ):=by
 simp only[SO.ren];cases h:a.nm with
 |nil=>exact .inl ⟨rfl,rfl⟩
 |cons x r=>exact .inr rfl
theorem SO.ren_cell{σ:Nat→Nat}{o:SO}{i j:Nat}:(o.ren σ).cell? i j=(o.cell? i j).map (SC.ren σ):=by
 cases o with
 |cel ty l=>cases i <;> simp[SO.ren,SO.cell?,aU1]
 |arr a =>
  rcases @SO.ren_arr σ a with ⟨h,hn⟩|h
  ·rw[h];simp only[SO.cell?];cases a.xs[i]? with
   |none=>rfl
   |some x =>
    simp only;conv=>lhs;rw[←cu5 (σ:=σ) hn x]
    exact aU1
  ·rw[h];rw[arr_cell?,arr_cell?];show(a.xs[i]?).bind (fun x=>(KT σ (a.enc x))[j]?)=_;cases a.xs[i]? with
   |none=>rfl
   |some x=>exact aU1
 |raw l=>rfl
 |box l=>rfl
theorem SO.ren_sz{σ:Nat→Nat}{o:SO}:(o.ren σ).sz=o.sz:=by
 cases o with
 |arr a=>rcases @SO.ren_arr σ a with ⟨h,hn⟩|h <;> rw[h] <;> rfl
 |_=>rfl
theorem SO.ren_room{σ:Nat→Nat}{o:SO}{r:Rg}:(o.ren σ).room r=o.room r:=by
 cases o with
 |arr a=>rcases @SO.ren_arr σ a with ⟨h,hn⟩|h <;> rw[h] <;> rfl
 |_=>simp[SO.ren,SO.room,af8]
theorem SO.ren_wf{σ:Nat→Nat}{o:SO}{r:Rg}:(o.ren σ).wf r↔o.wf r:=by
 cases o with
 |arr a=>rcases @SO.ren_arr σ a with ⟨h,hn⟩|h <;> rw[h] <;> exact Iff.rfl
 |_=>exact Iff.rfl
theorem SO.ren_raw{σ:Nat→Nat}{o:SO}{l:Obj→Prop}:o.ren σ=.raw l↔o=.raw l:=by
 cases o with
 |arr a=>rcases @SO.ren_arr σ a with ⟨h,hn⟩|h <;> rw[h] <;> simp
 |_=>simp[SO.ren]
theorem SO.ren_box{σ:Nat→Nat}{o:SO}{l:Bx}:o.ren σ=.box l↔o=.box l:=by
 cases o with
 |arr a=>rcases @SO.ren_arr σ a with ⟨h,hn⟩|h <;> rw[h] <;> simp
 |_=>simp[SO.ren]
theorem SO.ren_fp{σ:Nat→Nat}{o:SO}{r:Rg}:(o.ren σ).fp r=o.fp r:=by
 cases o with
 |arr a=>rcases @SO.ren_arr σ a with ⟨h,hn⟩|h <;> rw[h] <;> rfl
 |_=>rfl
theorem SO.ren_fx{σ:Nat→Nat}{o:SO}:(o.ren σ).fx=o.fx:=by
 cases o with
 |arr a=>rcases @SO.ren_arr σ a with ⟨h,_⟩|h <;> rw[h] <;> rfl
 |_=>rfl
theorem SO.ren_ty{σ:Nat→Nat}{o:SO}:(o.ren σ).ty=o.ty:=by
 cases o with
 |arr a=>rcases @SO.ren_arr σ a with ⟨h,_⟩|h <;> rw[h] <;> rfl
 |_=>rfl
theorem SatO.of_ren{ρ:Jn}{σ:Nat→Nat}{w:World}{k:Nat}{own:Bool}{o:SO}(h:SatO ρ w (σ k) own (o.ren σ)):SatO (fun k=>ρ (σ k)) w k own o where
 wf:=SO.ren_wf.1 h.wf
 at_ i j c hc:=by
  obtain⟨v,hv,hr⟩:=h.at_ i j (c.ren σ) (by rw[SO.ren_cell,hc];rfl);rw[SO.ren_sz]at hv;exact⟨v,hv,SC.ren_rel.1 hr⟩
 room ho hm hx n hn:=h.room ho (fun keys hk=>hm keys (SO.ren_raw.1 hk)) (fun b hk=>hx b (SO.ren_box.1 hk)) n (by rw[SO.ren_room];exact hn)
 off0:=h.off0
 keys l hl:=h.keys l (SO.ren_raw.2 hl)
 boxed l hl:=h.boxed l (SO.ren_box.2 hl)
 fixd n hn:=h.fixd n (by rw[SO.ren_fx];exact hn)
 typd t ht hr:=h.typd t (by rw[SO.ren_ty];exact ht) (by rw[SO.ren_room];exact hr)
theorem SatO.to_ren{ρ:Jn}{σ:Nat→Nat}{w:World}{k:Nat}{own:Bool}{o:SO}(h:SatO (fun k=>ρ (σ k)) w k own o):SatO ρ w (σ k) own (o.ren σ) where
 wf:=SO.ren_wf.2 h.wf
 at_ i j c hc:=by
  rw[SO.ren_cell]at hc;cases hd:o.cell? i j with
  |none=>simp[hd]at hc
  |some d =>
   simp[hd]at hc;subst hc;obtain⟨v,hv,hr⟩:=h.at_ i j d hd;exact⟨v,by rw[SO.ren_sz];exact hv,SC.ren_rel.2 hr⟩
 room ho hm hx n hn:=h.room ho (fun keys hk=>hm keys (SO.ren_raw.2 hk)) (fun b hk=>hx b (SO.ren_box.2 hk)) n (by rw[SO.ren_room]at hn;exact hn)
 off0:=h.off0
 keys l hl:=h.keys l (SO.ren_raw.1 hl)
 boxed l hl:=h.boxed l (SO.ren_box.1 hl)
 fixd n hn:=h.fixd n (by rw[SO.ren_fx]at hn;exact hn)
 typd t ht hr:=h.typd t (by rw[SO.ren_ty]at ht;exact ht) (by rw[SO.ren_room]at hr;exact hr)
theorem SatO.less{ρ:Jn}{w:World}{k:Nat}{o:SO}(h:SatO ρ w k true o)(own:Bool):SatO ρ w k own o where
 wf:=h.wf
 at_:=h.at_
 room _:=h.room rfl
 off0 _:=h.off0 rfl
 keys:=h.keys
 boxed:=h.boxed
 fixd:=h.fixd
 typd:=h.typd
def YR(ρ:Jn):List SV→List Value→Prop
 | [],[]=>True
 |s::l,v::vs=>s.rel ρ v∧YR ρ l vs
 |_,_=>False
def Xi(ρ:Jn):Je→List Nat
 | []=>[]
 |(k,own,o)::r=>(bif own&&Nat.blt 0 (o.room (ρ k))then o.fp (ρ k)else [])++Xi ρ r
structure Triple (P:Program) (f:FuncId) (args:List SV) (pre:Je) (np:Nat) (r:SV) (post:Je):Prop where
 enter:∀args w,(callFunc f args).run P w=.ok (.enter f args) w
 h:∀(ρ:Jn) (w:World) (vals:Array Value),YR ρ args vals.toList→SatH w (Xi ρ pre) ρ pre w →
  Calls P f vals w fun e w'=>∃ρ' v,(∀k,k<np→ρ' k=ρ k)∧e=.returned v∧r.rel ρ' v∧SatH w (Xi ρ pre) ρ' post w'
def at2:SV→Sum SC (List SC)
 | .c x=>.inl x
 | .agg l=>.inr l
 | .tup _=>.inl .junk
 | .pk _ _=>.inl .junk
def ai8:List SV→SV
 | [x]=>x
 |l=>.tup (l.map at2)
def aa7(B:Tabs)(s:St):List ResultVar→(List SV→Prop)→Prop
 | [],K=>K []
 | .tmp t::r,K=>aa7 B s r fun l=>K (s.e.get t::l)
 | .cell a t::r,K=>match s.e.get a,Ji B.T t with
  | .c (.p k 0 _ 0),some ti=>(match look s.H k with
   |some (_, .cel _ l)=>as6 ti l 0 [] fun sv _=>aa7 B s r fun l=>K (sv::l)
   |some (_, .arr A)=>∃vs:List Value,((∀j v,vs[j]? = some v→∃i' j',i'*A.sz+j'=j∧(SO.arr A).cell? i' j'=some (.v v))∧vs.length=ti.size∧ti.kd.isAgg=true)∧aa7 B s r fun l=>K (.c (.v (.agg vs.toArray))::l)
   |_=>False)
  |_,_=>False
theorem bT6{ρ:Jn}{s:SV}{v:Value}{l:List (Sum SC (List SC))}{vs:List Value}(h:s.rel ρ v)(hl:aa5 ρ l vs):aa5 ρ (at2 s::l) (v::vs):=by
 cases s with
 |c x=>exact⟨h,hl⟩
 |agg l=>exact⟨h,hl⟩
 |tup l=>exact⟨trivial,hl⟩
 |pk _ l=>exact⟨trivial,hl⟩
theorem aG1{ρ:Jn}:∀ {l:List SV} {vs:List Value},YR ρ l vs→aa5 ρ (l.map at2) vs
 | [],[],_=>trivial
 | [],_::_,h=>h.elim
 |_::_,[],h=>h.elim
 |_::_,_::_,h=>bT6 h.1 (aG1 h.2)
theorem GS{ρ:Jn}:∀ {l:List SV} {vs:List Value},YR ρ l vs→l.length=vs.length
 | [],[],_=>rfl
 | [],_::_,h=>h.elim
 |_::_,[],h=>h.elim
 |_::_,_::_,h=>by simp[GS h.2]
def ax6(tmps:Array Value):ResultVar→Sem Value
 | .tmp t=>pure (tmps.getD t undef)
 | .cell p t=>do loadVar t (←asAddr (tmps.getD p undef))
theorem bI6(fn:Func)(tmps:Array Value):results fn tmps=(do
 let vs ←fn.results.mapM (ax6 tmps)
 pure (if h:vs.size=1 then vs[0]else .tuple vs)):=by
 unfold results;congr 1
theorem aX6{cx:Cx}{B:Tabs}(hB:TabsOK cx.P B){s:St}:∀(rs:List ResultVar) (K:List SV→Prop),aa7 B s rs K →
 ∃l,K l∧∀(ρ:Jn) (a:Act) (w:World),Sat cx ρ s a w→∃vs,(rs.mapM (ax6 a.tmps)).run cx.P w=.ok vs w∧YR ρ l vs∧∀sv∈l,sv.below s.nx
 | [],K,h=>⟨[],h,fun ρ a w _=>⟨[],by simp,trivial,by simp⟩⟩
 | .tmp t::r,K,h=>by
  obtain⟨l,hK,hl⟩:=aX6 hB r _ h;refine⟨_,hK,fun ρ a w hs=>?_⟩;obtain⟨vs,hvs,hr,hbl⟩:=hl ρ a w hs
  exact⟨a.tmps.getD t undef::vs,by simp only[List.mapM_cons,Sem.run_bind,ax6,Sem.run_pure,Result.andThen_ok,hvs],⟨hs.env t,hr⟩,fun sv hsv=>by
   rcases List.mem_cons.1 hsv with rfl|hsv
   ·exact hs.bnd.env t
   ·exact hbl sv hsv⟩
 | .cell p t::r,K,h=>by
  simp only[aa7]at h;split at h
  ·rename_i k sz ti he ht
   split at h
   ·rename_i own tyc cs hl
    obtain⟨sv,hK,hbs,hrun⟩:=aT2 hB ht h;obtain⟨l,hK,hl'⟩:=aX6 hB r _ hK;refine⟨_,hK,fun ρ a w hs=>?_⟩;obtain⟨vs,hvs,hr,hbl⟩:=hl' ρ a w hs;have h1:=hs.env p;rw[he]at h1;simp only[SV.rel,SC.rel,Nat.zero_mul,Nat.zero_add]at h1;obtain⟨v,hv,hrel⟩:=hrun ρ k 0 w (fun j c hc=>by
     have:=(hs.heap.reg k own _ hl).at_ 0 j c (by simpa [SO.cell?] using hc)
     simpa [SO.sz] using this)
    simp only[Nat.add_zero]at hv
    exact⟨v::vs,by simp only[List.mapM_cons,Sem.run_bind,ax6,h1,asAddr,Sem.run_pure,Result.andThen_ok,hv,hvs],⟨hrel,hr⟩,fun sv' hsv=>by
     rcases List.mem_cons.1 hsv with rfl|hsv
     ·refine hbs s.nx fun c hc k hk=>(hs.bnd.heap _ _ _ hl).2 k ?_;exact Qo.2 ⟨c,hc,SC.uses_iff.2 ⟨k,hk,by simp⟩⟩
     ·exact hbl sv' hsv⟩
   ·rename_i own A hl
    obtain⟨us,⟨hcs,hn,hag⟩,h⟩:=h;obtain⟨l,hK,hl'⟩:=aX6 hB r _ h;refine⟨_,hK,fun ρ a w hs=>?_⟩;obtain⟨vs,hvs,hr,hbl⟩:=hl' ρ a w hs;have h1:=hs.env p;rw[he]at h1;simp only[SV.rel,SC.rel,Nat.zero_mul,Nat.zero_add]at h1;have hload:=Vx (P:=cx.P) (w:=w) (a:=Jr ρ k 0) (vs:=us) (fun j v hv=>by
     obtain⟨i',j',hj,hc⟩:=hcs j v hv;obtain⟨v',hv',hrel⟩:=(hs.heap.reg k own _ hl).at_ i' j' _ hc;have hrel:v'=v:=hrel;rw[VV,Nat.zero_add,←hj];rw[←hrel];exact hv')
    have hsize:=QY hB ht w;have hagg:=WP w (hB.T.get ht);rw[hag]at hagg;rw[hn]at hload;have hv:(loadVar t (Jr ρ k 0)).run cx.P w=.ok (.agg us.toArray) w:=by simp[loadVar,hagg,hsize,hload]
    exact⟨.agg us.toArray::vs,by simp only[List.mapM_cons,Sem.run_bind,ax6,h1,asAddr,Sem.run_pure,Result.andThen_ok,hv,hvs],⟨rfl,hr⟩,fun sv' hsv=>by
     rcases List.mem_cons.1 hsv with rfl|hsv
     ·exact VX s.nx _
     ·exact hbl sv' hsv⟩
   ·exact h.elim
  ·exact h.elim
theorem bx6{l:List SV}{n:Nat}(h:∀sv∈l,sv.below n):(ai8 l).below n:=by
 have key:∀l:List SV,(∀sv∈l,sv.below n)→(SV.tup (l.map at2)).below n:=by
  intro l h k hk;obtain⟨x,hx,hu⟩:=KY.1 hk;obtain⟨sv,hsv,rfl⟩:=List.mem_map.1 hx;refine h sv hsv k ?_;cases sv with
  |c y=>simpa [at2,SV.uses] using hu
  |agg y=>simpa [at2,SV.uses] using hu
  |tup y=>simp[at2,SC.uses,SC.nms,Jy]at hu
  |pk _ y=>simp[at2,SC.uses,SC.nms,Jy]at hu
 unfold ai8;split
 ·exact h _ (by simp)
 ·exact key l h
theorem bx7{cx:Cx}{B:Tabs}(hB:TabsOK cx.P B){s:St}{fn:Func}{K:SV→Prop}(h:aa7 B s fn.results.toList fun l=>K (ai8 l)) :
 ∃r,K r∧∀(ρ:Jn) (a:Act) (w:World),Sat cx ρ s a w→∃v,(results fn a.tmps).run cx.P w=.ok v w∧r.rel ρ v∧r.below s.nx:=by
 obtain⟨l,hK,hl⟩:=aX6 hB _ _ h;refine⟨_,hK,fun ρ a w hs=>?_⟩;obtain⟨vs,hvs,hr,hbl⟩:=hl ρ a w hs;have hrun:(fn.results.mapM (ax6 a.tmps)).run cx.P w=.ok vs.toArray w:=by
  rw[Array.mapM_eq_mapM_toList];simp only[Sem.run_map,hvs,Result.andThen_ok]
 refine⟨if h:vs.toArray.size=1 then vs.toArray[0]else .tuple vs.toArray, ?_, ?_, ?_⟩
 ·rw[bI6];simp only[Sem.run_bind,hrun,Result.andThen_ok,Sem.run_pure]
 ·have hlen:=GS hr
  match l,vs,hr,hlen with
  | [],[],_,_=>exact⟨#[],by simp,trivial⟩
  | [x],[v],hr,_=>simpa [ai8] using hr.1
  |x::y::l,v::u::vs,hr,_ =>
   simp only[ai8];exact⟨(v::u::vs).toArray,by simp,by simpa using aG1 hr⟩
 ·exact bx6 hbl
end Sx
end Go
