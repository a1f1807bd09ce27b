/-
  A part of the proof that a law answers true: lemmas of a symbolic walk, plain functions, or contracts of the functions walked (Q2, Q3, Q4, Q5). Conditions: none.
-/
import Derived.Test.YtfcdjkeamldkaaaGreatPart28
set_option maxRecDepth 100000
set_option linter.unusedVariables false
set_option linter.unusedSimpArgs false
namespace Go.Proofs
open Go.Sx
theorem bf9(L:List UInt8)(o:Nat):Qh L o []=L:=by
 unfold Qh;simp
theorem co6{L ys:List UInt8}{o:Nat}(y:UInt8)(h:o+ys.length<L.length):(Qh L o ys).set (o+ys.length) y=Qh L o (ys++[y]):=by
 have hl1:(ys++[y]).length=ys.length+1:=by simp
 refine List.ext_getElem? fun i=>?_;have g1:=Wf (xs:=L) (ys:=ys++[y]) (o:=o) (i:=i) (by omega);have g2:=Wf (xs:=L) (ys:=ys) (o:=o) (i:=i) (by omega);have g3:=Vy (xs:=L) (ys:=ys) (o:=o) (by omega);rw[g1,List.getElem?_set,g2,g3,hl1];by_cases h1:o+ys.length=i
 ·subst h1;rw[if_pos rfl,if_pos h,if_pos (by omega),show o+ys.length-o=ys.length from by omega];simp
 ·rw[if_neg h1];by_cases h2:o≤i∧i<o+ys.length
  ·rw[if_pos h2,if_pos (by omega),List.getElem?_append_left (by omega)]
  ·rw[if_neg h2,if_neg (by omega)]
theorem bP4{L ys:List UInt8}{o k:Nat}(y:UInt8)(hk:k<o)(h:o+ys.length≤L.length):(Qh L o ys).set k y=Qh (L.set k y) o ys:=by
 refine List.ext_getElem? fun i=>?_;have g1:=Wf (xs:=L) (ys:=ys) (o:=o) (i:=i) h;have g2:=Wf (xs:=L.set k y) (ys:=ys) (o:=o) (i:=i) (by rw[List.length_set];exact h);have g3:=Vy (xs:=L) (ys:=ys) (o:=o) h;rw[g2,List.getElem?_set,g1,g3,List.getElem?_set];by_cases h1:k=i
 ·subst h1;have h2:¬(o≤k∧k<o+ys.length):=by omega
  rw[if_pos rfl,if_neg h2,if_pos rfl]
 ·rw[if_neg h1,if_neg h1]
theorem cb9{ys:List UInt8}{i:Nat}(h:i<ys.length):ys.take (i+1)=ys.take i++[ys[i]]:=JR h
theorem aW1{L ys:List UInt8}{o i:Nat}(hi:i<ys.length)(h:o+ys.length≤L.length):(Qh L o (ys.take i)).set (o+i) ys[i]=Qh L o (ys.take (i+1)):=by
 have hl:(ys.take i).length=i:=by rw[List.length_take];omega
 have:=@co6 L (ys.take i) o ys[i] (by rw[hl];omega);rw[hl]at this;rw[cb9 hi,this]
theorem ah6?:∀(n:Nat) (x:UInt64) (i:Nat),i<n→n≤8→(JW n x)[i]? = some (x>>>UInt64.ofNat (8*(n-1-i))).toUInt8
 |0,_,i,h,_=>by omega
 |n+1,x,i,h,hn=>by
  show(JW n (x>>>UInt64.ofNat 8)++[x.toUInt8])[i]? = _;have hl:=JU n (x>>>UInt64.ofNat 8);by_cases h1:i<n
  ·rw[List.getElem?_append_left (by omega),ah6? n _ i h1 (by omega)];congr 2;have hs:∀(z:UInt64) (k:Nat),k<64→(z>>>UInt64.ofNat k).toNat=z.toNat/2 ^ k:=fun z k hk=>by
    rw[UInt64.toNat_shiftRight];have:(UInt64.ofNat k).toNat%64=k:=by rw[UInt64.toNat_ofNat'];omega
    rw[this,Nat.shiftRight_eq_div_pow]
   refine UInt64.toNat_inj.1 ?_;rw[hs _ _ (by omega),hs _ _ (by omega),hs _ _ (by omega),Nat.div_div_eq_div_mul,←Nat.pow_add,show 8+8*(n-1-i)=8*(n+1-1-i)from by omega]
  ·have hi:i=n:=by omega
   subst hi;rw[List.getElem?_append_right (by omega),hl];simp
theorem ah6(n:Nat)(x:UInt64)(i:Nat)(h:i<(JW n x).length)(hn:n≤8):(JW n x)[i]=(x>>>UInt64.ofNat (8*(n-1-i))).toUInt8:=by
 have h1:=JU n x;have:=ah6? n x i (by omega) hn;rw[List.getElem?_eq_getElem h]at this;exact Option.some.inj this
theorem bF0(b:UInt8)(k:Nat)(h:k≤56):(b.toUInt64<<<UInt64.ofNat k).toNat=b.toNat*2 ^ k:=by
 rw[UInt64.toNat_shiftLeft];have e:(UInt64.ofNat k).toNat%64=k:=by rw[UInt64.toNat_ofNat'];omega
 rw[e,Nat.shiftLeft_eq,UInt8.toNat_toUInt64];refine Nat.mod_eq_of_lt ?_;have h1:=UX b;have h2:2 ^ k≤2 ^ 56:=Nat.pow_le_pow_right (by decide) h
 calc b.toNat*2 ^ k≤255*2 ^ 56:=Nat.mul_le_mul (by omega) h2
  _<2 ^ 64:=by decide
theorem cc0{x:UInt64}(b:UInt8){k:Nat}(h:k≤56)(hx:x.toNat<2 ^ k):(x|||b.toUInt64<<<UInt64.ofNat k).toNat=x.toNat+b.toNat*2 ^ k:=by
 rw[UInt64.toNat_or,bF0 b k h,Nat.or_comm,Nat.mul_comm,←Nat.two_pow_add_eq_or_of_lt hx];omega
theorem cc1(l:List UInt8):∀n,n≤8→n≤l.length→(orF (l.take n)).toNat<2 ^ (8*n)
 |0,_,_=>by simp[orF]
 |n+1,hn,hl=>by
  have ih:=cc1 l n (by omega) (by omega);rw[JR (by omega),br5,List.length_take,Nat.min_eq_left (by omega),cc0 _ (by omega) ih];have h1:=UX (l[n]'(by omega));have e:2 ^ (8*(n+1))=256*2 ^ (8*n):=by rw[show 8*(n+1)=8+8*n from by omega,Nat.pow_add]
  rw[e];have:(l[n]'(by omega)).toNat*2 ^ (8*n)≤255*2 ^ (8*n):=Nat.mul_le_mul (by omega) (Nat.le_refl _);omega
theorem cF5{x:UInt64}(b:UInt8){k:Nat}(h:k≤56)(hx:x.toNat<2 ^ k):IntKind.u64.wrap ((x.toNat:Int)+((b.toUInt64<<<UInt64.ofNat k).toNat:Int))=((x|||b.toUInt64<<<UInt64.ofNat k).toNat:Int):=by
 rw[XC,bF0 b k h];have e:=cc0 b h hx;have:=(x|||b.toUInt64<<<UInt64.ofNat k).toNat_lt;rw[e]at this ⊢;omega
def Gq(L:List UInt8)(o1:Nat)(B:List UInt8)(o2:Nat)(D:List UInt8)(i:Nat):List UInt8:=Qh (Qh L o1 (B.take i)) o2 (D.take i)
theorem bj9{L B D:List UInt8}{o1 o2:Nat}(hB:B.length=8)(hD:D.length=8)(h1:o1+8≤L.length)(h2:o2+8≤L.length)(i:Nat):(Gq L o1 B o2 D i).length=L.length:=by
 have e1:(Qh L o1 (B.take i)).length=L.length:=Vy (by rw[List.length_take];omega);unfold Gq;rw[Vy (by rw[e1,List.length_take];omega),e1]
theorem bc4{L B D:List UInt8}{o1 o2:Nat}(hB:B.length=8)(hD:D.length=8)(h1:o1+8≤o2)(h2:o2+8≤L.length)(i:Nat)(hi:i<8) :
 ((Gq L o1 B o2 D i).set (o1+i) (B[i]'(by omega))).set (o2+i) (D[i]'(by omega))=Gq L o1 B o2 D (i+1):=by
 have e1:(Qh L o1 (B.take i)).length=L.length:=Vy (by rw[List.length_take];omega);have e1':(Qh L o1 (B.take (i+1))).length=L.length:=Vy (by rw[List.length_take];omega);unfold Gq;rw[bP4 _ (by omega) (by rw[e1,List.length_take];omega),@aW1 L B o1 i (by omega) (by omega),@aW1 (Qh L o1 (B.take (i+1))) D o2 i (by omega) (by rw[e1'];omega)]
theorem bv9(tag:Int)(ht:0≤tag∧tag≤1000)(ps:List (List UInt8))(hp:at9 ps) :
 Triple Tryz.prog 123 [iv .i64 tag, .c (.s 0 0 ps.length 1)] [(0,false, .arr (Va ps))] 1 (YQ (Xv tag ps)) []:=by
 have hlen:=aD1 (tag:=tag) hp;refine Jc Ja Tryz.func123 rfl Tryz.call123 rfl ?_;intro ρ w hH;conv=>whnf
 refine Jv Ja 16 rfl rfl rfl ?_;conv=>whnf
 refine Jb (cb8 tag ht ps hp) rfl rfl ?_;conv=>whnf
 refine cs ?_;have hsum:Xv tag ps=JW 8 (ag8 (Gt tag ps)).b++JW 8 (ag8 (Gt tag ps)).d:=rfl;rw[hsum];generalize Gt tag ps=s at hlen ⊢;conv=>whnf
 refine Jz Ja (G:=Nat) 0 [] (fun j=>[(7,iv .i64 (8*(j:Int)))]) (fun j=>[(2,true, .cells (bf8 (ab2 s j)))])
  (fun j=>j≤(s.length+7)/8) (fun j=>(s.length+7)/8-j) ?_
 conv=>whnf
 refine⟨⟨0,Nat.zero_le _, ?_⟩, ?_⟩
 ·conv=>whnf
  exact cl
 intro j hj ρ2 t2 hρ2;conv=>whnf
 refine⟨fun hc=>?_,fun hc=>?_⟩
 ·have hlt:8*j<s.length:=by
   have hc:decide (8*(j:Int)<(s.length:Int))=true:=hc;simp at hc;omega
  conv=>whnf
  refine Jz Ja (G:=Nat) 0 [] (fun i=>[(9,iv .i64 i),(8,uv (orF ((s.drop (8*j)).take i)))]) (fun _=>[]) (fun i=>i≤8∧8*j+i≤s.length) (fun i=>8-i) ?_;conv=>whnf
  refine⟨⟨0,⟨by omega,by omega⟩, ?_⟩, ?_⟩
  ·conv=>whnf
   exact cl
  rintro i ⟨hi,hil⟩ ρ3 t3 hρ3
  conv=>whnf
  refine⟨fun hc=>?_,fun hc=>?_⟩
  rotate_left
  ·have hie:i=min 8 (s.length-8*j):=by have:=of_decide_eq_false hc;omega
   conv=>whnf
   rw[aK8 hie];conv=>whnf
   refine Jb (ac3 (ab2 s j) (aD2 s j)) rfl rfl ?_;rw[←aK7];conv=>whnf
   refine cs ?_;conv=>whnf
   refine⟨_,wO, ?_⟩;refine⟨j+1,by omega,by show(s.length+7)/8-(j+1)<(s.length+7)/8-j;omega, ?_⟩;dsimp only;conv=>whnf
   refine⟨rfl, ?_⟩;conv=>whnf
   exact cl
  have h8:i<8:=by have:=of_decide_eq_true hc;omega
  conv=>whnf
  refine⟨((8*j+i:Nat):Int),by rw[show 8*(j:Int)+(i:Int)=((8*j+i:Nat):Int)from by omega];exact wO, ?_⟩;conv=>whnf
  refine⟨fun hc=>?_,fun hc=>?_⟩
  rotate_left
  ·have hc:decide (((8*j+i:Nat):Int)<(s.length:Int))=false:=hc;have hie:i=min 8 (s.length-8*j):=by have:=of_decide_eq_false hc;omega
   conv=>whnf
   rw[aK8 hie];conv=>whnf
   refine Jb (ac3 (ab2 s j) (aD2 s j)) rfl rfl ?_;rw[←aK7];conv=>whnf
   refine cs ?_;conv=>whnf
   refine⟨_,wO, ?_⟩;refine⟨j+1,by omega,by show(s.length+7)/8-(j+1)<(s.length+7)/8-j;omega, ?_⟩;dsimp only;conv=>whnf
   refine⟨rfl, ?_⟩;conv=>whnf
   exact cl
  have hc:decide (((8*j+i:Nat):Int)<(s.length:Int))=true:=hc;have hs1:8*j+i<s.length:=by have:=of_decide_eq_true hc;omega
  have hor:(orF ((s.drop (8*j)).take i)).toNat<2 ^ (8*i):=cc1 _ i (by omega) (by rw[List.length_drop];omega);have hws:=aZ4 hs1 h8;generalize orF ((s.drop (8*j)).take i)=v at hor hws ⊢;conv=>whnf
  refine⟨((8*j+i:Nat):Int),by rw[show 8*(j:Int)+(i:Int)=((8*j+i:Nat):Int)from by omega];exact wO, ?_⟩;conv=>whnf
  refine GW (l:=s) Ja rfl rfl rfl rfl (8*j+i) rfl hs1 ?_;conv=>whnf
  refine⟨_,aO8 _, ?_⟩;conv=>whnf
  refine⟨((8*i:Nat):Int),by rw[YX ⟨by omega,by omega⟩];push_cast;rfl, ?_⟩;conv=>whnf
  refine⟨by omega,_,ag6 _ (8*i) (by omega), ?_⟩;conv=>whnf
  refine⟨_,cF5 (s[8*j+i]'hs1) (by omega) hor, ?_⟩;conv=>whnf
  refine⟨_,wO, ?_⟩;refine⟨i+1,⟨by omega,by omega⟩,by show 8-(i+1)<8-i;omega, ?_⟩;dsimp only;rw[←hws];conv=>whnf
  refine⟨rfl, ?_⟩;conv=>whnf
  exact cl
 ·have hc:decide (8*(j:Int)<(s.length:Int))=false:=hc;have hje:j=(s.length+7)/8:=by simp at hc;omega
  subst hje;conv=>whnf
  refine⟨((UInt64.ofNat s.length).toNat:Int),by rw[XC,UInt64.toNat_ofNat'];show(s.length:Int)%_=_;omega, ?_⟩;rw[show ag8 s=YV (YV (YV (YV (ab2 s ((s.length+7)/8)) (UInt64.ofNat s.length)) 0) 0) 0 from rfl];generalize ab2 s ((s.length+7)/8)=m0;conv=>whnf
  refine Jb (ac3 m0 (UInt64.ofNat s.length)) rfl rfl ?_;generalize YV m0 (UInt64.ofNat s.length)=m1;conv=>whnf
  refine cs ?_;conv=>whnf
  refine Jb (ac3 m1 0) rfl rfl ?_;generalize YV m1 0=m2;conv=>whnf
  refine cs ?_;conv=>whnf
  refine Jb (ac3 m2 0) rfl rfl ?_;generalize YV m2 0=m3;conv=>whnf
  refine cs ?_;conv=>whnf
  refine Jb (ac3 m3 0) rfl rfl ?_;generalize YV m3 0=m4;conv=>whnf
  refine cs ?_;conv=>whnf
  refine GA Ja rfl rfl rfl rfl ?_;conv=>whnf
  refine Jv Ja 16 rfl rfl rfl ?_;conv=>whnf
  refine Jp (l':=Xz) Ja rfl rfl rfl rfl rfl (by simp) (by simp[Xz]) (by decide) ?_;have hB:=JU 8 m4.b;have hD:=JU 8 m4.d;have hend:Gq Xz 0 (JW 8 m4.b) 8 (JW 8 m4.d) 8=JW 8 m4.b++JW 8 m4.d:=by
   unfold Gq;rw[List.take_of_length_le (by omega),List.take_of_length_le (by omega)];generalize JW 8 m4.b=B at hB ⊢;generalize JW 8 m4.d=D at hD ⊢;refine List.ext_getElem? fun i=>?_;have g0:=Vy (xs:=Xz) (ys:=B) (o:=0) (by rw[hB];decide);have gz:Xz.length=16:=rfl;have g1:=Wf (xs:=Qh Xz 0 B) (ys:=D) (o:=8) (i:=i) (by omega);have g2:=Wf (xs:=Xz) (ys:=B) (o:=0) (i:=i) (by omega);rw[g1,g2];by_cases c1:i<8
   ·rw[if_neg (by omega),if_pos (by omega),List.getElem?_append_left (by omega)];rfl
   ·rw[List.getElem?_append_right (by omega),hB];by_cases c2:i<16
    ·rw[if_pos (by omega)]
    ·rw[if_neg (by omega),if_neg (by omega),List.getElem?_eq_none (by omega),List.getElem?_eq_none (by omega)]
  conv=>whnf
  refine Jz Ja (G:=Nat) 0 [] (fun i=>[(11,iv .i64 i)]) (fun i=>[(3,true, .arr (Qr (some 16) (Gq Xz 0 (JW 8 m4.b) 8 (JW 8 m4.d) i)))]) (fun i=>i≤8) (fun i=>8-i) ?_;conv=>whnf
  refine⟨⟨0,Nat.zero_le _, ?_⟩, ?_⟩
  ·conv=>whnf
   exact cl
  intro i hi ρ3 t3 hρ3;have hi:i≤8:=hi;have hpl:=bj9 (L:=Xz) hB hD (o1:=0) (o2:=8) (by decide) (by decide) i;have gz:Xz.length=16:=rfl;conv=>whnf
  refine⟨fun hc=>?_,fun hc=>?_⟩
  ·have h:i<8:=by have:=of_decide_eq_true hc;omega
   have hst:=bc4 (L:=Xz) hB hD (o1:=0) (o2:=8) (by decide) (by decide) i h;have gb:=ah6 8 m4.b i (by omega) (by decide);have gd:=ah6 8 m4.d i (by omega) (by decide);rw[gb,gd,Nat.zero_add]at hst;generalize Gq Xz 0 (JW 8 m4.b) 8 (JW 8 m4.d) i=P at hst hpl ⊢;conv=>whnf
   refine⟨((8*i:Nat):Int),by rw[YX ⟨by omega,by omega⟩];push_cast;rfl, ?_⟩;conv=>whnf
   refine⟨((8*(8-1-i):Nat):Int),by rw[YX ⟨by omega,by omega⟩];omega, ?_⟩;conv=>whnf
   refine⟨by omega,_,Km _ (8*(8-1-i)) (by omega), ?_⟩;conv=>whnf
   refine⟨_,ag7 _, ?_⟩;conv=>whnf
   refine Qk Ja rfl rfl rfl rfl rfl rfl i rfl (by omega) ?_;conv=>whnf
   refine⟨by show i<P.length;omega,_,rfl, ?_⟩;conv=>whnf
   refine⟨((8+i:Nat):Int),by rw[YX ⟨by omega,by omega⟩];push_cast;rfl, ?_⟩;conv=>whnf
   refine⟨((8*i:Nat):Int),by rw[YX ⟨by omega,by omega⟩];push_cast;rfl, ?_⟩;conv=>whnf
   refine⟨((8*(8-1-i):Nat):Int),by rw[YX ⟨by omega,by omega⟩];omega, ?_⟩;conv=>whnf
   refine⟨by omega,_,Km _ (8*(8-1-i)) (by omega), ?_⟩;conv=>whnf
   refine⟨_,ag7 _, ?_⟩;conv=>whnf
   refine Qk Ja rfl rfl rfl rfl rfl rfl (8+i) rfl (by omega) ?_;conv=>whnf
   refine⟨by show 8+i<(P.set i _).length;rw[List.length_set];omega,_,rfl, ?_⟩;conv=>whnf
   refine⟨_,wO, ?_⟩;refine⟨i+1,h,by show 8-(i+1)<8-i;omega, ?_⟩;dsimp only;rw[←hst];conv=>whnf
   refine⟨rfl, ?_⟩;conv=>whnf
   exact cl
  ·have hie:i=8:=by have:=of_decide_eq_false hc;omega
   subst hie;rw[hend];have hl2:(JW 8 m4.b++JW 8 m4.d).length=16:=by rw[List.length_append,hB,hD]
   generalize JW 8 m4.b++JW 8 m4.d=L at hl2 ⊢;conv=>whnf
   refine Jm (l:=L) Ja rfl rfl rfl rfl rfl hl2.symm ?_;conv=>whnf
   refine Jp (l':=L) Ja rfl rfl rfl rfl rfl (by simp) (by rw[hl2];simp) (by decide) ?_;conv=>whnf
   refine⟨Js L,⟨(Yy hl2).1,(by rw[Jo,hl2]),rfl⟩, ?_⟩;conv=>whnf
   exact cl
theorem co7(x:UInt64)(b:UInt8):IntKind.u64.wrap (((x<<<UInt64.ofNat 8).toNat:Int)+(b.toUInt64.toNat:Int))=((x<<<UInt64.ofNat 8|||b.toUInt64).toNat:Int):=by
 have h1:(x<<<UInt64.ofNat 8).toNat=2 ^ 8*(x.toNat%2 ^ 56):=by
  rw[UInt64.toNat_shiftLeft];have e:(UInt64.ofNat 8).toNat%64=8:=by decide
  rw[e,Nat.shiftLeft_eq];omega
 have h2:b.toUInt64.toNat=b.toNat:=UInt8.toNat_toUInt64 b;have h3:=UX b;have h4:(x<<<UInt64.ofNat 8|||b.toUInt64).toNat=2 ^ 8*(x.toNat%2 ^ 56)+b.toNat:=by
  rw[UInt64.toNat_or,h1,h2,←Nat.two_pow_add_eq_or_of_lt (by omega)]
 rw[XC,h4,h1,h2];omega
theorem WE(l:List UInt8)(hl:l.length=128)(st n:Nat)(h:st+n≤128):Triple Tryz.prog 129 [YQ l,iv .i64 st,iv .i64 n] [] 0 (uv (JJ (Jd l st (st+n)))) []:=by
 rw[show Jd l st (st+n)=(l.drop st).take n from by unfold Jd;rw[Nat.add_sub_cancel_left]];refine Jc Ja Tryz.func129 rfl Tryz.call129 rfl ?_;intro ρ w hH;conv=>whnf
 refine YT (l:=l) rfl rfl ?_;rw[hl];conv=>whnf
 refine Jz Ja (G:=Nat) 0 [] (fun i=>[(7,uv (JJ ((l.drop st).take i))),(8,iv .i64 ((st+i:Nat):Int))]) (fun _=>[]) (fun i=>i≤n) (fun i=>n-i) ?_;conv=>whnf
 refine⟨⟨0,Nat.zero_le _, ?_⟩, ?_⟩
 ·conv=>whnf
  exact cl
 rintro i hi ρ1 t1 hρ1
 have hi:i≤n:=hi;conv=>whnf
 refine⟨((st+n:Nat):Int),by rw[YX ⟨by omega,by omega⟩];push_cast;rfl, ?_⟩;conv=>whnf
 refine⟨fun hc=>?_,fun hc=>?_⟩
 ·have hlt:i<n:=by have:=of_decide_eq_true hc;omega
  have key:JJ ((l.drop st).take i)<<<UInt64.ofNat 8|||(l[st+i]'(by omega)).toUInt64=JJ ((l.drop st).take (i+1)):=by
   have h1:i<(l.drop st).length:=by rw[List.length_drop];omega
   rw[JR h1,at8,List.getElem_drop]
  generalize JJ ((l.drop st).take i)=v at key ⊢;conv=>whnf
  refine⟨by decide,_,ag6 _ 8 (by omega), ?_⟩;conv=>whnf
  refine Qk Ja rfl rfl rfl rfl rfl rfl (st+i) rfl (by omega) ?_;conv=>whnf
  refine⟨by show st+i<l.length;omega, ?_⟩;conv=>whnf
  refine⟨_,aO8 _, ?_⟩;conv=>whnf
  refine⟨_,co7 v (l[st+i]'(by omega)), ?_⟩;rw[key];conv=>whnf
  refine⟨((st+(i+1):Nat):Int),by rw[YX ⟨by omega,by omega⟩];push_cast;omega, ?_⟩;refine⟨i+1,hlt,by show n-(i+1)<n-i;omega, ?_⟩;conv=>whnf
  refine⟨rfl, ?_⟩;conv=>whnf
  exact cl
 ·have hie:i=n:=by have:=of_decide_eq_false hc;omega
  subst hie;conv=>whnf
  exact cl
theorem az9(l:List UInt8)(hl:l.length=128)(st n:Nat)(hn:n≤8)(h:st+n≤128)(x:UInt64):Triple Tryz.prog 172 [YQ l,iv .i64 st,iv .i64 n,uv x] [] 0 (YQ (Qh l st (JW n x))) []:=by
 have hX:=JU n x;refine Jc Ja Tryz.func172 rfl Tryz.call172 rfl ?_;intro ρ w hH;conv=>whnf
 refine YT (l:=l) rfl rfl ?_;rw[hl];conv=>whnf
 refine Jv Ja 128 rfl rfl rfl ?_;conv=>whnf
 refine Jz Ja (G:=Nat) 0 [] (fun i=>[(9,iv .i64 i)]) (fun i=>[(0,true, .arr (Qr (some 128) (Qh l st ((JW n x).take i))))]) (fun i=>i≤n) (fun i=>n-i) ?_;conv=>whnf
 refine⟨⟨0,Nat.zero_le _, ?_⟩, ?_⟩
 ·dsimp only;rw[List.take_zero,bf9];conv=>whnf
  exact cl
 intro i hi ρ3 t3 hρ3;have hi:i≤n:=hi;have hsl:(Qh l st ((JW n x).take i)).length=128:=Qn hl (by rw[List.length_take];omega);conv=>whnf
 refine⟨fun hc=>?_,fun hc=>?_⟩
 ·have hlt:i<n:=by have:=of_decide_eq_true hc;omega
  have hst:=@aW1 l (JW n x) st i (by omega) (by omega);have gx:=ah6 n x i (by omega) hn;rw[gx]at hst;generalize Qh l st ((JW n x).take i)=P at hst hsl ⊢;conv=>whnf
  refine⟨((st+i:Nat):Int),by rw[YX ⟨by omega,by omega⟩];push_cast;rfl, ?_⟩;conv=>whnf
  refine⟨((n-1:Nat):Int),by rw[YX ⟨by omega,by omega⟩];omega, ?_⟩;conv=>whnf
  refine⟨((n-1-i:Nat):Int),by rw[YX ⟨by omega,by omega⟩];omega, ?_⟩;conv=>whnf
  refine⟨((8*(n-1-i):Nat):Int),by rw[YX ⟨by omega,by omega⟩];push_cast;rfl, ?_⟩;conv=>whnf
  refine⟨by omega,_,Km _ (8*(n-1-i)) (by omega), ?_⟩;conv=>whnf
  refine⟨_,ag7 _, ?_⟩;conv=>whnf
  refine Qk Ja rfl rfl rfl rfl rfl rfl (st+i) rfl (by omega) ?_;conv=>whnf
  refine⟨by show st+i<P.length;omega,_,rfl, ?_⟩;conv=>whnf
  refine⟨_,wO, ?_⟩;refine⟨i+1,hlt,by show n-(i+1)<n-i;omega, ?_⟩;dsimp only;rw[←hst];conv=>whnf
  refine⟨rfl, ?_⟩;conv=>whnf
  exact cl
 ·have hie:i=n:=by have:=of_decide_eq_false hc;omega
  subst hie;rw[List.take_of_length_le (by omega)]at hsl ⊢;generalize Qh l st (JW i x)=L at hsl ⊢;conv=>whnf
  refine Jm (l:=L) Ja rfl rfl rfl rfl rfl hsl.symm ?_;conv=>whnf
  refine Jp (l':=L) Ja rfl rfl rfl rfl rfl (by simp) (by rw[hsl];simp) (by decide) ?_;conv=>whnf
  refine⟨Js L,⟨(Yy hsl).1,(by rw[Jo,hsl]),rfl⟩, ?_⟩;conv=>whnf
  exact cl
def Wd(l:List UInt8)(mark:Nat)(d:List UInt8):List UInt8:=Qh (Qh l mark (d.take 8)) 120 (d.drop 8)
theorem au8{l d:List UInt8}(hl:l.length=128)(hd:d.length=16){mark:Nat}(hm:mark≤112):(Wd l mark d).length=128:=by
 unfold Wd;exact Qn (Qn hl (by rw[List.length_take];omega)) (by rw[List.length_drop];omega)
theorem bg0(l:List UInt8)(hl:l.length=128)(mark:Nat)(hm:mark≤112)(d:List UInt8)(hd:d.length=16):Triple Tryz.prog 173 [YQ l,iv .i64 mark,YQ d] [] 0 (YQ (Wd l mark d)) []:=by
 have hB:(d.take 8).length=8:=by rw[List.length_take];omega
 have hD:(d.drop 8).length=8:=by rw[List.length_drop];omega
 have hend:Gq l mark (d.take 8) 120 (d.drop 8) 8=Wd l mark d:=by
  unfold Gq Wd;rw[List.take_of_length_le (by omega:(d.take 8).length≤8),List.take_of_length_le (by omega:(d.drop 8).length≤8)]
 have hfl:=au8 hl hd hm;refine Jc Ja Tryz.func173 rfl Tryz.call173 rfl ?_;intro ρ w hH;conv=>whnf
 refine YT (l:=l) rfl rfl ?_;rw[hl];conv=>whnf
 refine YT (l:=d) rfl rfl ?_;rw[hd];conv=>whnf
 refine Jv Ja 128 rfl rfl rfl ?_;conv=>whnf
 refine Jz Ja (G:=Nat) 0 [] (fun i=>[(7,iv .i64 i)]) (fun i=>[(0,true, .arr (Qr (some 128) (Gq l mark (d.take 8) 120 (d.drop 8) i)))]) (fun i=>i≤8) (fun i=>8-i) ?_;conv=>whnf
 refine⟨⟨0,Nat.zero_le _, ?_⟩, ?_⟩
 ·dsimp only;rw[show Gq l mark (d.take 8) 120 (d.drop 8) 0=l from by unfold Gq;rw[List.take_zero,List.take_zero,bf9,bf9]];conv=>whnf
  exact cl
 intro i hi ρ3 t3 hρ3;have hi:i≤8:=hi;have hpl:=bj9 (L:=l) hB hD (o1:=mark) (o2:=120) (by omega) (by omega) i;conv=>whnf
 refine⟨fun hc=>?_,fun hc=>?_⟩
 ·have h:i<8:=by have:=of_decide_eq_true hc;omega
  have hst:=bc4 (L:=l) hB hD (o1:=mark) (o2:=120) (by omega) (by omega) i h;rw[List.getElem_take,List.getElem_drop]at hst;generalize Gq l mark (d.take 8) 120 (d.drop 8) i=P at hst hpl ⊢;conv=>whnf
  refine⟨((mark+i:Nat):Int),by rw[YX ⟨by omega,by omega⟩];push_cast;rfl, ?_⟩;conv=>whnf
  refine Qk Ja rfl rfl rfl rfl rfl rfl i rfl (by omega) ?_;conv=>whnf
  refine⟨by show i<d.length;omega, ?_⟩;conv=>whnf
  refine Qk Ja rfl rfl rfl rfl rfl rfl (mark+i) rfl (by omega) ?_;conv=>whnf
  refine⟨by show mark+i<P.length;omega,d[i]'(by omega),rfl, ?_⟩;conv=>whnf
  refine⟨((120+i:Nat):Int),by rw[YX ⟨by omega,by omega⟩];push_cast;rfl, ?_⟩;conv=>whnf
  refine⟨((8+i:Nat):Int),by rw[YX ⟨by omega,by omega⟩];push_cast;rfl, ?_⟩;conv=>whnf
  refine Qk Ja rfl rfl rfl rfl rfl rfl (8+i) rfl (by omega) ?_;conv=>whnf
  refine⟨by show 8+i<d.length;omega, ?_⟩;conv=>whnf
  refine Qk Ja rfl rfl rfl rfl rfl rfl (120+i) rfl (by omega) ?_;conv=>whnf
  refine⟨by show 120+i<(P.set (mark+i) _).length;rw[List.length_set];omega,d[8+i]'(by omega),rfl, ?_⟩;conv=>whnf
  refine⟨_,wO, ?_⟩;refine⟨i+1,h,by show 8-(i+1)<8-i;omega, ?_⟩;dsimp only;rw[←hst];conv=>whnf
  refine⟨rfl, ?_⟩;conv=>whnf
  exact cl
 ·have hie:i=8:=by have:=of_decide_eq_false hc;omega
  subst hie;rw[hend];generalize Wd l mark d=L at hfl ⊢;conv=>whnf
  refine Jm (l:=L) Ja rfl rfl rfl rfl rfl hfl.symm ?_;conv=>whnf
  refine Jp (l':=L) Ja rfl rfl rfl rfl rfl (by simp) (by rw[hfl];simp) (by decide) ?_;conv=>whnf
  refine⟨Js L,⟨(Yy hfl).1,(by rw[Jo,hfl]),rfl⟩, ?_⟩;conv=>whnf
  exact cl
theorem aA0{l d:List UInt8}(hl:l.length=128)(hd:d.length=16){mark:Nat}(hm:mark≤112):decide (Wd l mark d=l)=(decide ((l.take (mark+8)).drop mark=d.take 8)&&decide (l.drop 120=d.drop 8)):=by
 have hB:(d.take 8).length=8:=by rw[List.length_take];omega
 have hD:(d.drop 8).length=8:=by rw[List.length_drop];omega
 have hg:∀i,(Wd l mark d)[i]? = if 120≤i∧i<128 then(d.drop 8)[i-120]? else if mark≤i∧i<mark+8 then(d.take 8)[i-mark]? else l[i]?:=fun i=>by
  have g0:=Vy (xs:=l) (ys:=d.take 8) (o:=mark) (by omega);have g1:=Wf (xs:=Qh l mark (d.take 8)) (ys:=d.drop 8) (o:=120) (i:=i) (by omega);have g2:=Wf (xs:=l) (ys:=d.take 8) (o:=mark) (i:=i) (by omega);unfold Wd;rw[g1,g2,hB,hD]
 rw[←Bool.decide_and];refine decide_eq_decide.2 ⟨fun h=>⟨?_, ?_⟩,fun⟨h1,h2⟩=>?_⟩
 ·refine List.ext_getElem? fun i=>?_;rw[List.getElem?_drop,List.getElem?_take];by_cases hi:i<8
  ·have:=hg (mark+i);rw[h,if_neg (by omega),if_pos (by omega),Nat.add_sub_cancel_left]at this;rw[if_pos (by omega),this]
  ·rw[if_neg (by omega),List.getElem?_eq_none (by omega)]
 ·refine List.ext_getElem? fun i=>?_;rw[List.getElem?_drop];by_cases hi:i<8
  ·have:=hg (120+i);rw[h,if_pos (by omega),Nat.add_sub_cancel_left]at this;exact this
  ·rw[List.getElem?_eq_none (by omega),List.getElem?_eq_none (by omega)]
 ·refine List.ext_getElem? fun i=>?_;rw[hg];by_cases c1:120≤i∧i<128
  ·rw[if_pos c1,←h2,List.getElem?_drop,show 120+(i-120)=i from by omega]
  ·rw[if_neg c1];by_cases c2:mark≤i∧i<mark+8
   ·rw[if_pos c2,←h1,List.getElem?_drop,List.getElem?_take,if_pos (by omega),show mark+(i-mark)=i from by omega]
   ·rw[if_neg c2]
theorem bk0(l:List UInt8)(hl:l.length=128)(mark:Nat)(hm:mark≤112)(d:List UInt8)(hd:d.length=16):Triple Tryz.prog 176 [YQ l,iv .i64 mark,YQ d] [] 0 (bv (decide (Wd l mark d=l))) []:=by
 have hfl:=au8 hl hd hm;refine Jc Ja Tryz.func176 rfl Tryz.call176 rfl ?_;intro ρ w hH;conv=>whnf
 refine YT (l:=l) rfl rfl ?_;rw[hl];conv=>whnf
 refine YT (l:=d) rfl rfl ?_;rw[hd];conv=>whnf
 refine Jm (l:=l) Ja rfl rfl rfl rfl rfl hl.symm ?_;conv=>whnf
 refine Jm (l:=d) Ja rfl rfl rfl rfl rfl hd.symm ?_;conv=>whnf
 refine Jb (bg0 l hl mark hm d hd) rfl rfl ?_;generalize Wd l mark d=L at hfl ⊢;conv=>whnf
 refine cs ?_;conv=>whnf
 refine Jm (l:=l) Ja rfl rfl rfl rfl rfl hl.symm ?_;conv=>whnf
 refine ci4 (n:=128) (l:=L) (l':=l) Ja rfl rfl rfl rfl hfl hl ?_;conv=>whnf
 exact cl
theorem bc5(l:List UInt8)(hl:l.length=128):Triple Tryz.prog 174 [YQ l] [] 0 (YQ (JT 1 l 44)) []:=by
 refine Jc Ja Tryz.func174 rfl Tryz.call174 rfl ?_;intro ρ w hH;conv=>whnf
 refine YT (l:=l) rfl rfl ?_;rw[hl];conv=>whnf
 refine Jv Ja 16 rfl rfl rfl ?_;conv=>whnf
 refine Jk (n:=128) (l:=l) Ja rfl rfl rfl rfl rfl rfl ⟨44,rfl,by decide,0,rfl,by decide, ?_⟩;conv=>whnf
 refine Ju (fx:=some 128) (l:=l) Ja rfl rfl rfl rfl rfl rfl (by rw[Jt];omega) ?_;rw[show(l.drop 0).take (JV 44 0)=l.take 44 from by rw[Jt];rfl];conv=>whnf
 refine Jk (n:=128) (l:=l) Ja rfl rfl rfl rfl rfl rfl ⟨120,rfl,by decide,44+8,rfl,by decide, ?_⟩;conv=>whnf
 refine Ju (fx:=some 128) (l:=l) Ja rfl rfl rfl rfl rfl rfl (by rw[Jt];omega) ?_;rw[show(l.drop (44+8)).take (JV 120 (44+8))=(l.take 120).drop (44+8)from by rw[Jt,List.drop_take]];conv=>whnf
 refine Yq (l:=l.take 44) (l':=(l.take 120).drop (44+8)) rfl rfl rfl (by rw[List.length_take,List.length_drop,List.length_take];omega) ?_;conv=>whnf
 refine Yf Ja (Va [l.take 44++(l.take 120).drop (44+8)]) rfl rfl ?_;conv=>whnf
 refine⟨⟨rfl,cl⟩, ?_⟩;conv=>whnf
 refine Jb (bv9 1 (by decide) [l.take 44++(l.take 120).drop (44+8)] (bv2 (by rw[List.length_append,List.length_take,List.length_drop,List.length_take];omega))) rfl rfl ?_;conv=>whnf
 refine cs ?_;have hd:=Qt 1 l 44;rw[show Xv 1 [l.take 44++(l.take 120).drop (44+8)]=JT 1 l 44 from rfl];conv=>whnf
 refine Jp (l':=JT 1 l 44) Ja rfl rfl rfl rfl rfl (by simp) (by rw[hd];simp) (by decide) ?_;conv=>whnf
 refine⟨Js (JT 1 l 44),⟨(Yy hd).1,(by rw[Jo,hd]),rfl⟩, ?_⟩;conv=>whnf
 exact cl
theorem aS4(l:List UInt8)(hl:l.length=128):Triple Tryz.prog 177 [YQ l] [] 0 (YQ (JT 2 l 22)) []:=by
 refine Jc Ja Tryz.func177 rfl Tryz.call177 rfl ?_;intro ρ w hH;conv=>whnf
 refine YT (l:=l) rfl rfl ?_;rw[hl];conv=>whnf
 refine Jv Ja 16 rfl rfl rfl ?_;conv=>whnf
 refine Jk (n:=128) (l:=l) Ja rfl rfl rfl rfl rfl rfl ⟨22,rfl,by decide,0,rfl,by decide, ?_⟩;conv=>whnf
 refine Ju (fx:=some 128) (l:=l) Ja rfl rfl rfl rfl rfl rfl (by rw[Jt];omega) ?_;rw[show(l.drop 0).take (JV 22 0)=l.take 22 from by rw[Jt];rfl];conv=>whnf
 refine Jk (n:=128) (l:=l) Ja rfl rfl rfl rfl rfl rfl ⟨120,rfl,by decide,22+8,rfl,by decide, ?_⟩;conv=>whnf
 refine Ju (fx:=some 128) (l:=l) Ja rfl rfl rfl rfl rfl rfl (by rw[Jt];omega) ?_;rw[show(l.drop (22+8)).take (JV 120 (22+8))=(l.take 120).drop (22+8)from by rw[Jt,List.drop_take]];conv=>whnf
 refine Yq (l:=l.take 22) (l':=(l.take 120).drop (22+8)) rfl rfl rfl (by rw[List.length_take,List.length_drop,List.length_take];omega) ?_;conv=>whnf
 refine Yf Ja (Va [l.take 22++(l.take 120).drop (22+8)]) rfl rfl ?_;conv=>whnf
 refine⟨⟨rfl,cl⟩, ?_⟩;conv=>whnf
 refine Jb (bv9 2 (by decide) [l.take 22++(l.take 120).drop (22+8)] (bv2 (by rw[List.length_append,List.length_take,List.length_drop,List.length_take];omega))) rfl rfl ?_;conv=>whnf
 refine cs ?_;have hd:=Qt 2 l 22;rw[show Xv 2 [l.take 22++(l.take 120).drop (22+8)]=JT 2 l 22 from rfl];conv=>whnf
 refine Jp (l':=JT 2 l 22) Ja rfl rfl rfl rfl rfl (by simp) (by rw[hd];simp) (by decide) ?_;conv=>whnf
 refine⟨Js (JT 2 l 22),⟨(Yy hd).1,(by rw[Jo,hd]),rfl⟩, ?_⟩;conv=>whnf
 exact cl
theorem ae5(l:List UInt8)(hl:l.length=128):Triple Tryz.prog 132 [YQ l] [] 0 (bv (Qu 2 l 22)) []:=by
 have hd:=Qt 2 l 22;have hs:=bk0 l hl 22 (by decide) (JT 2 l 22) hd;rw[aA0 hl hd (by decide)]at hs;rw[show Qu 2 l 22=(decide ((l.take (22+8)).drop 22=(JT 2 l 22).take 8)&&decide (l.drop 120=(JT 2 l 22).drop 8))from rfl];refine Jc Ja Tryz.func132 rfl Tryz.call132 rfl ?_;intro ρ w hH;conv=>whnf
 refine YT (l:=l) rfl rfl ?_;rw[hl];conv=>whnf
 refine Jm (l:=l) Ja rfl rfl rfl rfl rfl hl.symm ?_;conv=>whnf
 refine Jm (l:=l) Ja rfl rfl rfl rfl rfl hl.symm ?_;conv=>whnf
 refine Jb (aS4 l hl) rfl rfl ?_;conv=>whnf
 refine cs ?_;conv=>whnf
 refine Jb hs rfl rfl ?_;conv=>whnf
 refine cs ?_;conv=>whnf
 exact cl
theorem al2(l:List UInt8)(hl:l.length=128)(number:Nat)(hn:number≤100):Triple Tryz.prog 131 [YQ l,iv .i64 number] [] 0 (bv (JF l number)) []:=by
 have hdg:=Qt 1 l 44;have hs:=bk0 l hl 44 (by decide) (JT 1 l 44) hdg;rw[aA0 hl hdg (by decide),show(decide ((l.take (44+8)).drop 44=(JT 1 l 44).take 8)&&decide (l.drop 120=(JT 1 l 44).drop 8))=Qu 1 l 44 from rfl]at hs;refine Jc Ja Tryz.func131 rfl Tryz.call131 rfl ?_;intro ρ w hH;conv=>whnf
 refine YT (l:=l) rfl rfl ?_;rw[hl];conv=>whnf
 refine Jm (l:=l) Ja rfl rfl rfl rfl rfl hl.symm ?_;conv=>whnf
 refine Jb (WE l hl 8 8 (by decide)) rfl rfl ?_;rw[show JJ (Jd l 8 (8+8))=(JX l).gen from rfl];conv=>whnf
 refine cs ?_;conv=>whnf
 refine Jm (l:=l) Ja rfl rfl rfl rfl rfl hl.symm ?_;conv=>whnf
 refine Jb (WE l hl 20 8 (by decide)) rfl rfl ?_;rw[show JJ (Jd l 20 (20+8))=(JX l).first from rfl];conv=>whnf
 refine cs ?_;have hdp:JJ (Jd l 28 (28+8))=(JX l).dropped:=rfl;generalize hB:JX l=b at hdp ⊢;conv=>whnf
 refine⟨fun hc=>?_,fun hc=>?_⟩
 rotate_left
 ·have c2:¬1≤b.gen.toNat:=by have:=of_decide_eq_false hc;omega
  conv=>whnf
  rw[show JF l number=false from by simp[JF,hB,c2]];conv=>whnf
  refine Jk (n:=128) (l:=l) Ja rfl rfl rfl rfl rfl rfl ⟨8,rfl,by decide,0,rfl,by decide, ?_⟩;conv=>whnf
  refine Ju (fx:=some 128) (l:=l) Ja rfl rfl rfl rfl rfl rfl (by show 0+8≤_;omega) ?_;rw[show(l.drop 0).take (JV 8 0)=Jd l 0 8 from rfl];conv=>whnf
  refine KI (l:=Jd l 0 8) (l':=Vk) rfl rfl rfl ?_;conv=>whnf
  refine⟨fun hc=>?_,fun hc=>?_⟩
  ·conv=>whnf
   exact cl
  ·conv=>whnf
   exact cl
 have c2:1≤b.gen.toNat:=by have:=of_decide_eq_true hc;omega
 conv=>whnf
 refine⟨fun hc=>?_,fun hc=>?_⟩
 rotate_left
 ·have c3:¬b.gen.toNat≤4611686018427387904:=by have:=of_decide_eq_false hc;omega
  conv=>whnf
  rw[show JF l number=false from by simp[JF,hB,c3]];conv=>whnf
  refine Jk (n:=128) (l:=l) Ja rfl rfl rfl rfl rfl rfl ⟨8,rfl,by decide,0,rfl,by decide, ?_⟩;conv=>whnf
  refine Ju (fx:=some 128) (l:=l) Ja rfl rfl rfl rfl rfl rfl (by show 0+8≤_;omega) ?_;rw[show(l.drop 0).take (JV 8 0)=Jd l 0 8 from rfl];conv=>whnf
  refine KI (l:=Jd l 0 8) (l':=Vk) rfl rfl rfl ?_;conv=>whnf
  refine⟨fun hc=>?_,fun hc=>?_⟩
  ·conv=>whnf
   exact cl
  ·conv=>whnf
   exact cl
 have c3:b.gen.toNat≤4611686018427387904:=by have:=of_decide_eq_true hc;omega
 conv=>whnf
 refine⟨by decide,((b.gen.toNat%2:Nat):Int),(Int.ofNat_tmod b.gen.toNat 2).symm, ?_⟩;conv=>whnf
 refine⟨(number:Int),Ym number (by omega), ?_⟩;conv=>whnf
 refine⟨fun hc=>?_,fun hc=>?_⟩
 rotate_left
 ·have c4:¬b.gen.toNat%2=number:=by have:=of_decide_eq_false hc;omega
  conv=>whnf
  rw[show JF l number=false from by simp[JF,hB,c4]];conv=>whnf
  refine Jk (n:=128) (l:=l) Ja rfl rfl rfl rfl rfl rfl ⟨8,rfl,by decide,0,rfl,by decide, ?_⟩;conv=>whnf
  refine Ju (fx:=some 128) (l:=l) Ja rfl rfl rfl rfl rfl rfl (by show 0+8≤_;omega) ?_;rw[show(l.drop 0).take (JV 8 0)=Jd l 0 8 from rfl];conv=>whnf
  refine KI (l:=Jd l 0 8) (l':=Vk) rfl rfl rfl ?_;conv=>whnf
  refine⟨fun hc=>?_,fun hc=>?_⟩
  ·conv=>whnf
   exact cl
  ·conv=>whnf
   exact cl
 have c4:b.gen.toNat%2=number:=by have:=of_decide_eq_true hc;omega
 conv=>whnf
 refine⟨fun hc=>?_,fun hc=>?_⟩
 rotate_left
 ·have c5:¬1≤b.first.toNat:=by have:=of_decide_eq_false hc;omega
  conv=>whnf
  rw[show JF l number=false from by simp[JF,hB,c5]];conv=>whnf
  refine Jk (n:=128) (l:=l) Ja rfl rfl rfl rfl rfl rfl ⟨8,rfl,by decide,0,rfl,by decide, ?_⟩;conv=>whnf
  refine Ju (fx:=some 128) (l:=l) Ja rfl rfl rfl rfl rfl rfl (by show 0+8≤_;omega) ?_;rw[show(l.drop 0).take (JV 8 0)=Jd l 0 8 from rfl];conv=>whnf
  refine KI (l:=Jd l 0 8) (l':=Vk) rfl rfl rfl ?_;conv=>whnf
  refine⟨fun hc=>?_,fun hc=>?_⟩
  ·conv=>whnf
   exact cl
  ·conv=>whnf
   exact cl
 have c5:1≤b.first.toNat:=by have:=of_decide_eq_true hc;omega
 conv=>whnf
 refine⟨fun hc=>?_,fun hc=>?_⟩
 rotate_left
 ·have c6:¬b.first.toNat≤4611686018427387904:=by have:=of_decide_eq_false hc;omega
  conv=>whnf
  rw[show JF l number=false from by simp[JF,hB,c6]];conv=>whnf
  refine Jk (n:=128) (l:=l) Ja rfl rfl rfl rfl rfl rfl ⟨8,rfl,by decide,0,rfl,by decide, ?_⟩;conv=>whnf
  refine Ju (fx:=some 128) (l:=l) Ja rfl rfl rfl rfl rfl rfl (by show 0+8≤_;omega) ?_;rw[show(l.drop 0).take (JV 8 0)=Jd l 0 8 from rfl];conv=>whnf
  refine KI (l:=Jd l 0 8) (l':=Vk) rfl rfl rfl ?_;conv=>whnf
  refine⟨fun hc=>?_,fun hc=>?_⟩
  ·conv=>whnf
   exact cl
  ·conv=>whnf
   exact cl
 have c6:b.first.toNat≤4611686018427387904:=by have:=of_decide_eq_true hc;omega
 conv=>whnf
 refine Jm (l:=l) Ja rfl rfl rfl rfl rfl hl.symm ?_;conv=>whnf
 refine Jb (WE l hl 28 8 (by decide)) rfl rfl ?_;rw[hdp];conv=>whnf
 refine cs ?_;conv=>whnf
 refine Jk (n:=128) (l:=l) Ja rfl rfl rfl rfl rfl rfl ⟨8,rfl,by decide,0,rfl,by decide, ?_⟩;conv=>whnf
 refine Ju (fx:=some 128) (l:=l) Ja rfl rfl rfl rfl rfl rfl (by show 0+8≤_;omega) ?_;rw[show(l.drop 0).take (JV 8 0)=Jd l 0 8 from rfl];conv=>whnf
 refine KI (l:=Jd l 0 8) (l':=Vk) rfl rfl rfl ?_;conv=>whnf
 refine⟨fun hc=>?_,fun hc=>?_⟩
 rotate_left
 ·rw[show JF l number=false from by
   have c1:¬Jd l 0 8=Vk:=of_decide_eq_false hc;simp[JF,c1]]
  conv=>whnf
  exact cl
 have c1:Jd l 0 8=Vk:=of_decide_eq_true hc;conv=>whnf
 refine⟨fun hc=>?_,fun hc=>?_⟩
 rotate_left
 ·have c7:¬b.dropped.toNat≤4611686018427387904:=by have:=of_decide_eq_false hc;omega
  rw[show JF l number=false from by simp[JF,hB,c7]];conv=>whnf
  exact cl
 have c7:b.dropped.toNat≤4611686018427387904:=by have:=of_decide_eq_true hc;omega
 rw[show JF l number=Qu 1 l 44 from by simp[JF,hB,c1,c2,c3,c4,c5,c6,c7]];conv=>whnf
 refine Jm (l:=l) Ja rfl rfl rfl rfl rfl hl.symm ?_;conv=>whnf
 refine Jm (l:=l) Ja rfl rfl rfl rfl rfl hl.symm ?_;conv=>whnf
 refine Jb (bc5 l hl) rfl rfl ?_;conv=>whnf
 refine cs ?_;conv=>whnf
 refine Jb hs rfl rfl ?_;conv=>whnf
 refine cs ?_;conv=>whnf
 exact cl
theorem bA5(n:Nat)(hn:1≤n∧n≤65536):Triple Tryz.prog 73 [iv .i64 n] [] 0 (.tup [.inl (.p 1 0 0 0), .inl (.v (.int .i64 0))]) [(0,true, .arr (JD (List.replicate n JS))),(1,true,YE 0 n)]:=by
 refine Jc Ja Tryz.func73 rfl Tryz.call73 rfl ?_;intro ρ w hH;conv=>whnf
 refine⟨fun hc=>?_,fun hc=>?_⟩
 ·simp at hc;omega
 conv=>whnf
 refine⟨fun hc=>?_,fun hc=>?_⟩
 ·simp at hc;omega
 conv=>whnf
 refine aw3 Ja n rfl rfl rfl rfl rfl (by decide) rfl rfl (by omega) ?_;conv=>whnf
 exact cl
theorem bP5(n:Nat)(hn:1≤n∧n≤65536):Triple Tryz.prog 73 [iv .i64 n] [] 0 (.tup [.inl (.p 1 0 0 0), .inl (.v (.int .i64 0))]) [(0,true,Vc 2 (Qp n)),(2,true,Vv (Qp n)),(1,true,YE 0 (Qp n).length)]:=by
 have:=Triple.addBox (kb:=2) (bA5 n hn) (by decide) (by decide) (fun j own o hj=>by
  rw[Jh]at hj;by_cases h:j=1
  ·rw[if_pos h]at hj;simp at hj;obtain⟨_,rfl⟩:=hj;subst h;exact⟨by decide,rfl⟩
  ·rw[if_neg h]at hj;cases hj) rfl
 rw[←bb9,←bj6]at this;rw[Ka];exact this
theorem bF1(D:Dk)(i:Nat)(h:i<D.length):Triple Tryz.prog 170 [.c (.p 0 0 0 0),iv .i64 i] (dkH D) 3 (iv .i64 0) []:=by
 have hrl:=YH D;refine Jc Ja Tryz.func170 rfl Tryz.call170 rfl ?_;intro ρ w hH;conv=>whnf
 refine nF fun hc=>?_;conv=>whnf
 refine nF fun hc=>?_;conv=>whnf
 refine⟨fun hc=>?_,fun hc=>?_⟩
 ·simp at hc;omega
 conv=>whnf
 exact cl
theorem bF2(D:Dk):Triple Tryz.prog 171 [.c (.p 0 0 0 0)] [(0,true,YE 1 D.length),(1,false,Vc 2 D),(2,false,Vv D)] 3 (bv true) [(0,true,YE 1 D.length)]:=by
 refine Jc Ja Tryz.func171 rfl Tryz.call171 rfl ?_;intro ρ w hH;conv=>whnf
 refine nF fun hc=>?_;conv=>whnf
 refine nF fun hc=>?_;conv=>whnf
 refine⟨_,wO, ?_⟩;conv=>whnf
 exact cl
theorem cA1(D:Dk)(i:Nat)(h:i<D.length):Triple Tryz.prog 175 [.c (.p 0 0 0 0),iv .i64 i] (dkH D) 3 (.tup [.inl (.v (GX (XE D[i]).l)), .inl (.v (.int .i64 0))]) []:=by
 have hrl:=YH D;refine Jc Ja Tryz.func175 rfl Tryz.call175 rfl ?_;intro ρ w hH;conv=>whnf
 refine Jv Ja 128 rfl rfl rfl ?_;conv=>whnf
 refine Jb (bF1 D i h) rfl rfl ?_;conv=>whnf
 refine Qs ?_;conv=>whnf
 refine nF fun hc=>?_;conv=>whnf
 refine⟨i,rfl,h, ?_⟩;conv=>whnf
 cases hq:D[i].2 with
 |none =>
  rw[show XE D[i]=D[i].1 from by simp[XE,hq]];refine Xr Ja D[i].1 (.v Qf) rfl rfl rfl rfl rfl rfl rfl (Wq h hq) ?_;conv=>whnf
  refine Vz Ja rfl rfl rfl ?_;conv=>whnf
  refine XH (kp:=0) (b:=none) Ja (JD [JS]) JS D[i].1 (.v Qf) rfl rfl rfl rfl rfl rfl rfl (Nat.zero_lt_one) rfl D[i].1 rfl ?_;conv=>whnf
  refine VR (s:=D[i].1) (u:=Qf) Ja rfl rfl rfl rfl rfl rfl ⟨D[i].1,rfl,rfl⟩ ?_;conv=>whnf
  refine nF fun hc=>?_;conv=>whnf
  refine XG Ja D[i].1 (.v Qf) rfl rfl rfl rfl rfl rfl rfl ⟨D[i].1,rfl,rfl⟩ ?_;conv=>whnf
  refine Jp (l':=D[i].1.l) Ja rfl rfl rfl rfl rfl (by simp) (by rw[D[i].1.h];simp) (by decide) ?_;conv=>whnf
  refine⟨Js D[i].1.l,⟨(Yy D[i].1.h).1,(by rw[Jo,D[i].1.h]),rfl⟩, ?_⟩;conv=>whnf
  exact cl
 |some q =>
  rw[show XE D[i]=q from by simp[XE,hq]];refine Xr Ja D[i].1 (.ghost 2 i) rfl rfl rfl rfl rfl rfl rfl (Wp h hq) ?_;conv=>whnf
  refine Vz Ja rfl rfl rfl ?_;conv=>whnf
  refine aa1 (kp:=2) Ja JS D[i].1 i rfl rfl rfl rfl rfl rfl ?_;conv=>whnf
  refine JZ (s:=D[i].1) (q:=q) Ja rfl rfl rfl rfl rfl rfl ⟨(D[i].1,some i),rfl,rfl⟩ rfl (Xt h hq) ?_;conv=>whnf
  refine nT fun hc=>?_;conv=>whnf
  refine JZ (s:=D[i].1) (q:=q) Ja rfl rfl rfl rfl rfl rfl ⟨(D[i].1,some i),rfl,rfl⟩ rfl (Xt h hq) ?_;conv=>whnf
  refine JZ (s:=D[i].1) (q:=q) Ja rfl rfl rfl rfl rfl rfl ⟨(D[i].1,some i),rfl,rfl⟩ rfl (Xt h hq) ?_;conv=>whnf
  refine⟨0,by decide, ?_⟩;conv=>whnf
  refine⟨0,rfl,by decide, ?_⟩;conv=>whnf
  refine WM (s:=q) Ja rfl rfl rfl rfl rfl rfl rfl ?_;conv=>whnf
  refine Jp (l':=q.l) Ja rfl rfl rfl rfl rfl (by simp) (by rw[q.h];simp) (by decide) ?_;conv=>whnf
  refine⟨Js q.l,⟨(Yy q.h).1,(by rw[Jo,q.h]),rfl⟩, ?_⟩;conv=>whnf
  exact cl
theorem ar8(D:Dk)(i:Nat)(h:i<D.length)(hn:D[i].2=none)(q:Sct):Triple Tryz.prog 125 [.c (.p 0 0 0 0),iv .i64 i,YQ q.l]
 [(0,true,YE 1 D.length),(1,true,Vc 2 D),(2,true,Vv D)] 3 (iv .i64 0) [(0,true,YE 1 D.length),(1,true,Vc 3 (YY D i q)),(3,true,Vv (YY D i q))]:=by
 have hrl:=YH D;refine Jc Ja Tryz.func125 rfl Tryz.call125 rfl ?_;intro ρ w hH;conv=>whnf
 refine YT (l:=q.l) rfl rfl ?_;rw[q.h];conv=>whnf
 refine Jb (bF1 D i h) rfl rfl ?_;conv=>whnf
 refine Qs ?_;conv=>whnf
 refine nF fun hc=>?_;conv=>whnf
 refine Jb (bF2 D) rfl rfl ?_;conv=>whnf
 refine Qs ?_;conv=>whnf
 refine nF fun hc=>?_;conv=>whnf
 refine⟨i,rfl,h, ?_⟩;conv=>whnf
 refine VR (s:=D[i].1) (u:=Qf) Ja rfl rfl rfl rfl rfl rfl (Wq h hn) ?_;conv=>whnf
 refine Jm (l:=q.l) Ja rfl rfl rfl rfl rfl q.h.symm ?_;conv=>whnf
 refine aZ8 (s:=q) Ja rfl rfl rfl rfl rfl ?_;conv=>whnf
 refine aw1 Ja (GH []) [q] (fun x=>aR7 x _) rfl rfl rfl rfl ?_;conv=>whnf
 refine⟨⟨rfl,rfl,Nat.le_refl _,by decide⟩, ?_⟩;conv=>whnf
 refine⟨i,rfl,h, ?_⟩;conv=>whnf
 refine au3 (D:=D) (d:=D[i].1) (q:=q) (i:=i) (k':=6) Ja rfl rfl rfl rfl rfl rfl rfl rfl (by rw[List.getElem?_eq_getElem h,←hn]) (by decide) (by decide) ?_;conv=>whnf
 exact JE
theorem co8(D:Dk)(hl:D.length≤100000):Triple Tryz.prog 127 [.c (.p 0 0 0 0)]
 ([(0,true,YE 1 D.length),(1,true,Vc 2 D)]++[(2,false,Vv D)]) 3 (iv .i64 0) [(0,true,YE 1 D.length),(1,true,Vc 2 (YD D))]:=by
 have hrl:=YH D;refine Jc Ja Tryz.func127 rfl Tryz.call127 rfl ?_;intro ρ w hH;conv=>whnf
 refine Jb (bF2 D) rfl rfl ?_;conv=>whnf
 refine Qs ?_;conv=>whnf
 refine nF fun hc=>?_;conv=>whnf
 refine Jz Ja (G:=Nat) 0 [] (fun i=>[(4,iv .i64 i)]) (fun i=>[(1,true,Vc 2 (JN D i))]) (fun i=>i≤D.length) (fun i=>D.length-i) ?_;conv=>whnf
 refine⟨⟨0,Nat.zero_le _, ?_⟩, ?_⟩
 ·dsimp only;rw[show JN D 0=D from by simp[JN]];conv=>whnf
  exact JE
 intro i hi ρ1 t1 hρ1;have hsl:=aM4 D i;have hsr:=YH (JN D i);conv=>whnf
 refine⟨fun hc=>?_,fun hc=>?_⟩
 ·have h:i<D.length:=by simp at hc;omega
  have h2:i<(JN D i).length:=by omega
  have hg:=bj4 D h h2;have hst:=bj5 (JN D i) i (XE D[i]);rw[←an8 D h]at hst;conv=>whnf
  refine⟨i,rfl,h, ?_⟩;conv=>whnf
  cases hq:D[i].2 with
  |none =>
   refine Xr Ja (JN D i)[i].1 (.v Qf) rfl rfl rfl rfl rfl rfl rfl (Wq h2 (by rw[hg];exact hq)) ?_;conv=>whnf
   refine Vz Ja rfl rfl rfl ?_;conv=>whnf
   refine XH (kp:=0) (b:=none) Ja (JD [JS]) JS (JN D i)[i].1 (.v Qf) rfl rfl rfl rfl rfl rfl rfl (Nat.zero_lt_one) rfl (JN D i)[i].1 rfl ?_;conv=>whnf
   refine VR (s:=(JN D i)[i].1) (u:=Qf) Ja rfl rfl rfl rfl rfl rfl ⟨(JN D i)[i].1,rfl,rfl⟩ ?_;conv=>whnf
   refine nF fun hc=>?_;conv=>whnf
   refine⟨_,wO, ?_⟩;refine⟨i+1,h,by show D.length-(i+1)<D.length-i;omega, ?_⟩;have e:JN D (i+1)=JN D i:=by
    rw[an8 D h,show(XE D[i],none)=(JN D i)[i]from by rw[hg];exact Prod.ext (by simp[XE,hq]) (by simp[hq]),List.set_getElem_self]
   dsimp only;rw[e];conv=>whnf
   refine⟨rfl, ?_⟩;conv=>whnf
   exact JE
  |some q =>
   refine Xr Ja (JN D i)[i].1 (.ghost 2 i) rfl rfl rfl rfl rfl rfl rfl (Wp h2 (by rw[hg];exact hq)) ?_;conv=>whnf
   refine Vz Ja rfl rfl rfl ?_;conv=>whnf
   refine aa1 (kp:=2) Ja JS (JN D i)[i].1 i rfl rfl rfl rfl rfl rfl ?_;conv=>whnf
   refine JZ (s:=(JN D i)[i].1) (q:=q) Ja rfl rfl rfl rfl rfl rfl ⟨((JN D i)[i].1,some i),rfl,rfl⟩ rfl (Xt h hq) ?_;conv=>whnf
   refine nT fun hc=>?_;conv=>whnf
   refine JZ (s:=(JN D i)[i].1) (q:=q) Ja rfl rfl rfl rfl rfl rfl ⟨((JN D i)[i].1,some i),rfl,rfl⟩ rfl (Xt h hq) ?_;conv=>whnf
   refine JZ (s:=(JN D i)[i].1) (q:=q) Ja rfl rfl rfl rfl rfl rfl ⟨((JN D i)[i].1,some i),rfl,rfl⟩ rfl (Xt h hq) ?_;conv=>whnf
   refine⟨0,by decide, ?_⟩;conv=>whnf
   refine⟨0,rfl,by decide, ?_⟩;conv=>whnf
   refine WM (s:=q) Ja rfl rfl rfl rfl rfl rfl rfl ?_;conv=>whnf
   refine WC Ja q rfl rfl rfl rfl rfl rfl rfl rfl ?_;conv=>whnf
   refine⟨i,rfl,h, ?_⟩;conv=>whnf
   have hri:i<(Qv (JN D i)).length:=by omega
   have hrx:(Qv (JN D i))[i]'hri=(D[i].1,some i):=by
    have:=@WR (JN D i) i;rw[List.getElem?_eq_getElem hri,List.getElem?_eq_getElem h2,hg]at this;rw[Option.some.inj this];show(D[i].1,D[i].2.map fun _=>i)=_;rw[hq];rfl
   refine XH (kp:=2) (b:=none) Ja (XF 2 (Qv (JN D i))) (D[i].1) q (.ghost 2 i) rfl rfl rfl rfl rfl rfl rfl hri (by show JC ((Qv (JN D i))[i]'hri).1.l++[pnd 2 ((Qv (JN D i))[i]'hri).2]=_;rw[hrx];rfl) (q,none) rfl ?_;have e2:(XF 2 (Qv (JN D i))).setXs ((Qv (JN D i)).set i (q,none))=XF 2 (Qv (JN D (i+1))):=by
    show XF 2 ((Qv (JN D i)).set i (q,none))=_;rw[hst,show XE D[i]=q from by simp[XE,hq]]
   conv=>whnf
   refine⟨_,wO, ?_⟩;refine⟨i+1,h,by show D.length-(i+1)<D.length-i;omega, ?_⟩;dsimp only;conv=>whnf
   refine⟨rfl, ?_⟩;conv=>whnf
   repeat' (first|exact(e2.trans (JI rfl))|exact trivial|exact rfl|refine And.intro ?_ ?_|((conv=>whnf);first|exact(e2.trans (JI rfl))|exact trivial|exact rfl|refine And.intro ?_ ?_|omega))
 ·have hie:i=D.length:=by simp at hc;omega
  subst hie;rw[show JN D D.length=YD D from by simp only[JN,List.drop_length,List.append_nil];exact List.take_of_length_le (by rw[XI];exact Nat.le_refl _)];conv=>whnf
  exact JE
theorem bF3(D:Dk)(hl:D.length≤100000):Triple Tryz.prog 127 [.c (.p 0 0 0 0)] [(0,true,YE 1 D.length),(1,true,Vc 2 D),(2,true,Vv D)] 3 (iv .i64 0)
 [(0,true,YE 1 D.length),(1,true,Vc 2 (YD D)),(2,true,Vv (YD D))] :=
 Triple.carry (b':=WL (VY (YD D))) (co8 D hl) (by simp[keys]) rfl (by decide) (by simp[keys]) (by simp) (fun r w _ i s hi=>by
  have hi:((YD D).map (·.2))[i]? = some (some s):=hi;rw[List.getElem?_map]at hi;simp only[YD,List.getElem?_map]at hi;cases h:D[i]? <;> rw[h]at hi <;> simp at hi)
end Go.Proofs
