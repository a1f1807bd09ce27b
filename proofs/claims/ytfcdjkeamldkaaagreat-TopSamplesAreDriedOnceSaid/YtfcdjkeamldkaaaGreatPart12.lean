/-
  A part of the proof that a law answers true: lemmas of a symbolic walk, plain functions, or contracts of the functions walked (U6, Sx57, U7, U8, Sx58, U9, Ua, Ub, Pm33, Uc, Ud). Conditions: none.
-/
import Derived.Test.YtfcdjkeamldkaaaGreatPart11
import Derived.Test.YtfcdjkeamldkaaaGreatPart07
import Derived.RecoverIn
import Derived.RangeFuncLeaves
import Derived.TacticsInMore
import Derived.Lib.Bytealg
set_option maxRecDepth 100000
set_option linter.unusedVariables false
set_option linter.unusedSimpArgs false
namespace Go.Proofs
open Go.Sx
theorem aZ4{s:List UInt8}{i j:Nat}(h:8*j+i<s.length)(hi:i<8) :
 orF ((s.drop (8*j)).take i)|||(s[8*j+i]'h).toUInt64<<<UInt64.ofNat (8*i)=orF ((s.drop (8*j)).take (i+1)):=by
 have h1:i<(s.drop (8*j)).length:=by rw[List.length_drop];omega
 rw[JR h1,br5,List.getElem_drop,List.length_take,Nat.min_eq_left (by omega)]
theorem aK8{s:List UInt8}{i j:Nat}(h:i=min 8 (s.length-8*j)):orF ((s.drop (8*j)).take i)=aD2 s j:=by
 unfold aD2;subst h;rw[←List.length_drop,←List.take_take,List.take_length]
abbrev cH9(m:Mix):Je:=[(2,true, .cells [.v (.int .u64 (m.a.toNat:Int))]),(3,true, .cells [.v (.int .u64 (m.b.toNat:Int))]),(5,true, .cells [.v (.int .u64 (m.d.toNat:Int))]),(4,true, .cells [.v (.int .u64 (m.c.toNat:Int))])]
theorem aO9(tag:Int)(ht:-9223372036854775808≤tag∧tag≤9223372036854775807)(ps:List (List UInt8))(hp:at9 ps) :
 Triple Tryz.prog 47 [iv .i64 tag, .c (.s 0 0 ps.length 1)] [(0,false, .arr (Va ps))] 1 (YQ (Xv tag ps)) []:=by
 have hlen:=aD1 (tag:=tag) hp;refine Jc Ja Tryz.func47 rfl Tryz.call47 rfl ?_;intro ρ w hH;conv=>whnf
 refine Jv Ja 16 rfl rfl rfl ?_;conv=>whnf
 refine Jb (cv2 tag ht ps hp) rfl rfl ?_;conv=>whnf
 refine cs ?_;conv=>whnf
 refine bJ3 (asg:=ci0 Tryz.f47) (body:=ci1 Tryz.f47) Ja rfl Tryz.func146 rfl Tryz.call146 rfl ?_;conv=>whnf
 intro fo d l T0 ρ1 hT hE hl1;have hA:∀i sv,(i,sv)∈[(5,SV.c (.p 2 0 0 0)),(9,SV.c (.p 6 0 0 0))]→sv.rel ρ1 (T0.getD i undef):=by
  intro i sv hm;rcases List.mem_cons.1 hm with he|hm
  ·cases he;exact hE 5
  ·rcases List.mem_cons.1 hm with he|hm
   ·cases he;exact hE 9
   ·cases hm
 clear hE;conv=>whnf
 generalize hs:Gt tag ps=s at hlen ⊢;have hsum:JW 8 (ag8 s).b++JW 8 (ag8 s).d=Xv tag ps:=by rw[←hs];rfl
 refine Jz Ja (G:=Nat) 0 [] (fun j=>[(3,iv .i64 (8*(j:Int)))]) (fun j=>cH9 (ab2 s j)++[(9,true,Kh fo T0 #[16] (ci0 Tryz.f47) (ci1 Tryz.f47) d)])
  (fun j=>j≤(s.length+7)/8) (fun j=>(s.length+7)/8-j) ?_
 conv=>whnf
 refine⟨⟨0,Nat.zero_le _, ?_⟩, ?_⟩
 ·conv=>whnf
  exact cl
 intro j hj ρ2 t2 hρ2;have hρ2:∀k,k<10→ρ2 k=ρ1 k:=hρ2;conv=>whnf
 refine⟨fun hc=>?_,fun hc=>?_⟩
 ·have hlt:8*j<s.length:=by
   have hc:decide (8*(j:Int)<(s.length:Int))=true:=hc;simp at hc;omega
  conv=>whnf
  refine Jz Ja (G:=Nat) 0 [] (fun i=>[(5,iv .i64 (8*(j:Int)+i)),(4,uv (orF ((s.drop (8*j)).take i)))]) (fun _=>[]) (fun i=>i≤8∧8*j+i≤s.length) (fun i=>8-i) ?_;conv=>whnf
  refine⟨⟨0,⟨by omega,by omega⟩, ?_⟩, ?_⟩
  ·conv=>whnf
   exact cl
  rintro i ⟨hi,hil⟩ ρ3 t3 hρ3
  have hρ3:∀k,k<10→ρ3 k=ρ1 k:=fun k hk=>(hρ3 k hk).trans (hρ2 k hk);conv=>whnf
  refine⟨_,wO, ?_⟩;conv=>whnf
  refine⟨fun hc=>?_,fun hc=>?_⟩
  ·have hc:decide (8*(j:Int)+i<min (8*(j:Int)+8) (s.length:Int))=true:=hc;have h1:8*j+i<s.length∧i<8:=by simp at hc;omega
   conv=>whnf
   refine GW (l:=s) Ja rfl rfl rfl rfl (8*j+i) (by push_cast;rfl) h1.1 ?_;conv=>whnf
   refine⟨_,aO8 _, ?_⟩;conv=>whnf
   refine⟨(i:Int),by rw[YX ⟨by omega,by omega⟩];omega, ?_⟩;conv=>whnf
   refine⟨((8*i:Nat):Int),by rw[YX ⟨by omega,by omega⟩];push_cast;rfl, ?_⟩;conv=>whnf
   refine⟨by omega,_,ag6 _ (8*i) (by omega), ?_⟩;conv=>whnf
   refine⟨_,aZ3 _ _, ?_⟩;conv=>whnf
   refine⟨_,wO, ?_⟩;refine⟨i+1,⟨by omega,by omega⟩,by show 8-(i+1)<8-i;omega, ?_⟩;dsimp only;rw[←aZ4 h1.1 h1.2];conv=>whnf
   refine⟨rfl, ?_⟩;conv=>whnf
   exact cl
  ·have hc:decide (8*(j:Int)+i<min (8*(j:Int)+8) (s.length:Int))=false:=hc;have hie:i=min 8 (s.length-8*j):=by simp at hc;omega
   rw[aK8 hie];conv=>whnf
   refine ad8 (fn:=fo) (d:=d) [(5, .c (.p 2 0 0 0)),(9, .c (.p 6 0 0 0))] 9 (aq7 (ab2 s j) (aD2 s j)) hT (bx8 hA rfl hρ2) ((congrArg Rg.blk (hρ2 9 (by omega))).trans hl1) rfl rfl rfl rfl ?_;conv=>whnf
   refine cs ?_;conv=>whnf
   refine⟨_,wO, ?_⟩;refine⟨j+1,by omega,by show(s.length+7)/8-(j+1)<(s.length+7)/8-j;omega, ?_⟩;dsimp only;rw[aK7];conv=>whnf
   refine⟨rfl, ?_⟩;conv=>whnf
   exact cl
 ·have hc:decide (8*(j:Int)<(s.length:Int))=false:=hc;have hje:j=(s.length+7)/8:=by simp at hc;omega
  subst hje;conv=>whnf
  refine⟨((UInt64.ofNat s.length).toNat:Int),by rw[XC,UInt64.toNat_ofNat'];show(s.length:Int)%_=_;omega, ?_⟩;conv=>whnf
  refine ad8 (fn:=fo) (d:=d) [(5, .c (.p 2 0 0 0)),(9, .c (.p 6 0 0 0))] 9 (aq7 (ab2 s ((s.length+7)/8)) (UInt64.ofNat s.length)) hT hA hl1 rfl rfl rfl rfl ?_;conv=>whnf
  refine cs ?_;conv=>whnf
  refine ad8 (fn:=fo) (d:=d) [(5, .c (.p 2 0 0 0)),(9, .c (.p 6 0 0 0))] 9 (aq7 (YV (ab2 s ((s.length+7)/8)) (UInt64.ofNat s.length)) (0)) hT hA hl1 rfl rfl rfl rfl ?_;conv=>whnf
  refine cs ?_;conv=>whnf
  refine ad8 (fn:=fo) (d:=d) [(5, .c (.p 2 0 0 0)),(9, .c (.p 6 0 0 0))] 9 (aq7 (YV (YV (ab2 s ((s.length+7)/8)) (UInt64.ofNat s.length)) (0)) (0)) hT hA hl1 rfl rfl rfl rfl ?_;conv=>whnf
  refine cs ?_;conv=>whnf
  refine ad8 (fn:=fo) (d:=d) [(5, .c (.p 2 0 0 0)),(9, .c (.p 6 0 0 0))] 9 (aq7 (YV (YV (YV (ab2 s ((s.length+7)/8)) (UInt64.ofNat s.length)) (0)) (0)) (0)) hT hA hl1 rfl rfl rfl rfl ?_;conv=>whnf
  refine cs ?_;conv=>whnf
  refine⟨rfl, ?_⟩;conv=>whnf
  refine Jv Ja 16 rfl rfl rfl ?_;conv=>whnf
  refine Jk (n:=16) Ja rfl rfl rfl rfl rfl rfl ⟨8,rfl, ?_⟩;conv=>whnf
  refine⟨by decide,Nat.zero_le _, ?_⟩;conv=>whnf
  refine Jb (bJ9 (some 16) (List.replicate 16 0) 0 8 (ag8 s).b (by decide) (by decide)) rfl rfl ?_;conv=>whnf
  refine cs ?_;conv=>whnf
  refine Jk (n:=16) Ja rfl rfl rfl rfl rfl rfl ?_;conv=>whnf
  refine⟨by decide,8,rfl,by decide, ?_⟩;conv=>whnf
  have hL:((List.replicate 16 (0:UInt8)).take 0++JW 8 (ag8 s).b++(List.replicate 16 (0:UInt8)).drop (0+8)).length=16:=by simp[JU]
  have hR:∀L:List UInt8,L=(List.replicate 16 (0:UInt8)).take 0++JW 8 (ag8 s).b++(List.replicate 16 (0:UInt8)).drop (0+8)→L.take 8++JW 8 (ag8 s).d++L.drop (8+8)=Xv tag ps:=by
   intro L hL;rw[←hsum,hL];simp[JU]
  generalize (List.replicate 16 (0:UInt8)).take 0++JW 8 (ag8 s).b++(List.replicate 16 (0:UInt8)).drop (0+8)=L at hL hR ⊢;refine Jb (bJ9 (some 16) L 8 8 (ag8 s).d (by omega) (by decide)) rfl rfl ?_;conv=>whnf
  refine cs ?_;rw[hR L rfl];conv=>whnf
  refine Jm (l:=Xv tag ps) Ja rfl rfl rfl rfl rfl (by rw[XL]) ?_;conv=>whnf
  refine Jp (l':=Xv tag ps) Ja rfl rfl rfl rfl rfl (by simp) (by rw[XL];simp) (by decide) ?_;conv=>whnf
  refine⟨fun _ h=>h, ?_⟩;conv=>whnf
  refine⟨Js (Xv tag ps),⟨fun j v hv=>?_,by rw[Jo,XL],rfl⟩, ?_⟩
  ·have hj:j<(Xv tag ps).length:=by have:=(List.getElem?_eq_some_iff.1 hv).1;rwa[Jo]at this
   rw[Wh hj]at hv;cases hv;exact⟨j,0,by show j*1+0=j;omega,aa8.2 ⟨hj,rfl,rfl⟩⟩
  conv=>whnf
  exact cl
end Go.Proofs
namespace Go
namespace Sx
end Sx
end Go
namespace Go.Proofs
open Go.Sx
def bK5(n:Int):UInt64:=(aK6 n<<<UInt64.ofNat 1)^^^aK6 (n.fdiv 9223372036854775808)
theorem cv3{n:Int}(h0:0≤n)(h1:n≤9223372036854775807):(bK5 n).toNat=2*n.toNat:=by
 have h2:n.fdiv 9223372036854775808=0:=by
  rw[Int.fdiv_eq_ediv_of_nonneg _ (by decide)];omega
 unfold bK5;rw[h2];have h3:aK6 0=0:=rfl;rw[h3,UInt64.xor_zero,UInt64.toNat_shiftLeft,aK6,UInt64.toNat_ofNat'];show((n%18446744073709551616).toNat%2 ^ 64)<<<1%2 ^ 64=_;rw[Nat.shiftLeft_eq];omega
theorem aK9(x y:UInt8):KO .and .u8 (x.toNat:Int) (y.toNat:Int)=some ((x&&&y).toNat:Int):=by
 show some (IntKind.u8.wrap ((BitVec.ofInt 8 (x.toNat:Int)&&&BitVec.ofInt 8 (y.toNat:Int)).toNat:Int))=_;have e:∀x:UInt8,BitVec.ofInt 8 (x.toNat:Int)=x.toBitVec:=fun x=>by rw[BitVec.ofInt_natCast];exact BitVec.ofNat_toNat ..
 rw[e,e,ao4];have:=(x&&&y).toNat_lt;show some (((x&&&y).toNat:Int)%256)=_;rw[Int.emod_eq_of_lt (by omega) (by omega)]
end Go.Proofs
namespace Go
namespace Sx
variable {cx:Cx} {B:Tabs} {o:Oper} {e:Env} {H:Je} {nx:Nat} {K:Eff→Prop}
end Sx
end Go
namespace Go.Proofs
open Go.Sx
def aV3:List UInt8:=[48,49,50,51,52,53,54,55,56,57,97,98,99,100,101,102]
def GZ(n:Nat):UInt8:=aV3.getD n 0
def WJ(d:List UInt8):List UInt8:=d.flatMap fun x=>[GZ (x.toNat/16),GZ (x.toNat%16)]
theorem aR3(d:List UInt8):(WJ d).length=2*d.length:=by
 induction d with
 |nil=>rfl
 |cons x d ih=>simp only[WJ,List.flatMap_cons,List.length_append,List.length_cons,List.length_nil]at *;omega
theorem bi1(d:List UInt8)(x:UInt8):WJ (d++[x])=(WJ d++[GZ (x.toNat/16)])++[GZ (x.toNat%16)]:=by
 simp[WJ]
theorem bD1(x:UInt8):(x.toNat:Int).fdiv (2 ^ (min 4 8))=((x.toNat/16:Nat):Int):=by
 show(x.toNat:Int).fdiv 16=_;rw[Int.fdiv_eq_ediv_of_nonneg _ (by decide)];omega
theorem aD3{n:Nat}(h:n<16)(hz:n<aV3.length):aV3[n]'hz=GZ n:=by simp[GZ,List.getD,List.getElem?_eq_getElem hz]
def ci2(j k:Nat)(l:List UInt8):Nat→Je
 |0=>[(j,true,bK3)]
 |i+1=>[(j,true,cC7 j k (WJ (l.take (i+1))).length),(k,true, .arr (UG (WJ (l.take (i+1)))))]
theorem aD4(l:List UInt8)(b:UInt8):l.length+1=(l++[b]).length:=by simp
theorem cr8(l:List UInt8)(hl:l.length=16):Triple Tryz.prog 27 [YQ l] [] 0 (YC (WJ l)) []:=by
 refine Jc Ja Tryz.func27 rfl Tryz.call27 rfl ?_;intro ρ w hH;conv=>whnf
 refine YT (l:=l) rfl rfl ?_;conv=>whnf
 refine aR1 Ja rfl rfl ?_;conv=>whnf
 refine Jm (l:=l) Ja rfl rfl rfl rfl rfl hl.symm ?_;conv=>whnf
 refine Jz Ja (G:=Nat) 1 [] (fun i=>[(7,iv .i64 i)]) (fun i=>ci2 1 2 l i) (fun i=>i≤16) (fun i=>16-i) ?_;conv=>whnf
 refine⟨⟨0,Nat.zero_le _, ?_⟩, ?_⟩
 ·conv=>whnf
  exact cl
 intro i hi ρ1 t1 hρ1;have hi:i≤16:=hi
 match i,hi with
 |0,hi =>
  conv=>whnf
  refine⟨fun hc=>?_,fun hc=>absurd hc (by decide)⟩;conv=>whnf
  refine bh6 (l:=l) (n:=16) Ja rfl rfl rfl rfl rfl rfl rfl 0 rfl hl (by omega) ?_;conv=>whnf
  refine⟨by decide,_,bD1 _, ?_⟩;conv=>whnf
  refine GW (l:=aV3) Ja rfl rfl rfl rfl (l[0].toNat/16) rfl (by have:=UX l[0];show _<16;omega) ?_;rw[aD3 (by have:=UX l[0];omega)];conv=>whnf
  refine Jb (ch7 (GZ (l[0].toNat/16))) rfl rfl ?_;conv=>whnf
  refine cs ?_;conv=>whnf
  refine⟨_,aK9 _ 15, ?_⟩;conv=>whnf
  refine GW (l:=aV3) Ja rfl rfl rfl rfl (l[0].toNat%16) ?_ (by show _<16;omega) ?_
  ·rw[UInt8.toNat_and];show((_&&&(2 ^ 4-1):Nat):Int)=_;rw[Nat.and_two_pow_sub_one_eq_mod]
  rw[aD3 (by omega)];conv=>whnf
  refine Jb (aV2 ([]++[GZ (l[0].toNat/16)]) (GZ (l[0].toNat%16)) (by simp)) rfl rfl ?_;conv=>whnf
  refine⟨cl,(by repeat' (first|exact(aD4 _ _)|exact trivial|exact rfl|refine And.intro ?_ ?_|((conv=>whnf);first|exact(aD4 _ _)|exact trivial|exact rfl|refine And.intro ?_ ?_|omega))), ?_⟩;conv=>whnf
  refine⟨_,wO, ?_⟩;have e:WJ (l.take (0+1))=([]++[GZ (l[0].toNat/16)])++[GZ (l[0].toNat%16)]:=by
   rw[JR (by omega),bi1]
   try rfl
  refine⟨0+1,by omega,by show 16-(0+1)<16-0;omega, ?_⟩;dsimp only[ci2];rw[e];conv=>whnf
  refine⟨rfl, ?_⟩;conv=>whnf
  repeat'(first|exact trivial|exact rfl|refine And.intro ?_ ?_|((conv=>whnf);first|exact trivial|exact rfl|refine And.intro ?_ ?_|omega))
  all_goals simp
 |i+1,hi =>
  conv=>whnf
  refine⟨fun hc=>?_,fun hc=>?_⟩
  ·have hi:i+1<16:=by simp at hc;omega
   have hx:=aR3 (l.take (i+1));rw[List.length_take]at hx;have hx2:(WJ (l.take (i+1))++[GZ (l[i+1].toNat/16)]).length≤1000000:=by
    rw[List.length_append];show _+1≤_;omega
   conv=>whnf
   refine bh6 (l:=l) (n:=16) Ja rfl rfl rfl rfl rfl rfl rfl (i+1) rfl hl (by omega) ?_;conv=>whnf
   refine⟨by decide,_,bD1 _, ?_⟩;conv=>whnf
   refine GW (l:=aV3) Ja rfl rfl rfl rfl (l[(i+1)].toNat/16) rfl (by have:=UX l[(i+1)];show _<16;omega) ?_;rw[aD3 (by have:=UX l[(i+1)];omega)];conv=>whnf
   refine Jb (aV2 (WJ (l.take (i+1))) (GZ (l[i+1].toNat/16)) (by omega)) rfl rfl ?_;conv=>whnf
   refine cs ?_;conv=>whnf
   refine⟨_,aK9 _ 15, ?_⟩;conv=>whnf
   refine GW (l:=aV3) Ja rfl rfl rfl rfl (l[(i+1)].toNat%16) ?_ (by show _<16;omega) ?_
   ·rw[UInt8.toNat_and];show((_&&&(2 ^ 4-1):Nat):Int)=_;rw[Nat.and_two_pow_sub_one_eq_mod]
   rw[aD3 (by omega)];conv=>whnf
   refine Jb (aV2 (WJ (l.take (i+1))++[GZ (l[i+1].toNat/16)]) (GZ (l[i+1].toNat%16)) hx2) rfl rfl ?_;conv=>whnf
   refine⟨cl,(by repeat' (first|exact(aD4 _ _)|exact trivial|exact rfl|refine And.intro ?_ ?_|((conv=>whnf);first|exact(aD4 _ _)|exact trivial|exact rfl|refine And.intro ?_ ?_|omega))), ?_⟩;conv=>whnf
   refine⟨_,wO, ?_⟩;have e:WJ (l.take ((i+1)+1))=((WJ (l.take (i+1)))++[GZ (l[(i+1)].toNat/16)])++[GZ (l[(i+1)].toNat%16)]:=by
    rw[JR (by omega),bi1]
    try rfl
   refine⟨(i+1)+1,by omega,by show 16-((i+1)+1)<16-(i+1);omega, ?_⟩;dsimp only[ci2];rw[e];conv=>whnf
   refine⟨rfl, ?_⟩;conv=>whnf
   repeat'(first|exact trivial|exact rfl|refine And.intro ?_ ?_|((conv=>whnf);first|exact trivial|exact rfl|refine And.intro ?_ ?_|omega))
   all_goals simp
  ·have hi:i=15:=by simp at hc;omega
   subst hi;have hx:(WJ (l.take (15+1))).length=32:=by rw[aR3,List.length_take];omega
   have hte:l.take (15+1)=l:=List.take_of_length_le (by omega);conv=>whnf
   refine Jb (bV1 (WJ (l.take (15+1))) (by omega) (by omega)) rfl rfl ?_;conv=>whnf
   refine cs ?_;rw[hte];conv=>whnf
   exact cl
def aZ5(x y:UInt64):UInt64 :=
 let x0:=x&&&4294967295
 let x1:=x>>>UInt64.ofNat 32
 let y0:=y&&&4294967295
 let y1:=y>>>UInt64.ofNat 32
 let w0:=x0*y0
 let t:=x1*y0+w0>>>UInt64.ofNat 32
 let w1:=t&&&4294967295
 let w2:=t>>>UInt64.ofNat 32
 let w1:=w1+x0*y1
 x1*y1+w2+w1>>>UInt64.ofNat 32
theorem cC8(x:UInt64):(x&&&4294967295).toNat=x.toNat%4294967296:=by
 rw[UInt64.toNat_and];show x.toNat&&&(2 ^ 32-1)=_;rw[Nat.and_two_pow_sub_one_eq_mod]
theorem cC9(x:UInt64):(x>>>UInt64.ofNat 32).toNat=x.toNat/4294967296:=by
 rw[UInt64.toNat_shiftRight];have h:(UInt64.ofNat 32).toNat%64=32:=by decide
 rw[h,Nat.shiftRight_eq_div_pow]
theorem aP0{a b:Nat}(ha:a<4294967296)(hb:b<4294967296):a*b≤18446744065119617025:=by
 have:=Nat.mul_le_mul (show a≤4294967295 by omega) (show b≤4294967295 by omega);omega
theorem bV2(x y:UInt64):(aZ5 x y).toNat=x.toNat*y.toNat/18446744073709551616:=by
 have hx:=ay4 x;have hy:=ay4 y;simp only[aZ5,UInt64.toNat_add,UInt64.toNat_mul,cC8,cC9];generalize hX:x.toNat=X at *
 generalize hY:y.toNat=Y at *
 generalize hx0:X%4294967296=x0;generalize hx1:X/4294967296=x1;generalize hy0:Y%4294967296=y0;generalize hy1:Y/4294967296=y1;have eX:X=x1*4294967296+x0:=by omega
 have eY:Y=y1*4294967296+y0:=by omega
 have h00:=aP0 (a:=x0) (b:=y0) (by omega) (by omega);have h10:=aP0 (a:=x1) (b:=y0) (by omega) (by omega);have h01:=aP0 (a:=x0) (b:=y1) (by omega) (by omega);have h11:=aP0 (a:=x1) (b:=y1) (by omega) (by omega);have e:X*Y=x1*y1*18446744073709551616+(x1*y0+x0*y1)*4294967296+x0*y0:=by
  rw[eX,eY,Nat.add_mul,Nat.mul_add,Nat.mul_add,Nat.add_mul];have a1:x1*4294967296*(y1*4294967296)=x1*y1*18446744073709551616:=by
   rw[Nat.mul_mul_mul_comm]
  have a2:x1*4294967296*y0=x1*y0*4294967296:=by rw[Nat.mul_right_comm]
  have a3:x0*(y1*4294967296)=x0*y1*4294967296:=by rw[Nat.mul_assoc]
  rw[a1,a2,a3];omega
 rw[e];generalize x0*y0=d at *
 generalize x1*y0=b at *
 generalize x0*y1=c at *
 generalize x1*y1=a at *
 omega
theorem ay6(x y:UInt64):IntKind.u64.wrap ((x.toNat:Int)*(y.toNat:Int))=((x*y).toNat:Int):=by
 rw[XC,UInt64.toNat_mul,←Int.natCast_mul];show((x.toNat*y.toNat:Nat):Int)%_=((x.toNat*y.toNat%2 ^ 64:Nat):Int);omega
theorem cv4(x y:UInt64):Triple Tryz.prog 178 [uv x,uv y] [] 0 (.tup [.inl (.v (.int .u64 (aZ5 x y).toNat)), .inl (.v (.int .u64 (x*y).toNat))]) []:=by
 refine Jc Ja Tryz.func178 rfl Tryz.call178 rfl ?_;intro ρ w hH;conv=>whnf
 refine⟨_,be9 x 4294967295, ?_⟩;conv=>whnf
 refine⟨by decide,_,Km x 32 (by omega), ?_⟩;conv=>whnf
 refine⟨_,be9 y 4294967295, ?_⟩;conv=>whnf
 refine⟨by decide,_,Km y 32 (by omega), ?_⟩;conv=>whnf
 refine⟨_,ay6 _ _, ?_⟩;conv=>whnf
 refine⟨_,ay6 _ _, ?_⟩;conv=>whnf
 refine⟨by decide,_,Km _ 32 (by omega), ?_⟩;conv=>whnf
 refine⟨_,GB _ _, ?_⟩;conv=>whnf
 refine⟨_,be9 _ 4294967295, ?_⟩;conv=>whnf
 refine⟨by decide,_,Km _ 32 (by omega), ?_⟩;conv=>whnf
 refine⟨_,ay6 _ _, ?_⟩;conv=>whnf
 refine⟨_,GB _ _, ?_⟩;conv=>whnf
 refine⟨_,ay6 _ _, ?_⟩;conv=>whnf
 refine⟨_,GB _ _, ?_⟩;conv=>whnf
 refine⟨by decide,_,Km _ 32 (by omega), ?_⟩;conv=>whnf
 refine⟨_,GB _ _, ?_⟩;conv=>whnf
 refine⟨_,ay6 _ _, ?_⟩;conv=>whnf
 exact cl
def aq8(seed:List UInt8)(k n:Nat):Nat:=(aZ5 (JJ ((Xv 4 [seed,JH (k:Int)]).take 8)) (UInt64.ofNat n)).toNat
theorem au0(seed:List UInt8)(k n:Nat)(h:0<n)(hn:n≤1000000):aq8 seed k n<n:=by
 unfold aq8;rw[bV2,UInt64.toNat_ofNat'];have h1:=ay4 (JJ ((Xv 4 [seed,JH (k:Int)]).take 8));have h2:n%2 ^ 64=n:=Nat.mod_eq_of_lt (by omega);rw[h2,Nat.div_lt_iff_lt_mul (by decide),Nat.mul_comm];exact(Nat.mul_lt_mul_left h).2 h1
theorem by3(l:List UInt8)(hl:l.length=16):Triple Tryz.prog 147 [YQ l] [] 0 (.c (.p 1 0 0 0)) [(1,true, .cells [WI l, .v (.int .i64 0)])]:=by
 refine Jc Ja Tryz.func147 rfl Tryz.call147 rfl ?_;intro ρ w hH;conv=>whnf
 refine YT (l:=l) rfl rfl ?_;rw[hl];conv=>whnf
 refine Jk (n:=16) (l:=l) Ja rfl rfl rfl rfl rfl rfl ⟨Nat.le_refl _,Nat.zero_le _, ?_⟩;conv=>whnf
 refine Ju (fx:=some 16) (l:=l) Ja rfl rfl rfl rfl rfl rfl (by show 0+16≤_;omega) ?_;have e:(l.drop 0).take (JV 16 0)=l:=by show l.take 16=l;exact List.take_of_length_le (by omega)
 rw[e];conv=>whnf
 exact cl
theorem cv5(seed:List UInt8)(hs:seed.length=16)(k n:Nat)(hk:k≤1000000)(hn:0<n∧n≤1000000) :
 Triple Tryz.prog 148 [.c (.p 0 0 0 0),iv .i64 n] [(0,true, .cells [WI seed, .v (.int .i64 k)])] 1 (iv .i64 (aq8 seed k n)) [(0,true, .cells [WI seed, .v (.int .i64 ((k+1:Nat):Int))])]:=by
 have hlt:=au0 seed k n hn.1 hn.2;refine Jc Ja Tryz.func148 rfl Tryz.call148 rfl ?_;intro ρ w hH;conv=>whnf
 refine⟨fun hc=>?_,fun hc=>?_⟩
 ·simp at hc;omega
 conv=>whnf
 refine Jb (UY (k:Int) ⟨by omega,by omega⟩) rfl rfl ?_;conv=>whnf
 refine cs ?_;conv=>whnf
 refine Yf Ja (Va [seed,JH (k:Int)]) rfl rfl ?_;conv=>whnf
 refine⟨⟨rfl,cl⟩, ?_⟩;conv=>whnf
 refine Jb (aO9 4 (by decide) [seed,JH (k:Int)] ⟨by simp, ?_⟩) rfl rfl ?_
 ·intro p hp;have:=Qz (k:Int);simp at hp;rcases hp with rfl|rfl <;> omega
 conv=>whnf
 refine cs ?_;conv=>whnf
 refine Jv Ja 16 rfl rfl rfl ?_;conv=>whnf
 generalize hL:Xv 4 [seed,JH (k:Int)]=L;have hLl:L.length=16:=by rw[←hL];exact XL _ _
 refine Jp (l':=L) Ja rfl rfl rfl rfl rfl (by simp) (by rw[hLl];simp) (by decide) ?_;conv=>whnf
 refine⟨_,wO, ?_⟩;conv=>whnf
 refine Jk (n:=16) (l:=L) Ja rfl rfl rfl rfl rfl rfl ⟨8,rfl,by decide,Nat.zero_le _, ?_⟩;conv=>whnf
 refine Jb (aC7 (some 16) L 0 8 (by omega) (by decide)) rfl rfl ?_;conv=>whnf
 refine cs ?_;conv=>whnf
 refine⟨((UInt64.ofNat n).toNat:Int),by rw[XC,UInt64.toNat_ofNat'];omega, ?_⟩;conv=>whnf
 refine Jb (cv4 (JJ ((L.drop 0).take 8)) (UInt64.ofNat n)) rfl rfl ?_;conv=>whnf
 refine cs ?_;have e:(aZ5 (JJ ((L.drop 0).take 8)) (UInt64.ofNat n)).toNat=aq8 seed k n:=by rw[←hL];rfl
 rw[e];conv=>whnf
 refine⟨(aq8 seed k n:Int),by rw[YX ⟨by omega,by omega⟩], ?_⟩;conv=>whnf
 exact cl
def au1(l:List Int)(i k:Nat):List Int:=(l.set i (l.getD k 0)).set k (l.getD i 0)
theorem aL0(l:List Int)(i k:Nat):(au1 l i k).length=l.length:=by simp[au1]
def Vo(seed:List UInt8)(n:Nat):Nat→List Int
 |0=>(List.range n).map fun(i:Nat)=>(i:Int)
 |j+1=>au1 (Vo seed n j) (n-1-j) (aq8 seed j (n-1-j+1))
theorem Wk(seed:List UInt8)(n:Nat):∀j,(Vo seed n j).length=n
 |0=>by simp[Vo]
 |j+1=>by simp only[Vo];rw[aL0];exact Wk seed n j
def aj1(seed:List UInt8)(n:Nat):List Int:=Vo seed n (n-1)
theorem cD0{l:List Int}{a b:Nat}{x:Int}(h:b<l.length):b<(l.set a x).length:=by rw[List.length_set];exact h
theorem cD1(seed:List UInt8)(hs:seed.length=16)(n:Nat)(hn:n≤100000) :
 Triple Tryz.prog 95 [YQ seed,iv .i64 n] [] 0 (.tup [.inl (.s 1 0 n 1), .inl (.v (.int .i64 0))]) [(1,true, .arr (Yn (aj1 seed n)))]:=by
 refine Jc Ja Tryz.func95 rfl Tryz.call95 rfl ?_;intro ρ w hH;conv=>whnf
 refine YT (l:=seed) rfl rfl ?_;rw[hs];conv=>whnf
 refine⟨fun hc=>?_,fun hc=>?_⟩
 ·simp at hc;omega
 conv=>whnf
 refine⟨fun hc=>?_,fun hc=>?_⟩
 ·simp at hc;omega
 conv=>whnf
 refine aU4 Ja (Yn (List.replicate n 0)) rfl rfl ?_;conv=>whnf
 refine⟨n,⟨by simp[Yn],rfl,rfl,by show n*9≤_;omega, ?_⟩, ?_⟩
 ·intro x hx;have hx:x∈List.replicate n (0:Int):=hx;rw[(List.mem_replicate.1 hx).2];exact cl
 conv=>whnf
 refine Jz Ja (G:=Nat) 0 [] (fun i=>[(21,iv .i64 i)]) (fun i=>[(1,true, .arr (Yn ((List.range i).map (fun(j:Nat)=>(j:Int))++List.replicate (n-i) 0)))]) (fun i=>i≤n) (fun i=>n-i) ?_;conv=>whnf
 refine⟨⟨0,Nat.zero_le _, ?_⟩, ?_⟩
 ·conv=>whnf
  exact cl
 intro i hi ρ1 t1 hρ1;conv=>whnf
 refine⟨fun hc=>?_,fun hc=>?_⟩
 ·have hi:i<n:=by simp at hc;omega
  have hx:i<((List.range i).map (fun(j:Nat)=>(j:Int))++List.replicate (n-i) 0).length:=by simp;omega
  conv=>whnf
  refine⟨i,rfl,hi, ?_⟩;conv=>whnf
  refine⟨hx,(i:Int),rfl, ?_⟩;conv=>whnf
  refine⟨_,wO, ?_⟩;refine⟨i+1,hi,by show n-(i+1)<n-i;omega, ?_⟩;have e:(List.range (i+1)).map (fun(j:Nat)=>(j:Int))++List.replicate (n-(i+1)) 0=((List.range i).map (fun(j:Nat)=>(j:Int))++List.replicate (n-i) 0).set i (i:Int):=by
   obtain⟨m,hm⟩:∃m,n-i=m+1:=⟨n-i-1,by omega⟩;have hm2:n-(i+1)=m:=by omega
   rw[hm,hm2,List.range_succ,List.map_append,List.replicate_succ,List.set_append_right _ _ (by simp)];simp
  dsimp only;rw[e];conv=>whnf
  refine⟨rfl, ?_⟩;conv=>whnf
  exact cl
 have hi:i=n:=by simp at hc;omega
 subst hi;have e0:(List.range i).map (fun(j:Nat)=>(j:Int))++List.replicate (i-i) 0=Vo seed i 0:=by simp[Vo]
 rw[e0];conv=>whnf
 refine Jm (l:=seed) Ja rfl rfl rfl rfl rfl hs.symm ?_;conv=>whnf
 refine Jb (by3 seed hs) rfl rfl ?_;conv=>whnf
 refine cs ?_;conv=>whnf
 refine⟨_,wO, ?_⟩;refine Jz Ja (G:=Nat) 0 [] (fun j=>[(9,iv .i64 ((i:Int)-1-j))]) (fun j=>[(1,true, .arr (Yn (Vo seed i j))),(3,true, .cells [WI seed, .v (.int .i64 j)])]) (fun j=>j≤i-1) (fun j=>i-1-j) ?_;conv=>whnf
 refine⟨⟨0,Nat.zero_le _, ?_⟩, ?_⟩
 ·conv=>whnf
  exact cl
 intro j hj ρ2 t2 hρ2;have hl:=Wk seed i j;conv=>whnf
 refine⟨fun hc=>?_,fun hc=>?_⟩
 ·have hj:j<i-1:=by simp at hc;omega
  conv=>whnf
  refine⟨((i-1-j+1:Nat):Int),by rw[YX ⟨by omega,by omega⟩];omega, ?_⟩;conv=>whnf
  refine Jb (cv5 seed hs j (i-1-j+1) (by omega) ⟨by omega,by omega⟩) rfl rfl ?_;conv=>whnf
  refine cs ?_;have hb:=au0 seed j (i-1-j+1) (by omega) (by omega);generalize hB:aq8 seed j (i-1-j+1)=b at hb ⊢;have hab:JO 0 b<(Vo seed i j).length:=by rw[Qc];omega
  have hst:Vo seed i (j+1)=((Vo seed i j).set (i-1-j) ((Vo seed i j)[b]'(by omega))).set b ((Vo seed i j)[i-1-j]'(by omega)):=by
   simp only[Vo,au1,hB];simp[List.getD,List.getElem?_eq_getElem (show b<(Vo seed i j).length by omega),List.getElem?_eq_getElem (show i-1-j<(Vo seed i j).length by omega)]
  conv=>whnf
  refine⟨b,rfl,by omega, ?_⟩;conv=>whnf
  refine⟨by rw[Qc];show 0+b<(Vo seed i j).length;omega, ?_⟩;conv=>whnf
  refine⟨i-1-j,by omega,by omega, ?_⟩;conv=>whnf
  refine⟨by rw[Qc];show 0+(i-1-j)<(Vo seed i j).length;omega, ?_⟩;conv=>whnf
  refine⟨i-1-j,by omega,by omega, ?_⟩;conv=>whnf
  refine⟨by rw[Qc];show 0+(i-1-j)<(Vo seed i j).length;omega,_,rfl, ?_⟩;conv=>whnf
  refine⟨b,rfl,by omega, ?_⟩;conv=>whnf
  refine⟨cD0 hab,_,rfl, ?_⟩;conv=>whnf
  refine⟨_,wO, ?_⟩;refine⟨j+1,by omega,by show i-1-(j+1)<i-1-j;omega, ?_⟩;have e1:(i:Int)-1-j-1=(i:Int)-1-((j+1:Nat):Int):=by omega
  dsimp only;rw[hst,←e1];conv=>whnf
  refine⟨rfl, ?_⟩;conv=>whnf
  repeat' (first|exact(congrArg Yn (by simp only[Qc,Nat.zero_add];rfl))|exact trivial|exact rfl|refine And.intro ?_ ?_|((conv=>whnf);first|exact(congrArg Yn (by simp only[Qc,Nat.zero_add];rfl))|exact trivial|exact rfl|refine And.intro ?_ ?_|omega))
 ·have hj:j=i-1:=by simp at hc;omega
  subst hj;conv=>whnf
  exact cl
end Go.Proofs
/-
  Plain lemmas: the index of the first element that fits.
-/
namespace Go.Sx
def aw2{α:Type}(p:α→Bool)(l:List α):Int:=if l.any p then(l.findIdx p:Int)else -1
theorem aP1{α:Type}{p:α→Bool}{l:List α}{k:Nat}(hk:k<l.length)(hn:∀x∈l.take k,p x=false)(hp:p l[k]=true):aw2 p l=k:=by
 unfold aw2;have ha:l.any p=true:=List.any_eq_true.2 ⟨l[k],List.getElem_mem hk,hp⟩;rw[if_pos ha];have:l.findIdx p=k:=by
  rw[List.findIdx_eq hk];refine⟨hp,fun j hj=>?_⟩;have:=hn (l[j]'(by omega)) (by rw[List.mem_take_iff_getElem];exact⟨j,by omega,rfl⟩)
  simpa using this
 rw[this]
theorem aL1{α:Type}{p:α→Bool}{l:List α}(h:∀x∈l,p x=false):aw2 p l=-1:=by
 unfold aw2;rw[if_neg];rw[List.any_eq_true]
 rintro ⟨x,hx,hp⟩
 rw[h x hx]at hp;cases hp
theorem bD2{α:Type}(p:α→Bool)(l:List α):decide (0≤aw2 p l)=l.any p:=by
 unfold aw2;cases h:l.any p with
 |true=>rw[if_pos rfl];exact decide_eq_true (by omega)
 |false=>rw[if_neg (by simp)];rfl
end Go.Sx
namespace Go.Proofs
open Go.Sx
def okC(c:UInt8):Bool:=(decide (97≤c.toNat)&&decide (c.toNat≤122))||(decide (48≤c.toNat)&&decide (c.toNat≤57))||decide (c.toNat=45)
def aq9(s:List UInt8):Bool:=s.all okC&&Jf s.length 1 24
theorem cv6(s:List UInt8)(hs:s.length≤140737488355328):Triple Tryz.prog 61 [YC s] [] 0 (bv (aq9 s)) []:=by
 refine Jc Ja Tryz.func61 rfl Tryz.call61 rfl ?_;intro ρ w hH;conv=>whnf
 refine Jz Ja (G:=Nat) 0 [] (fun i=>[(7,iv .i64 i)]) (fun _=>[]) (fun i=>i≤s.length∧(s.take i).all okC=true) (fun i=>s.length-i) ?_;conv=>whnf
 refine⟨⟨0,⟨Nat.zero_le _,rfl⟩, ?_⟩, ?_⟩
 ·conv=>whnf
  exact cl
 rintro i ⟨hi,hall⟩ ρ1 t1 hρ1
 have hi:i≤s.length:=hi;have hall:(s.take i).all okC=true:=hall;conv=>whnf
 refine⟨fun hc=>?_,fun hc=>?_⟩
 ·have h:i<s.length:=by
   have hc:decide ((i:Int)<(s.length:Int))=true:=hc;simp at hc;omega
  have hok:okC s[i]=true→(s.take (i+1)).all okC=true:=fun hx=>by rw[JR h,List.all_append,hall];simp[hx]
  have hno:okC s[i]=false→aq9 s=false:=fun hx=>by
   unfold aq9;have:s.all okC=false:=by
    rw[List.all_eq_false];exact⟨s[i],List.getElem_mem h,by simp[hx]⟩
   rw[this];rfl
  conv=>whnf
  refine GW (l:=s) Ja rfl rfl rfl rfl i rfl h ?_;generalize s[i]=c at hok hno ⊢;have hc8:=UX c;conv=>whnf
  refine⟨fun hc=>?_,fun hc=>?_⟩
  ·have p1:=of_decide_eq_true hc;conv=>whnf
   refine⟨fun hc=>?_,fun hc=>?_⟩
   ·have p2:=of_decide_eq_true hc;conv=>whnf
    refine⟨_,wO, ?_⟩;refine⟨i+1,⟨h,hok ?_⟩,by show s.length-(i+1)<s.length-i;omega, ?_⟩
    ·simp[okC];omega
    conv=>whnf
    refine⟨rfl, ?_⟩;conv=>whnf
    exact cl
   ·have p2:=of_decide_eq_false hc;conv=>whnf
    refine⟨fun hc=>?_,fun hc=>?_⟩
    ·have p3:=of_decide_eq_true hc;conv=>whnf
     refine⟨fun hc=>?_,fun hc=>?_⟩
     ·have p4:=of_decide_eq_true hc;omega
     ·conv=>whnf
      refine⟨fun hc=>?_,fun hc=>?_⟩
      ·have p5:¬c.toNat=45:=by omega
       have p4:¬c.toNat≤57:=by omega
       conv=>whnf
       refine⟨(hno ?_).symm,trivial⟩;simp[okC];omega
      ·have p5:c.toNat=45:=by simp at hc;omega
       omega
    ·have p3:=of_decide_eq_false hc;omega
  ·have p1:=of_decide_eq_false hc;conv=>whnf
   refine⟨fun hc=>?_,fun hc=>?_⟩
   ·have p3:=of_decide_eq_true hc;conv=>whnf
    refine⟨fun hc=>?_,fun hc=>?_⟩
    ·have p4:=of_decide_eq_true hc;conv=>whnf
     refine⟨_,wO, ?_⟩;refine⟨i+1,⟨h,hok ?_⟩,by show s.length-(i+1)<s.length-i;omega, ?_⟩
     ·simp[okC];omega
     conv=>whnf
     refine⟨rfl, ?_⟩;conv=>whnf
     exact cl
    ·have p4:=of_decide_eq_false hc;conv=>whnf
     refine⟨fun hc=>?_,fun hc=>?_⟩
     ·have p5:¬c.toNat=45:=by omega
      conv=>whnf
      refine⟨(hno ?_).symm,trivial⟩;simp[okC];omega
     ·have p5:c.toNat=45:=by simp at hc;omega
      omega
   ·have p3:=of_decide_eq_false hc;conv=>whnf
    refine⟨fun hc=>?_,fun hc=>?_⟩
    ·have p5:¬c.toNat=45:=by simp at hc;omega
     conv=>whnf
     refine⟨(hno ?_).symm,trivial⟩;simp[okC];omega
    ·have p5:c.toNat=45:=by simp at hc;omega
     conv=>whnf
     refine⟨_,wO, ?_⟩;refine⟨i+1,⟨h,hok ?_⟩,by show s.length-(i+1)<s.length-i;omega, ?_⟩
     ·simp[okC];omega
     conv=>whnf
     refine⟨rfl, ?_⟩;conv=>whnf
     exact cl
 ·have hie:i=s.length:=by
   have hc:decide ((i:Int)<(s.length:Int))=false:=hc;simp at hc;omega
  subst hie;conv=>whnf
  refine Jb (JA s.length 1 24) rfl rfl ?_;conv=>whnf
  refine cs ?_;conv=>whnf
  refine⟨?_,trivial⟩;unfold aq9;rw[List.take_length]at hall;rw[hall];rfl
def Gl(xs:List (Int×Int)):Arr:=⟨Int×Int,2,fun x=>[.v (.int .i64 x.1), .v (.int .i64 x.2)],[],fun _=>rfl,(by intro x c hc k hk;simp at hc;rcases hc with rfl|rfl <;> cases hk),xs,none,none⟩
structure Pl where
 id:Int
 fib:List UInt8
 bales:List (Int×Int)
 per:Int
def Uk:Int→List (Int×Int)→Int
 |_,[]=>0
 |last,b::r=>if Jf b.1 1 1099511627776&&Jf b.2 1 200 then(if b.1≤last then 6 else Uk b.1 r)else 1
def ab3(p:Pl):Int:=if Jf p.id 1 1099511627776 then(if aq9 p.fib then(if Jf p.bales.length 1 40 then Uk 0 p.bales else 2)else 7)else 1
def Wu(p:Pl):Int:=if ab3 p=0 then(if Jf p.per 1 12 then(if p.bales.any fun b=>decide (b.2<p.per)then 2 else 0)else 1)else ab3 p
theorem bV3{α:Type}{l:List α}{i:Nat}(h:i<l.length):l.drop i=l[i]::l.drop (i+1):=List.drop_eq_getElem_cons h
theorem cI0(p:Pl)(hf:p.fib.length≤140737488355328)(hb:p.bales.length≤140737488355328):Triple Tryz.prog 21 [.agg [.v (.int .i64 p.id),WI p.fib, .s 0 0 p.bales.length 2]]
 [(0,false, .arr (Gl p.bales))] 1 (iv .i64 (ab3 p)) []:=by
 refine Jc Ja Tryz.func21 rfl Tryz.call21 rfl ?_;intro ρ w hH;conv=>whnf
 refine Jb (JA p.id 1 1099511627776) rfl rfl ?_;conv=>whnf
 refine cs ?_;conv=>whnf
 refine⟨fun hc=>?_,fun hc=>?_⟩
 ·have hc:Jf p.id 1 1099511627776=false:=by simpa using hc
  rw[show ab3 p=1 from by simp[ab3,hc]];conv=>whnf
  exact cl
 have h1:Jf p.id 1 1099511627776=true:=by simpa using hc
 conv=>whnf
 refine Jb (cv6 p.fib hf) rfl rfl ?_;conv=>whnf
 refine cs ?_;conv=>whnf
 refine⟨fun hc=>?_,fun hc=>?_⟩
 ·have hc:aq9 p.fib=false:=by simpa using hc
  rw[show ab3 p=7 from by simp[ab3,hc,h1]];conv=>whnf
  exact cl
 have h2:aq9 p.fib=true:=by simpa using hc
 conv=>whnf
 refine Jb (JA p.bales.length 1 40) rfl rfl ?_;conv=>whnf
 refine cs ?_;conv=>whnf
 refine⟨fun hc=>?_,fun hc=>?_⟩
 ·have hc:Jf p.bales.length 1 40=false:=by simpa using hc
  rw[show ab3 p=2 from by simp[ab3,hc,h1,h2]];conv=>whnf
  exact cl
 have h3:Jf p.bales.length 1 40=true:=by simpa using hc
 have hlot:ab3 p=Uk 0 p.bales:=by simp[ab3,h1,h2,h3]
 rw[hlot];conv=>whnf
 refine Jz Ja (G:=Nat×Int) 0 [] (fun g=>[(25,iv .i64 g.1),(3,iv .i64 g.2)]) (fun _=>[]) (fun g=>g.1≤p.bales.length∧Uk g.2 (p.bales.drop g.1)=Uk 0 p.bales) (fun g=>p.bales.length-g.1) ?_;conv=>whnf
 refine⟨⟨(0,0),⟨Nat.zero_le _,rfl⟩, ?_⟩, ?_⟩
 ·conv=>whnf
  exact cl
 rintro ⟨i,last⟩ ⟨hi,hE⟩ ρ1 t1 hρ1
 dsimp only at hi hE;conv=>whnf
 refine⟨fun hc=>?_,fun hc=>?_⟩
 ·have h:i<p.bales.length:=by simp at hc;omega
  rw[bV3 h]at hE;simp only[Uk]at hE;conv=>whnf
  refine⟨i,rfl,h,h, ?_⟩;conv=>whnf
  refine Jb (JA p.bales[i].1 1 1099511627776) rfl rfl ?_;conv=>whnf
  refine cs ?_;conv=>whnf
  refine⟨fun hc=>?_,fun hc=>?_⟩
  ·have hc1:Jf p.bales[i].1 1 1099511627776=false:=by simpa using hc
   conv=>whnf
   refine⟨fun hc=>?_,fun hc=>?_⟩
   ·rw[show Uk 0 p.bales=1 from by rw[←hE];simp[hc1]];conv=>whnf
    exact cl
   ·simp[hc1]at hc
  have hc1:Jf p.bales[i].1 1 1099511627776=true:=by simpa using hc
  conv=>whnf
  refine Jb (JA p.bales[i].2 1 200) rfl rfl ?_;conv=>whnf
  refine cs ?_;conv=>whnf
  refine⟨fun hc=>?_,fun hc=>?_⟩
  ·have hc2:Jf p.bales[i].2 1 200=false:=by simpa using hc
   rw[show Uk 0 p.bales=1 from by rw[←hE];simp[hc1,hc2]];conv=>whnf
   exact cl
  have hc2:Jf p.bales[i].2 1 200=true:=by simpa using hc
  rw[hc1,hc2]at hE;conv=>whnf
  refine⟨fun hc=>?_,fun hc=>?_⟩
  ·have hc3:p.bales[i].1≤last:=of_decide_eq_true hc;rw[show Uk 0 p.bales=6 from by rw[←hE];simp[hc3]];conv=>whnf
   exact cl
  have hc3:¬p.bales[i].1≤last:=of_decide_eq_false hc;conv=>whnf
  refine⟨_,wO, ?_⟩;refine⟨(i+1,p.bales[i].1),⟨h, ?_⟩,by show p.bales.length-(i+1)<p.bales.length-i;omega, ?_⟩
  ·rw[←hE];simp[hc3]
  conv=>whnf
  refine⟨rfl, ?_⟩;conv=>whnf
  exact cl
 ·have hie:i=p.bales.length:=by simp at hc;omega
  subst hie;rw[List.drop_length]at hE;rw[←hE];conv=>whnf
  exact cl
abbrev svB(b:Int×Int):SV:=.agg [.v (.int .i64 b.1), .v (.int .i64 b.2)]
abbrev cI1(k:Nat)(p:Pl):SO:=.cells [.v (.int .i64 p.id),WI p.fib, .s k 0 p.bales.length 2, .v (.int .i64 p.per)]
abbrev an5(k:Nat)(p:Pl):SV:=.agg [.v (.int .i64 p.id),WI p.fib, .s k 0 p.bales.length 2, .v (.int .i64 p.per)]
abbrev bK6(p:Pl):Je:=[(0,false,cI1 1 p),(1,false, .arr (Gl p.bales))]
theorem ci3(p:Pl)(b:Int×Int):Triple Tryz.prog 24 [svB b, .c (.p 0 0 0 0)] (bK6 p) 2 (bv (decide (b.2<p.per))) []:=by
 refine Jc Ja Tryz.func24 rfl Tryz.call24 rfl ?_;intro ρ w hH;conv=>whnf
 exact cl
theorem by4(p:Pl)(hb:p.bales.length≤140737488355328):Triple Tryz.prog 62 [.c (.s 1 0 p.bales.length 2), .c (.f 24 [0])]
 (bK6 p) 2 (iv .i64 (aw2 (fun b=>decide (b.2<p.per)) p.bales)) []:=by
 refine Jc Ja Tryz.func62 rfl Tryz.call62 rfl ?_;intro ρ w hH;conv=>whnf
 refine Jz Ja (G:=Nat) 0 [] (fun i=>[(8,iv .i64 i)]) (fun _=>[]) (fun i=>i≤p.bales.length∧∀x∈p.bales.take i,decide (x.2<p.per)=false) (fun i=>p.bales.length-i) ?_;conv=>whnf
 refine⟨⟨0,⟨Nat.zero_le _,(fun x hx=>by simp at hx)⟩, ?_⟩, ?_⟩
 ·conv=>whnf
  exact cl
 intro i ⟨hi,hn⟩ ρ1 t1 hρ1;have hi:i≤p.bales.length:=hi;have hn:∀x∈p.bales.take i,(fun b:Int×Int=>decide (b.2<p.per)) x=false:=hn;conv=>whnf
 refine⟨fun hc=>?_,fun hc=>?_⟩
 ·have h:i<p.bales.length:=by simp at hc;omega
  conv=>whnf
  refine⟨i,rfl,h,h, ?_⟩;conv=>whnf
  refine Jb (ci3 p p.bales[i]) rfl rfl ?_;conv=>whnf
  refine cs ?_;conv=>whnf
  refine⟨fun hc=>?_,fun hc=>?_⟩
  ·rw[aP1 (p:=fun b:Int×Int=>decide (b.2<p.per)) h hn hc];conv=>whnf
   exact cl
  ·conv=>whnf
   refine⟨_,wO, ?_⟩;refine⟨i+1,⟨h, ?_⟩,by show p.bales.length-(i+1)<p.bales.length-i;omega, ?_⟩
   ·intro x hxx;rw[JR h]at hxx;rcases List.mem_append.1 hxx with hxx|hxx
    ·exact hn x hxx
    ·simp only[List.mem_singleton]at hxx;rw[hxx];exact hc
   conv=>whnf
   refine⟨rfl, ?_⟩;conv=>whnf
   exact cl
 ·have hi2:i=p.bales.length:=by simp at hc;omega
  subst hi2;rw[List.take_length]at hn;rw[aL1 hn];conv=>whnf
  exact cl
theorem bf0(p:Pl)(hb:p.bales.length≤140737488355328):Triple Tryz.prog 23 [.c (.s 1 0 p.bales.length 2), .c (.f 24 [0])]
 (bK6 p) 2 (bv (p.bales.any fun b=>decide (b.2<p.per))) []:=by
 rw[←bD2];refine Jc Ja Tryz.func23 rfl Tryz.call23 rfl ?_;intro ρ w hH;conv=>whnf
 refine Jb (by4 p hb) rfl rfl ?_;conv=>whnf
 refine cs ?_;conv=>whnf
 exact cl
theorem br6(p:Pl)(hf:p.fib.length≤140737488355328)(hb:p.bales.length≤140737488355328):Triple Tryz.prog 5 [an5 0 p] [(0,false, .arr (Gl p.bales))] 1 (iv .i64 (Wu p)) []:=by
 refine Jc Ja Tryz.func5 rfl Tryz.call5 rfl ?_;intro ρ w hH;conv=>whnf
 refine Jb (cI0 p hf hb) rfl rfl ?_;conv=>whnf
 refine cs ?_;conv=>whnf
 refine⟨fun hc=>?_,fun hc=>?_⟩
 ·have hc:ab3 p≠0:=by simpa using hc
  rw[show Wu p=ab3 p from by simp[Wu,hc]];conv=>whnf
  exact cl
 have h0:ab3 p=0:=by simpa using hc
 conv=>whnf
 refine Jb (JA p.per 1 12) rfl rfl ?_;conv=>whnf
 refine cs ?_;conv=>whnf
 refine⟨fun hc=>?_,fun hc=>?_⟩
 ·have hc:Jf p.per 1 12=false:=by simpa using hc
  rw[show Wu p=1 from by simp[Wu,hc,h0]];conv=>whnf
  exact cl
 have h1:Jf p.per 1 12=true:=by simpa using hc
 conv=>whnf
 refine Jb (bf0 p hb) rfl rfl ?_;conv=>whnf
 refine cs ?_;conv=>whnf
 refine⟨fun hc=>?_,fun hc=>?_⟩
 ·rw[show Wu p=2 from by simp only[Wu,h0,h1,hc];rfl];conv=>whnf
  exact cl
 ·rw[show Wu p=0 from by simp only[Wu,h0,h1,hc];rfl];conv=>whnf
  exact cl
end Go.Proofs
