/-
  A part of the proof that a law answers true: lemmas of a symbolic walk, plain functions, or contracts of the functions walked (E8, E9, EA, EB, EC). Conditions: none.
-/
import Derived.Test.YtfcdjkeamldkaaaGreatPart17
import Derived.Test.YtfcdjkeamldkaaaGreatPart10
set_option maxRecDepth 100000
set_option linter.unusedVariables false
set_option linter.unusedSimpArgs false
namespace Go.Proofs
open Go.Sx
def Vn(xs:List Ky):Arr:=⟨Ky,2,fun k=>[.v (.int .i64 k.1), .v (.int .i64 k.2)],[],fun _=>rfl,(by intro x c hc k hk;simp at hc;rcases hc with rfl|rfl <;> cases hk),xs,none,none⟩
def ar3(k y:Ky):Bool:=[y.1,y.2]==[k.1,k.2]
abbrev bL9(k:Ky):Je:=[(1,false, .cells [.v (.int .i64 k.1), .v (.int .i64 k.2)])]
theorem bs6(k y:Ky):Triple Tryz.prog 154 [Gm y, .c (.p 1 0 0 0)] (bL9 k) 2 (bv (ar3 k y)) []:=by
 refine Jc Ja Tryz.func154 rfl Tryz.call154 rfl ?_;intro ρ w hH;conv=>whnf
 exact cl
theorem bW9(k:Ky)(xs:List Ky)(hx:xs.length≤100000) :
 Triple Tryz.prog 179 [.c (.s 0 0 xs.length 2), .c (.f 154 [1])] ((0,false, .arr (Vn xs))::bL9 k) 2 (iv .i64 (YU (ar3 k) 0 xs)) []:=by
 refine Jc Ja Tryz.func179 rfl Tryz.call179 rfl ?_;intro ρ w hH;conv=>whnf
 refine Jz Ja (G:=Nat) 0 [] (fun i=>[(8,iv .i64 i)]) (fun i=>[]) (fun i=>i≤xs.length∧∀x∈xs.take i,ar3 k x=false) (fun i=>xs.length-i) ?_;conv=>whnf
 refine⟨⟨0,⟨Nat.zero_le _,by simp⟩, ?_⟩, ?_⟩
 ·conv=>whnf
  exact cl
 intro i hi ρ1 t1 hρ1;obtain⟨hi,hn⟩:=hi;conv=>whnf
 refine⟨fun hc=>?_,fun hc=>?_⟩
 ·have hc:i<xs.length:=by simpa using hc
  have hlt:=hc;conv=>whnf
  refine⟨i,rfl,hc,hc, ?_⟩;conv=>whnf
  refine Jb (bs6 k xs[i]) rfl rfl ?_;conv=>whnf
  refine cs ?_;conv=>whnf
  refine⟨fun hc=>?_,fun hc=>?_⟩
  ·conv=>whnf
   refine⟨?_,trivial⟩;show(i:Int)=YU (ar3 k) 0 xs;rw[ay3 (k:=i) hlt hn hc,Nat.zero_add]
  ·conv=>whnf
   refine⟨_,wO, ?_⟩;refine⟨i+1,⟨by omega, ?_⟩,by show xs.length-(i+1)<xs.length-i;omega, ?_⟩
   ·intro x hxx;rw[JR hlt]at hxx;rcases List.mem_append.1 hxx with hxx|hxx
    ·exact hn x hxx
    ·simp only[List.mem_singleton]at hxx;rw[hxx];exact hc
   conv=>whnf
   refine⟨rfl, ?_⟩;conv=>whnf
   exact cl
 ·have hi2:i=xs.length:=by simp at hc;omega
  subst hi2;rw[List.take_length]at hn;conv=>whnf
  refine⟨?_,trivial⟩;show(-1:Int)=YU (ar3 k) 0 xs;rw[ak7 hn]
def GJ(k:Ky)(xs:List Ky):List Ky:=xs.filter fun x=>!ar3 k x
theorem bM0(k0:Ky)(xs:List Ky)(hx:xs.length≤100000) :
 Triple Tryz.prog 153 [.c (.s 0 0 xs.length 2), .c (.f 154 [1])] ((0,true, .arr (Vn xs))::bL9 k0)
  2 (.c (.s 0 0 (GJ k0 xs).length 2)) [(0,true, .arr (Vn (GJ k0 xs)))]:=by
 unfold GJ;refine Jc Ja Tryz.func153 rfl Tryz.call153 rfl ?_;intro ρ w hH;conv=>whnf
 refine Jb (bW9 k0 xs hx) rfl rfl ?_;conv=>whnf
 refine cs ?_;generalize hp:ar3 k0=p;have hdel:∀x,ar3 k0 x=p x:=fun x=>by rw[hp]
 rcases aZ2 p xs with ⟨hi,hn⟩|⟨k,hk,hi,hn,hpk⟩
 ·rw[hi];conv=>whnf
  refine⟨fun hc=>?_,fun hc=>?_⟩
  ·conv=>whnf
   have e:(xs.filter fun x=>!p x)=xs:=List.filter_eq_self.2 fun x hx=>by rw[hn x hx];rfl
   rw[e];exact cl
  ·simp at hc
 rw[hi];conv=>whnf
 refine⟨fun hc=>?_,fun hc=>?_⟩
 ·exact absurd hc (by simp)
 conv=>whnf
 refine⟨_,wO, ?_⟩;have hst:=bJ7 hk hn hpk;have hkl:(xs.take k).length=k:=by simp;omega
 refine Jz Ja (G:=Nat×Nat×List Ky) 0 [] (fun g=>[(6,iv .i64 g.1),(5,iv .i64 g.2.1)]) (fun g=>[(0,true, .arr (Vn g.2.2))]) (fun g=>(k<g.1∧g.1≤xs.length∧g.2.1<g.1)∧g.2.1=(Ki p xs g.1).length∧g.2.2=GG p xs g.1) (fun g=>xs.length-g.1) ?_;conv=>whnf
 refine⟨⟨(k+1,k,xs),⟨⟨Nat.lt_succ_self k,hk,Nat.lt_succ_self k⟩,by rw[hst.1,hkl],hst.2.symm⟩, ?_⟩, ?_⟩
 ·conv=>whnf
  exact cl
 rintro ⟨j,k2,C⟩ ⟨⟨hj1,hj2,hj3⟩,hk2e,hCe⟩ ρ1 t1 hρ1
 have hj1:k<j:=hj1;have hj2:j≤xs.length:=hj2;have hj3:k2<j:=hj3;have hk2e:k2=(Ki p xs j).length:=hk2e;have hCe:C=GG p xs j:=hCe;have hCl:C.length=xs.length:=by rw[hCe];exact by0 p xs j hj2
 have hno:∀(h:j<xs.length),p xs[j]=false→k2+1=(Ki p xs (j+1)).length∧C.set k2 xs[j]=GG p xs (j+1):=fun h hp =>
  ⟨by rw[bC6 h hp,hk2e];simp,by rw[hk2e,hCe];exact cv1 h hp⟩
 have hyes:∀(h:j<xs.length),p xs[j]=true→k2=(Ki p xs (j+1)).length∧C=GG p xs (j+1):=fun h hp =>
  ⟨by rw[aU7 h hp];exact hk2e,by rw[hCe];exact(ch2 h hp).symm⟩
 have hgt:∀i,j≤i→C[i]? = xs[i]?:=fun i hi=>by rw[hCe];exact ch1 p xs j i (by omega)
 have hend:j=xs.length→C.take k2=xs.filter fun x=>!p x:=fun h=>by rw[hCe,hk2e,h];exact ch3 p xs
 clear hk2e hCe;conv=>whnf
 refine⟨fun hc=>?_,fun hc=>?_⟩
 ·have hc:j<xs.length:=by simpa using hc
  have hlt:=hc;have hcl:j<C.length:=by omega
  have hget:C[j]=xs[j]:=by
   have:=hgt j (by omega);rw[List.getElem?_eq_getElem hcl,List.getElem?_eq_getElem hlt]at this;exact Option.some.inj this
  have hpv:ar3 k0 C[j]=p xs[j]:=by rw[hdel,hget]
  have hkl2:k2<C.length:=by omega
  refine⟨j,rfl,hc,hcl, ?_⟩;conv=>whnf
  refine Jb (bs6 k0 C[j]) rfl rfl ?_;conv=>whnf
  refine cs ?_;conv=>whnf
  refine⟨fun hc=>?_,fun hc=>?_⟩
  ·have hpj:p xs[j]=false:=by
    rw[←hpv];have hc:(!ar3 k0 C[j])=true:=hc
    simpa using hc
   obtain⟨hl1,e2⟩:=hno hlt hpj;conv=>whnf
   refine⟨k2,rfl,by omega,hkl2,C[j],rfl, ?_⟩;conv=>whnf
   refine⟨_,wO, ?_⟩;conv=>whnf
   refine⟨_,wO, ?_⟩;refine⟨(j+1,k2+1,C.set k2 C[j]),⟨⟨by show k<j+1;omega,hlt,by show k2+1<j+1;omega⟩,hl1, ?_⟩,by show xs.length-(j+1)<xs.length-j;omega, ?_⟩
   ·rw[hget];exact e2
   conv=>whnf
   refine⟨rfl, ?_⟩;conv=>whnf
   exact cl
  ·have hpj:p xs[j]=true:=by
    rw[←hpv];have hc:(!ar3 k0 C[j])=false:=hc
    simpa using hc
   obtain⟨hl1,e2⟩:=hyes hlt hpj;conv=>whnf
   refine⟨_,wO, ?_⟩;refine⟨(j+1,k2,C),⟨⟨by show k<j+1;omega,hlt,by show k2<j+1;omega⟩,hl1,e2⟩,by show xs.length-(j+1)<xs.length-j;omega, ?_⟩;conv=>whnf
   refine⟨rfl, ?_⟩;conv=>whnf
   exact cl
 ·have hj4:j=xs.length:=by simp at hc;omega
  have he:=hend hj4;have hfl:(xs.filter fun x=>!p x).length=k2:=by rw[←he,List.length_take];omega
  conv=>whnf
  refine⟨Nat.le_refl _,k2,rfl,by omega, ?_⟩;conv=>whnf
  refine aY9 Ja rfl rfl rfl rfl ?_;conv=>whnf
  refine⟨⟨rfl, ?_⟩, ?_⟩
  ·show JO 0 _+JV xs.length _≤C.length;rw[Qc,Jt];omega
  conv=>whnf
  refine⟨k2,rfl,by omega, ?_⟩;conv=>whnf
  refine⟨Nat.zero_le _, ?_⟩;conv=>whnf
  repeat'(first|exact trivial|exact rfl|refine And.intro ?_ ?_|((conv=>whnf);first|exact trivial|exact rfl|refine And.intro ?_ ?_|omega))
  ·rw[Jt];omega
  ·rw[Qc,Nat.zero_add];exact congrArg Vn he
abbrev cD8(b:Bool)(s:Stn)(size:List Int)(os:List (Option Value))(ov:List Ky):Je :=
 [(0,false, .cells [.s 1 0 size.length 1, .s 2 0 os.length 1, .m 3, .v (.int .i64 s.num), .junk, .m 4]),(1,false, .arr (Yn size)),(2,b, .arr (Gv 5 ov.length os)),(3,b,Jw true 2 s.did),(4,false,Jw false 2 s.goes),(5,b, .arr (Vn ov))]
abbrev cK4(s:Stn)(size:List Int)(os:List (Option Value))(ov:List Ky):Je:=cD8 true s size os ov
theorem ba6{k len k' len' i:Nat}{os:List (Option Value)}(h:os[i]? = some none):∀hy,ovC k len ((Gv k' len' os).xs[JO 0 i]'hy)=.s k 0 len 2:=fun hy=>by
 have e:(Gv k' len' os).xs[JO 0 i]'hy=none:=by
  have h2:os[JO 0 i]? = some (os[JO 0 i]'hy):=List.getElem?_eq_getElem hy;have h3:os[JO 0 i]? = some none:=by rw[Qc,Nat.zero_add];exact h
  exact Option.some.inj (h2.symm.trans h3)
 rw[e];rfl
theorem ba7{size:List Int}{i:Nat}{z:Int}(h:size[i]? = some z):∀hy,(Yn size).xs[JO 0 i]'hy=z:=fun hy=>by
 have h2:size[JO 0 i]? = some (size[JO 0 i]'hy):=List.getElem?_eq_getElem hy;have h3:size[JO 0 i]? = some z:=by rw[Qc,Nat.zero_add];exact h
 exact Option.some.inj (h2.symm.trans h3)
def ae1(s:Stn)(k:Ky)(n sz:Int):Int:=if JP s.did k=true then 51 else if JP s.goes k=false then 50 else if sz≤n then 53 else 0
theorem cw1(s:Stn)(hv:StnV s)(size:List Int)(os:List (Option Value))(ov:List Ky)(hl:os.length≤4)(hsz:size.length=os.length)(k:Ky)(j:Nat)(hj:os[j]? = some none)(z:Int)(hz:size[j]? = some z)
 (he:ae1 s k ov.length z≠0) :
 Triple Tryz.prog 53 [.c (.p 0 0 0 0),Gm k,iv .i64 j] (cD8 false s size os ov) 6 (iv .i64 (ae1 s k ov.length z)) []:=by
 have hg:=ar2 hv.did k;have hj':os[JO 0 j]? = some none:=by rw[Qc,Nat.zero_add];exact hj
 have hgo:=VH hv.goes k;have hjl:j<os.length:=(List.getElem?_eq_some_iff.1 hj).1;have hwi:=JA j 0 ((os.length:Int)-1);rw[show Jf (j:Int) 0 ((os.length:Int)-1)=true from by simp[Jf];omega]at hwi;have hzg:=ba7 hz;generalize hR:ae1 s k ov.length z=R at he;cases h1:JP s.did k with
 |true =>
  simp[ae1,h1]at hR;subst hR;refine Jc Ja Tryz.func53 rfl Tryz.call53 rfl ?_;intro ρ w hH;conv=>whnf
  refine⟨_,wO, ?_⟩;conv=>whnf
  refine Jb hwi rfl rfl ?_;conv=>whnf
  refine cs ?_;conv=>whnf
  repeat ((first|refine qT fun hc=>?_|refine qF fun hc=>?_);conv=>whnf)
  refine JL Ja (k:=Qb k) (vs:=true) [0,0,0] _ (JP s.did k) YL Gn rfl rfl rfl rfl rfl rfl rfl hg rfl ?_;conv=>whnf
  refine JL Ja (k:=Qb k) (vs:=false) [0] _ (JP s.goes k) YL YW rfl rfl rfl rfl rfl rfl rfl hgo rfl ?_;conv=>whnf
  repeat ((first|refine qT fun hc=>?_|refine qF fun hc=>?_);conv=>whnf)
  exact cl
 |false =>
  cases h2:JP s.goes k with
  |false =>
   have n2:(!JP s.goes k)=true:=by rw[h2];rfl
   simp[ae1,h1,h2]at hR;subst hR;refine Jc Ja Tryz.func53 rfl Tryz.call53 rfl ?_;intro ρ w hH;conv=>whnf
   refine⟨_,wO, ?_⟩;conv=>whnf
   refine Jb hwi rfl rfl ?_;conv=>whnf
   refine cs ?_;conv=>whnf
   repeat ((first|refine qT fun hc=>?_|refine qF fun hc=>?_);conv=>whnf)
   refine JL Ja (k:=Qb k) (vs:=true) [0,0,0] _ (JP s.did k) YL Gn rfl rfl rfl rfl rfl rfl rfl hg rfl ?_;conv=>whnf
   refine JL Ja (k:=Qb k) (vs:=false) [0] _ (JP s.goes k) YL YW rfl rfl rfl rfl rfl rfl rfl hgo rfl ?_;conv=>whnf
   repeat ((first|refine qT fun hc=>?_|refine qF fun hc=>?_);conv=>whnf)
   exact cl
  |true =>
   have n2:(!JP s.goes k)=false:=by rw[h2];rfl
   by_cases h3:z≤ov.length
   ·have d3:decide (z≤(ov.length:Int))=true:=decide_eq_true h3;simp[ae1,h1,h2,h3]at hR;subst hR;refine Jc Ja Tryz.func53 rfl Tryz.call53 rfl ?_;intro ρ w hH;conv=>whnf
    refine⟨_,wO, ?_⟩;conv=>whnf
    refine Jb hwi rfl rfl ?_;conv=>whnf
    refine cs ?_;conv=>whnf
    repeat ((first|refine qT fun hc=>?_|refine qF fun hc=>?_);conv=>whnf)
    refine JL Ja (k:=Qb k) (vs:=true) [0,0,0] _ (JP s.did k) YL Gn rfl rfl rfl rfl rfl rfl rfl hg rfl ?_;conv=>whnf
    refine JL Ja (k:=Qb k) (vs:=false) [0] _ (JP s.goes k) YL YW rfl rfl rfl rfl rfl rfl rfl hgo rfl ?_;conv=>whnf
    repeat ((first|refine qT fun hc=>?_|refine qF fun hc=>?_);conv=>whnf)
    refine⟨j,rfl,hjl,hjl, ?_⟩;conv=>whnf
    erw[ba6 hj];conv=>whnf
    refine⟨j,rfl,by omega,by show j<size.length;omega, ?_⟩;conv=>whnf
    erw[hzg];repeat ((first|refine qT fun hc=>?_|refine qF fun hc=>?_);conv=>whnf)
    exact cl
   ·simp[ae1,h1,h2,h3]at hR;exact absurd hR.symm he
theorem cw2(s:Stn)(hv:StnV s)(size:List Int)(os:List (Option Value))(ov:List Ky)(hl:os.length≤4)(hsz:size.length=os.length)(ho:ov.length≤100000)(k:Ky)(j:Nat)(hj:os[j]? = some none)(hu:∀i,os[i]? = some none→i=j)(z:Int)(hz:size[j]? = some z)
 (h1:JP s.did k=false) (h2:JP s.goes k=true) (h3:ov.length<z) :
 Triple Tryz.prog 53 [.c (.p 0 0 0 0),Gm k,iv .i64 j] (cK4 s size os ov) 6 (iv .i64 0)
  [(2,true, .arr (Gv 6 (ov++[k]).length os)),(3,true,Jw true 2 (s.did.put (Qb k) [Xc s.goes k,j,0])),(6,true, .arr (Vn (ov++[k])))]:=by
 have hg:=ar2 hv.did k;have hj':os[JO 0 j]? = some none:=by rw[Qc,Nat.zero_add];exact hj
 have hgo:=VH hv.goes k;have hjl:j<os.length:=(List.getElem?_eq_some_iff.1 hj).1;have hwi:=JA j 0 ((os.length:Int)-1);rw[show Jf (j:Int) 0 ((os.length:Int)-1)=true from by simp[Jf];omega]at hwi;have hzg:=ba7 hz;have n2:(!JP s.goes k)=false:=by rw[h2];rfl
 have hu':∀i,os[i]? = some none→i=JO 0 j:=fun i hi=>by rw[Qc,Nat.zero_add];exact hu i hi
 have d3:decide (z≤(ov.length:Int))=false:=decide_eq_false (by omega);refine Jc Ja Tryz.func53 rfl Tryz.call53 rfl ?_;intro ρ w hH;conv=>whnf
 refine⟨_,wO, ?_⟩;conv=>whnf
 refine Jb hwi rfl rfl ?_;conv=>whnf
 refine cs ?_;conv=>whnf
 repeat ((first|refine qT fun hc=>?_|refine qF fun hc=>?_);conv=>whnf)
 refine JL Ja (k:=Qb k) (vs:=true) [0,0,0] _ (JP s.did k) YL Gn rfl rfl rfl rfl rfl rfl rfl hg rfl ?_;conv=>whnf
 refine JL Ja (k:=Qb k) (vs:=false) [0] _ (JP s.goes k) YL YW rfl rfl rfl rfl rfl rfl rfl hgo rfl ?_;conv=>whnf
 repeat ((first|refine qT fun hc=>?_|refine qF fun hc=>?_);conv=>whnf)
 refine⟨j,rfl,hjl,hjl, ?_⟩;conv=>whnf
 erw[ba6 hj];conv=>whnf
 refine⟨j,rfl,by omega,by show j<size.length;omega, ?_⟩;conv=>whnf
 erw[hzg];repeat ((first|refine qT fun hc=>?_|refine qF fun hc=>?_);conv=>whnf)
 refine⟨j,rfl,hjl,hjl, ?_⟩;conv=>whnf
 erw[ba6 hj];conv=>whnf
 refine Yf Ja (Vn [k]) rfl rfl ?_;conv=>whnf
 refine⟨⟨rfl,cl⟩, ?_⟩;conv=>whnf
 have e:ov.take ov.length++(([k]:List Ky).drop 0).take 1=ov++[k]:=by
  rw[List.take_of_length_le (Nat.le_refl _)];rfl
 refine VG Ja (Vn ov) [k] (ov++[k]) (fun _=>rfl) rfl rfl rfl rfl ?_;conv=>whnf
 refine⟨⟨rfl,rfl,Nat.le_refl _,Nat.le_refl _,by show(ov.length+1)*17≤140737488355328;omega,e⟩, ?_⟩;conv=>whnf
 refine⟨j,rfl,hjl, ?_⟩;conv=>whnf
 refine aL8 Ja rfl rfl rfl rfl rfl rfl hj' hu' ?_;conv=>whnf
 refine WS Ja (k:=Qb k) (v:=[Xc s.goes k,j,0]) YL rfl rfl rfl rfl rfl rfl rfl rfl ?_;conv=>whnf
 repeat' (first|exact(XM rfl)|exact trivial|exact rfl|refine And.intro ?_ ?_|((conv=>whnf);first|exact(XM rfl)|exact trivial|exact rfl|refine And.intro ?_ ?_|omega))
theorem cj6(num:Int)(n:Nat)(hn:n≤4)(k:Ky)(j:Int)(hj:Jf j 0 ((n:Int)-1)=false) :
 Triple Tryz.prog 53 [.c (.p 0 0 0 0),Gm k,iv .i64 j] [(0,false, .cells [.junk, .s 1 0 n 1, .junk, .v (.int .i64 num), .junk, .junk]),(1,false, .cells [])] 2 (iv .i64 1) []:=by
 have hwi:=JA j 0 ((n:Int)-1);rw[hj]at hwi;refine Jc Ja Tryz.func53 rfl Tryz.call53 rfl ?_;intro ρ w hH;conv=>whnf
 refine⟨_,wO, ?_⟩;conv=>whnf
 refine Jb hwi rfl rfl ?_;conv=>whnf
 refine cs ?_;conv=>whnf
 repeat ((first|refine qT fun hc=>?_|refine qF fun hc=>?_);conv=>whnf)
 exact cl
abbrev cI4(num:Int):Je:=[(0,false, .cells [.junk, .junk, .junk, .v (.int .i64 num), .junk, .junk])]
theorem bD9(num:Int)(kind:Int)(k:Ky)(n:Int) :
 Triple Tryz.prog 152 [.c (.p 0 0 0 0),iv .i64 kind,Gm k,iv .i64 n] (cI4 num) 1 (Wc ⟨0,kind,num,k,n,0⟩) []:=by
 refine Jc Ja Tryz.func152 rfl Tryz.call152 rfl ?_;intro ρ w hH;conv=>whnf
 exact cl
abbrev cK5(num:Int)(did:Mp):Je:=[(0,false, .cells [.junk, .junk, .m 1, .v (.int .i64 num), .junk, .junk]),(1,false,Jw true 2 did)]
def Up(num:Int)(did:Mp)(k:Ky)(mass:Int):Slp×Int :=
 if Jf mass 0 10000000=false then(VS,1)else if JP did k=false then(VS,5)else(⟨0,7,num,k,(Ye did k).1,(Ye did k).2.2⟩,0)
theorem bX0(num:Int)(did:Mp)(hv:Yk 3 did)(k:Ky)(mass:Int)(hno:Jf mass 0 10000000=true→JP did k=true→(Ye did k).2.1<0) :
 Triple Tryz.prog 103 [.c (.p 0 0 0 0),Gm k,iv .i64 mass] (cK5 num did) 2 (.tup [.inr (aw4 (Up num did k mass).1), .inl (.v (.int .i64 (Up num did k mass).2))]) []:=by
 have hg:=ar2 hv k;have hwi:=JA mass 0 10000000;generalize hR:Up num did k mass=R;cases h1:Jf mass 0 10000000 with
 |false =>
  simp[Up,h1]at hR;subst hR;rw[h1]at hwi;refine Jc Ja Tryz.func103 rfl Tryz.call103 rfl ?_;intro ρ w hH;conv=>whnf
  refine Jb hwi rfl rfl ?_;conv=>whnf
  refine cs ?_;conv=>whnf
  repeat ((first|refine qT fun hc=>?_|refine qF fun hc=>?_);conv=>whnf)
  exact cl
 |true =>
  rw[h1]at hwi;cases h2:JP did k with
  |false =>
   have n2:(!JP did k)=true:=by rw[h2];rfl
   simp[Up,h1,h2]at hR;subst hR;refine Jc Ja Tryz.func103 rfl Tryz.call103 rfl ?_;intro ρ w hH;conv=>whnf
   refine Jb hwi rfl rfl ?_;conv=>whnf
   refine cs ?_;conv=>whnf
   repeat ((first|refine qT fun hc=>?_|refine qF fun hc=>?_);conv=>whnf)
   refine JL Ja (k:=Qb k) (vs:=true) [0,0,0] _ (JP did k) YL Gn rfl rfl rfl rfl rfl rfl rfl hg rfl ?_;conv=>whnf
   repeat ((first|refine qT fun hc=>?_|refine qF fun hc=>?_);conv=>whnf)
   exact cl
  |true =>
   have n2:(!JP did k)=false:=by rw[h2];rfl
   have d3:decide (0≤(Ye did k).2.1)=false:=decide_eq_false (by have:=hno h1 h2;omega);simp[Up,h1,h2]at hR;subst hR;refine Jc Ja Tryz.func103 rfl Tryz.call103 rfl ?_;intro ρ w hH;conv=>whnf
   refine Jb hwi rfl rfl ?_;conv=>whnf
   refine cs ?_;conv=>whnf
   repeat ((first|refine qT fun hc=>?_|refine qF fun hc=>?_);conv=>whnf)
   refine JL Ja (k:=Qb k) (vs:=true) [0,0,0] _ (JP did k) YL Gn rfl rfl rfl rfl rfl rfl rfl hg rfl ?_;conv=>whnf
   repeat ((first|refine qT fun hc=>?_|refine qF fun hc=>?_);conv=>whnf)
   refine Jb (bD9 num 7 k (Ye did k).1) rfl rfl ?_;conv=>whnf
   refine cs ?_;conv=>whnf
   exact cl
abbrev cK6(num:Int)(did:Mp)(os:List (Option Value))(ov:List Ky):Je :=
 [(0,false, .cells [.junk, .s 1 0 os.length 1, .m 2, .v (.int .i64 num), .junk, .junk]),(1,true, .arr (Gv 3 ov.length os)),(2,true,Jw true 2 did),(3,true, .arr (Vn ov))]
theorem bX1(num:Int)(did:Mp)(hv:Yk 3 did)(os:List (Option Value))(ov:List Ky)(ho:ov.length≤100000)(k:Ky)(mass:Int)(j:Nat)(hj:os[j]? = some none)(hu:∀i,os[i]? = some none→i=j)
 (h1:Jf mass 0 10000000=true) (h2:JP did k=true) (h3:(Ye did k).2.1=j) :
 Triple Tryz.prog 103 [.c (.p 0 0 0 0),Gm k,iv .i64 mass] (cK6 num did os ov) 4 (.tup [.inr (aw4 ⟨0,7,num,k,(Ye did k).1,mass⟩), .inl (.v (.int .i64 0))])
  [(1,true, .arr (Gv 3 (GJ k ov).length os)),(2,true,Jw true 2 (did.put (Qb k) [(Ye did k).1,-1,mass])),(3,true, .arr (Vn (GJ k ov)))]:=by
 have hg:=ar2 hv k;have hwi:=JA mass 0 10000000;rw[h1]at hwi;have hjl:j<os.length:=(List.getElem?_eq_some_iff.1 hj).1;have n2:(!JP did k)=false:=by rw[h2];rfl
 have hj':os[JO 0 j]? = some none:=by rw[Qc,Nat.zero_add];exact hj
 have hu':∀i,os[i]? = some none→i=JO 0 j:=fun i hi=>by rw[Qc,Nat.zero_add];exact hu i hi
 generalize hD:Ye did k=D at hg h3;obtain⟨d1,d2,d3⟩:=D;have h3:d2=(j:Int):=h3;subst h3;have d4:decide (0≤(j:Int))=true:=decide_eq_true (by omega);refine Jc Ja Tryz.func103 rfl Tryz.call103 rfl ?_;intro ρ w hH;conv=>whnf
 refine Jb hwi rfl rfl ?_;conv=>whnf
 refine cs ?_;conv=>whnf
 repeat ((first|refine qT fun hc=>?_|refine qF fun hc=>?_);conv=>whnf)
 refine JL Ja (k:=Qb k) (vs:=true) [0,0,0] _ (JP did k) YL Gn rfl rfl rfl rfl rfl rfl rfl hg rfl ?_;conv=>whnf
 repeat ((first|refine qT fun hc=>?_|refine qF fun hc=>?_);conv=>whnf)
 refine⟨j,rfl,hjl,hjl, ?_⟩;conv=>whnf
 erw[ba6 hj];refine Jb (bM0 k ov ho) rfl rfl ?_;conv=>whnf
 refine cs ?_;conv=>whnf
 refine⟨j,rfl,hjl, ?_⟩;conv=>whnf
 refine aL8 Ja rfl rfl rfl rfl rfl rfl hj' hu' ?_;conv=>whnf
 refine WS Ja (k:=Qb k) (v:=[d1,-1,mass]) YL rfl rfl rfl rfl rfl rfl rfl rfl ?_;conv=>whnf
 refine Jb (bD9 num 7 k d1) rfl rfl ?_;conv=>whnf
 refine cs ?_;conv=>whnf
 repeat' (first|exact(XM rfl)|exact trivial|exact rfl|refine And.intro ?_ ?_|((conv=>whnf);first|exact(XM rfl)|exact trivial|exact rfl|refine And.intro ?_ ?_|omega))
def ah0(xs:List Value):Arr:=⟨Value,1,fun v=>[.v v],[],fun _=>rfl,(by intro x c hc k hk;simp at hc;subst hc;cases hk),xs,none,none⟩
theorem bM1(xs:List Int)(hb:xs.length≤1000000):Triple Tryz.prog 99 [.c (.s 0 0 xs.length 1)] [(0,false, .arr (Yn xs))] 1 (.c (.s 1 0 xs.length 1)) [(1,true, .arr (Yn xs))]:=by
 refine Jc Ja Tryz.func99 rfl Tryz.call99 rfl ?_;intro ρ w hH;conv=>whnf
 have go:Yn (List.take 0 []++List.take xs.length (List.drop 0 xs))=Yn xs:=by
  simp
 refine⟨fun h0=>?_,fun h0=>?_⟩
 ·conv=>whnf
  refine⟨?_, ?_⟩
  ·conv=>whnf
   repeat'(first|exact trivial|exact rfl|refine And.intro ?_ ?_|((conv=>whnf);first|exact trivial|exact rfl|refine And.intro ?_ ?_|omega))
   all_goals first|exact h0|exact List.length_eq_zero_iff.1 h0
  ·conv=>whnf
   refine Yf Ja (Yn []) rfl rfl ?_;conv=>whnf
   refine⟨⟨rfl,trivial⟩, ?_⟩;conv=>whnf
   refine VE Ja (Yn []) xs (fun _=>rfl) rfl rfl rfl rfl ?_;conv=>whnf
   refine⟨⟨rfl,rfl,Nat.le_refl _,by rw[Nat.zero_add];exact Nat.le_refl _,by show(0+xs.length)*9≤_;omega⟩, ?_⟩;conv=>whnf
   repeat'(first|exact trivial|exact rfl|refine And.intro ?_ ?_|((conv=>whnf);first|exact trivial|exact rfl|refine And.intro ?_ ?_|omega))
   all_goals first|exact go|simp
 ·conv=>whnf
  refine Yf Ja (Yn []) rfl rfl ?_;conv=>whnf
  refine⟨⟨rfl,trivial⟩, ?_⟩;conv=>whnf
  refine VE Ja (Yn []) xs (fun _=>rfl) rfl rfl rfl rfl ?_;conv=>whnf
  refine⟨⟨rfl,rfl,Nat.le_refl _,by rw[Nat.zero_add];exact Nat.le_refl _,by show(0+xs.length)*9≤_;omega⟩, ?_⟩;conv=>whnf
  repeat'(first|exact trivial|exact rfl|refine And.intro ?_ ?_|((conv=>whnf);first|exact trivial|exact rfl|refine And.intro ?_ ?_|omega))
  all_goals first|exact go|simp
theorem bM2(xs:List Slp)(hb:xs.length≤1000000):Triple Tryz.prog 110 [.c (.s 0 0 xs.length 7)] [(0,false, .arr (Xw xs))] 1 (.c (.s 1 0 xs.length 7)) [(1,true, .arr (Xw xs))]:=by
 refine Jc Ja Tryz.func110 rfl Tryz.call110 rfl ?_;intro ρ w hH;conv=>whnf
 have go:Xw (List.take 0 []++List.take xs.length (List.drop 0 xs))=Xw xs:=by
  simp
 refine⟨fun h0=>?_,fun h0=>?_⟩
 ·conv=>whnf
  refine⟨?_, ?_⟩
  ·conv=>whnf
   repeat'(first|exact trivial|exact rfl|refine And.intro ?_ ?_|((conv=>whnf);first|exact trivial|exact rfl|refine And.intro ?_ ?_|omega))
   all_goals first|exact h0|exact List.length_eq_zero_iff.1 h0
  ·conv=>whnf
   refine Yf Ja (Xw []) rfl rfl ?_;conv=>whnf
   refine⟨⟨rfl,trivial⟩, ?_⟩;conv=>whnf
   refine VE Ja (Xw []) xs (fun _=>rfl) rfl rfl rfl rfl ?_;conv=>whnf
   refine⟨⟨rfl,rfl,Nat.le_refl _,by rw[Nat.zero_add];exact Nat.le_refl _,by show(0+xs.length)*57≤_;omega⟩, ?_⟩;conv=>whnf
   repeat'(first|exact trivial|exact rfl|refine And.intro ?_ ?_|((conv=>whnf);first|exact trivial|exact rfl|refine And.intro ?_ ?_|omega))
   all_goals first|exact go|simp
 ·conv=>whnf
  refine Yf Ja (Xw []) rfl rfl ?_;conv=>whnf
  refine⟨⟨rfl,trivial⟩, ?_⟩;conv=>whnf
  refine VE Ja (Xw []) xs (fun _=>rfl) rfl rfl rfl rfl ?_;conv=>whnf
  refine⟨⟨rfl,rfl,Nat.le_refl _,by rw[Nat.zero_add];exact Nat.le_refl _,by show(0+xs.length)*57≤_;omega⟩, ?_⟩;conv=>whnf
  repeat'(first|exact trivial|exact rfl|refine And.intro ?_ ?_|((conv=>whnf);first|exact trivial|exact rfl|refine And.intro ?_ ?_|omega))
  all_goals first|exact go|simp
theorem cj7(n:Int):Triple Tryz.prog 98 [iv .i64 n] [] 0 (bv (!Jf n 1 12)) []:=by
 refine Jc Ja Tryz.func98 rfl Tryz.call98 rfl ?_;intro ρ w hH;conv=>whnf
 refine Jb (JA n 1 12) rfl rfl ?_;conv=>whnf
 refine cs ?_;conv=>whnf
 exact cl
theorem bz0(xs:List Int)(hb:xs.length≤9223372036854775807):Triple Tryz.prog 150 [.c (.s 0 0 xs.length 1), .c (.f 98 [])]
 [(0,false, .arr (Yn xs))] 1 (iv .i64 (aw2 (fun n=>!Jf n 1 12) xs)) []:=by
 refine Jc Ja Tryz.func150 rfl Tryz.call150 rfl ?_;intro ρ w hH;conv=>whnf
 refine Jz Ja (G:=Nat) 0 [] (fun i=>[(8,iv .i64 i)]) (fun _=>[]) (fun i=>i≤xs.length∧∀x∈xs.take i,(!Jf x 1 12)=false) (fun i=>xs.length-i) ?_;conv=>whnf
 refine⟨⟨0,⟨Nat.zero_le _,(fun x hx=>by simp at hx)⟩, ?_⟩, ?_⟩
 ·conv=>whnf
  exact cl
 intro i ⟨hi,hn⟩ ρ1 t1 hρ1;have hi:i≤xs.length:=hi;have hn:∀x∈xs.take i,(fun n:Int=>!Jf n 1 12) x=false:=hn;conv=>whnf
 refine⟨fun hc=>?_,fun hc=>?_⟩
 ·have h:i<xs.length:=by simp at hc;omega
  conv=>whnf
  refine⟨i,rfl,h,h, ?_⟩;conv=>whnf
  refine Jb (cj7 xs[i]) rfl rfl ?_;conv=>whnf
  refine cs ?_;conv=>whnf
  refine⟨fun hc=>?_,fun hc=>?_⟩
  ·rw[aP1 (p:=fun n:Int=>!Jf n 1 12) h hn hc];conv=>whnf
   exact cl
  ·conv=>whnf
   refine⟨_,wO, ?_⟩;refine⟨i+1,⟨h, ?_⟩,by show xs.length-(i+1)<xs.length-i;omega, ?_⟩
   ·intro x hxx;rw[JR h]at hxx;rcases List.mem_append.1 hxx with hxx|hxx
    ·exact hn x hxx
    ·simp only[List.mem_singleton]at hxx;rw[hxx];exact hc
   conv=>whnf
   refine⟨rfl, ?_⟩;conv=>whnf
   exact cl
 ·have hi2:i=xs.length:=by simp at hc;omega
  subst hi2;rw[List.take_length]at hn;rw[aL1 hn];conv=>whnf
  exact cl
theorem az0(xs:List Int)(hb:xs.length≤9223372036854775807):Triple Tryz.prog 97 [.c (.s 0 0 xs.length 1), .c (.f 98 [])]
 [(0,false, .arr (Yn xs))] 1 (bv (xs.any fun n=>!Jf n 1 12)) []:=by
 rw[←bD2];refine Jc Ja Tryz.func97 rfl Tryz.call97 rfl ?_;intro ρ w hH;conv=>whnf
 refine Jb (bz0 xs hb) rfl rfl ?_;conv=>whnf
 refine cs ?_;conv=>whnf
 exact cl
abbrev cI5(num:Int)(did:Mp)(size:List Int)(vs:List Value)(n:Nat):Je:=[(0,true, .cells [.s 1 0 size.length 1, .s 2 0 n 1, .m 3, .v (.int .i64 num), .junk, .junk]),(1,false, .arr (Yn size)),(2,false, .arr (ah0 vs)),(3,false,Jw true 2 did)]
theorem bX2(num:Int)(did:Mp)(size:List Int)(vs:List Value)(n:Nat) :
 Triple Tryz.prog 55 [.c (.p 0 0 0 0)] (cI5 num did size vs n) 4 (.tup [])
  [(0,true, .cells [.s 1 0 size.length 1, .s 2 0 n 1, .m 3, .v (.int .i64 num), .m 4, .m 5]),(4,true,Jw false 2 Mp.nil),(5,true,Jw false 2 Mp.nil)]:=by
 refine Jc Ja Tryz.func55 rfl Tryz.call55 rfl ?_;intro ρ w hH;conv=>whnf
 refine ac1 false 2 rfl ?_;conv=>whnf
 refine ac1 false 2 rfl ?_;conv=>whnf
 exact cl
def KJ:Value:=.slice none 0 0
def Yo(size:List Int):Int:=if Jf size.length 1 4=false then 2 else if(size.any fun n=>!Jf n 1 12)=true then 1 else 0
theorem bf3(num:Int)(h1:Jf num 1 6=true)(size:List Int)(hb:size.length≤9223372036854775807)(he:Yo size≠0) :
 Triple Tryz.prog 51 [iv .i64 num, .c (.s 0 0 size.length 1)] [(0,false, .arr (Yn size))] 1 (.tup [.inl (.v (.pointer none)), .inl (.v (.int .i64 (Yo size)))]) []:=by
 have hw1:=JA num 1 6;have hw2:=JA size.length 1 4;have hct:=az0 size hb;rw[h1]at hw1;generalize hR:Yo size=R at he;cases h2:Jf size.length 1 4 with
 |false =>
  simp[Yo,h2]at hR;subst hR;rw[h2]at hw2;refine Jc Ja Tryz.func51 rfl Tryz.call51 rfl ?_;intro ρ w hH;conv=>whnf
  refine Jb hw1 rfl rfl ?_;conv=>whnf
  refine cs ?_;conv=>whnf
  repeat ((first|refine qT fun hc=>?_|refine qF fun hc=>?_);conv=>whnf)
  refine Jb hw2 rfl rfl ?_;conv=>whnf
  refine cs ?_;conv=>whnf
  repeat ((first|refine qT fun hc=>?_|refine qF fun hc=>?_);conv=>whnf)
  exact cl
 |true =>
  rw[h2]at hw2;cases h3:(size.any fun n=>!Jf n 1 12)with
  |false =>
   rw[Yo,if_neg (by rw[h2];decide),if_neg (by rw[h3];decide)]at hR;exact absurd hR.symm he
  |true =>
   rw[Yo,if_neg (by rw[h2];decide),if_pos h3]at hR;subst hR;rw[h3]at hct;refine Jc Ja Tryz.func51 rfl Tryz.call51 rfl ?_;intro ρ w hH;conv=>whnf
   refine Jb hw1 rfl rfl ?_;conv=>whnf
   refine cs ?_;conv=>whnf
   repeat ((first|refine qT fun hc=>?_|refine qF fun hc=>?_);conv=>whnf)
   refine Jb hw2 rfl rfl ?_;conv=>whnf
   refine cs ?_;conv=>whnf
   repeat ((first|refine qT fun hc=>?_|refine qF fun hc=>?_);conv=>whnf)
   refine Jb hct rfl rfl ?_;conv=>whnf
   refine cs ?_;conv=>whnf
   repeat ((first|refine qT fun hc=>?_|refine qF fun hc=>?_);conv=>whnf)
   exact cl
theorem bs7(num:Int)(h1:Jf num 1 6=true)(size:List Int)(he:Yo size=0) :
 Triple Tryz.prog 51 [iv .i64 num, .c (.s 0 0 size.length 1)] [(0,false, .arr (Yn size))] 1 (.tup [.inl (.p 1 0 0 0), .inl (.v (.int .i64 0))])
  [(1,true, .cells [.s 2 0 size.length 1, .s 3 0 size.length 1, .m 4, .v (.int .i64 num), .m 5, .m 6]),(2,true, .arr (Yn size)),(3,true, .arr (ah0 (List.replicate size.length KJ))),(4,true,Jw true 2 Mp.nil),(5,true,Jw false 2 Mp.nil),(6,true,Jw false 2 Mp.nil)]:=by
 have hw1:=JA num 1 6;have hw2:=JA size.length 1 4;have h2:Jf size.length 1 4=true:=by
  cases h:Jf size.length 1 4 with
  |true=>rfl
  |false=>simp[Yo,h]at he
 have hl:size.length≤4:=by simp[Jf]at h2;omega
 have hct:=az0 size (by omega);have h3:(size.any fun n=>!Jf n 1 12)=false:=by
  cases h:(size.any fun n=>!Jf n 1 12)with
  |false=>rfl
  |true=>rw[Yo,if_neg (by rw[h2];decide),if_pos h]at he;cases he
 rw[h1]at hw1;rw[h2]at hw2;rw[h3]at hct;refine Jc Ja Tryz.func51 rfl Tryz.call51 rfl ?_;intro ρ w hH;conv=>whnf
 refine Jb hw1 rfl rfl ?_;conv=>whnf
 refine cs ?_;conv=>whnf
 repeat ((first|refine qT fun hc=>?_|refine qF fun hc=>?_);conv=>whnf)
 refine Jb hw2 rfl rfl ?_;conv=>whnf
 refine cs ?_;conv=>whnf
 repeat ((first|refine qT fun hc=>?_|refine qF fun hc=>?_);conv=>whnf)
 refine Jb hct rfl rfl ?_;conv=>whnf
 refine cs ?_;conv=>whnf
 repeat ((first|refine qT fun hc=>?_|refine qF fun hc=>?_);conv=>whnf)
 refine Jb (bM1 size (by omega)) rfl rfl ?_;conv=>whnf
 refine cs ?_;conv=>whnf
 refine aU4 Ja (ah0 (List.replicate size.length KJ)) rfl rfl ?_;conv=>whnf
 refine⟨size.length,⟨by show(List.replicate size.length KJ).length=_;simp,rfl,rfl,by show size.length*25≤140737488355328;omega, ?_⟩, ?_⟩
 ·intro x hx;rw[show x=KJ from List.eq_of_mem_replicate (show x∈List.replicate size.length KJ from hx)];exact⟨rfl,trivial⟩
 conv=>whnf
 refine ac1 true 2 rfl ?_;conv=>whnf
 refine Jb (bX2 num Mp.nil size (List.replicate size.length KJ) size.length) rfl rfl ?_;conv=>whnf
 refine cs ?_;conv=>whnf
 exact cl
end Go.Proofs
