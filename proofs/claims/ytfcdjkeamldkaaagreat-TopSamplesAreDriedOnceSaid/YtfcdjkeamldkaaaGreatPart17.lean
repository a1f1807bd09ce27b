/-
  A part of the proof that a law answers true: lemmas of a symbolic walk, plain functions, or contracts of the functions walked (E5, E6, E7, Sx77, Sx78). Conditions: none.
-/
import Derived.Test.YtfcdjkeamldkaaaGreatPart16
import Derived.Test.YtfcdjkeamldkaaaGreatPart14
import Derived.Test.YtfcdjkeamldkaaaGreatPart09
set_option maxRecDepth 100000
set_option linter.unusedVariables false
set_option linter.unusedSimpArgs false
namespace Go.Proofs
open Go.Sx
def skL(x:Vj):List Int:=Qb (x.1,x.2.1)
def knS(M:Mp)(x:Vj):Mp:=M.put (skL x) (hdL ⟨1,0,0,0,0⟩)
def knF(l:List Vj):Mp:=l.foldl knS Mp.nil
theorem aE4(l:List Vj)(x:Vj):knF (l++[x])=(knF l).put (skL x) (hdL ⟨1,0,0,0,0⟩):=by
 unfold knF;rw[List.foldl_append];rfl
theorem cv8{x y:Vj}:skL x=skL y↔x.1=y.1∧x.2.1=y.2.1:=by
 unfold skL Qb;constructor
 ·intro h;exact⟨(List.cons.inj h).1,(List.cons.inj (List.cons.inj h).2).1⟩
 ·rintro ⟨h1,h2⟩;rw[h1,h2]
theorem ag9{α:Type}{P:List α→Prop}(h0:P [])(hs:∀l x,P l→P (l++[x]))(l:List α):P l:=by
 have:∀n,P (l.take n):=fun n=>by
  induction n with
  |zero=>simpa using h0
  |succ n ih =>
   by_cases h:n<l.length
   ·rw[JR h];exact hs _ _ ih
   ·rw[List.take_of_length_le (by omega)];rwa[List.take_of_length_le (by omega)]at ih
 have h:=this l.length;rwa[List.take_length]at h
theorem bD6(l:List Vj)(k:List Int):(knF l).get k=if ∃x∈l,skL x=k then some (hdL ⟨1,0,0,0,0⟩)else none:=by
 induction l using ag9 with
 |h0=>rfl
 |hs l x ih =>
  rw[aE4];by_cases e:skL x=k
  ·rw[e,Mp.get_put_self,if_pos ⟨x,by simp,e⟩]
  ·rw[Mp.get_put_ne _ _ e,ih];by_cases h:∃y∈l,skL y=k
   ·obtain⟨y,hy,hyk⟩:=h;rw[if_pos ⟨y,hy,hyk⟩,if_pos ⟨y,List.mem_append_left _ hy,hyk⟩]
   ·rw[if_neg h,if_neg]
    rintro ⟨y,hy,hyk⟩
    rcases List.mem_append.1 hy with hy|hy
    ·exact h ⟨y,hy,hyk⟩
    ·rw[List.mem_singleton.1 hy]at hyk;exact e hyk
theorem bs5(l:List Vj):Yk 5 (knF l):=by
 induction l using ag9 with
 |h0=>exact Yk.nil 5
 |hs l x ih=>rw[aE4];exact ih.put _ rfl
theorem cv9(l:List Vj):(knF l).es.length≤l.length:=by
 induction l using ag9 with
 |h0=>exact Nat.le_refl _
 |hs l x ih =>
  rw[aE4,List.length_append];have:=Mp.put_len (knF l) (skL x) (hdL ⟨1,0,0,0,0⟩);have e:[x].length=1:=rfl;omega
structure SmpOK (l:List Vj):Prop where
 len:l.length≤480
 ok:∀x∈l,bf2 (x.1,x.2.1)=true∧Jf x.2.2 1 200=true
 one:(l.map skL).Nodup
abbrev al9(lease:Int)(l:List Vj):Dsk:=⟨lease,0,0,knF l⟩
theorem bi4(l:List Vj)(hl:SmpOK l)(lease:Int)(hle:Jf lease 1 1000=true) :
 Triple Tryz.prog 50 [.c (.s 0 0 l.length 3),iv .i64 lease] [(0,false, .arr (KU l))] 1 (.tup [.inl (.p 1 0 0 0), .inl (.v (.int .i64 0))]) [(1,true,VZ 2 (al9 lease l)),(2,true,Jw true 2 (knF l))]:=by
 have hw:=JA lease 1 1000;rw[hle]at hw;have hlen:=hl.len;refine Jc Ja Tryz.func50 rfl Tryz.call50 rfl ?_;intro ρ w hH;conv=>whnf
 refine Jb hw rfl rfl ?_;conv=>whnf
 refine cs ?_;conv=>whnf
 repeat ((first|refine qT fun hc=>?_|refine qF fun hc=>?_);conv=>whnf)
 refine⟨fun hc=>?_,fun hc=>?_⟩
 ·exact absurd (of_decide_eq_true hc) (by omega)
 conv=>whnf
 refine ac1 true 2 rfl ?_;conv=>whnf
 refine Jz Ja (G:=Nat) 0 [] (fun i=>[(24,iv .i64 i)]) (fun i=>[(2,true,VZ 1 ⟨lease,0,0,knF (l.take i)⟩),(1,true,Jw true 2 (knF (l.take i)))]) (fun i=>i≤l.length) (fun i=>l.length-i) ?_;conv=>whnf
 refine⟨⟨0,Nat.zero_le _, ?_⟩, ?_⟩
 ·conv=>whnf
  exact cl
 intro i hi ρ1 t1 hρ1;have hi:i≤l.length:=hi;conv=>whnf
 refine⟨fun hc=>?_,fun hc=>?_⟩
 rotate_left
 ·have hie:i=l.length:=by have:=of_decide_eq_false hc;omega
  subst hie;rw[List.take_length];conv=>whnf
  exact cl
 have h:i<l.length:=by have:=of_decide_eq_true hc;omega
 have hx:=hl.ok l[i] (List.getElem_mem h);have hkl:=cv9 (l.take i);rw[List.length_take]at hkl;have hno:(al9 lease (l.take i)).has (l[i].1,l[i].2.1)=false:=by
  show((knF (l.take i)).get (skL l[i])).isSome=false;rw[bD6,if_neg]
  ·rfl
  ·rintro ⟨y,hy,hyk⟩
   obtain⟨j,hj⟩:=List.getElem?_of_mem hy;rw[List.getElem?_take]at hj;by_cases hji:j<i
   ·rw[if_pos hji]at hj;have h1:(l.map skL)[j]? = some (skL l[i]):=by rw[List.getElem?_map,hj];simp[hyk]
    have h2:(l.map skL)[i]? = some (skL l[i]):=by rw[List.getElem?_map,List.getElem?_eq_getElem h];rfl
    have h3:(l.map skL)[j]? = (l.map skL)[i]?:=by rw[h1,h2]
    have:=(List.getElem?_inj (List.getElem?_eq_some_iff.1 h1).1 hl.one).1 h3;omega
   ·rw[if_neg hji]at hj;cases hj
 have hadd:=cI2 (al9 lease (l.take i)) (bs5 _) l[i] (show(knF (l.take i)).es.length<480 by omega) hx.1 hx.2 hno;have hst:knF (l.take (i+1))=(knF (l.take i)).put (Qb (l[i].1,l[i].2.1)) (hdL ⟨1,0,0,0,0⟩):=by rw[JR h,aE4];rfl
 conv=>whnf
 refine⟨i,rfl,h,h, ?_⟩;have hxx:∀hz,(KU l).xs[JO 0 i]'hz=l[i]:=fun hz=>by
  have e:JO 0 i=i:=by rw[Qc];omega
  show l[JO 0 i]'hz=l[i];congr 1
 conv=>whnf
 refine Jb hadd rfl rfl ?_;conv=>whnf
 refine cs ?_;conv=>whnf
 repeat ((first|refine qT fun hc=>?_|refine qF fun hc=>?_);conv=>whnf)
 refine⟨_,wO, ?_⟩;refine⟨i+1,h,by show l.length-(i+1)<l.length-i;omega, ?_⟩;dsimp only;rw[hst];conv=>whnf
 refine⟨rfl, ?_⟩;conv=>whnf
 exact cl
theorem by9(l:List Vj)(lease:Int)(hle:Jf lease 1 1000=false) :
 Triple Tryz.prog 50 [.c (.s 0 0 l.length 3),iv .i64 lease] [(0,false, .arr (KU l))] 1 (.tup [.inl (.v (.pointer none)), .inl (.v (.int .i64 1))]) []:=by
 have hw:=JA lease 1 1000;rw[hle]at hw;refine Jc Ja Tryz.func50 rfl Tryz.call50 rfl ?_;intro ρ w hH;conv=>whnf
 refine Jb hw rfl rfl ?_;conv=>whnf
 refine cs ?_;conv=>whnf
 repeat ((first|refine qT fun hc=>?_|refine qF fun hc=>?_);conv=>whnf)
 exact cl
structure Stn where
 num:Int
 did:Mp
 grants:Mp
 goes:Mp
abbrev bL7(s:Stn):Je:=[(0,false, .cells [.junk, .junk, .m 1, .v (.int .i64 s.num), .m 2, .m 3]),(1,false,Jw true 2 s.did),(2,false,Jw false 2 s.grants),(3,false,Jw false 2 s.goes)]
structure StnV (s:Stn):Prop where
 did:Yk 3 s.did
 grants:Yk 1 s.grants
 goes:Yk 1 s.goes
def dnL(l:List Int):List Int:=match l with
 | [a,b,c]=>[a,b,c]
 |_=>[0,0,0]
def Ye(M:Mp)(k:Ky):Int×Int×Int:=match M.get (Qb k)with
 |some [a,b,c]=>(a,b,c)
 |_=>(0,0,0)
def JP(M:Mp)(k:Ky):Bool:=(M.get (Qb k)).isSome
def Xc(M:Mp)(k:Ky):Int:=match M.get (Qb k)with
 |some [a]=>a
 |_=>0
theorem ar2{M:Mp}(h:Yk 3 M)(k:Ky):(M.get (Qb k)).getD [0,0,0]=[(Ye M k).1,(Ye M k).2.1,(Ye M k).2.2]:=by
 unfold Ye;cases hg:M.get (Qb k)with
 |none=>rfl
 |some l =>
  have:=h.get hg
  match l,this with
  | [a,b,c],_=>rfl
theorem VH{M:Mp}(h:Yk 1 M)(k:Ky):(M.get (Qb k)).getD [0]=[Xc M k]:=by
 unfold Xc;cases hg:M.get (Qb k)with
 |none=>rfl
 |some l =>
  have:=h.get hg
  match l,this with
  | [a],_=>rfl
def VT(s:Stn)(k:Ky):Int:=if bf2 k=false then 1 else if JP s.did k=true then 51 else 0
theorem bD7(s:Stn)(hv:StnV s)(k:Ky) :
 Triple Tryz.prog 151 [.c (.p 0 0 0 0),Gm k] (bL7 s) 4 (iv .i64 (VT s k)) []:=by
 have hk:=cs3 k;have hg:=ar2 hv.did k;cases hkf:bf2 k with
 |false =>
  rw[show VT s k=1 from by unfold VT;rw[if_pos hkf]];rw[hkf]at hk;refine Jc Ja Tryz.func151 rfl Tryz.call151 rfl ?_;intro ρ w hH;conv=>whnf
  refine Jb hk rfl rfl ?_;conv=>whnf
  refine cs ?_;conv=>whnf
  repeat ((first|refine qT fun hc=>?_|refine qF fun hc=>?_);conv=>whnf)
  exact cl
 |true =>
  rw[hkf]at hk;cases hd:JP s.did k with
  |true =>
   rw[show VT s k=51 from by unfold VT;rw[if_neg (by rw[hkf];decide),if_pos hd]];refine Jc Ja Tryz.func151 rfl Tryz.call151 rfl ?_;intro ρ w hH;conv=>whnf
   refine Jb hk rfl rfl ?_;conv=>whnf
   refine cs ?_;conv=>whnf
   repeat ((first|refine qT fun hc=>?_|refine qF fun hc=>?_);conv=>whnf)
   refine JL Ja (k:=Qb k) (vs:=true) [0,0,0] _ true YL Gn rfl rfl rfl rfl rfl rfl rfl hg hd ?_;conv=>whnf
   repeat ((first|refine qT fun hc=>?_|refine qF fun hc=>?_);conv=>whnf)
   exact cl
  |false =>
   rw[show VT s k=0 from by unfold VT;rw[if_neg (by rw[hkf];decide),if_neg (by rw[hd];decide)]];refine Jc Ja Tryz.func151 rfl Tryz.call151 rfl ?_;intro ρ w hH;conv=>whnf
   refine Jb hk rfl rfl ?_;conv=>whnf
   refine cs ?_;conv=>whnf
   repeat ((first|refine qT fun hc=>?_|refine qF fun hc=>?_);conv=>whnf)
   refine JL Ja (k:=Qb k) (vs:=true) [0,0,0] _ false YL Gn rfl rfl rfl rfl rfl rfl rfl hg hd ?_;conv=>whnf
   repeat ((first|refine qT fun hc=>?_|refine qF fun hc=>?_);conv=>whnf)
   exact cl
theorem bW6(s:Stn)(kind:Int)(k:Ky)(n:Int) :
 Triple Tryz.prog 152 [.c (.p 0 0 0 0),iv .i64 kind,Gm k,iv .i64 n] (bL7 s) 4 (Wc ⟨0,kind,s.num,k,n,0⟩) []:=by
 refine Jc Ja Tryz.func152 rfl Tryz.call152 rfl ?_;intro ρ w hH;conv=>whnf
 exact cl
def Uo(s:Stn)(k:Ky):Slp×Int:=if VT s k=0 then(⟨0,1,s.num,k,0,0⟩,0)else(VS,VT s k)
theorem cI3(s:Stn)(hv:StnV s)(k:Ky) :
 Triple Tryz.prog 100 [.c (.p 0 0 0 0),Gm k] (bL7 s) 4 (.tup [.inr (aw4 (Uo s k).1), .inl (.v (.int .i64 (Uo s k).2))]) []:=by
 have hck:=bD7 s hv k;by_cases he:VT s k=0
 ·have b0:(VT s k != 0)=false:=by simp[he]
  rw[show Uo s k=(⟨0,1,s.num,k,0,0⟩,0)from by unfold Uo;rw[if_pos he]];refine Jc Ja Tryz.func100 rfl Tryz.call100 rfl ?_;intro ρ w hH;conv=>whnf
  refine Jb hck rfl rfl ?_;conv=>whnf
  refine cs ?_;conv=>whnf
  repeat ((first|refine qT fun hc=>?_|refine qF fun hc=>?_);conv=>whnf)
  refine Jb (bW6 s 1 k 0) rfl rfl ?_;conv=>whnf
  refine cs ?_;conv=>whnf
  exact cl
 ·have b0:(VT s k != 0)=true:=by simp[he]
  rw[show Uo s k=(VS,VT s k)from by unfold Uo;rw[if_neg he]];refine Jc Ja Tryz.func100 rfl Tryz.call100 rfl ?_;intro ρ w hH;conv=>whnf
  refine Jb hck rfl rfl ?_;conv=>whnf
  refine cs ?_;conv=>whnf
  repeat ((first|refine qT fun hc=>?_|refine qF fun hc=>?_);conv=>whnf)
  exact cl
def Xh(s:Stn)(k:Ky):Slp×Int:=if VT s k=0 then(if JP s.grants k=true then(⟨0,4,s.num,k,Xc s.grants k,0⟩,0)else(VS,50))else(VS,VT s k)
theorem bD8(s:Stn)(hv:StnV s)(k:Ky) :
 Triple Tryz.prog 101 [.c (.p 0 0 0 0),Gm k] (bL7 s) 4 (.tup [.inr (aw4 (Xh s k).1), .inl (.v (.int .i64 (Xh s k).2))]) []:=by
 have hck:=bD7 s hv k;have hg:=VH hv.grants k;by_cases he:VT s k=0
 ·have b0:(VT s k != 0)=false:=by simp[he]
  cases hh:JP s.grants k with
  |true =>
   rw[show Xh s k=(⟨0,4,s.num,k,Xc s.grants k,0⟩,0)from by unfold Xh;rw[if_pos he,if_pos hh]];refine Jc Ja Tryz.func101 rfl Tryz.call101 rfl ?_;intro ρ w hH;conv=>whnf
   refine Jb hck rfl rfl ?_;conv=>whnf
   refine cs ?_;conv=>whnf
   repeat ((first|refine qT fun hc=>?_|refine qF fun hc=>?_);conv=>whnf)
   refine JL Ja (k:=Qb k) (vs:=false) [0] _ true YL YW rfl rfl rfl rfl rfl rfl rfl hg hh ?_;conv=>whnf
   repeat ((first|refine qT fun hc=>?_|refine qF fun hc=>?_);conv=>whnf)
   refine Jb (bW6 s 4 k (Xc s.grants k)) rfl rfl ?_;conv=>whnf
   refine cs ?_;conv=>whnf
   exact cl
  |false =>
   rw[show Xh s k=(VS,50)from by unfold Xh;rw[if_pos he,if_neg (by rw[hh];decide)]];refine Jc Ja Tryz.func101 rfl Tryz.call101 rfl ?_;intro ρ w hH;conv=>whnf
   refine Jb hck rfl rfl ?_;conv=>whnf
   refine cs ?_;conv=>whnf
   repeat ((first|refine qT fun hc=>?_|refine qF fun hc=>?_);conv=>whnf)
   refine JL Ja (k:=Qb k) (vs:=false) [0] _ false YL YW rfl rfl rfl rfl rfl rfl rfl hg hh ?_;conv=>whnf
   repeat ((first|refine qT fun hc=>?_|refine qF fun hc=>?_);conv=>whnf)
   exact cl
 ·have b0:(VT s k != 0)=true:=by simp[he]
  rw[show Xh s k=(VS,VT s k)from by unfold Xh;rw[if_neg he]];refine Jc Ja Tryz.func101 rfl Tryz.call101 rfl ?_;intro ρ w hH;conv=>whnf
  refine Jb hck rfl rfl ?_;conv=>whnf
  refine cs ?_;conv=>whnf
  repeat ((first|refine qT fun hc=>?_|refine qF fun hc=>?_);conv=>whnf)
  exact cl
def Vh(s:Stn)(k:Ky):(Slp×Int)×Mp :=
 if(Xh s k).2=0 then(if JP s.goes k=true then((VS,4),s.grants)else(({ (Xh s k).1 with kind:=6 },0),s.grants.del (Qb k)))
 else((VS,(Xh s k).2),s.grants)
abbrev cK3(s:Stn):Je:=[(0,false, .cells [.junk, .junk, .m 1, .v (.int .i64 s.num), .m 2, .m 3]),(1,false,Jw true 2 s.did),(2,true,Jw false 2 s.grants),(3,false,Jw false 2 s.goes)]
theorem cD7(s:Stn)(hv:StnV s)(k:Ky) :
 Triple Tryz.prog 102 [.c (.p 0 0 0 0),Gm k] (cK3 s) 4 (.tup [.inr (aw4 (Vh s k).1.1), .inl (.v (.int .i64 (Vh s k).1.2))]) [(2,true,Jw false 2 (Vh s k).2)]:=by
 have hbg:=bD8 s hv k;have hg:=VH hv.goes k;have hF:Vh s k=if(Xh s k).2=0 then(if JP s.goes k=true then((VS,4),s.grants)else(({ (Xh s k).1 with kind:=6 },0),s.grants.del (Qb k)))else((VS,(Xh s k).2),s.grants):=rfl
 generalize Xh s k=X at hbg hF;obtain⟨x,er⟩:=X;dsimp only at hbg hF;by_cases he:er=0
 ·subst he;rw[if_pos rfl]at hF;cases hh:JP s.goes k with
  |true =>
   rw[if_pos hh]at hF;rw[hF];refine Jc Ja Tryz.func102 rfl Tryz.call102 rfl ?_;intro ρ w hH;conv=>whnf
   refine Jb hbg rfl rfl ?_;conv=>whnf
   refine cs ?_;conv=>whnf
   repeat ((first|refine qT fun hc=>?_|refine qF fun hc=>?_);conv=>whnf)
   refine JL Ja (k:=Qb k) (vs:=false) [0] _ true YL YW rfl rfl rfl rfl rfl rfl rfl hg hh ?_;conv=>whnf
   repeat ((first|refine qT fun hc=>?_|refine qF fun hc=>?_);conv=>whnf)
   exact cl
  |false =>
   rw[if_neg (by rw[hh];decide)]at hF;rw[hF];refine Jc Ja Tryz.func102 rfl Tryz.call102 rfl ?_;intro ρ w hH;conv=>whnf
   refine Jb hbg rfl rfl ?_;conv=>whnf
   refine cs ?_;conv=>whnf
   repeat ((first|refine qT fun hc=>?_|refine qF fun hc=>?_);conv=>whnf)
   refine JL Ja (k:=Qb k) (vs:=false) [0] _ false YL YW rfl rfl rfl rfl rfl rfl rfl hg hh ?_;conv=>whnf
   repeat ((first|refine qT fun hc=>?_|refine qF fun hc=>?_);conv=>whnf)
   refine ba4 Ja (k:=Qb k) YL rfl rfl rfl rfl rfl rfl rfl rfl rfl rfl ?_;conv=>whnf
   exact cl
 ·have b0:(er != 0)=true:=by simp[he]
  rw[if_neg he]at hF;rw[hF];refine Jc Ja Tryz.func102 rfl Tryz.call102 rfl ?_;intro ρ w hH;conv=>whnf
  refine Jb hbg rfl rfl ?_;conv=>whnf
  refine cs ?_;conv=>whnf
  repeat ((first|refine qT fun hc=>?_|refine qF fun hc=>?_);conv=>whnf)
  exact cl
structure Hrd where
 err:Int
 grants:Mp
 goes:Mp
def JK(s:Stn)(x:Slp):Hrd :=
 if x.st≠s.num∨((x.kind=2∨x.kind=5)∧x.num<1)then⟨1,s.grants,s.goes⟩
 else if x.kind=8 then⟨0,s.grants,s.goes⟩
 else if x.kind=2 then⟨0,if JP s.grants x.k=false∨Xc s.grants x.k<x.num then s.grants.put (Qb x.k) [x.num]else s.grants,s.goes⟩
 else if x.kind=5 then⟨0,s.grants.put (Qb x.k) [x.num],s.goes.put (Qb x.k) [x.num]⟩
 else if x.kind=3 then⟨0,if JP s.grants x.k=true∧Xc s.grants x.k=x.num then s.grants.del (Qb x.k)else s.grants,s.goes⟩
 else⟨1,s.grants,s.goes⟩
abbrev aV4(s:Stn):Je:=[(0,false, .cells [.junk, .junk, .junk, .v (.int .i64 s.num), .m 1, .m 2]),(1,true,Jw false 2 s.grants),(2,true,Jw false 2 s.goes)]
theorem cj0(s:Stn)(hv:StnV s)(x:Slp)(m:¬x.st=s.num) :
 Triple Tryz.prog 156 [.c (.p 0 0 0 0),Wc x] (aV4 s) 3 (iv .i64 (JK s x).err) [(1,true,Jw false 2 (JK s x).grants),(2,true,Jw false 2 (JK s x).goes)]:=by
 have hg:=VH hv.grants x.k;have hgo:=VH hv.goes x.k;have em:(x.st != s.num)=true:=by simp[m]
 generalize hR:JK s x=R;refine Jc Ja Tryz.func156 rfl Tryz.call156 rfl ?_;intro ρ w hH;conv=>whnf
 refine JL Ja (k:=Qb x.k) (vs:=false) [0] _ (JP s.grants x.k) YL YW rfl rfl rfl rfl rfl rfl rfl hg rfl ?_;conv=>whnf
 simp[JK,m]at hR;subst hR;repeat ((first|refine qT fun hc=>?_|refine qF fun hc=>?_);conv=>whnf)
 skip;exact cl
theorem cj1(s:Stn)(hv:StnV s)(x:Slp)(m:x.st=s.num)(k2:x.kind=2) :
 Triple Tryz.prog 156 [.c (.p 0 0 0 0),Wc x] (aV4 s) 3 (iv .i64 (JK s x).err) [(1,true,Jw false 2 (JK s x).grants),(2,true,Jw false 2 (JK s x).goes)]:=by
 have hg:=VH hv.grants x.k;have hgo:=VH hv.goes x.k;have em:(x.st != s.num)=false:=by simp[m]
 have a2:=YI k2;have a8:=JG (a:=x.kind) (b:=8) (by omega);by_cases n1:x.num<1
 ·have d1:decide (x.num<1)=true:=decide_eq_true n1;generalize hR:JK s x=R;refine Jc Ja Tryz.func156 rfl Tryz.call156 rfl ?_;intro ρ w hH;conv=>whnf
  refine JL Ja (k:=Qb x.k) (vs:=false) [0] _ (JP s.grants x.k) YL YW rfl rfl rfl rfl rfl rfl rfl hg rfl ?_;conv=>whnf
  simp[JK,m,k2,n1]at hR;subst hR;repeat ((first|refine qT fun hc=>?_|refine qF fun hc=>?_);conv=>whnf)
  skip;exact cl
 have d1:decide (x.num<1)=false:=decide_eq_false n1;have n1':0<x.num:=by omega
 cases hh:JP s.grants x.k with
 |false =>
  generalize hR:JK s x=R;refine Jc Ja Tryz.func156 rfl Tryz.call156 rfl ?_;intro ρ w hH;conv=>whnf
  refine JL Ja (k:=Qb x.k) (vs:=false) [0] _ (JP s.grants x.k) YL YW rfl rfl rfl rfl rfl rfl rfl hg rfl ?_;conv=>whnf
  simp[JK,m,k2,n1,hh]at hR;subst hR;rw[hh];conv=>whnf
  repeat ((first|refine qT fun hc=>?_|refine qF fun hc=>?_);conv=>whnf)
  refine WS Ja (k:=Qb x.k) (v:=[x.num]) YL rfl rfl rfl rfl rfl rfl rfl rfl ?_;conv=>whnf
  exact cl
 |true =>
  by_cases g:Xc s.grants x.k<x.num
  ·have d2:decide (Xc s.grants x.k<x.num)=true:=decide_eq_true g;generalize hR:JK s x=R;refine Jc Ja Tryz.func156 rfl Tryz.call156 rfl ?_;intro ρ w hH;conv=>whnf
   refine JL Ja (k:=Qb x.k) (vs:=false) [0] _ (JP s.grants x.k) YL YW rfl rfl rfl rfl rfl rfl rfl hg rfl ?_;conv=>whnf
   simp[JK,m,k2,n1,hh,g]at hR;subst hR;rw[hh];conv=>whnf
   repeat ((first|refine qT fun hc=>?_|refine qF fun hc=>?_);conv=>whnf)
   refine WS Ja (k:=Qb x.k) (v:=[x.num]) YL rfl rfl rfl rfl rfl rfl rfl rfl ?_;conv=>whnf
   exact cl
  ·have d2:decide (Xc s.grants x.k<x.num)=false:=decide_eq_false g;generalize hR:JK s x=R;refine Jc Ja Tryz.func156 rfl Tryz.call156 rfl ?_;intro ρ w hH;conv=>whnf
   refine JL Ja (k:=Qb x.k) (vs:=false) [0] _ (JP s.grants x.k) YL YW rfl rfl rfl rfl rfl rfl rfl hg rfl ?_;conv=>whnf
   simp[JK,m,k2,n1,hh,g]at hR;subst hR;rw[hh];conv=>whnf
   repeat ((first|refine qT fun hc=>?_|refine qF fun hc=>?_);conv=>whnf)
   exact cl
theorem cj2(s:Stn)(hv:StnV s)(x:Slp)(m:x.st=s.num)(k5:x.kind=5) :
 Triple Tryz.prog 156 [.c (.p 0 0 0 0),Wc x] (aV4 s) 3 (iv .i64 (JK s x).err) [(1,true,Jw false 2 (JK s x).grants),(2,true,Jw false 2 (JK s x).goes)]:=by
 have hg:=VH hv.grants x.k;have hgo:=VH hv.goes x.k;have em:(x.st != s.num)=false:=by simp[m]
 have a2:=JG (a:=x.kind) (b:=2) (by omega);have a5:=YI k5;have a8:=JG (a:=x.kind) (b:=8) (by omega);by_cases n1:x.num<1
 ·have d1:decide (x.num<1)=true:=decide_eq_true n1;generalize hR:JK s x=R;refine Jc Ja Tryz.func156 rfl Tryz.call156 rfl ?_;intro ρ w hH;conv=>whnf
  refine JL Ja (k:=Qb x.k) (vs:=false) [0] _ (JP s.grants x.k) YL YW rfl rfl rfl rfl rfl rfl rfl hg rfl ?_;conv=>whnf
  simp[JK,m,k5,n1]at hR;subst hR;repeat ((first|refine qT fun hc=>?_|refine qF fun hc=>?_);conv=>whnf)
  skip;exact cl
 have d1:decide (x.num<1)=false:=decide_eq_false n1;generalize hR:JK s x=R;refine Jc Ja Tryz.func156 rfl Tryz.call156 rfl ?_;intro ρ w hH;conv=>whnf
 refine JL Ja (k:=Qb x.k) (vs:=false) [0] _ (JP s.grants x.k) YL YW rfl rfl rfl rfl rfl rfl rfl hg rfl ?_;conv=>whnf
 simp[JK,m,k5,n1]at hR;subst hR;repeat ((first|refine qT fun hc=>?_|refine qF fun hc=>?_);conv=>whnf)
 refine aE1 Ja (k:=Qb x.k) (vs:=false) [0] _ YL YW rfl rfl rfl rfl rfl rfl rfl hg ?_;conv=>whnf
 refine aE2 (k:=Qb x.k) (M:=s.grants) (z0:=[0]) (v:=[x.num]) rfl rfl rfl rfl rfl rfl ?_;conv=>whnf
 refine aE1 Ja (k:=Qb x.k) (vs:=false) [0] _ YL YW rfl rfl rfl rfl rfl rfl rfl hgo ?_;conv=>whnf
 refine aE2 (k:=Qb x.k) (M:=s.goes) (z0:=[0]) (v:=[x.num]) rfl rfl rfl rfl rfl rfl ?_;conv=>whnf
 exact cl
theorem cj3(s:Stn)(hv:StnV s)(x:Slp)(m:x.st=s.num)(k8:x.kind=8) :
 Triple Tryz.prog 156 [.c (.p 0 0 0 0),Wc x] (aV4 s) 3 (iv .i64 (JK s x).err) [(1,true,Jw false 2 (JK s x).grants),(2,true,Jw false 2 (JK s x).goes)]:=by
 have hg:=VH hv.grants x.k;have hgo:=VH hv.goes x.k;have em:(x.st != s.num)=false:=by simp[m]
 have a2:=JG (a:=x.kind) (b:=2) (by omega);have a5:=JG (a:=x.kind) (b:=5) (by omega);have a8:=YI k8;generalize hR:JK s x=R;refine Jc Ja Tryz.func156 rfl Tryz.call156 rfl ?_;intro ρ w hH;conv=>whnf
 refine JL Ja (k:=Qb x.k) (vs:=false) [0] _ (JP s.grants x.k) YL YW rfl rfl rfl rfl rfl rfl rfl hg rfl ?_;conv=>whnf
 simp[JK,m,k8]at hR;subst hR;repeat ((first|refine qT fun hc=>?_|refine qF fun hc=>?_);conv=>whnf)
 skip;exact cl
theorem cj4(s:Stn)(hv:StnV s)(x:Slp)(m:x.st=s.num)(k3:x.kind=3) :
 Triple Tryz.prog 156 [.c (.p 0 0 0 0),Wc x] (aV4 s) 3 (iv .i64 (JK s x).err) [(1,true,Jw false 2 (JK s x).grants),(2,true,Jw false 2 (JK s x).goes)]:=by
 have hg:=VH hv.grants x.k;have hgo:=VH hv.goes x.k;have em:(x.st != s.num)=false:=by simp[m]
 have a2:=JG (a:=x.kind) (b:=2) (by omega);have a5:=JG (a:=x.kind) (b:=5) (by omega);have a8:=JG (a:=x.kind) (b:=8) (by omega);have a3:=YI k3;cases hh:JP s.grants x.k with
 |false =>
  generalize hR:JK s x=R;refine Jc Ja Tryz.func156 rfl Tryz.call156 rfl ?_;intro ρ w hH;conv=>whnf
  refine JL Ja (k:=Qb x.k) (vs:=false) [0] _ (JP s.grants x.k) YL YW rfl rfl rfl rfl rfl rfl rfl hg rfl ?_;conv=>whnf
  simp[JK,m,k3,hh]at hR;subst hR;rw[hh];conv=>whnf
  repeat ((first|refine qT fun hc=>?_|refine qF fun hc=>?_);conv=>whnf)
  exact cl
 |true =>
  by_cases g:Xc s.grants x.k=x.num
  ·have d2:=YI g;generalize hR:JK s x=R;refine Jc Ja Tryz.func156 rfl Tryz.call156 rfl ?_;intro ρ w hH;conv=>whnf
   refine JL Ja (k:=Qb x.k) (vs:=false) [0] _ (JP s.grants x.k) YL YW rfl rfl rfl rfl rfl rfl rfl hg rfl ?_;conv=>whnf
   simp[JK,m,k3,hh,g]at hR;subst hR;rw[hh];conv=>whnf
   repeat ((first|refine qT fun hc=>?_|refine qF fun hc=>?_);conv=>whnf)
   refine ba4 Ja (k:=Qb x.k) YL rfl rfl rfl rfl rfl rfl rfl rfl rfl rfl ?_;conv=>whnf
   exact cl
  ·have d2:=JG g;generalize hR:JK s x=R;refine Jc Ja Tryz.func156 rfl Tryz.call156 rfl ?_;intro ρ w hH;conv=>whnf
   refine JL Ja (k:=Qb x.k) (vs:=false) [0] _ (JP s.grants x.k) YL YW rfl rfl rfl rfl rfl rfl rfl hg rfl ?_;conv=>whnf
   simp[JK,m,k3,hh,g]at hR;subst hR;rw[hh];conv=>whnf
   repeat ((first|refine qT fun hc=>?_|refine qF fun hc=>?_);conv=>whnf)
   exact cl
theorem cj5(s:Stn)(hv:StnV s)(x:Slp)(m:x.st=s.num)(k2:¬x.kind=2)(k5:¬x.kind=5)(k8:¬x.kind=8)(k3:¬x.kind=3) :
 Triple Tryz.prog 156 [.c (.p 0 0 0 0),Wc x] (aV4 s) 3 (iv .i64 (JK s x).err) [(1,true,Jw false 2 (JK s x).grants),(2,true,Jw false 2 (JK s x).goes)]:=by
 have hg:=VH hv.grants x.k;have hgo:=VH hv.goes x.k;have em:(x.st != s.num)=false:=by simp[m]
 have a2:=JG k2;have a5:=JG k5;have a8:=JG k8;have a3:=JG k3;generalize hR:JK s x=R;refine Jc Ja Tryz.func156 rfl Tryz.call156 rfl ?_;intro ρ w hH;conv=>whnf
 refine JL Ja (k:=Qb x.k) (vs:=false) [0] _ (JP s.grants x.k) YL YW rfl rfl rfl rfl rfl rfl rfl hg rfl ?_;conv=>whnf
 simp[JK,m,k2,k5,k8,k3]at hR;subst hR;repeat ((first|refine qT fun hc=>?_|refine qF fun hc=>?_);conv=>whnf)
 skip;exact cl
theorem cw0(s:Stn)(hv:StnV s)(x:Slp) :
 Triple Tryz.prog 156 [.c (.p 0 0 0 0),Wc x] (aV4 s) 3 (iv .i64 (JK s x).err) [(1,true,Jw false 2 (JK s x).grants),(2,true,Jw false 2 (JK s x).goes)]:=by
 by_cases m:x.st=s.num
 ·by_cases k2:x.kind=2
  ·exact cj1 s hv x m k2
  by_cases k5:x.kind=5
  ·exact cj2 s hv x m k5
  by_cases k8:x.kind=8
  ·exact cj3 s hv x m k8
  by_cases k3:x.kind=3
  ·exact cj4 s hv x m k3
  exact cj5 s hv x m k2 k5 k8 k3
 ·exact cj0 s hv x m
end Go.Proofs
namespace Go
namespace Sx
def ovC(k len:Nat):Option Value→SC
 |none=>.s k 0 len 2
 |some v=>.v v
def Gv(k len:Nat)(os:List (Option Value)):Arr:=⟨Option Value,1,fun x=>[ovC k len x],[k],fun _=>rfl,(by
 intro x c hc j hj
 rw[List.mem_singleton.1 hc]at hj
 cases x with
 |none=>simpa [ovC,SC.nms] using hj
 |some v=>simp[ovC,SC.nms]at hj),os,none,none⟩
def ptC(k:Nat):Option Value→SC
 |none=>.p k 0 0 0
 |some v=>.v v
def aPt(k:Nat)(os:List (Option Value)):Arr:=⟨Option Value,1,fun x=>[ptC k x],[k],fun _=>rfl,(by
 intro x c hc j hj
 rw[List.mem_singleton.1 hc]at hj
 cases x with
 |none=>simpa [ptC,SC.nms] using hj
 |some v=>simp[ptC,SC.nms]at hj),os,none,none⟩
theorem XM{σ:Nat→Nat}{k k' len:Nat}{os:List (Option Value)}(h:σ k=k'):Gv k' len os=(Gv k len os).ren σ:=by
 subst h;refine Un (funext fun x=>?_) rfl;cases x <;> rfl
theorem ac2{σ:Nat→Nat}{k k':Nat}{os:List (Option Value)}(h:σ k=k'):aPt k' os=(aPt k os).ren σ:=by
 subst h;refine Un (funext fun x=>?_) rfl;cases x <;> rfl
section
variable {cx:Cx} {B:Tabs} {o:Oper} {e:Env} {H:Je} {nx:Nat} {K:Eff→Prop}
theorem aL8(hB:TabsOK cx.P B){t:TypeId}{ti:TI}{x y:Operand}{k k0 k' i len len':Nat}{os:List (Option Value)}(ho:o.op=.store t x y)(ht:Ji B.T t=some ti)(hn:ti.size=1)
 (hx:ev e x=.c (.p k i 1 0)) (hy:ev e y=.c (.s k' 0 len' 2)) (hl:look H k=some (true, .arr (Gv k0 len os))) (hi:os[i]? = some none) (hu:∀j,os[j]? = some none→j=i)
 (hK:K ⟨.c .junk,[k],[(k,true, .arr (Gv k' len' os))],[]⟩):∃f,CallOK cx o e H nx f∧K f:=by
 have hil:i<os.length:=(List.getElem?_eq_some_iff.1 hi).1
 have hloc:=ab7 (cx:=cx) (e:=e) (H:=H) (i:=i) (off:=0) (sz:=1) (new:=[.s k' 0 len' 2]) hB ho hx ht (by rw[hn];rfl) (by omega) (fun ρ v hv=>by
  rw[hy]at hv;obtain⟨ad,rfl,h⟩:=hv;exact⟨⟨⟨ad,rfl,h⟩,trivial⟩,fun z hz=>by simp[Value.cells]at hz;subst hz;exact⟨fun _=>by simp,fun _=>by simp⟩⟩)
  (.arr (Gv k0 len os)) (.arr (Gv k' len' os)) [.s k' 0 len' 2] (fun _ _ h=>h) hl (by simp) rfl ?_ (fun _=>rfl) rfl rfl rfl (.inl rfl) (fun _ h=>h) (by simp) rfl ?_ ?_
 ·exact⟨_,⟨hloc,fun j hj=>by cases hj⟩,hK⟩
 ·intro ρ hw;have hw:os.length≤(ρ k).cap:=hw;show i*1+0+1≤(ρ k).cap*1;omega
 ·intro r _ i' j c hc;rw[arr_cell?]at hc;have hc:(os[i']?).bind (fun x=>[ovC k' len' x][j]?)=some c:=hc;cases hx':os[i']? with
  |none=>rw[hx']at hc;cases hc
  |some x' =>
   rw[hx']at hc;have hc:[ovC k' len' x'][j]? = some c:=hc;have hj0:j=0:=by
    have:=(List.getElem?_eq_some_iff.1 hc).1;simp at this;exact this
   subst hj0;have hc:ovC k' len' x'=c:=by simpa using hc
   show(i'*1+0<i*1+0∨i*1+0+1≤i'*1+0)∧_∨(i*1+0≤i'*1+0∧i'*1+0<i*1+0+1∧[SC.s k' 0 len' 2][i'*1+0-(i*1+0)]? = some c);by_cases hii:i'=i
   ·subst hii;rw[hi]at hx';have:=(Option.some.inj hx').symm;subst this;refine .inr ⟨Nat.le_refl _,by omega, ?_⟩;rw[Nat.sub_self,←hc];rfl
   ·refine .inl ⟨by omega, ?_⟩;cases x' with
    |none=>exact absurd (hu i' hx') hii
    |some v =>
     rw[arr_cell?];show(os[i']?).bind (fun x=>[ovC k0 len x][0]?)=some c;rw[hx',←hc];rfl
 ·intro n h1 h2 j hj;have hj:j∈[k']:=by obtain⟨z,h1,h2⟩:=Qm.1 hj;simp at h2;subst h2;exact h1
  rw[List.mem_singleton.1 hj];rw[hy,SV.below_c]at h2;exact h2 k' (by simp[SC.nms])
end
end Sx
end Go
namespace Go
namespace Sx
section
variable {cx:Cx} {B:Tabs} {o:Oper} {e:Env} {H:Je} {nx:Nat} {K:Eff→Prop}
theorem bL8(hB:TabsOK cx.P B){c:Call}{x y:Operand}{t t' el el' s0 b0 s1 b1:Nat}{z0 z1:List Value}{ti:TI}(A:Arr){k len st m:Nat}
 (hone:∀x,Vs (A.enc x)=true) (ho:o.op=.call c) (hc:c.callee=.builtin .append) (hca:c.args=#[x,y]) (hct:c.argTypes=#[t,t'])
 (ht:Ji B.T t=some ⟨.slice el,s0,b0,z0⟩) (ht':Ji B.T t'=some ⟨.slice el',s1,b1,z1⟩) (hti:Ji B.T el=some ti) (hsz:ti.size=A.sz) (hpos:1≤A.sz)
 (hx:ev e x=.c (.s k 0 len A.sz)) (hy:ev e y=.c (.s k st m A.sz)) (hl:look H k=some (true, .arr A)) (h1:len+m≤A.xs.length) (h2:st+m≤A.xs.length) (hne:0<A.xs.length)
 (h:K ⟨.c (.s k 0 (len+m) A.sz),[k],[(k,true, .arr (A.setXs (Qh A.xs len ((A.xs.drop st).take m))))],[]⟩):∃F,CallOK cx o e H nx F∧K F:=by
 have hxo:x∈o.op.operands.toList:=by simp[ho,Op.operands,Call.operands,hc,hca]
 have hyo:y∈o.op.operands.toList:=by simp[ho,Op.operands,Call.operands,hc,hca]
 refine⟨_,⟨?_,fun j hj=>by cases hj⟩,h⟩;intro ρ s a w hs hr hk _ hdst KK Q hKK;have hl1:look s.H k=some (true, .arr A):=by rw[hk k (by simp)];exact hl
 have hx1:=Jg hxo (fun t ht=>by rw[←hr t ht];exact hs.env t);have hy1:=Jg hyo (fun t ht=>by rw[←hr t ht];exact hs.env t);rw[hx]at hx1;rw[hy]at hy1;simp only[SV.rel,SC.rel,Nat.sub_zero,Nat.zero_mul,Nat.zero_add]at hx1 hy1;obtain⟨ad,hxv,hcap,had⟩:=hx1;obtain⟨ad',hyv,hcap',had'⟩:=hy1;have hso:=hs.heap.reg k true _ hl1;have hoff:=hso.off0 rfl;have hwf:A.xs.length≤(ρ k).cap:=hso.wf;have hroom:=fun n hn=>hso.room rfl (by simp) (by simp) n hn;simp only[SO.room]at hroom;have had0:ad=some ⟨(ρ k).blk,0,none⟩:=by rw[had (by omega)];simp[Jr,hoff]
 have hsrc:=aY0 hB ht' hso (c:=(ρ k).cap-st) h2 hone (a:=ad') (fun hm=>had' (by omega));obtain⟨i,z,hi,hz,hisz,hiby,hzz⟩:=Gg hB hti;have hisz':i.size=A.sz:=by omega
 have hys:((A.xs.drop st).take m).length=m:=by simp;omega
 have hflat:∀i' j x' cc,((A.xs.drop st).take m)[i']? = some x'→(A.enc x')[j]? = some cc→∃v,(XO w ρ k (st*A.sz) (m*A.sz))[i'*A.sz+j]? = some v∧cc.rel ρ v:=by
  intro i' j x' cc hxx hcc;have hi':i'<m:=by have:=(List.getElem?_eq_some_iff.1 hxx).1;omega
  have hj:j<A.sz:=by have:=(List.getElem?_eq_some_iff.1 hcc).1;rwa[A.hl]at this
  have hlt:i'*A.sz+j<m*A.sz:=by
   have:=Nat.mul_le_mul_right A.sz (show i'+1≤m from hi');rw[Nat.add_mul]at this;omega
  rw[WY hlt];rw[List.getElem?_take,if_pos hi',List.getElem?_drop]at hxx;obtain⟨v,hv,hvr⟩:=hso.at_ (st+i') j cc (by simp only[SO.cell?,hxx];exact hcc);have e1:(st+i')*(SO.arr A).sz+j=st*A.sz+(i'*A.sz+j):=by
   show(st+i')*A.sz+j=_;rw[Nat.add_mul];omega
  rw[e1]at hv;exact⟨v,by rw[hv];rfl,hvr⟩
 have hflat1:∀v∈XO w ρ k (st*A.sz) (m*A.sz),(∀xs,v≠.agg xs)∧(∀xs,v≠.tuple xs):=by
  intro v hv;obtain⟨j,hj⟩:=List.mem_iff_getElem?.1 hv;have hlt:j<m*A.sz:=by have:=(List.getElem?_eq_some_iff.1 hj).1;rwa[Ql]at this
  have hi':j/A.sz<m:=(Nat.div_lt_iff_lt_mul hpos).2 hlt;have hjm:j%A.sz<A.sz:=Nat.mod_lt _ hpos;have hxx:((A.xs.drop st).take m)[j/A.sz]? = some (((A.xs.drop st).take m)[j/A.sz]'(by omega)):=List.getElem?_eq_getElem _;have hcl:j%A.sz<(A.enc (((A.xs.drop st).take m)[j/A.sz]'(by omega))).length:=by rw[A.hl];exact hjm
  obtain⟨v',hv',hvr⟩:=hflat _ _ _ _ hxx (List.getElem?_eq_getElem hcl);have:j/A.sz*A.sz+j%A.sz=j:=by rw[Nat.mul_comm];exact Nat.div_add_mod _ _
  rw[this,hj]at hv';cases hv';exact⟨(KZ (Gh (hone _) (List.getElem_mem hcl)) hvr).2.1,(KZ (Gh (hone _) (List.getElem_mem hcl)) hvr).2.2⟩
 obtain⟨_,hsat⟩:=aK1 (ys:=(A.xs.drop st).take m) (vs:=XO w ρ k (st*A.sz) (m*A.sz)) (st:=len) hs hl1 (by rw[hys];omega) (by rw[Ql,hys]) hflat hflat1;have hfits:len+m≤(ρ k).cap:=by omega
 have hle3:(len+m)*A.sz≤(ρ k).cap*A.sz:=Nat.mul_le_mul_right _ hfits;rw[Nat.add_mul]at hle3;have hrun0:=Vr (P:=cx.P) ho hc a w;rw[hca,hct]at hrun0;have hrun:(execOp a.eval o).run cx.P w=.ok (.value (.slice ad (len+m) (ρ k).cap)) (setCells w (ρ k).blk (len*A.sz) (XO w ρ k (st*A.sz) (m*A.sz))):=by
  rw[hrun0];have hsrc':=hsrc;rw[←hisz']at hsrc';have:=run_append_room_src (P:=cx.P) w t t' o.type el i (QX hB ht) hi (ρ k).blk 0 len (ρ k).cap _ m _ hsrc' hfits (fun j hj=>by
   obtain⟨v,hv⟩:=(hroom (len*A.sz+j) (by rw[hisz',Ql]at hj;omega)).1;simp only[Jr,hoff,Nat.zero_add]at hv;simp[hisz',hv]) (fun j hj=>by
   have:=(hroom (len*A.sz+j) (by rw[hisz',Ql]at hj;omega)).2
   simpa [Jr,hoff,hisz'] using this)
  simp only[List.map_toArray,List.map_cons,List.map_nil,builtin,hxv,hyv,had0,Sem.run_bind,this,Result.andThen_ok,Sem.run_pure,Nat.zero_add,aq4,hisz']
 refine JQ (by simp[ho]) hrun (hKK ρ _ _ ?_ (fun _ _=>rfl));refine hsat.putO hdst ?_ (by
  rw[SV.below_c];intro j hj;simp[SC.nms]at hj;subst hj;exact(hs.bnd.heap _ true _ hl1).1)
 simp only[SV.rel,SC.rel,Nat.sub_zero,Nat.zero_mul];exact⟨ad,rfl,by omega,fun _=>by rw[had0];simp[Jr,hoff]⟩
theorem bW7(hB:TabsOK cx.P B){t el s0 b0:Nat}{z0:List Value}{ti:TI}{x y z v:Operand}{k len sz:Nat}{A:Arr}{own:Bool}{i j q:Nat}(ho:o.op=.slice t x (some y) (some z) (some v))
 (ht:Ji B.T t=some ⟨.slice el,s0,b0,z0⟩) (hti:Ji B.T el=some ti) (hx:ev e x=.c (.s k 0 len sz)) (hy:ev e y=iv .i64 i) (hz:ev e z=iv .i64 j) (hv:ev e v=iv .i64 q) (hl:look H k=some (own, .arr A))
 (h1:i≤j) (h2:j≤q) (h3:q≤A.xs.length)
 (h:K ⟨.c .junk,[k],[],[]⟩):∃F,CallOK cx o e H nx F∧K F:=by
 have hxo:x∈o.op.operands.toList:=by simp[ho,Op.operands]
 have hyo:y∈o.op.operands.toList:=by simp[ho,Op.operands]
 have hzo:z∈o.op.operands.toList:=by simp[ho,Op.operands]
 have hvo:v∈o.op.operands.toList:=by simp[ho,Op.operands]
 refine⟨_,⟨?_,fun j hj=>by cases hj⟩,h⟩;intro ρ s a w hs hr hk _ hdst KK Q hKK;have hl1:look s.H k=some (own, .arr A):=by rw[hk k (by simp)];exact hl
 have hx1:=Jg hxo (fun t ht=>by rw[←hr t ht];exact hs.env t);have hy1:=Jg hyo (fun t ht=>by rw[←hr t ht];exact hs.env t);have hz1:=Jg hzo (fun t ht=>by rw[←hr t ht];exact hs.env t);have hv1:=Jg hvo (fun t ht=>by rw[←hr t ht];exact hs.env t);rw[hx]at hx1;rw[hy]at hy1;rw[hz]at hz1;rw[hv]at hv1;simp only[SV.rel,SC.rel,Nat.sub_zero,Nat.zero_mul]at hx1 hy1 hz1 hv1;obtain⟨ad,hxv,hcap,had⟩:=hx1;have hwf:A.xs.length≤(ρ k).cap:=(hs.heap.reg k own _ hl1).wf;have hszr:=QY hB hti w;have hrun:∃u,(execOp a.eval o).run cx.P w=.ok (.value u) w:=by
  have hbnd:(Instr.sliceBounds true len (ρ k).cap (some (Value.int .i64 (i:Int))) (some (Value.int .i64 (j:Int))) (some (Value.int .i64 (q:Int)))).run cx.P w=.ok (i,j,q) w:=by
   have q1:q≤(ρ k).cap:=by omega
   simp[Instr.sliceBounds,Instr.sliceBound,asIntOf,h1,h2,q1]
  exact⟨_,by simp[execOp,ho,hxv,hy1,hz1,hv1,Instr.sliceAt,QX hB ht,Instr.slice,run_underlying (QX hB ht),hbnd,hszr];rfl⟩
 obtain⟨u,hrun⟩:=hrun;refine JQ (by simp[ho]) hrun (hKK ρ _ _ ?_ (fun j _=>rfl));exact hs.putO hdst trivial (by rw[SV.below_c];intro j hj;cases hj)
theorem bW8(hB:TabsOK cx.P B){t el s0 b0:Nat}{z0:List Value}{ti:TI}{x y z:Operand}{k len sz:Nat}{A:Arr}{own:Bool}{i j:Nat}(ho:o.op=.slice t x (some y) (some z) none)
 (ht:Ji B.T t=some ⟨.slice el,s0,b0,z0⟩) (hti:Ji B.T el=some ti) (hsz:ti.size=sz) (hx:ev e x=.c (.s k 0 len sz)) (hy:ev e y=iv .i64 i) (hz:ev e z=iv .i64 j) (hl:look H k=some (own, .arr A))
 (h1:i≤j) (h2:j≤A.xs.length)
 (h:K ⟨.c (.s k i (j-i) sz),[k],[],[]⟩):∃F,CallOK cx o e H nx F∧K F:=by
 have hxo:x∈o.op.operands.toList:=by simp[ho,Op.operands]
 have hyo:y∈o.op.operands.toList:=by simp[ho,Op.operands]
 have hzo:z∈o.op.operands.toList:=by simp[ho,Op.operands]
 refine⟨_,⟨?_,fun j hj=>by cases hj⟩,h⟩;intro ρ s a w hs hr hk _ hdst KK Q hKK;have hl1:look s.H k=some (own, .arr A):=by rw[hk k (by simp)];exact hl
 have hx1:=Jg hxo (fun t ht=>by rw[←hr t ht];exact hs.env t);have hy1:=Jg hyo (fun t ht=>by rw[←hr t ht];exact hs.env t);have hz1:=Jg hzo (fun t ht=>by rw[←hr t ht];exact hs.env t);rw[hx]at hx1;rw[hy]at hy1;rw[hz]at hz1;simp only[SV.rel,SC.rel,Nat.sub_zero,Nat.zero_mul]at hx1 hy1 hz1;obtain⟨ad,hxv,hcap,had⟩:=hx1;have hwf:A.xs.length≤(ρ k).cap:=(hs.heap.reg k own _ hl1).wf;have hszr:=QY hB hti w;have hrun:∃u,(execOp a.eval o).run cx.P w=.ok (.value u) w∧(SC.s k i (j-i) sz).rel ρ u:=by
  have hbnd:(Instr.sliceBounds true len (ρ k).cap (some (Value.int .i64 (i:Int))) (some (Value.int .i64 (j:Int))) none).run cx.P w=.ok (i,j,(ρ k).cap) w:=by
   have q1:j≤(ρ k).cap:=by omega
   simp[Instr.sliceBounds,Instr.sliceBound,asIntOf,h1,q1]
  refine⟨.slice (if(ρ k).cap=i then ad else ad.map (·.add (i*sz))) (j-i) ((ρ k).cap-i), ?_, ?_⟩
  ·simp[execOp,ho,hxv,hy1,hz1,Instr.sliceAt,QX hB ht,Instr.slice,run_underlying (QX hB ht),hbnd,hszr,hsz]
  ·simp only[SC.rel];refine⟨_,rfl,by omega,fun hlt=>?_⟩;rw[if_neg (by omega),had (by omega)];simp[VV]
 obtain⟨u,hrun,hrel⟩:=hrun;refine JQ (by simp[ho]) hrun (hKK ρ _ _ ?_ (fun j _=>rfl));exact hs.putO hdst hrel (by rw[SV.below_c];intro j hj;simp[SC.nms]at hj;subst hj;exact(hs.bnd.heap _ _ _ hl1).1)
end
end Sx
end Go
