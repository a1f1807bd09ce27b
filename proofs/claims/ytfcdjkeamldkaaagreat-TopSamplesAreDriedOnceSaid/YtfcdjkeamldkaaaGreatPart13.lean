/-
  A part of the proof that a law answers true: lemmas of a symbolic walk, plain functions, or contracts of the functions walked (Ue, Sx59, Uf, Ug, Uh, Sx31, Sx60, Sx61, Sx62). Conditions: none.
-/
import Derived.Test.YtfcdjkeamldkaaaGreatPart12
import Derived.Test.YtfcdjkeamldkaaaGreatPart10
import Derived.Test.YtfcdjkeamldkaaaGreatPart09
import Derived.WideKeyRuns
import Derived.Test.YtfcdjkeamldkaaaGreatPart08
set_option maxRecDepth 100000
set_option linter.unusedVariables false
set_option linter.unusedSimpArgs false
namespace Go.Proofs
open Go.Sx
theorem Yy{l:List UInt8}{n:Nat}{fx:Option Nat}(h:l.length=n) :
 (∀j v,(Js l)[j]? = some v→∃i' j',i'*(Qr fx l).sz+j'=j∧(SO.arr (Qr fx l)).cell? i' j'=some (.v v))∧(Js l).length=n:=by
 refine⟨fun j v hv=>?_,by rw[Jo,h]⟩;have hj:j<l.length:=by have:=(List.getElem?_eq_some_iff.1 hv).1;rwa[Jo]at this
 rw[Wh hj]at hv;cases hv;exact⟨j,0,by show j*1+0=j;omega,aa8.2 ⟨hj,rfl,rfl⟩⟩
structure Sec where
 seed:List UInt8
 salt:List UInt8
abbrev ar0(s:Sec):SV:=.agg [WI s.seed,WI s.salt]
def WK(s:Sec):Bool:=Jf s.seed.length 1 64&&Jf s.salt.length 1 64
theorem aL2{s:Sec}(h:WK s=true):(1≤s.seed.length∧s.seed.length≤64)∧1≤s.salt.length∧s.salt.length≤64:=by
 simp[WK,Jf]at h;omega
def Xz:List UInt8:=List.replicate 16 0
def Yw(party:Int)(s:Sec):List UInt8×Int:=if WK s then(Xv 50 [JH party,s.seed,s.salt],0)else(Xz,1)
def ay7(lot:Int)(b s:Sec):List UInt8:=Xv 51 [JH lot,b.seed,s.seed]
theorem aR4(party:Int)(s:Sec):(Yw party s).1.length=16:=by
 unfold Yw;split
 ·exact XL _ _
 ·rfl
theorem bV4{a b c:List UInt8}(ha:a.length≤64)(hb:b.length≤64)(hc:c.length≤64):at9 [a,b,c]:=by
 refine⟨by simp,fun p hp=>?_⟩;simp at hp;rcases hp with rfl|rfl|rfl <;> omega
theorem br7(party:Int)(hp:1≤party∧party≤3)(s:Sec):Triple Tryz.prog 26 [iv .i64 party,ar0 s] [] 0 (.tup [.inl (.v (GX (Yw party s).1)), .inl (.v (.int .i64 (Yw party s).2))]) []:=by
 have hw:Jf party 1 3=true:=by simp[Jf];omega
 refine Jc Ja Tryz.func26 rfl Tryz.call26 rfl ?_;intro ρ w hH;conv=>whnf
 refine Jv Ja 16 rfl rfl rfl ?_;conv=>whnf
 refine Jb (JA party 1 3) rfl rfl ?_;rw[hw];conv=>whnf
 refine cs ?_;conv=>whnf
 refine nF fun hc=>?_;conv=>whnf
 refine Jb (aV0 s.seed s.salt) rfl rfl ?_;conv=>whnf
 refine cs ?_;conv=>whnf
 refine⟨fun hc=>?_,fun hc=>?_⟩
 ·have hc:WK s=false:=by
   unfold WK;cases h:(Jf s.seed.length 1 64&&Jf s.salt.length 1 64)with
   |true=>rw[h]at hc;cases hc
   |false=>rfl
  rw[show Yw party s=(Xz,1)from by simp[Yw,hc]];conv=>whnf
  refine GA Ja rfl rfl rfl rfl ?_;conv=>whnf
  refine Jp (l':=Xz) Ja rfl rfl rfl rfl rfl (by simp) (by simp[Xz]) (by decide) ?_;conv=>whnf
  refine⟨Js Xz,⟨(Yy rfl).1,(by rw[Jo];rfl),rfl⟩, ?_⟩;conv=>whnf
  exact cl
 ·have hc:WK s=true:=by simpa [WK] using hc
  have hs:=aL2 hc;have hi:=Qz party;rw[show Yw party s=(Xv 50 [JH party,s.seed,s.salt],0)from by simp[Yw,hc]];conv=>whnf
  refine Jb (UY party ⟨by omega,by omega⟩) rfl rfl ?_;conv=>whnf
  refine cs ?_;conv=>whnf
  refine Yf Ja (Va [JH party,s.seed,s.salt]) rfl rfl ?_;conv=>whnf
  refine⟨⟨rfl,cl⟩, ?_⟩;conv=>whnf
  refine Jb (aO9 50 (by decide) [JH party,s.seed,s.salt] (bV4 (by omega) (by omega) (by omega))) rfl rfl ?_;conv=>whnf
  refine cs ?_;conv=>whnf
  have hl:=XL 50 [JH party,s.seed,s.salt];refine Jp (l':=Xv 50 [JH party,s.seed,s.salt]) Ja rfl rfl rfl rfl rfl (by simp) (by rw[hl];simp) (by decide) ?_;conv=>whnf
  refine⟨Js (Xv 50 [JH party,s.seed,s.salt]),⟨(Yy hl).1,(by rw[Jo,hl]),rfl⟩, ?_⟩;conv=>whnf
  exact cl
def Qg(lot:Int)(b s:Sec):List UInt8×Int:=if WK b&&WK s then(ay7 lot b s,0)else(Xz,1)
theorem Ux(lot:Int)(b s:Sec):(Qg lot b s).1.length=16:=by
 unfold Qg;split
 ·exact XL _ _
 ·rfl
theorem bD3(lot:Int)(hl:1≤lot∧lot≤1099511627776)(b s:Sec) :
 Triple Tryz.prog 14 [iv .i64 lot,ar0 b,ar0 s] [] 0 (.tup [.inl (.v (GX (Qg lot b s).1)), .inl (.v (.int .i64 (Qg lot b s).2))]) []:=by
 have hw:Jf lot 1 1099511627776=true:=by simp[Jf];omega
 have hi:=Qz lot;refine Jc Ja Tryz.func14 rfl Tryz.call14 rfl ?_;intro ρ w hH;conv=>whnf
 refine Jv Ja 16 rfl rfl rfl ?_;conv=>whnf
 refine Jb (JA lot 1 1099511627776) rfl rfl ?_;rw[hw];conv=>whnf
 refine cs ?_;conv=>whnf
 refine nF fun hc=>?_;conv=>whnf
 refine Jb (aV0 b.seed b.salt) rfl rfl ?_;rw[show(Jf b.seed.length 1 64&&Jf b.salt.length 1 64)=WK b from rfl];conv=>whnf
 refine cs ?_;conv=>whnf
 refine⟨fun hc=>?_,fun hc=>?_⟩
 ·have hb:WK b=false:=by simpa using hc
  rw[show Qg lot b s=(Xz,1)from by simp[Qg,hb]];conv=>whnf
  refine GA Ja rfl rfl rfl rfl ?_;conv=>whnf
  refine Jp (l':=Xz) Ja rfl rfl rfl rfl rfl (by simp) (by simp[Xz]) (by decide) ?_;conv=>whnf
  refine⟨Js Xz,⟨(Yy rfl).1,(by rw[Jo];rfl),rfl⟩, ?_⟩;conv=>whnf
  exact cl
 have hb:WK b=true:=by simpa using hc
 conv=>whnf
 refine Jb (aV0 s.seed s.salt) rfl rfl ?_;rw[show(Jf s.seed.length 1 64&&Jf s.salt.length 1 64)=WK s from rfl];conv=>whnf
 refine cs ?_;conv=>whnf
 refine⟨fun hc=>?_,fun hc=>?_⟩
 ·have hs:WK s=false:=by simpa using hc
  rw[show Qg lot b s=(Xz,1)from by simp[Qg,hs]];conv=>whnf
  refine GA Ja rfl rfl rfl rfl ?_;conv=>whnf
  refine Jp (l':=Xz) Ja rfl rfl rfl rfl rfl (by simp) (by simp[Xz]) (by decide) ?_;conv=>whnf
  refine⟨Js Xz,⟨(Yy rfl).1,(by rw[Jo];rfl),rfl⟩, ?_⟩;conv=>whnf
  exact cl
 have hs:WK s=true:=by simpa using hc
 have hb2:=aL2 hb;have hs2:=aL2 hs;rw[show Qg lot b s=(ay7 lot b s,0)from by simp[Qg,hb,hs]];conv=>whnf
 refine Jb (UY lot ⟨by omega,by omega⟩) rfl rfl ?_;conv=>whnf
 refine cs ?_;conv=>whnf
 refine Yf Ja (Va [JH lot,b.seed,s.seed]) rfl rfl ?_;conv=>whnf
 refine⟨⟨rfl,cl⟩, ?_⟩;conv=>whnf
 refine Jb (aO9 51 (by decide) [JH lot,b.seed,s.seed] (bV4 (by omega) (by omega) (by omega))) rfl rfl ?_;conv=>whnf
 refine cs ?_;have hl:(ay7 lot b s).length=16:=XL _ _;rw[show Xv 51 [JH lot,b.seed,s.seed]=ay7 lot b s from rfl];conv=>whnf
 refine Jp (l':=ay7 lot b s) Ja rfl rfl rfl rfl rfl (by simp) (by rw[hl];simp) (by decide) ?_;conv=>whnf
 refine⟨Js (ay7 lot b s),⟨(Yy hl).1,(by rw[Jo,hl]),rfl⟩, ?_⟩;conv=>whnf
 exact cl
end Go.Proofs
namespace Go
namespace Sx
variable {cx:Cx} {B:Tabs} {o:Oper} {e:Env} {H:Je} {nx:Nat} {K:Eff→Prop}
theorem aR5:∀(l l':List UInt8),l.length=l'.length→ai2 (Js l) (Js l')=decide (l=l')
 | [],[],_=>rfl
 |a::l,b::l',h=>by
  have ih:=aR5 l l' (by simpa using h);have e:ai2 (Js (a::l)) (Js (b::l'))=(((a.toNat:Int)==(b.toNat:Int))&&ai2 (Js l) (Js l')):=rfl;rw[e,ih];by_cases hab:a=b
  ·subst hab;simp
  ·have:¬(a.toNat:Int)=b.toNat:=fun hh=>hab (UInt8.toNat_inj.1 (by omega));simp[hab,this]
theorem aD5:∀(l:List UInt8),af3 (.int .u8) (Js l)=true
 | []=>rfl
 |a::l=>aD5 l
theorem ci4(hB:TabsOK cx.P B){t yt n:TypeId}{x y:Operand}{l l':List UInt8}(ho:o.op=.binOp .eql t x y yt)(hD:aN8 B.D t=some (n, .int .u8))(hx:ev e x=YQ l)(hy:ev e y=YQ l')(hl:l.length=n)(hl':l'.length=n)
 (hK:K ⟨bv (decide (l=l')),[],[],[]⟩):∃f,CallOK cx o e H nx f∧K f:=by
 have hmx:x∈o.op.operands.toList:=by simp[ho,Op.operands]
 have hmy:y∈o.op.operands.toList:=by simp[ho,Op.operands]
 refine Yx (by simp[ho]) ⟨fun m hm _=>VX m _,fun ρ a w hr _=>⟨.bool (decide (l=l')), ?_,rfl⟩⟩ hK;have hx':=Xg hmx hx hr;have hy':=Xg hmy hy hr;have hE:=hB.D t n (.int .u8) (bg4 hD) (Js l) (Js l') (by rw[Jo,hl]) (by rw[Jo,hl']) (aD5 l) (aD5 l') w x y;rw[aR5 l l' (by omega)]at hE;simp only[execOp,ho,hx',hy',GX,Sem.run_bind,hE.1,Result.andThen_ok];have:=hE.2.2;simp[binOp,this]
end Sx
end Go
namespace Go.Proofs
open Go.Sx
def Yt(seed:List UInt8)(b:Int×Int):List Int:=(aj1 (Xv 51 [seed,JH b.1]) b.2.toNat).map fun x=>x+1
theorem UZ(seed:List UInt8)(b:Int×Int):(Yt seed b).length=b.2.toNat:=by
 simp[Yt,aj1,Wk]
theorem aL3(seed:List UInt8)(n:Nat)(hn:n≤100000):∀j,j≤n-1→∀x∈Vo seed n j,0≤x∧x<n
 |0,_,x,hx=>by
  simp[Vo]at hx;obtain⟨i,hi,rfl⟩:=hx;omega
 |j+1,hj,x,hx=>by
  have ih:=aL3 seed n hn j (by omega);have hl:=Wk seed n j;have hb:=au0 seed j (n-1-j+1) (by omega) (by omega);simp only[Vo,au1]at hx;have g:∀k,k<n→(Vo seed n j).getD k 0∈Vo seed n j:=fun k hk=>by
   rw[List.getD,List.getElem?_eq_getElem (show k<(Vo seed n j).length by omega)];exact List.getElem_mem _
  rcases List.mem_or_eq_of_mem_set hx with hx|hx
  ·rcases List.mem_or_eq_of_mem_set hx with hx|hx
   ·exact ih x hx
   ·rw[hx];exact ih _ (g _ (by omega))
  ·rw[hx];exact ih _ (g _ (by omega))
theorem bD4(seed:List UInt8)(hs:seed.length=16)(b:Int×Int)(hb:(1≤b.1∧b.1≤1099511627776)∧1≤b.2∧b.2≤200) :
 Triple Tryz.prog 49 [YQ seed,svB b] [] 0 (.tup [.inl (.s 1 0 b.2.toNat 1), .inl (.v (.int .i64 0))]) [(1,true, .arr (Yn (Yt seed b)))]:=by
 have hi:=Qz b.1;obtain⟨n,hn⟩:∃n:Nat,b.2=n:=⟨b.2.toNat,by omega⟩;have hm:=aL3 (Xv 51 [seed,JH b.1]) n (by omega) (n-1) (Nat.le_refl _);have hpl:(aj1 (Xv 51 [seed,JH b.1]) n).length=n:=Wk _ _ _;rw[show Yt seed b=(aj1 (Xv 51 [seed,JH b.1]) n).map fun x=>x+1 from by simp[Yt,hn],show b.2.toNat=n from by omega];generalize hP:aj1 (Xv 51 [seed,JH b.1]) n=P at hpl ⊢;have hm:∀x∈P,0≤x∧x<n:=by rw[←hP];exact hm
 refine Jc Ja Tryz.func49 rfl Tryz.call49 rfl ?_;intro ρ w hH;conv=>whnf
 refine YT (l:=seed) rfl rfl ?_;rw[hs];conv=>whnf
 refine Jk (n:=16) (l:=seed) Ja rfl rfl rfl rfl rfl rfl ⟨Nat.le_refl _,Nat.zero_le _, ?_⟩;conv=>whnf
 refine Ju (fx:=some 16) (l:=seed) Ja rfl rfl rfl rfl rfl rfl (by show 0+16≤_;omega) ?_;rw[show(seed.drop 0).take (JV 16 0)=seed from List.take_of_length_le (by show seed.length≤16;omega)];conv=>whnf
 refine Jb (UY b.1 ⟨by omega,by omega⟩) rfl rfl ?_;conv=>whnf
 refine cs ?_;conv=>whnf
 refine Yf Ja (Va [seed,JH b.1]) rfl rfl ?_;conv=>whnf
 refine⟨⟨rfl,cl⟩, ?_⟩;conv=>whnf
 refine Jb (aO9 51 (by decide) [seed,JH b.1] ⟨by simp, ?_⟩) rfl rfl ?_
 ·intro p hp;simp at hp;rcases hp with rfl|rfl <;> omega
 conv=>whnf
 refine cs ?_;conv=>whnf
 refine Jb (cD1 (Xv 51 [seed,JH b.1]) (XL _ _) n (by omega)) rfl rfl ?_;conv=>whnf
 refine⟨(by repeat' (first|exact hn|exact trivial|exact rfl|refine And.intro ?_ ?_|((conv=>whnf);first|exact hn|exact trivial|exact rfl|refine And.intro ?_ ?_|omega))),cl, ?_⟩;rw[hP];conv=>whnf
 refine Jz Ja (G:=Nat) 0 [] (fun i=>[(24,iv .i64 i)]) (fun i=>[(4,true, .arr (Yn ((P.take i).map (fun x=>x+1)++P.drop i)))]) (fun i=>i≤n) (fun i=>n-i) ?_;conv=>whnf
 refine⟨⟨0,Nat.zero_le _, ?_⟩, ?_⟩
 ·conv=>whnf
  exact cl
 intro i hi ρ1 t1 hρ1;conv=>whnf
 refine⟨fun hc=>?_,fun hc=>?_⟩
 ·have h:i<n:=by simp at hc;omega
  have hx:i<((P.take i).map (fun x=>x+1)++P.drop i).length:=by simp;omega
  have hTl:((P.take i).map fun x=>x+1).length=i:=by simp;omega
  have hg:((P.take i).map (fun x=>x+1)++P.drop i)[i]'hx=P[i]:=by
   rw[List.getElem_append_right (by omega),List.getElem_drop];congr 1;omega
  have hst:(P.take (i+1)).map (fun x=>x+1)++P.drop (i+1)=((P.take i).map (fun x=>x+1)++P.drop i).set i (P[i]+1):=by
   rw[JR (show i<P.length by omega),List.map_append,List.set_append_right _ _ (by omega),List.drop_eq_getElem_cons (show i<P.length by omega),hTl,Nat.sub_self,List.set_cons_zero,List.append_assoc];rfl
  have hmi:=hm P[i] (List.getElem_mem (show i<P.length by omega));conv=>whnf
  refine⟨i,rfl,h, ?_⟩;conv=>whnf
  refine⟨hx, ?_⟩;conv=>whnf
  refine⟨P[i]+1, ?_, ?_⟩
  ·have e:IntKind.i64.wrap (P[i]+1)=P[i]+1:=wO;rw[←e];exact congrArg (fun x=>IntKind.i64.wrap (x+1)) hg
  conv=>whnf
  refine⟨i,rfl,h, ?_⟩;conv=>whnf
  refine⟨hx,_,rfl, ?_⟩;conv=>whnf
  refine⟨_,wO, ?_⟩;refine⟨i+1,h,by show n-(i+1)<n-i;omega, ?_⟩;dsimp only;rw[hst];conv=>whnf
  refine⟨rfl, ?_⟩;conv=>whnf
  exact cl
 ·have hie:i=n:=by simp at hc;omega
  subst hie;rw[List.take_of_length_le (by omega),List.drop_of_length_le (by omega),List.append_nil];conv=>whnf
  exact cl
theorem bi2:∀(bs:List (Int×Int)) (last:Int),Uk last bs=0→(∀b∈bs,(1≤b.1∧b.1≤1099511627776)∧1≤b.2∧b.2≤200)∧(∀b∈bs,last<b.1)∧bs.Pairwise fun a b=>a.1<b.1
 | [],_,_=>⟨by simp,by simp, .nil⟩
 |b::r,last,h=>by
  simp only[Uk]at h;split at h
  ·rename_i hw
   split at h
   ·cases h
   ·rename_i hlt
    obtain⟨h1,h2,h3⟩:=bi2 r b.1 h;simp[Jf]at hw;refine⟨?_, ?_, .cons h2 h3⟩
    ·intro x hx;rcases List.mem_cons.1 hx with rfl|hx
     ·exact⟨⟨hw.1.1,hw.1.2⟩,hw.2.1,hw.2.2⟩
     ·exact h1 x hx
    ·intro x hx;rcases List.mem_cons.1 hx with rfl|hx
     ·omega
     ·have:=h2 x hx;omega
  ·cases h
structure PlanOK (p:Pl):Prop where
 id:1≤p.id∧p.id≤1099511627776
 len:1≤p.bales.length∧p.bales.length≤40
 per:1≤p.per∧p.per≤12
 bale:∀b∈p.bales,(1≤b.1∧b.1≤1099511627776)∧p.per≤b.2∧b.2≤200
 asc:p.bales.Pairwise fun a b=>a.1<b.1
theorem ao5{p:Pl}(h:Wu p=0):PlanOK p:=by
 unfold Wu at h;split at h
 ·rename_i hl
  split at h
  ·rename_i hp
   split at h
   ·cases h
   ·rename_i hany
    unfold ab3 at hl;split at hl
    ·rename_i h1
     split at hl
     ·split at hl
      ·rename_i h3
       obtain⟨h4,h5,h6⟩:=bi2 _ _ hl;simp[Jf]at h1 h3 hp;refine⟨h1,by omega,hp,fun b hb=>?_,h6⟩;have hb4:=h4 b hb;have:¬b.2<p.per:=fun hlt=>hany (List.any_eq_true.2 ⟨b,hb,by simp[hlt]⟩);exact⟨hb4.1,by omega,hb4.2.2⟩
      ·cases hl
     ·cases hl
    ·cases hl
  ·cases h
 ·rename_i hl;exact absurd h hl
abbrev Vj:=Int×Int×Int
def KU(xs:List Vj):Arr:=⟨Vj,3,fun x=>[.v (.int .i64 x.1), .v (.int .i64 x.2.1), .v (.int .i64 x.2.2)],[],fun _=>rfl,(by intro x c hc k hk;simp at hc;rcases hc with rfl|rfl|rfl <;> cases hk),xs,none,none⟩
def VQ(seed:List UInt8)(b:Int×Int)(m:Nat):List Vj:=(List.range m).map fun(k:Nat)=>(b.1,(k:Int)+1,(Yt seed b).getD k 0)
def Vp(p:Pl)(seed:List UInt8):List Vj:=p.bales.flatMap fun b=>VQ seed b p.per.toNat
theorem bV5(seed:List UInt8)(b:Int×Int)(m:Nat):VQ seed b (m+1)=VQ seed b m++[(b.1,(m:Int)+1,(Yt seed b).getD m 0)]:=by
 simp[VQ,List.range_succ]
theorem UM(seed:List UInt8)(b:Int×Int)(m:Nat):(VQ seed b m).length=m:=by simp[VQ]
theorem ak8(seed:List UInt8)(m:Nat):∀bs:List (Int×Int),(bs.flatMap fun b=>VQ seed b m).length=bs.length*m
 | []=>by simp
 |b::r=>by
  rw[List.flatMap_cons,List.length_append,UM,ak8 seed m r,List.length_cons,Nat.succ_mul,Nat.add_comm]
theorem br8(p:Pl)(hf:p.fib.length≤140737488355328)(hp:Wu p=0)(seed:List UInt8)(hs:seed.length=16) :
 Triple Tryz.prog 15 [an5 0 p,YQ seed] [(0,false, .arr (Gl p.bales))] 1 (.tup [.inl (.s 1 0 (Vp p seed).length 3), .inl (.v (.int .i64 0))]) [(1,true, .arr (KU (Vp p seed)))]:=by
 have hok:=ao5 hp;have hlen:=hok.len;obtain⟨m,hm⟩:∃m:Nat,p.per=m:=⟨p.per.toNat,by have:=hok.per;omega⟩;have hper:=hok.per;have hnm:p.per.toNat=m:=by omega
 refine Jc Ja Tryz.func15 rfl Tryz.call15 rfl ?_;intro ρ w hH;conv=>whnf
 refine YT (l:=seed) rfl rfl ?_;rw[hs];conv=>whnf
 refine Jb (br6 p hf (by omega)) rfl rfl ?_;rw[hp];conv=>whnf
 refine cs ?_;conv=>whnf
 refine nF fun hc=>?_;conv=>whnf
 refine Jz Ja (G:=Nat) 1 [] (fun i=>[(23,iv .i64 i),(7, .c (.s 3 0 ((p.bales.take i).flatMap fun b=>VQ seed b m).length 3))]) (fun i=>[(3,true, .arr (KU ((p.bales.take i).flatMap fun b=>VQ seed b m)))])
  (fun i=>i≤p.bales.length) (fun i=>p.bales.length-i) ?_
 conv=>whnf
 refine⟨⟨0,Nat.zero_le _, ?_⟩, ?_⟩
 ·conv=>whnf
  exact cl
 intro i hi ρ1 t1 hρ1;conv=>whnf
 refine⟨fun hc=>?_,fun hc=>?_⟩
 ·have h:i<p.bales.length:=by simp at hc;omega
  have hb:=hok.bale p.bales[i] (List.getElem_mem h);have hol:=UZ seed p.bales[i];conv=>whnf
  refine⟨i,rfl,h,h, ?_⟩;conv=>whnf
  refine Jm (l:=seed) Ja rfl rfl rfl rfl rfl hs.symm ?_;conv=>whnf
  refine Jb (bD4 seed hs p.bales[i] ⟨hb.1,by omega,hb.2.2⟩) rfl rfl ?_;conv=>whnf
  refine cs ?_;conv=>whnf
  refine nF fun hc=>?_;conv=>whnf
  refine⟨m,hm,by show m≤_;omega, ?_⟩;conv=>whnf
  refine⟨Nat.zero_le _, ?_⟩;conv=>whnf
  have hpre:((p.bales.take i).flatMap fun b=>VQ seed b m).length≤480:=by
   rw[ak8,List.length_take]
   calc _≤40*12:=Nat.mul_le_mul (by omega) (by omega)
    _=480:=rfl
  refine Jz Ja (G:=Nat) 1 [3] (fun k=>[(41,iv .i64 k),(7, .c (.s 7 0 (((p.bales.take i).flatMap fun b=>VQ seed b m)++VQ seed p.bales[i] k).length 3))]) (fun k=>[(7,true, .arr (KU (((p.bales.take i).flatMap fun b=>VQ seed b m)++VQ seed p.bales[i] k)))])
   (fun k=>k≤m) (fun k=>m-k) ?_
  conv=>whnf
  refine⟨⟨0,Nat.zero_le _, ?_⟩, ?_⟩
  ·dsimp only;rw[show VQ seed p.bales[i] 0=[]from rfl,List.append_nil];conv=>whnf
   exact cl
  intro k hk ρ2 t2 hρ2;generalize hpr:((p.bales.take i).flatMap fun b=>VQ seed b m)=pr at hpre ⊢;conv=>whnf
  refine⟨fun hc=>?_,fun hc=>?_⟩
  ·have hkm:k<m:=by
    have hc:decide ((k:Int)<((m-0:Nat):Int))=true:=hc;simp at hc;omega
   have hko:k<(Yt seed p.bales[i]).length:=by rw[hol];omega
   have hko2:JO 0 k<(Yt seed p.bales[i]).length:=by rw[Qc];omega
   have hv:(Yt seed p.bales[i])[JO 0 k]'hko2=(Yt seed p.bales[i]).getD k 0:=by
    simp only[Qc,Nat.zero_add,List.getD,List.getElem?_eq_getElem hko];rfl
   have hst:=bV5 seed p.bales[i] k;rw[←hv]at hst;generalize hx:(p.bales[i].1,(k:Int)+1,(Yt seed p.bales[i])[JO 0 k]'hko2)=x at hst;have hsl:=UM seed p.bales[i] k;conv=>whnf
   refine⟨k,rfl,by show k<m;omega, ?_⟩;conv=>whnf
   refine⟨hko2, ?_⟩;conv=>whnf
   refine⟨_,wO, ?_⟩;conv=>whnf
   refine Yf Ja (KU [(p.bales[i].1,(k:Int)+1,(Yt seed p.bales[i])[JO 0 k]'hko2)]) rfl rfl ?_;conv=>whnf
   refine⟨⟨rfl,cl⟩, ?_⟩;rw[hx];conv=>whnf
   refine VE Ja (KU (pr++VQ seed p.bales[i] k)) [x] (fun _=>rfl) rfl rfl rfl rfl ?_;conv=>whnf
   refine⟨⟨rfl,rfl,Nat.le_refl _,Nat.le_refl _,by show((pr++VQ seed p.bales[i] k).length+1)*25≤140737488355328;rw[List.length_append,hsl];omega⟩, ?_⟩;conv=>whnf
   refine⟨_,wO, ?_⟩;refine⟨k+1,hkm,by show m-(k+1)<m-k;omega, ?_⟩;dsimp only;have e2:KU ((pr++VQ seed p.bales[i] k).take (pr++VQ seed p.bales[i] k).length++(([x]:List Vj).drop 0).take 1)=KU (pr++VQ seed p.bales[i] k++[x]):=congrArg KU ab0;have e3:(pr++VQ seed p.bales[i] k++[x]).length=(pr++VQ seed p.bales[i] k).length+1:=by rw[List.length_append];rfl
   rw[hst,←List.append_assoc,e3,←e2];conv=>whnf
   refine⟨rfl, ?_⟩;conv=>whnf
   exact cl
  ·have hkm:k=m:=by
    have hc:decide ((k:Int)<((m-0:Nat):Int))=false:=hc;simp at hc;omega
   subst hkm;have hst:((p.bales.take (i+1)).flatMap fun b=>VQ seed b k)=pr++VQ seed p.bales[i] k:=by
    rw[JR h,List.flatMap_append,hpr];simp
   conv=>whnf
   refine⟨_,wO, ?_⟩;refine⟨i+1,h,by show p.bales.length-(i+1)<p.bales.length-i;omega, ?_⟩;dsimp only;rw[hst];conv=>whnf
   refine⟨rfl, ?_⟩;conv=>whnf
   exact cl
 ·have hie:i=p.bales.length:=by simp at hc;omega
  subst hie;have e:((p.bales.take p.bales.length).flatMap fun b=>VQ seed b m)=Vp p seed:=by rw[List.take_length];simp only[Vp,hnm]
  rw[e];conv=>whnf
  exact cl
end Go.Proofs
namespace Go
namespace Sx
theorem br9{a b:List Int}(h:Yv a=Yv b):a=b:=by
 unfold Yv at h;simp only[Value.agg.injEq]at h;have h2:a.map (Value.int .i64)=b.map (Value.int .i64):=by
  have:=congrArg Array.toList h
  simpa using this
 exact(List.map_inj_right (fun x y hxy=>by cases hxy;rfl)).1 h2
theorem aQ7{P:Program}{t:TypeId}(em:Bool)(m:Nat)(hu:P.underlying t=some (.struct (P.fieldsOf t)))(hf:aC3 P (P.fieldsOf t).toList 0=true)(xs:List Int)(hn:xs.length=(P.fieldsOf t).toList.length)(w:World) :
 (Instr.checkKey em (m+1+1) t (Yv xs)).run P w=.ok () w:=by
 rw[Instr.checkKey];unfold Yv;simp only[Sem.run_bind,run_underlying hu,Result.andThen_ok];rw[←Array.forIn_toList];have hj:xs.length=0+(P.fieldsOf t).toList.length:=by omega
 clear hn hu;generalize (P.fieldsOf t).toList=L at hf hj;generalize (0:Nat)=j at hf hj
 induction L generalizing j with
 |nil=>simp
 |cons f L ih =>
  simp only[aC3,Bool.and_eq_true]at hf;obtain⟨h1,h2,h3,h4⟩:=hf
  have h1 : f.name ≠ "_" := by simpa using h1
  have h2:f.offset=j:=by simpa using h2
  have h3:=bq6 h3;simp only[List.length_cons]at hj;have hjx:j<xs.length:=by omega
  have hp:=aq5 (P:=P) (t:=f.type) (cs:=(xs.map (Value.int .i64)).toArray) (off:=j) (v:=.int .i64 xs[j]) w h3 (by simp[hjx]);have hc:(Instr.checkKey em (m+1) f.type (.int .i64 xs[j])).run P w=.ok () w:=by simp[Instr.checkKey,run_underlying h3]
  have:=ih (j+1) h4 (by omega);simp only[List.forIn_cons,if_pos h1,Sem.run_bind,h2,hp,Result.andThen_ok,hc,Sem.run_pure];exact this
theorem bl5(m:Nat)(xs:List Int):Instr.sameBits (m+1) (Yv xs) (Yv xs)=true:=by
 unfold Yv;simp only[Instr.sameBits,Bool.and_eq_true,beq_self_eq_true,true_and];have:∀l:List Int,((l.map (Value.int .i64)).zip (l.map (Value.int .i64))).all (fun(x,y)=>Instr.sameBits m x y)=true:=by
  intro l
  induction l with
  |nil=>rfl
  |cons a l ih =>
   simp only[List.map_cons,List.zip_cons_cons,List.all_cons,ih,Bool.and_true];cases m <;> simp[Instr.sameBits]
 simpa using this xs
theorem au2{P:Program}{t n:Nat}{L:List (Nat×Nat)}(hE:aT0 P L)(hm:(t,n)∈L)(ks:List Int)(hk:ks.length=n)(w:World):∀(l:List MapEntry) (i:Nat),(∀e∈l,∃ks':List Int,ks'.length=n∧e.key=Yv ks') →
 ((Instr.findAsking t (Yv ks) l i).run P w=.ok none w∧∀e∈l,e.key≠Yv ks) ∨
 (∃j e,(Instr.findAsking t (Yv ks) l i).run P w=.ok (some (i+j,e.val)) w∧l[j]? = some e∧e.key=Yv ks)
 | [],i,_=>.inl ⟨by simp[Instr.findAsking],by simp⟩
 |e::l,i,h=>by
  obtain⟨ks',hl,he⟩:=h e (by simp);have heq:=(hE t n hm ks ks' hk hl w (.tmp 0) (.tmp 0)).2.2;rw[←he]at heq;by_cases hkk:ks=ks'
  ·refine .inr ⟨0,e, ?_,rfl,by rw[he,hkk]⟩;have hb:(ks==ks')=true:=by simpa using hkk
   simp[Instr.findAsking,Sem.run_bind,heq,hb]
  ·have hb:(ks==ks')=false:=by simpa using hkk
   have hne:e.key≠Yv ks:=by rw[he];intro h;exact hkk (br9 h).symm
   have hrun:(Instr.findAsking t (Yv ks) (e::l) i).run P w=(Instr.findAsking t (Yv ks) l (i+1)).run P w:=by
    simp[Instr.findAsking,Sem.run_bind,heq,hb]
   rcases au2 hE hm ks hk w l (i+1) (fun e he=>h e (by simp[he]))with ⟨h1,h2⟩|⟨j,e',h1,h2,h3⟩
   ·refine .inl ⟨by rw[hrun,h1],fun e' he'=>?_⟩;rcases List.mem_cons.1 he' with rfl|he'
    ·exact hne
    ·exact h2 e' he'
   ·exact .inr ⟨j+1,e',by rw[hrun,h1,show i+1+j=i+(j+1)from by omega],by simpa using h2,h3⟩
def Gu:List SC→Option (List Int)
 | []=>some []
 | .v (.int .i64 z)::r=>match Gu r with
  |some l=>some (z::l)
  |none=>none
 |_::_=>none
theorem aZ6{ρ:Jn}:∀ {l:List SC} {ks:List Int} {vs:List Value},Gu l=some ks→Yb ρ l vs→vs=ks.map (Value.int .i64)
 | [],ks,vs,h,hr=>by
  cases h;cases vs with
  |nil=>rfl
  |cons v vs=>exact hr.elim
 |c::r,ks,[],_,hr=>hr.elim
 |c::r,ks,v::vs,h,hr=>by
  cases c with
  |v x =>
   cases x with
   |int k z =>
    cases k <;> simp only[Gu]at h <;> try (cases h;done)
    cases hl:Gu r with
    |none=>rw[hl]at h;cases h
    |some l =>
     rw[hl]at h;cases h;have h1:v=.int .i64 z:=hr.1;rw[h1,aZ6 hl hr.2];rfl
   |_=>simp[Gu]at h
  |_=>simp[Gu]at h
end Sx
end Go
namespace Go
namespace Sx
structure Sct where
 l:List UInt8
 h:l.length=128
def JS:Sct:=⟨List.replicate 128 0,by simp⟩
theorem an6{l:List UInt8}{c:SC}(h:c∈JC l):c.nms=[]:=by
 obtain⟨b,_,rfl⟩:=List.mem_map.1 h;rfl
def GH(xs:List Sct):Arr:=⟨Sct,128,fun x=>JC x.l,[],fun x=>by rw[JB,x.h],(fun x c hc k hk=>by rw[an6 hc]at hk;cases hk),xs,none,none⟩
def cr9{β:Type}(nm:List Nat)(pd:β→SC)(hp:∀b,∀k∈(pd b).nms,k∈nm)(xs:List (Sct×β)):Arr :=
 ⟨Sct×β,129,fun x=>JC x.1.l++[pd x.2],nm,fun x=>by rw[List.length_append,JB,x.1.h];rfl,(fun x c hc k hk=>by
  rcases List.mem_append.1 hc with hc|hc
  ·rw[an6 hc]at hk;cases hk
  ·simp at hc;subst hc;exact hp _ k hk),xs,none,none⟩
def pnd(kp:Nat):Option Nat→SC
 |none=>.v (.slice none 0 0)
 |some i=>.ghost kp i
def XF(kp:Nat)(xs:List (Sct×Option Nat)):Arr:=cr9 [kp] (pnd kp) (by intro b k hk;cases b <;> simp[pnd,SC.nms]at hk ⊢;exact hk) xs
def JD(xs:List Sct):Arr:=⟨Sct,129,fun x=>JC x.l++[.v (.slice none 0 0)],[],fun x=>by rw[List.length_append,JB,x.h];rfl,(fun x c hc k hk=>by
 rcases List.mem_append.1 hc with hc|hc
 ·rw[an6 hc]at hk;cases hk
 ·simp at hc;subst hc;cases hk),xs,none,none⟩
def WL(P:List (Option Sct)):Bx where
 Φ r w:=∀(i:Nat) (s:Sct),P[i]? = some (some s)→0<r.cap∧∃b off c,r.ext[i]? = some (.slice (some ⟨b,off,none⟩) 1 c)∧1≤c∧∀j (h:j<s.l.length),w.cell? ⟨b,off+j,none⟩=some (.int .u8 (s.l[j]'h).toNat)
 loc r w w' hb h i s hi:=by
  obtain⟨hc,b,off,c,he,h1,hcell⟩:=h i s hi
  refine⟨hc,b,off,c,he,h1,fun j hj=>?_⟩
  rw[←hcell j hj]
  refine cell?_congr (a:=⟨b,off+j,none⟩) (hb hc b (.inr ?_))
  exact List.mem_flatMap.2 ⟨_,List.mem_of_getElem? he,by rw[aN5 h1];simp⟩
section
variable {cx:Cx} {B:Tabs} {o:Oper} {e:Env} {H:Je} {nx:Nat} {K:Eff→Prop}
theorem Ul{l:List UInt8}{c:SC}(h:l.length=128):(JC l++[c])[128]? = some c:=by
 rw[List.getElem?_append_right (by rw[JB,h];exact Nat.le_refl _),JB,h];rfl
theorem XG(hB:TabsOK cx.P B){t:TypeId}{ti:TI}{x:Operand}{k i:Nat}{own:Bool}{A:Arr}(s:Sct)(c:SC)(ho:o.op=.load t x)(ht:Ji B.T t=some ti)(hag:ti.kd.isAgg=true)(hn:ti.size=128)
 (hx:ev e x=.c (.p k i 129 0)) (hl:look H k=some (own, .arr A)) (hA:A.sz=129) (hi:∃x,A.xs[i]? = some x∧A.enc x=JC s.l++[c])
 (hK:K ⟨YQ s.l,[k],[],[]⟩):∃f,CallOK cx o e H nx f∧K f:=by
 refine aK4 hB s.l ho ht hag hx hl (by rw[hn,s.h]) (.inl hA) (fun j hj=>?_) hK;obtain⟨x,hx,he⟩:=hi;refine⟨i,j,by show i*A.sz+j=i*A.sz+0+j;omega, ?_⟩;rw[arr_cell?,hx];show(A.enc x)[j]? = _;rw[he,List.getElem?_append_left (by rw[JB];exact hj)];exact Wi.2 ⟨hj,rfl⟩
theorem WM(hB:TabsOK cx.P B){t:TypeId}{ti:TI}{x:Operand}{k i:Nat}{own:Bool}{xs:List Sct}(s:Sct)(ho:o.op=.load t x)(ht:Ji B.T t=some ti)(hag:ti.kd.isAgg=true)(hn:ti.size=128)
 (hx:ev e x=.c (.p k i 128 0)) (hl:look H k=some (own, .arr (GH xs))) (hi:xs[i]? = some s)
 (hK:K ⟨YQ s.l,[k],[],[]⟩):∃f,CallOK cx o e H nx f∧K f:=by
 refine aK4 hB s.l ho ht hag hx hl (by rw[hn,s.h]) (.inl rfl) (fun j hj=>?_) hK;refine⟨i,j,by show i*128+j=i*128+0+j;omega, ?_⟩;rw[arr_cell?];show(xs[i]?).bind _=_;rw[hi];exact Wi.2 ⟨hj,rfl⟩
theorem Xr(hB:TabsOK cx.P B){t:TypeId}{ti:TI}{x:Operand}{k i:Nat}{own:Bool}{A:Arr}(s:Sct)(c:SC)(ho:o.op=.load t x)(ht:Ji B.T t=some ti)(hag:ti.kd.isAgg=true)(hn:ti.size=129)
 (hx:ev e x=.c (.p k i 129 0)) (hl:look H k=some (own, .arr A)) (hA:A.sz=129) (hi:∃x,A.xs[i]? = some x∧A.enc x=JC s.l++[c])
 (hK:K ⟨.pk (Js s.l) [c],[k],[],[]⟩):∃f,CallOK cx o e H nx f∧K f:=by
 obtain⟨z,hz,he⟩:=hi;refine Yx (by simp[ho]) ⟨fun n _ hb=>?_, ?_⟩ hK
 ·intro j hj;have hq:=(hb k (by simp) own _ hl).2;have hj:j∈c.nms:=by
   obtain⟨d,hd,hu⟩:=Qo.1 hj;simp at hd;subst hd;obtain⟨i',h1,h2⟩:=SC.uses_iff.1 hu;simp at h2;subst h2;exact h1
  exact hq j (Qm.2 ⟨j,A.hn z c (by rw[he];simp) j hj,by simp⟩)
 intro ρ a w hr hreg;have hso:=hreg k (by simp) own _ hl;have h1:=Jg (x:=x) (by simp[ho,Op.operands]) hr;rw[hx]at h1;simp only[SV.rel,SC.rel]at h1;have hcell:∀j d,(JC s.l++[c])[j]? = some d→∃v,w.cell? (Jr ρ k (i*129+j))=some v∧d.rel ρ v:=by
  intro j d hd;have:=hso.at_ i j d (by rw[arr_cell?,hz];show(A.enc z)[j]? = _;rw[he];exact hd);have e1:(SO.arr A).sz=129:=hA;rw[e1]at this;exact this
 obtain⟨u,hu,hur⟩:=hcell 128 c (Ul s.h);have hcells:∀(j:Nat) v,(Js s.l++[u])[j]? = some v→w.cell? ((Jr ρ k (i*129+0)).add j)=some v:=by
  intro j v hv;rw[VV,Nat.add_zero];by_cases hj:j<s.l.length
  ·rw[List.getElem?_append_left (by rw[Jo];exact hj),Wh hj]at hv;cases hv;obtain⟨v',hv',hrel⟩:=hcell j _ (by rw[List.getElem?_append_left (by rw[JB];exact hj)];exact Wi.2 ⟨hj,rfl⟩);rw[hv'];exact congrArg some hrel
  ·have hlt:=(List.getElem?_eq_some_iff.1 hv).1;rw[List.length_append,Jo]at hlt;have hj2:j=128:=by have:=s.h;simp at hlt;omega
   subst hj2;rw[List.getElem?_append_right (by rw[Jo,s.h];exact Nat.le_refl _),Jo,s.h]at hv;simp at hv;subst hv;exact hu
 have hload:=Vx (P:=cx.P) hcells;have hsize:=QY hB ht w;have hagg:=WP w (hB.T.get ht);rw[hag]at hagg;have hln:(Js s.l++[u]).length=ti.size:=by rw[List.length_append,Jo,hn,s.h];rfl
 rw[hln]at hload;simp only[Nat.add_zero]at h1 hload;refine⟨.agg (Js s.l++[u]).toArray, ?_,[u],rfl,hur,trivial⟩;simp[execOp,ho,h1,Instr.loadAt,Instr.sureAddr,loadVar,hagg,hsize,hload]
theorem VR(hB:TabsOK cx.P B){t:TypeId}{ti:TI}{x:Operand}{k i:Nat}{own:Bool}{A:Arr}(s:Sct)(u:Value)(ho:o.op=.load t x)(ht:Ji B.T t=some ti)(hag:ti.kd.isAgg=false)
 (hx:ev e x=.c (.p k i 129 128)) (hl:look H k=some (own, .arr A)) (hA:A.sz=129) (hi:∃x,A.xs[i]? = some x∧A.enc x=JC s.l++[.v u])
 (hK:K ⟨.c (.v u),[k],[],[]⟩):∃f,CallOK cx o e H nx f∧K f:=by
 obtain⟨z,hz,he⟩:=hi;refine Yx (by simp[ho]) ⟨fun n _ _=>VX n _, ?_⟩ hK;intro ρ a w hr hreg;have hso:=hreg k (by simp) own _ hl;have h1:=Jg (x:=x) (by simp[ho,Op.operands]) hr;rw[hx]at h1;simp only[SV.rel,SC.rel]at h1;obtain⟨v,hv,hrel⟩:=hso.at_ i 128 _ (by rw[arr_cell?,hz];show(A.enc z)[128]? = _;rw[he];exact Ul s.h);have e1:(SO.arr A).sz=129:=hA;rw[e1]at hv;have hrel:v=u:=hrel;subst hrel;have hagg:=WP w (hB.T.get ht);rw[hag]at hagg;exact⟨v,by simp[execOp,ho,h1,Instr.loadAt,Instr.sureAddr,loadVar,hagg,hv],rfl⟩
end
end Sx
end Go
namespace Go
namespace Sx
section
variable {cx:Cx} {B:Tabs} {o:Oper} {e:Env} {H:Je} {nx:Nat} {K:Eff→Prop}
theorem aa0(hB:TabsOK cx.P B){t:TypeId}{ti:TI}{x y:Operand}{k i sz off:Nat}(A:Arr){new:List SC}(ho:o.op=.store t x y)(ht:Ji B.T t=some ti)
 (hx:ev e x=.c (.p k i sz off)) (hl:look H k=some (true, .arr A)) (hszA:sz=A.sz) (hnl:new.length=ti.size) (hpos:1≤ti.size) (hle:off+new.length≤A.sz)
 (hnew:∀ρ v,(ev e y).rel ρ v→Yb ρ new v.cells.toList∧∀u∈v.cells.toList,(∀xs,u≠.agg xs)∧(∀xs,u≠.tuple xs))
 (hi:i<A.xs.length) (x':A.α) (hx':A.enc x'=XQ (A.enc (A.xs[i]'hi)) off new)
 (hK:K ⟨.c .junk,[k],[(k,true, .arr (A.setXs (A.xs.set i x')))],[]⟩):∃f,CallOK cx o e H nx f∧K f:=by
 have hloc:=ab7 (cx:=cx) (e:=e) (H:=H) (i:=i) (off:=off) (sz:=sz) (new:=new) hB ho hx ht hnl hpos hnew
  (.arr A) (.arr (A.setXs (A.xs.set i x'))) new (fun _ _ h=>h) hl (by simp) rfl ?_ ?_ rfl rfl rfl (.inl hszA.symm) ?_ (by simp) rfl ?_ ?_
 ·exact⟨_,⟨hloc,fun k hk=>by cases hk⟩,hK⟩
 ·intro ρ hwf;simp only[SO.sz,SO.room,SO.wf]at *
  have h1:i+1≤(ρ k).cap:=Nat.le_trans hi hwf;have h2:(i+1)*A.sz≤(ρ k).cap*A.sz:=Nat.mul_le_mul_right _ h1;rw[Nat.add_mul]at h2;omega
 ·intro r;simp[SO.room,Arr.setXs]
 ·intro r hwf;simpa [SO.wf,Arr.setXs] using hwf
 ·intro r _ i' j c hc;have h0:(SO.arr (A.setXs (A.xs.set i x'))).cell? i' j=((A.xs.set i x')[i']?).bind fun x=>(A.enc x)[j]?:=by
   show _=((A.setXs (A.xs.set i x')).xs[i']?).bind _;simp only[SO.cell?];cases(A.setXs (A.xs.set i x')).xs[i']? <;> rfl
  rw[h0]at hc;simp only[SO.cell?,SO.sz]at ⊢;rw[List.getElem?_set]at hc;by_cases hii:i=i'
  ·subst hii;rw[if_pos rfl,if_pos hi]at hc;simp only[Option.bind_some]at hc;rw[hx']at hc;have hlenA:=A.hl (A.xs[i]'hi);rcases aA6 (by rw[hlenA];exact hle) hc with ⟨h1,h2,h3⟩|⟨h1,h2⟩
   ·refine .inr ⟨by omega,by omega, ?_⟩;rw[show i*A.sz+j-(i*A.sz+off)=j-off from by omega];exact h3
   ·refine .inl ⟨by omega, ?_⟩;simp[hi,h2]
  ·rw[if_neg hii]at hc;refine .inl ⟨?_,by cases hxx:A.xs[i']? <;> simp_all⟩;have hj:j<A.sz:=by
    cases hxx:A.xs[i']? with
    |none=>simp[hxx]at hc
    |some z =>
     simp only[hxx,Option.bind_some]at hc;have:=(List.getElem?_eq_some_iff.1 hc).1;rw[A.hl]at this;exact this
   rcases Nat.lt_or_gt_of_ne hii with hlt|hgt
   ·have:=Nat.mul_le_mul_right A.sz (show i+1≤i' from hlt);rw[Nat.add_mul]at this;right;omega
   ·have:=Nat.mul_le_mul_right A.sz (show i'+1≤i from hgt);rw[Nat.add_mul]at this;left;omega
 ·intro n h1 _ j hj;exact h1 j hj
theorem bK7{l l':List UInt8}{c:SC}(h:l.length=128)(h':l'.length=128):XQ (JC l++[c]) 0 (JC l')=JC l'++[c]:=by
 simp[XQ,JB,h,h']
theorem by5{l:List UInt8}{c c':SC}(h:l.length=128):XQ (JC l++[c]) 128 [c']=JC l++[c']:=by
 unfold XQ;rw[List.take_append_of_le_length (by rw[JB,h];exact Nat.le_refl _),List.take_of_length_le (by rw[JB,h];exact Nat.le_refl _),List.drop_of_length_le (by simp[JB,h])];simp
theorem aZ7{l l':List UInt8}{c c':SC}(h:l.length=128)(h':l'.length=128):XQ (JC l++[c]) 0 (JC l'++[c'])=JC l'++[c']:=by
 unfold XQ;rw[List.drop_of_length_le (by simp[JB,h,h'])];simp
theorem WB(hB:TabsOK cx.P B){t:TypeId}{ti:TI}{x y:Operand}{k i:Nat}(A:Arr)(s s':Sct)(c:SC)(ho:o.op=.store t x y)(ht:Ji B.T t=some ti)(hn:ti.size=128)
 (hx:ev e x=.c (.p k i 129 0)) (hy:ev e y=YQ s'.l) (hl:look H k=some (true, .arr A)) (hA:A.sz=129) (hi:i<A.xs.length) (he:A.enc (A.xs[i]'hi)=JC s.l++[c]) (x':A.α) (hx':A.enc x'=JC s'.l++[c])
 (hK:K ⟨.c .junk,[k],[(k,true, .arr (A.setXs (A.xs.set i x')))],[]⟩):∃f,CallOK cx o e H nx f∧K f :=
 aa0 hB A ho ht hx hl hA.symm (new:=JC s'.l) (by rw[JB,s'.h,hn]) (by omega) (by rw[JB,s'.h,hA];omega) (fun ρ v hv=>by rw[hy]at hv;exact aC6 hv)
  hi x' (by rw[hx',he,bK7 s.h s'.h]) hK
theorem bl6(hB:TabsOK cx.P B){t:TypeId}{ti:TI}{x y:Operand}{k i:Nat}(A:Arr)(s:Sct)(c:SC)(u:Value)(ho:o.op=.store t x y)(ht:Ji B.T t=some ti)(hn:ti.size=1)
 (hx:ev e x=.c (.p k i 129 128)) (hy:ev e y=.c (.v u)) (hu:(∀xs,u≠.agg xs)∧(∀xs,u≠.tuple xs)) (hl:look H k=some (true, .arr A)) (hA:A.sz=129) (hi:i<A.xs.length) (he:A.enc (A.xs[i]'hi)=JC s.l++[c]) (x':A.α) (hx':A.enc x'=JC s.l++[.v u])
 (hK:K ⟨.c .junk,[k],[(k,true, .arr (A.setXs (A.xs.set i x')))],[]⟩):∃f,CallOK cx o e H nx f∧K f:=by
 refine aa0 hB A ho ht hx hl hA.symm (new:=[.v u]) (by rw[hn];rfl) (by omega) (by rw[hA];exact Nat.le_refl _) (fun ρ v hv=>?_)
  hi x' (by rw[hx',he,by5 s.h]) hK
 rw[hy]at hv;have hv:v=u:=hv;subst hv;have hc:v.cells.toList=[v]:=by
  cases v <;> first|rfl|exact absurd rfl (hu.1 _)
 rw[hc];exact⟨⟨rfl,trivial⟩,fun z hz=>by simp at hz;subst hz;exact hu⟩
theorem aD6{ρ:Jn}{l:List UInt8}{c:SC}{v:Value}(hc:∀u,c.rel ρ u→(∀xs,u≠.agg xs)∧(∀xs,u≠.tuple xs))(h:(SV.pk (Js l) [c]).rel ρ v) :
 Yb ρ (JC l++[c]) v.cells.toList∧∀u∈v.cells.toList,(∀xs,u≠.agg xs)∧(∀xs,u≠.tuple xs):=by
 obtain⟨us,rfl,hr⟩:=h;cases us with
 |nil=>exact hr.elim
 |cons u us =>
  cases us with
  |cons _ _=>exact hr.2.elim
  |nil =>
   have e1:(Value.agg (Js l++[u]).toArray).cells.toList=Js l++[u]:=rfl;rw[e1];refine⟨?_, ?_⟩
   ·have:∀(l:List UInt8),Yb ρ (JC l++[c]) (Js l++[u]):=by
     intro l
     induction l with
     |nil=>exact hr
     |cons b l ih=>exact⟨rfl,ih⟩
    exact this l
   ·intro z hz;rcases List.mem_append.1 hz with hz|hz
    ·exact aC5 z hz
    ·simp at hz;subst hz;exact hc _ hr.1
theorem aD7{ρ:Jn}{kp:Nat}{b:Option Nat}{u:Value}(h:(pnd kp b).rel ρ u):(∀xs,u≠.agg xs)∧(∀xs,u≠.tuple xs):=by
 cases b with
 |none=>have h:u=_:=h;subst h;exact⟨fun _=>by simp,fun _=>by simp⟩
 |some i=>obtain⟨_,_,_,rfl,_⟩:=h;exact⟨fun _=>by simp,fun _=>by simp⟩
theorem XH(hB:TabsOK cx.P B){t:TypeId}{ti:TI}{x y:Operand}{k i kp:Nat}(A:Arr)(s s':Sct)(c:SC)(b:Option Nat)(ho:o.op=.store t x y)(ht:Ji B.T t=some ti)(hn:ti.size=129)
 (hx:ev e x=.c (.p k i 129 0)) (hy:ev e y=.pk (Js s'.l) [pnd kp b]) (hl:look H k=some (true, .arr A)) (hA:A.sz=129) (hi:i<A.xs.length) (he:A.enc (A.xs[i]'hi)=JC s.l++[c]) (x':A.α) (hx':A.enc x'=JC s'.l++[pnd kp b])
 (hK:K ⟨.c .junk,[k],[(k,true, .arr (A.setXs (A.xs.set i x')))],[]⟩):∃f,CallOK cx o e H nx f∧K f :=
 aa0 hB A ho ht hx hl hA.symm (new:=JC s'.l++[pnd kp b]) (by rw[List.length_append,JB,s'.h,hn];rfl) (by omega) (by rw[List.length_append,JB,s'.h,hA];exact Nat.le_refl _)
  (fun ρ v hv=>by rw[hy]at hv;exact aD6 (fun _=>aD7) hv)
  hi x' (by rw[hx',he,aZ7 s.h s'.h]) hK
theorem ak9{kp:Nat}{xs:List (Sct×Option Nat)}{i j:Nat}:(SO.arr (XF kp xs)).cell? i j=(xs[i]?).bind fun x=>(JC x.1.l++[pnd kp x.2])[j]?:=arr_cell? _ i j
theorem aa1(hB:TabsOK cx.P B){t:TypeId}{ti:TI}{x y:Operand}{k kp:Nat}(s s':Sct)(i:Nat)(ho:o.op=.store t x y)(ht:Ji B.T t=some ti)(hn:ti.size=129)
 (hx:ev e x=.c (.p k 0 129 0)) (hy:ev e y=.pk (Js s'.l) [.ghost kp i]) (hl:look H k=some (true, .arr (JD [s])))
 (hK:K ⟨.c .junk,[k],[(k,true, .arr (XF kp [(s',some i)]))],[]⟩):∃f,CallOK cx o e H nx f∧K f:=by
 have hloc:=ab7 (cx:=cx) (e:=e) (H:=H) (i:=0) (off:=0) (sz:=129) (new:=JC s'.l++[.ghost kp i]) hB ho hx ht (by rw[List.length_append,JB,s'.h,hn];rfl) (by omega)
  (fun ρ v hv=>by rw[hy]at hv;exact aD6 (fun _ h=>aD7 (b:=some i) h) hv)
  (.arr (JD [s])) (.arr (XF kp [(s',some i)])) (JC s'.l++[.ghost kp i]) (fun _ _ h=>h) hl (by simp) rfl ?_ (fun _=>rfl) rfl rfl rfl (.inr rfl) (fun _ h=>h) (by simp) rfl ?_ ?_
 ·exact⟨_,⟨hloc,fun k hk=>by cases hk⟩,hK⟩
 ·intro ρ hw;have hw:1≤(ρ k).cap:=hw;rw[List.length_append,JB,s'.h];show 0*129+0+(128+1)≤(ρ k).cap*129;omega
 ·intro r _ i' j c hc;rw[ak9]at hc;cases i' with
  |succ i'=>simp at hc
  |zero =>
   have hc:(JC s'.l++[.ghost kp i])[j]? = some c:=hc;have hlt:=(List.getElem?_eq_some_iff.1 hc).1;refine .inr ⟨Nat.zero_le _, ?_, ?_⟩
   ·show 0*129+j<0*129+0+_;omega
   ·show(JC s'.l++[.ghost kp i])[0*129+j-(0*129+0)]? = _;rw[show 0*129+j-(0*129+0)=j from by omega];exact hc
 ·intro n _ hb j hj;have hj:j∈[kp]:=by obtain⟨z,h1,h2⟩:=Qm.1 hj;simp at h2;subst h2;exact h1
  simp at hj;subst hj;refine hb j ?_;rw[hy];exact Qo.2 ⟨.ghost j i,by simp,SC.uses_iff.2 ⟨j,by simp[SC.nms],by simp⟩⟩
end
end Sx
end Go
namespace Go
namespace Sx
section
variable {cx:Cx} {B:Tabs} {o:Oper} {e:Env} {H:Je} {nx:Nat} {K:Eff→Prop}
abbrev Qf:Value:=.slice none 0 0
theorem bs0{place:Nat→Option (Nat×Nat)}{cs:Array Value}{v:Value}{sz:Nat}(hp:place 0=some (0,sz))(h1:v.cells.size=sz)(h2:sz≤cs.size) :
 Instr.fill place cs [(0,v)]=some (v.cells.toList++cs.toList.drop sz).toArray:=by
 have h3:(v.cells.zipIdx.foldl (fun cs (p:Value×Nat)=>cs.setIfInBounds (0+p.2) p.1) cs)=(v.cells.toList++cs.toList.drop sz).toArray:=by
  apply Array.toList_inj.1;rw[←Array.foldl_toList,Array.toList_zipIdx];have:=aT3 v.cells.toList 0 cs 0 (by simp[h1];omega);rw[this];simp[h1]
 have hn:¬(v.cells.size≠sz∨0+v.cells.size>cs.size):=by omega
 simp only[Instr.fill,hp];rw[if_neg (by simpa using hn)];exact congrArg some h3
theorem bs1{ρ:Jn}{w:World}{t:TypeId}{A:Arr}{us:List Value}(hA:A.sz=129)(h:∀i x j d,A.xs[i]? = some x→(A.enc x)[j]? = some d→∃v,us[i*129+j]? = some v∧d.rel (Ya ρ nx ⟨w.heap.size,0,A.xs.length,[]⟩) v)(hl:us.length=A.xs.length*129)
 (hfx:A.fx=none) (hty:A.ty=none):SatO (Ya ρ nx ⟨w.heap.size,0,A.xs.length,[]⟩) (push w (.cells us.toArray t (0,0))) nx true (.arr A) :=
 VN (Nat.le_refl _) (by simp[hl,hA]) (fun i x hx j d hd=>by
  obtain⟨v,hv,hr⟩:=h i x j d hx hd;exact⟨v,by rw[hA];simpa using hv,hr⟩) (fun n h=>by rw[hfx]at h;cases h) (fun n h=>by rw[hty]at h;cases h)
theorem bf1{ρ:Jn}{l:List UInt8}{c:SC}{u:Value}(hl:l.length=128)(hc:c.rel ρ u){j:Nat}{d:SC}(h:(JC l++[c])[j]? = some d):∃v,(Js l++[u])[j]? = some v∧d.rel ρ v:=by
 by_cases hj:j<128
 ·rw[List.getElem?_append_left (by rw[JB,hl];exact hj)]at h;obtain⟨h1,rfl⟩:=Wi.1 h;exact⟨_,by rw[List.getElem?_append_left (by rw[Jo,hl];exact hj)];exact Wh h1,rfl⟩
 ·have hlt:=(List.getElem?_eq_some_iff.1 h).1;rw[List.length_append,JB,hl]at hlt;have hj2:j=128:=by simp at hlt;omega
  subst hj2;rw[Ul hl]at h;cases h;exact⟨u,by rw[List.getElem?_append_right (by rw[Jo,hl];exact Nat.le_refl _),Jo,hl];rfl,hc⟩
theorem aR6(xs:List Sct)(n:Nat):(SO.arr (JD xs)).below n:=fun j hj=>by
 simp[SO.uses,JD,Jy]at hj
theorem bK8(xs:List Sct)(n:Nat):(SO.arr (GH xs)).below n:=fun j hj=>by
 simp[SO.uses,GH,Jy]at hj
theorem Vz(hB:TabsOK cx.P B){t:TypeId}{ti:TI}(ho:o.op=.alloc t)(ht:Ji B.T t=some ti)(hz:ti.zero=List.replicate 128 (.int .u8 0)++[Qf])
 (hK:K ⟨.c (.p nx 0 129 0),[],[(nx,true, .arr (JD [JS]))],[nx]⟩):∃f,CallOK cx o e H nx f∧K f:=by
 refine aa9 (Ws (by simp[ho]) ab6 (fun m _=>aR6 _ m) ?_) hK;intro ρ a w _ _;obtain⟨z,hzr,hzz⟩:=GN w (hB.T.get ht);have hzc:z.cells=(Js JS.l++[Qf]).toArray:=by
  apply Array.toList_inj.1;rw[hzz,hz];show _=Js (List.replicate 128 0)++_;rw[Gk]
 refine⟨.pointer (some (Jr (Ya ρ nx ⟨w.heap.size,0,1,[]⟩) nx 0)), .cells z.cells t (0,0),1, ?_, ?_, ?_⟩
 ·simp[execOp,ho,Instr.alloc,hzr,newVar,newRow,newObj,Sem.run,Jr,Jq,push]
 ·simp[SV.rel,SC.rel]
 ·rw[hzc];refine bs1 (A:=JD [JS]) rfl (fun i x j d hx hd=>?_) (by rw[List.length_append,Jo,JS.h];rfl) rfl rfl;have hx:[JS][i]? = some x:=hx;cases i with
  |succ i=>simp at hx
  |zero =>
   have hx:JS=x:=Option.some.inj hx;subst hx;have:=bf1 (ρ:=Ya ρ nx ⟨w.heap.size,0,1,[]⟩) JS.h (c:=.v Qf) (u:=Qf) rfl hd;rw[Nat.zero_mul,Nat.zero_add];exact this
theorem by6{t:TypeId}{x:Operand}{kp i:Nat}(s:Sct)(ho:o.op=.box t x)(hx:ev e x=.pk (Js s.l) [.ghost kp i])
 (hK:K ⟨.c (.p nx 0 129 0),[],[(nx,true, .arr (XF kp [(s,some i)]))],[nx]⟩):∃f,CallOK cx o e H nx f∧K f:=by
 have hmx:x∈o.op.operands.toList:=by simp[ho,Op.operands]
 refine aa9 (Ws (by simp[ho]) ab6 (fun m hm=>?_) ?_) hK
 ·intro j hj;have hj:j∈[kp]:=by obtain⟨z,h1,h2⟩:=Qm.1 hj;simp at h2;subst h2;exact h1
  simp at hj;subst hj;refine Qy hmx hm j ?_;rw[hx];exact Qo.2 ⟨.ghost j i,by simp,SC.uses_iff.2 ⟨j,by simp[SC.nms],by simp⟩⟩
 intro ρ a w hr hfr;have h1:=Jg (x:=x) hmx hr;have hne:kp≠nx:=by
  rintro rfl
  have hu:(ev e x).uses [kp]=true:=by rw[hx];exact Qo.2 ⟨.ghost kp i,by simp,SC.uses_iff.2 ⟨kp,by simp[SC.nms],by simp⟩⟩
  cases hxx:x with
  |tmp t =>
   rw[hxx]at hu hmx;have:=hfr t hmx;simp only[ev]at hu;rw[this]at hu;cases hu
  |const v=>rw[hxx]at hu;simp only[ev]at hu;rw[ap0]at hu;cases hu
  |global g=>rw[hxx]at hx;simp[ev]at hx
  |func g=>rw[hxx]at hx;simp[ev]at hx
 rw[hx]at h1;obtain⟨us,hv,hrel⟩:=h1;obtain⟨u,rfl,hu⟩:∃u,us=[u]∧(SC.ghost kp i).rel ρ u:=by
  cases us with
  |nil=>exact hrel.elim
  |cons u us=>cases us with
   |nil=>exact⟨u,rfl,hrel.1⟩
   |cons _ _=>exact hrel.2.elim
 refine⟨.pointer (some (Jr (Ya ρ nx ⟨w.heap.size,0,1,[]⟩) nx 0)), .cells (Js s.l++[u]).toArray t (0,0),1, ?_, ?_, ?_⟩
 ·simp[execOp,ho,hv,Value.cells,Instr.box,newVar,newRow,newObj,Sem.run,Jr,Jq,push]
 ·simp[SV.rel,SC.rel]
 ·refine bs1 (A:=XF kp [(s,some i)]) rfl (fun i' x j d hx hd=>?_) (by rw[List.length_append,Jo,s.h];rfl) rfl rfl;have hx:[(s,some i)][i']? = some x:=hx;cases i' with
  |succ i'=>simp at hx
  |zero =>
   have hx:(s,some i)=x:=Option.some.inj hx;subst hx;have hu':(SC.ghost kp i).rel (Ya ρ nx ⟨w.heap.size,0,1,[]⟩) u:=SC.rel_agree (fun k hk=>Jx (by simp[SC.nms]at hk;omega)) hu;have:=bf1 (ρ:=Ya ρ nx ⟨w.heap.size,0,1,[]⟩) s.h hu' hd;rw[Nat.zero_mul,Nat.zero_add];exact this
theorem WC(hB:TabsOK cx.P B){t:TypeId}{ti:TI}{y:Operand}{ft gt:TypeId}{tf tg:TI}{off2:Nat}(s:Sct)(ho:o.op=.build t #[(0,y)])(ht:Ji B.T t=some ti)(hk:ti.kd=.struct [(0,ft),(off2,gt)])(htf:Ji B.T ft=some tf)(htg:Ji B.T gt=some tg)(hsf:tf.size=128)
 (hz:ti.zero=List.replicate 128 (.int .u8 0)++[Qf]) (hy:ev e y=YQ s.l) (hK:K ⟨.pk (Js s.l) [.v (.slice none 0 0)],[],[],[]⟩):∃f,CallOK cx o e H nx f∧K f:=by
 have hmy:y∈o.op.operands.toList:=by simp[ho,Op.operands]
 refine Yx (by simp[ho]) ⟨fun n _ _=>?_,fun ρ a w hr _=>⟨.agg (Js s.l++[Qf]).toArray, ?_,(show(SV.pk (Js s.l) [.v Qf]).rel ρ _ from⟨[Qf],rfl,rfl,trivial⟩)⟩⟩ hK
 ·intro j hj;obtain⟨d,hd,hu⟩:=Qo.1 hj;simp at hd;subst hd;simp[SC.uses,SC.nms,Jy]at hu
 have hv:=Xg hmy hy hr;obtain⟨z,hzr,hzz⟩:=GN w (hB.T.get ht);obtain⟨d,hd,hkd⟩:=Qq hB.T ht w;have hs1:=QY hB htf w;have hs2:=QY hB htg w;rw[hk]at hkd;obtain⟨fs,rfl,hfs⟩:∃fs:Array Field,d=.struct fs∧fs.toList.map (fun f=>(f.offset,f.type))=[(0,ft),(off2,gt)]:=by
  cases d <;> simp[VM]at hkd
  rename_i fs
  exact⟨fs,rfl,hkd⟩
 obtain⟨f1,f2,hfl,h1,h2,h3,h4⟩:∃f1 f2,fs.toList=[f1,f2]∧f1.offset=0∧f1.type=ft∧f2.offset=off2∧f2.type=gt:=by
  match hh:fs.toList,hfs with
  | [f1,f2],hfs=>simp at hfs;exact⟨f1,f2,rfl,hfs.1.1,hfs.1.2,hfs.2.1,hfs.2.2⟩
  | [],hfs=>simp at hfs
  | [_],hfs=>simp at hfs
  |_::_::_::_,hfs=>simp at hfs
 have hfs2:fs=#[f1,f2]:=Array.toList_inj.1 (by rw[hfl]);subst hfs2;have hzl:z.cells.toList=List.replicate 128 (.int .u8 0)++[Qf]:=by rw[hzz,hz]
 have hzs:z.cells.size=129:=by have:=congrArg List.length hzl;simpa using this
 have hfill:=bs0 (place:=fun i=>([((0:Nat),128),(off2,tg.size)]:List (Nat×Nat))[i]?) (cs:=z.cells) (v:=GX s.l) (sz:=128) rfl (by simp[GX,Value.cells,Jo,s.h]) (by omega);rw[hzl]at hfill;have e1:((GX s.l).cells.toList++(List.replicate 128 (Value.int .u8 0)++[Qf]).drop 128)=Js s.l++[Qf]:=by
  rw[List.drop_append_of_le_length (by simp),List.drop_of_length_le (by simp)];rfl
 rw[e1]at hfill;simp[execOp,ho,hv,Instr.build,hzr,hd,hs1,hs2,h1,h2,h3,h4,hsf,hfill]
end
end Sx
end Go
