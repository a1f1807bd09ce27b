/-
  A part of the proof that a law answers true: lemmas of a symbolic walk, plain functions, or contracts of the functions walked (Sx63, Sx64, Sx65, Sx66, Sx67, Sx68, Sx69). Conditions: none.
-/
import Derived.Test.YtfcdjkeamldkaaaGreatPart13
import Derived.Test.YtfcdjkeamldkaaaGreatPart09
set_option maxRecDepth 100000
set_option linter.unusedVariables false
set_option linter.unusedSimpArgs false
namespace Go
namespace Sx
section
variable {cx:Cx} {B:Tabs} {o:Oper} {e:Env} {H:Je} {nx:Nat} {K:Eff→Prop}
theorem bs2(hB:TabsOK cx.P B){t el s0 b0:TypeId}{z0:List Value}{ti:TI}{y:Operand}(A:Arr)(x:A.α)(hA:A.nm=[])(hxs:A.xs=[x])(hfx:A.fx=none)(hty:A.ty=none)(ho:o.op=.buildSlice t 1 #[(0,y)])
 (ht:Ji B.T t=some ⟨.slice el,s0,b0,z0⟩) (hti:Ji B.T el=some ti) (hsz:ti.size=A.sz) (hpos:1≤ti.size) (hle:ti.size≤16777216)
 (hv:∀ρ v,(ev e y).rel ρ v→Yb ρ (A.enc x) v.cells.toList)
 (hK:K ⟨.c (.s nx 0 1 A.sz),[],[(nx,true, .arr A)],[nx]⟩):∃f,CallOK cx o e H nx f∧K f:=by
 have hmy:y∈o.op.operands.toList:=by simp[ho,Op.operands]
 refine aa9 (Ws (by simp[ho]) af6 (fun n _ j hj=>by simp only[SO.uses,hA]at hj;cases hj) ?_) hK;intro ρ a w hr _;obtain⟨i,z,hi,hz,hisz,hiby,hzz⟩:=Gg hB hti;have hrel:=hv ρ _ (Jg hmy hr);have hrel':Yb (Ya ρ nx ⟨w.heap.size,0,A.xs.length,[]⟩) (A.enc x) (a.eval y).cells.toList:=by
  refine ac5 (fun c hc k hk=>?_) hrel;have:=A.hn x c hc k hk;rw[hA]at this;cases this
 have hln:=Xu hrel;rw[A.hl]at hln;have hcs:(a.eval y).cells.size=ti.size:=by simp at hln;omega
 have hsize:(sizeOf el).run cx.P w=.ok i.size w:=by simp[sizeOf,typeInfo,hi]
 have hzr:(zeroValue el).run cx.P w=.ok z w:=by simp[zeroValue,typeInfo,hi,hz]
 have hfill:=bs0 (place:=fun j=>some (j*i.size,i.size)) (cs:=(Array.range (1*i.size)).map (z.cells[· % z.cells.size]!)) (v:=a.eval y) (sz:=i.size) (by simp) (by omega) (by simp);have hd:((Array.range (1*i.size)).map (z.cells[· % z.cells.size]!)).toList.drop i.size=[]:=List.drop_of_length_le (by simp);rw[hd,List.append_nil]at hfill;have h0:¬(1*i.size=0):=by omega
 have hbig:¬(1*i.size>2 ^ 24):=by omega
 refine⟨.slice (some ⟨w.heap.size,0,none⟩) 1 1, .cells (a.eval y).cells el (0,0),A.xs.length, ?_, ?_,VN (Nat.le_refl _) (by rw[hxs,hcs,hsz];simp) ?_ (fun n h=>by rw[hfx]at h;cases h) (fun n h=>by rw[hty]at h;cases h)⟩
 ·have h2:(Array.map (fun x=>(x.fst,a.eval x.snd)) #[((0:Nat),y)]).toList=[(0,a.eval y)]:=by simp
  simp only[execOp,ho,Instr.buildSlice,Sem.run_bind,run_underlying (QX hB ht),Result.andThen_ok,hsize,if_neg hbig,if_neg h0,hzr,h2,Sem.run_pure,hfill,newRow,newObj,Sem.run];rfl
 ·simp only[SV.rel,SC.rel,Jq,Nat.sub_zero,Nat.zero_mul,Nat.zero_add,hxs];exact⟨_,rfl,Nat.le_refl _,fun _=>by simp[Jr,Jq]⟩
 ·intro i' xx hxx j d hd;rw[hxs]at hxx;cases i' with
  |succ i'=>simp at hxx
  |zero =>
   have hxx:x=xx:=Option.some.inj hxx;subst hxx;obtain⟨v,hv,hvr⟩:=GO hrel' hd;exact⟨v,by rw[Nat.zero_mul,Nat.zero_add];simpa using hv,hvr⟩
theorem aZ8(hB:TabsOK cx.P B){t el s0 b0:TypeId}{z0:List Value}{ti:TI}{y:Operand}(s:Sct)(ho:o.op=.buildSlice t 1 #[(0,y)])
 (ht:Ji B.T t=some ⟨.slice el,s0,b0,z0⟩) (hti:Ji B.T el=some ti) (hsz:ti.size=128) (hy:ev e y=YQ s.l)
 (hK:K ⟨.c (.s nx 0 1 128),[],[(nx,true, .arr (GH [s]))],[nx]⟩):∃f,CallOK cx o e H nx f∧K f :=
 bs2 hB (GH [s]) s rfl rfl rfl rfl ho ht hti hsz (by omega) (by omega) (fun ρ v hv=>by rw[hy]at hv;exact(aC6 hv).1) hK
theorem aD8(hB:TabsOK cx.P B){t el s0 b0:TypeId}{z0:List Value}{ti:TI}{y:Operand}(s:Sct)(ho:o.op=.buildSlice t 1 #[(0,y)])
 (ht:Ji B.T t=some ⟨.slice el,s0,b0,z0⟩) (hti:Ji B.T el=some ti) (hsz:ti.size=129) (hy:ev e y=.pk (Js s.l) [.v Qf])
 (hK:K ⟨.c (.s nx 0 1 129),[],[(nx,true, .arr (JD [s]))],[nx]⟩):∃f,CallOK cx o e H nx f∧K f :=
 bs2 hB (JD [s]) s rfl rfl rfl rfl ho ht hti hsz (by omega) (by omega) (fun ρ v hv=>by rw[hy]at hv;exact(aD6 (fun u h=>aD7 (kp:=0) (b:=none) h) hv).1) hK
theorem aw3(hB:TabsOK cx.P B){t el s0 b0:TypeId}{z0:List Value}{ti:TI}{x y:Operand}(n:Nat)(ho:o.op=.makeSlice t x y)(ht:Ji B.T t=some ⟨.slice el,s0,b0,z0⟩)(hti:Ji B.T el=some ti)(hsz:ti.size=129)
 (hz:ti.zero=List.replicate 128 (.int .u8 0)++[Qf]) (hby:ti.bytes≤1000) (hx:ev e x=iv .i64 (n:Int)) (hy:ev e y=iv .i64 (n:Int)) (hn:n≤100000000)
 (hK:K ⟨.c (.s nx 0 n 129),[],[(nx,true, .arr (JD (List.replicate n JS)))],[nx]⟩):∃f,CallOK cx o e H nx f∧K f:=by
 have hmx:x∈o.op.operands.toList:=by simp[ho,Op.operands]
 have hmy:y∈o.op.operands.toList:=by simp[ho,Op.operands]
 refine aa9 (Ws (by simp[ho]) af6 (fun m _=>aR6 _ m) ?_) hK;intro ρ a w hr _;obtain⟨i,z,hi,hz',hisz,hiby,hzz⟩:=Gg hB hti;have hx':=Xg hmx hx hr;have hy':=Xg hmy hy hr;have hbd:i.bytes*n≤281474976710656:=by
  rw[hiby];exact Nat.le_trans (Nat.mul_le_mul hby hn) (by decide)
 have hrun:=run_make (P:=cx.P) w t el i z (QX hB ht) hi hz' .i64 .i64 (n:Int) (n:Int) (by omega) (by omega) (by rw[←Int.natCast_mul];omega) (by omega);have hzl:z.cells.toList=Js JS.l++[Qf]:=by
  rw[hzz,hz];show _=Js (List.replicate 128 0)++_;rw[Gk]
 have hzs:z.cells.size=129:=by
  have:=congrArg List.length hzl;rw[List.length_append,Jo,JS.h]at this
  simpa using this
 refine⟨.slice (some ⟨w.heap.size,0,none⟩) n n, .cells (madeCells z.cells (n*129)) el (0,0),n, ?_, ?_,VN (by show(List.replicate n JS).length≤n;simp) (by rw[size_madeCells];rfl) ?_⟩
 ·simp only[execOp,ho,hx',hy',Sem.run_bind,hrun,Result.andThen_ok,Sem.run_pure,Int.toNat_natCast];rw[hisz,hsz];rfl
 ·simp only[SV.rel,SC.rel,Jq,Nat.sub_zero,Nat.zero_mul,Nat.zero_add];exact⟨_,rfl,Nat.le_refl _,fun _=>by simp[Jr,Jq]⟩
 ·intro i' xx hxx j d hd;have hxx:(List.replicate n JS)[i']? = some xx:=hxx;obtain⟨hlt,hxx⟩:=List.getElem?_eq_some_iff.1 hxx;have hlt:i'<n:=by simpa using hlt
  have hxx:xx=JS:=by rw[←hxx];exact List.getElem_replicate _
  subst hxx;obtain⟨v,hv,hvr⟩:=bf1 (ρ:=Ya ρ nx ⟨w.heap.size,0,n,[]⟩) JS.h (c:=.v Qf) (u:=Qf) rfl hd;refine⟨v, ?_,hvr⟩;have hj:j<129:=by
   have h8:=(List.getElem?_eq_some_iff.1 hd).1;rw[show((JD (List.replicate n JS)).enc JS).length=129 from(JD (List.replicate n JS)).hl JS]at h8;exact h8
  rw[←hzl]at hv;have hv':z.cells[j]? = some v:=by simpa using hv
  obtain⟨h0,hv3⟩:=Array.getElem?_eq_some_iff.1 hv';have hmod:(i'*129+j)%129=j:=by rw[Nat.mul_comm,Nat.mul_add_mod];exact Nat.mod_eq_of_lt hj
  have hlt2:i'*129+j<n*129:=by
   have:=Nat.mul_le_mul_right 129 (show i'+1≤n from hlt);omega
  show(madeCells z.cells (n*129))[i'*129+j]? = some v;have hv4:z.cells[j]! = v:=by rw[getElem!_def,hv']
  simp[madeCells,hlt2,hzs,hmod,hv4]
theorem aR7(s:Sct)(xs:List Sct):Vs ((GH xs).enc s)=true:=by
 show Vs (JC s.l)=true
 induction s.l with
 |nil=>rfl
 |cons b l ih=>exact ih
theorem ar1(s:Sct)(xs:List Sct):Vs ((JD xs).enc s)=true:=by
 show Vs (JC s.l++[.v Qf])=true
 induction s.l with
 |nil=>rfl
 |cons b l ih=>exact ih
end
end Sx
end Go
namespace Go
namespace Sx
theorem Sat.peek{cx:Cx}{ρ:Jn}{s:St}{a:Act}{w:World}(h:Sat cx ρ s a w){k kp:Nat}{r:Rg}{o q:SO}(hf:Fresh k s)(hlt:k<s.nx)(hn0:cx.n0≤k)(hl:look s.H kp=some (false,q))
 (hq:0<q.room (ρ kp)) (hin:r.blk∈q.fp (ρ kp)) (hnb:o.nb=true) (hbo:o.below s.nx) (hnew:SatO (Ya ρ k r) w k false o):Sat cx (Ya ρ k r) { s with H:=(k,false,o)::s.H } a w where
 size:=h.size
 defers:=by rw[h.defers];exact(Vt fun j hj=>Jx (by rintro rfl;exact hf.mks hj)).symm
 env i:=SV.rel_upd' (h.env i) (hf.env i)
 heap :=
  {
   frm:=h.heap.frm
   reg:=fun j own o' hj=>by
    rw[Jh]at hj;by_cases hjk:j=k
    ·rw[if_pos hjk]at hj;simp at hj;obtain⟨rfl,rfl⟩:=hj;subst hjk;exact hnew
    ·rw[if_neg hjk]at hj;exact(h.heap.reg j own o' hj).asg (Jx hjk) (fun n hn=>Jx (by rintro rfl;have:=(hf.heap j own o' hj).2;rw[hn]at this;cases this))
   apart:=fun j j' o1 own' o2 hne hj hj' hr hr' b hb hb'=>by
    rw[Jh]at hj hj';by_cases hjk:j=k
    ·rw[if_pos hjk]at hj;simp at hj
    ·rw[if_neg hjk]at hj;rw[Jx hjk]at hr hb;by_cases hjk':j'=k
     ·rw[if_pos hjk']at hj';simp at hj';obtain⟨rfl,rfl⟩:=hj';subst hjk';rw[aN6 hnb,Jq]at hb';simp at hb';subst hb';have hjp:j≠kp:=by rintro rfl;rw[hl]at hj;cases hj
      exact h.heap.apart j kp o1 false q hjp hj hl hr hq _ hb hin
     ·rw[if_neg hjk']at hj';rw[Jx hjk']at hr' hb';exact h.heap.apart j j' o1 own' o2 hne hj hj' hr hr' b hb hb'
   fresh:=fun j o' hj hr b hb=>by
    rw[Jh]at hj;by_cases hjk:j=k
    ·rw[if_pos hjk]at hj;simp at hj
    ·rw[if_neg hjk]at hj;rw[Jx hjk]at hr hb;exact h.heap.fresh j o' hj hr b hb
   valid:=fun j own o' hj hr b hb=>by
    rw[Jh]at hj;by_cases hjk:j=k
    ·rw[if_pos hjk]at hj;simp at hj;obtain⟨rfl,rfl⟩:=hj;subst hjk;rw[aN6 hnb,Jq]at hb;simp at hb;subst hb;exact h.heap.valid kp false q hl hq _ hin
    ·rw[if_neg hjk]at hj;rw[Jx hjk]at hr hb;exact h.heap.valid j own o' hj hr b hb }
 bnd:=h.bnd.cons hlt hbo
 base j hj:=by rw[Jx (by omega)];exact h.base j hj
 keep:=h.keep
 n0:=h.n0
section
variable {cx:Cx} {B:Tabs} {o:Oper} {e:Env} {H:Je} {nx:Nat} {K:Eff→Prop}
theorem aD9{sv:SV}{so q:SO}{kp:Nat}{rd:List Nat}(hd:∀c,o.op≠.defer c)(hl:look H kp=some (false,q))(hkp:kp∈rd)(hnb:so.nb=true)(hbs:sv.below (nx+1))(hbo:∀n,so.below n)
 (h:∀(ρ:Jn) (a:Act) (w:World),(∀t,Wr o t→(e.get t).rel ρ (a.tmps.getD t undef))→(∀j∈rd,∀own p,look H j=some (own,p)→SatO ρ w j own p) →
  ∃v r,(execOp a.eval o).run cx.P w=.ok (.value v) w∧sv.rel (Ya ρ nx r) v∧SatO (Ya ρ nx r) w nx false so∧0<q.room (ρ kp)∧r.blk∈q.fp (ρ kp))
 (hK:K ⟨sv,rd,[(nx,false,so)],[nx]⟩):∃f,CallOK cx o e H nx f∧K f:=by
 refine⟨_,⟨?_,fun k hk=>by simp at hk;subst hk;simp⟩,hK⟩;intro ρ s a w hs hr hk hnew hdst KK Q hKK;obtain⟨hf,hlt,hn0⟩:=hnew nx (by simp);obtain⟨v,r,hrun,hrel,hso,hq,hin⟩:=h ρ a w (fun t ht=>by rw[←hr t ht];exact hs.env t) (fun j hj own p hp=>hs.heap.reg j own p (by rw[hk j hj];exact hp));refine JQ hd hrun (hKK (Ya ρ nx r) _ _ ?_ (fun j hj=>Jx (by simpa using hj)));have h1:=hs.peek hf hlt hn0 (by rw[hk kp hkp];exact hl) hq hin hnb (hbo s.nx) hso;exact h1.putO hdst hrel (fun j hj=>Nat.lt_of_lt_of_le (hbs j hj) hlt)
theorem ci5{ρ:Jn}{w:World}{k b off c:Nat}{s:Sct}(h1:1≤c)(h:∀j (h:j<s.l.length),w.cell? ⟨b,off+j,none⟩=some (.int .u8 (s.l[j]'h).toNat)) :
 SatO (Ya ρ k ⟨b,off,c,[]⟩) w k false (.arr (GH [s])) where
 wf:=by simp only[SO.wf,Jq];exact h1
 at_ i j d hd:=by
  rw[arr_cell?]at hd;cases i with
  |succ i =>
   have hd:([s][i+1]?).bind (fun x=>(JC x.l)[j]?)=some d:=hd;simp at hd
  |zero =>
   have hd:(JC s.l)[j]? = some d:=hd;obtain⟨hj,rfl⟩:=Wi.1 hd;refine⟨_, ?_,rfl⟩;simp only[Jr,Jq];rw[show off+(0*(SO.arr (GH [s])).sz+j)=off+j from by omega];exact h j hj
 room ho:=by cases ho
 off0 ho:=by cases ho
 keys Φ hΦ:=by cases hΦ
 boxed b hb:=by cases hb
 fixd n hn:=by cases hn
 typd t ht:=by cases ht
theorem JZ(hB:TabsOK cx.P B){t:TypeId}{ti:TI}{x:Operand}{k i kp j:Nat}{own:Bool}{A:Arr}{P:List (Option Sct)}(s q:Sct)(ho:o.op=.load t x)(ht:Ji B.T t=some ti)(hag:ti.kd.isAgg=false)
 (hx:ev e x=.c (.p k i 129 128)) (hl:look H k=some (own, .arr A)) (hA:A.sz=129) (hi:∃x,A.xs[i]? = some x∧A.enc x=JC s.l++[.ghost kp j]) (hb:look H kp=some (false, .box (WL P))) (hP:P[j]? = some (some q))
 (hK:K ⟨.c (.s nx 0 1 128),[k,kp],[(nx,false, .arr (GH [q]))],[nx]⟩):∃f,CallOK cx o e H nx f∧K f:=by
 refine aD9 (by simp[ho]) hb (by simp) rfl af6 (fun n=>bK8 _ n) ?_ hK;intro ρ a w hr hreg;obtain⟨z,hz,he⟩:=hi;have hso:=hreg k (by simp) own _ hl;have hbx:=(hreg kp (by simp) false _ hb).boxed _ rfl;have h1:=Jg (x:=x) (by simp[ho,Op.operands]) hr;rw[hx]at h1;simp only[SV.rel,SC.rel]at h1;obtain⟨v,hv,hrel⟩:=hso.at_ i 128 _ (by rw[arr_cell?,hz];show(A.enc z)[128]? = _;rw[he];exact Ul s.h);have e1:(SO.arr A).sz=129:=hA;rw[e1]at hv;obtain⟨a0,l0,c0,hv0,hext⟩:=hrel;obtain⟨hcap,b,off,c,hext2,hc1,hcell⟩:=hbx j q hP;rw[hext2]at hext;have hvv:v=.slice (some ⟨b,off,none⟩) 1 c:=(Option.some.inj hext).symm;have hagg:=WP w (hB.T.get ht);rw[hag]at hagg;refine⟨v,⟨b,off,c,[]⟩,by simp[execOp,ho,h1,Instr.loadAt,Instr.sureAddr,loadVar,hagg,hv], ?_,ci5 hc1 hcell,hcap, ?_⟩
 ·rw[hvv];simp only[SV.rel,SC.rel,Jq,Nat.sub_zero,Nat.zero_mul];exact⟨_,rfl,hc1,fun _=>by simp[Jr,Jq]⟩
 ·show b∈(ρ kp).blk::(ρ kp).more;exact List.mem_cons_of_mem _ (List.mem_flatMap.2 ⟨_,List.mem_of_getElem? hext2,by rw[aN5 hc1];simp⟩)
theorem aZ9{ρ:Jn}{w:World}{k k':Nat}{s:Sct}(h:SatO ρ w k false (.arr (GH [s]))):SatO (Ya ρ k' ⟨(ρ k).blk,(ρ k).off,128,[]⟩) w k' false (.arr (Qr (some 128) s.l)) where
 wf:=by simp only[SO.wf,Jq];show s.l.length≤128;rw[s.h];exact Nat.le_refl _
 at_ i j d hd:=by
  obtain⟨hi,rfl,rfl⟩:=aa8.1 hd;obtain⟨v,hv,hrel⟩:=h.at_ 0 i _ (by rw[arr_cell?];show(JC s.l)[i]? = _;exact Wi.2 ⟨hi,rfl⟩);refine⟨v, ?_,hrel⟩;rw[←hv];simp only[Jr,Jq];show w.cell? ⟨_,_+(i*1+0),none⟩=w.cell? ⟨_,_+(0*128+i),none⟩;rw[show i*1+0=0*128+i from by omega]
 room ho:=by cases ho
 off0 ho:=by cases ho
 keys Φ hΦ:=by cases hΦ
 boxed b hb:=by cases hb
 fixd n hn:=by simp only[Jq];exact Option.some.inj hn
 typd t ht:=by cases ht
theorem aL4(hB:TabsOK cx.P B){t el:TypeId}{x:Operand}{lo hi:Option Operand}{k:Nat}{s:Sct}{s0 b0:Nat}{z0:List Value}{ti:TI}(ho:o.op=.slice t x lo hi none)(ht:Ji B.T t=some ⟨.array 128 el,s0,b0,z0⟩)
 (hel:Ji B.T el=some ti) (h1:ti.size=1) (hx:ev e x=.c (.p k 0 128 0)) (hl:look H k=some (false, .arr (GH [s])))
 (h:al3 e hi 128 fun j=>j≤128∧al3 e lo 0 fun i=>i≤j∧K ⟨.c (.s nx i (JV j i) 1),[k],[(nx,false, .arr (Qr (some 128) s.l))],[nx]⟩):∃f,CallOK cx o e H nx f∧K f:=by
 have hlo:∀y,lo=some y→y∈o.op.operands.toList:=fun y hy=>by simp[ho,Op.operands,hy]
 have hhi:∀y,hi=some y→y∈o.op.operands.toList:=fun y hy=>by simp[ho,Op.operands,hy]
 obtain⟨j,⟨hj,h⟩,jd,jy⟩:=UJ (P:=cx.P) (lim:=0) hhi h;obtain⟨i,⟨hi',hK⟩,id,iy⟩:=UJ (P:=cx.P) (lim:=0) hlo h;refine aD9 (by simp[ho]) hl (by simp) rfl af6 (fun n=>ak6 _ _ n) ?_ hK;intro ρ a w hr hreg;have hso:=hreg k (by simp) false _ hl;have e1:=Jg (x:=x) (by simp[ho,Op.operands]) hr;rw[hx]at e1;simp only[SV.rel,SC.rel]at e1;have hu:=ag5 hB ht w;have hsz:=QY hB hel w;have hb:(Instr.sliceBounds false 128 128 (lo.map a.eval) (hi.map a.eval) none).run cx.P w=.ok (i,j,128) w:=by
  cases lo with
  |none =>
   have:=id rfl;subst this;cases hi with
   |none=>have:=jd rfl;subst this;simp[Instr.sliceBounds]
   |some y=>obtain⟨k,hk⟩:=jy y rfl ρ a hr;simp[Instr.sliceBounds,Instr.sliceBound,hk,asIntOf,hj]
  |some u =>
   obtain⟨k',hk'⟩:=iy u rfl ρ a hr;cases hi with
   |none=>have:=jd rfl;subst this;simp[Instr.sliceBounds,Instr.sliceBound,hk',asIntOf,hi']
   |some y=>obtain⟨k,hk⟩:=jy y rfl ρ a hr;simp[Instr.sliceBounds,Instr.sliceBound,hk,hk',asIntOf,hj,hi']
 refine⟨.slice (some (if 128=i then Jr ρ k 0 else(Jr ρ k 0).add (i*1))) (j-i) (128-i),⟨(ρ k).blk,(ρ k).off,128,[]⟩, ?_, ?_,aZ9 hso, ?_, ?_⟩
 ·simp[execOp,ho,e1,Instr.sliceAt,hu,Instr.sureAddr,hb,hsz,h1]
 ·simp only[SV.rel,SC.rel,Jt,Jq];refine⟨_,rfl,by omega,fun hlt=>?_⟩;rw[if_neg (by omega),VV,Nat.zero_add];simp[Jr,Jq]
 ·have hw:1≤(ρ k).cap:=hso.wf;show 0<(ρ k).cap*128;omega
 ·show(ρ k).blk∈[(ρ k).blk];simp
theorem aL5(hB:TabsOK cx.P B){t el:TypeId}{x y:Operand}{k:Nat}{ik:IntKind}{i:Int}{s:Sct}{s0 b0:Nat}{z0:List Value}{ti:TI}(ho:o.op=.indexAddr t x y)(ht:Ji B.T t=some ⟨.array 128 el,s0,b0,z0⟩)
 (hel:Ji B.T el=some ti) (h1:ti.size=1) (hx:ev e x=.c (.p k 0 128 0)) (hl:look H k=some (false, .arr (GH [s]))) (hy:ev e y=iv ik i) (j:Nat) (hj:i=(j:Int)) (hlt:j<128)
 (hK:K ⟨.c (.p nx j 1 0),[k],[(nx,false, .arr (Qr (some 128) s.l))],[nx]⟩):∃f,CallOK cx o e H nx f∧K f:=by
 refine aD9 (by simp[ho]) hl (by simp) rfl ab6 (fun n=>ak6 _ _ n) ?_ hK;intro ρ a w hr hreg;have hso:=hreg k (by simp) false _ hl;have e1:=Jg (x:=x) (by simp[ho,Op.operands]) hr;rw[hx]at e1;simp only[SV.rel,SC.rel]at e1;have e2:=Xg (x:=y) (by simp[ho,Op.operands]) hy hr;have hu:=ag5 hB ht w;have hsz:=QY hB hel w;subst hj;refine⟨.pointer (some (Jr ρ k j)),⟨(ρ k).blk,(ρ k).off,128,[]⟩, ?_, ?_,aZ9 hso, ?_, ?_⟩
 ·simp[execOp,ho,e1,e2,Instr.indexAt,asIntOf,hu,hlt,hsz,Instr.sureAddr,VV,h1]
 ·simp only[SV.rel,SC.rel];simp[Jr,Jq]
 ·have hw:1≤(ρ k).cap:=hso.wf;show 0<(ρ k).cap*128;omega
 ·show(ρ k).blk∈[(ρ k).blk];simp
end
end Sx
end Go
namespace Go
namespace Sx
abbrev Dk:=List (Sct×Option Sct)
def Qv(D:Dk):List (Sct×Option Nat):=D.mapIdx fun i r=>(r.1,r.2.map fun _=>i)
def VY(D:Dk):List (Option Sct):=D.map (·.2)
theorem YH(D:Dk):(Qv D).length=D.length:=by simp[Qv]
theorem WR{D:Dk}{i:Nat}:(Qv D)[i]? = (D[i]?).map fun r=>(r.1,r.2.map fun _=>i):=by simp[Qv]
def pdX(kp k':Nat):Option Nat ⊕ Unit→SC
 | .inl b=>pnd kp b
 | .inr _=>.s k' 0 1 128
def ba0(kp k':Nat)(xs:List (Sct×(Option Nat ⊕ Unit))):Arr:=cr9 [kp,k'] (pdX kp k') (by
 intro b k hk
 cases b with
 |inl b=>cases b <;> simp[pdX,pnd,SC.nms]at hk ⊢;exact .inl hk
 |inr u=>simp[pdX,SC.nms]at hk ⊢;exact .inr hk) xs
def aj2(D:Dk)(i:Nat):List (Sct×(Option Nat ⊕ Unit)):=D.mapIdx fun j r=>(r.1,if j=i then .inr ()else .inl (r.2.map fun _=>j))
theorem aL6{D:Dk}{i j:Nat}:(aj2 D i)[j]? = (D[j]?).map fun r=>(r.1,if j=i then .inr ()else .inl (r.2.map fun _=>j)):=by simp[aj2]
theorem aE0{kp k':Nat}{xs:List (Sct×(Option Nat ⊕ Unit))}{i j:Nat}:(SO.arr (ba0 kp k' xs)).cell? i j=(xs[i]?).bind fun x=>(JC x.1.l++[pdX kp k' x.2])[j]?:=arr_cell? _ i j
theorem aL7{l:List UInt8}{c d:SC}{j:Nat}(hl:l.length=128)(h:(JC l++[c])[j]? = some d):(j<128∧∀c',(JC l++[c'])[j]? = some d)∨(j=128∧d=c):=by
 by_cases hj:j<128
 ·refine .inl ⟨hj,fun c'=>?_⟩;rw[List.getElem?_append_left (by rw[JB,hl];exact hj)]at h ⊢;exact h
 ·have hlt:=(List.getElem?_eq_some_iff.1 h).1;rw[List.length_append,JB,hl]at hlt;have hj2:j=128:=by simp at hlt;omega
  subst hj2;rw[Ul hl]at h;exact .inr ⟨rfl,(Option.some.inj h).symm⟩
def YY(D:Dk)(i:Nat)(q:Sct):Dk:=D.mapIdx fun j r=>if j=i then(r.1,some q)else r
theorem GC(D:Dk)(i:Nat)(q:Sct):(YY D i q).length=D.length:=by simp[YY]
theorem Um{D:Dk}{i j:Nat}{q:Sct}:(YY D i q)[j]? = (D[j]?).map fun r=>if j=i then(r.1,some q)else r:=by simp[YY]
theorem Sat.close{cx:Cx}{ρ:Jn}{s:St}{a:Act}{w:World}(h:Sat cx ρ s a w){kc kp k' nx i:Nat}{D:Dk}{q d:Sct}(hi:D[i]? = some (d,none))
 (hc:look s.H kc=some (true, .arr (ba0 kp k' (aj2 D i)))) (hp:look s.H kp=some (true, .box (WL (VY D)))) (hq:look s.H k'=some (true, .arr (GH [q])))
 (n1:kc≠kp) (n2:kc≠k') (hf:Fresh nx s) (hlt:nx<s.nx) (hn0:cx.n0≤nx) :
 ∃r,Sat cx (Ya ρ nx r) { s with H:=[(nx,true, .box (WL (VY (YY D i q)))),(kc,true, .arr (XF nx (Qv (YY D i q)))),(kp,false, .cells []),(k',false, .cells [])]++s.H } a w:=by
 have hxc:=h.heap.reg kc true _ hc;have hxp:=h.heap.reg kp true _ hp;have hxq:=h.heap.reg k' true _ hq;have hbx:=hxp.boxed _ rfl;have hfc:=(hf.heap kc true _ hc).1;have hfp:=(hf.heap kp true _ hp).1;have hfq:=(hf.heap k' true _ hq).1;have hcapq:1≤(ρ k').cap:=hxq.wf;have hoffq:(ρ k').off=0:=hxq.off0 rfl;obtain⟨vq,hvq,hrq⟩:=hxc.at_ i 128 (.s k' 0 1 128) (by rw[aE0,aL6,hi];simp only[Option.map_some,Option.bind_some,if_true];exact Ul d.h);obtain⟨aq,hvq2,_,haq⟩:=hrq;have haq:=haq (by omega);have hvq3:vq=.slice (some ⟨(ρ k').blk,0,none⟩) 1 (ρ k').cap:=by
  rw[hvq2,haq];simp[Jr,hoffq]
 let ext':List Value:=(List.range D.length).map fun j=>if j=i then vq else if(((VY D)[j]?).getD none).isSome then((ρ kp).ext[j]?).getD undef else undef
 have hext:∀j,j<D.length→ext'[j]? = some (if j=i then vq else if(((VY D)[j]?).getD none).isSome then((ρ kp).ext[j]?).getD undef else undef):=by
  intro j hj;simp[ext',hj]
 have hilt:i<D.length:=(List.getElem?_eq_some_iff.1 hi).1;refine⟨⟨(ρ k').blk,0,1,ext'⟩, ?_⟩;generalize hr:(⟨(ρ k').blk,0,1,ext'⟩:Rg)=r;have hrext:r.ext=ext':=by rw[←hr]
 have hrblk:r.blk=(ρ k').blk:=by rw[←hr]
 have hrcap:r.cap=1:=by rw[←hr]
 have hfoot:∀b∈(SO.box (WL (VY (YY D i q)))).fp r,b=(ρ k').blk∨(0<(ρ kp).cap∧b∈(SO.box (WL (VY D))).fp (ρ kp)):=by
  intro b hb;have hb:b∈r.blk::r.more:=hb;rcases List.mem_cons.1 hb with hb|hb
  ·exact .inl (by rw[hb,hrblk])
  ·obtain⟨v,hv,hbv⟩:=List.mem_flatMap.1 hb;rw[hrext]at hv;obtain⟨j,hj,hjv⟩:=List.mem_map.1 hv;have hj:=List.mem_range.1 hj;by_cases hji:j=i
   ·rw[if_pos hji]at hjv;subst hjv;rw[hvq3]at hbv;obtain⟨ad,ha,hbb,_⟩:=bm9 hbv;rw[←Option.some.inj ha]at hbb;exact .inl hbb
   ·rw[if_neg hji]at hjv;by_cases hs:(((VY D)[j]?).getD none).isSome=true
    ·rw[if_pos hs]at hjv;obtain⟨s0,hs0⟩:∃s0,(VY D)[j]? = some (some s0):=by
      cases hz:(VY D)[j]? with
      |none=>rw[hz]at hs;simp at hs
      |some z=>cases z with
       |none=>rw[hz]at hs;simp at hs
       |some s0=>exact⟨s0,rfl⟩
     obtain⟨hcap,b0,off,c,he,_⟩:=hbx j s0 hs0;refine .inr ⟨hcap, ?_⟩;show b∈(ρ kp).blk::(ρ kp).more;rw[he]at hjv;have hjv:v=.slice (some ⟨b0,off,none⟩) 1 c:=hjv.symm;exact List.mem_cons_of_mem _ (List.mem_flatMap.2 ⟨v,by rw[hjv];exact List.mem_of_getElem? he,hbv⟩)
    ·rw[if_neg hs]at hjv;subst hjv;simp[bm8,undef]at hbv
 have hnewB:(WL (VY (YY D i q))).Φ r w:=by
  intro j s0 hj;have hj:((YY D i q).map (·.2))[j]? = some (some s0):=hj;rw[List.getElem?_map,Um]at hj;cases hD:D[j]? with
  |none=>rw[hD]at hj;simp at hj
  |some rj =>
   rw[hD]at hj;simp only[Option.map_some]at hj;have hjlt:j<D.length:=(List.getElem?_eq_some_iff.1 hD).1;refine⟨by rw[hrcap];exact Nat.zero_lt_one, ?_⟩;rw[hrext,hext j hjlt];by_cases hji:j=i
   ·rw[if_pos hji]at hj ⊢;have hj:q=s0:=by simpa using hj
    subst hj;refine⟨_,_,_,by rw[hvq3],hcapq,fun m hm=>?_⟩;obtain⟨v,hv,hrel⟩:=hxq.at_ 0 m _ (by rw[arr_cell?];show(JC q.l)[m]? = _;exact Wi.2 ⟨hm,rfl⟩);have hv:w.cell? ⟨(ρ k').blk,(ρ k').off+(0*128+m),none⟩=some v:=hv;rw[hoffq,Nat.zero_mul,Nat.zero_add,Nat.zero_add]at hv;rw[Nat.zero_add,hv];exact congrArg some hrel
   ·rw[if_neg hji]at hj ⊢;have hPj:(VY D)[j]? = some (some s0):=by
     show(D.map (·.2))[j]? = _;rw[List.getElem?_map,hD];exact hj
    obtain⟨hcap,b0,off,c,he,hc1,hcell⟩:=hbx j s0 hPj;rw[if_pos (by rw[hPj];rfl),he];exact⟨b0,off,c,rfl,hc1,hcell⟩
 have hnewR:SatO (Ya ρ nx r) w kc true (.arr (XF nx (Qv (YY D i q)))) :=
  {wf:=by
    have h1:(aj2 D i).length≤(ρ kc).cap:=hxc.wf;show(Qv (YY D i q)).length≤(Ya ρ nx r kc).cap;rw[Jx hfc,YH,GC]
    simpa [aj2] using h1
   at_:=fun i' j c hcc=>by
    rw[ak9,WR,Um]at hcc;cases hD:D[i']? with
    |none=>rw[hD]at hcc;simp at hcc
    |some rj =>
     rw[hD]at hcc;simp only[Option.map_some,Option.bind_some]at hcc;have hilt':i'<D.length:=(List.getElem?_eq_some_iff.1 hD).1;have hadr:∀n,Jr (Ya ρ nx r) kc n=Jr ρ kc n:=fun n=>by simp[Jr,Jx hfc]
     have hold:∀j' c',(JC rj.1.l++[pdX kp k' (if i'=i then .inr ()else .inl (rj.2.map fun _=>i'))])[j']? = some c'→∃v,w.cell? (Jr ρ kc (i'*129+j'))=some v∧c'.rel ρ v:=by
      intro j' c' hc';exact hxc.at_ i' j' c' (by rw[aE0,aL6,hD];exact hc')
     show ∃v,w.cell? (Jr (Ya ρ nx r) kc (i'*129+j))=some v∧_;rw[hadr];by_cases hii:i'=i
     ·rw[if_pos hii]at hcc;rcases aL7 rj.1.h hcc with ⟨hj,hall⟩|⟨hj,rfl⟩
      ·obtain⟨v,hv,hrel⟩:=hold j c (hall _);refine⟨v,hv, ?_⟩;have hb:∃x,c=.v x:=by
        have:=hall .junk;rw[List.getElem?_append_left (by rw[JB,rj.1.h];exact hj)]at this;obtain⟨_,rfl⟩:=Wi.1 this;exact⟨_,rfl⟩
       obtain⟨x,rfl⟩:=hb;exact hrel
      ·subst hj;subst hii;obtain⟨v,hv,hrel⟩:=hold 128 _ (Ul rj.1.h);rw[if_pos rfl]at hrel;have hvv:v=vq:=by
        have:w.cell? (Jr ρ kc (i'*129+128))=some vq:=hvq;rw[hv]at this;exact Option.some.inj this
       refine⟨v,hv,_,_,_,by rw[hvv];exact hvq3, ?_⟩;rw[Jq,hrext,hext i' hilt',if_pos rfl,hvv]
     ·rw[if_neg hii]at hcc;rcases aL7 rj.1.h hcc with ⟨hj,hall⟩|⟨hj,rfl⟩
      ·obtain⟨v,hv,hrel⟩:=hold j c (hall _);refine⟨v,hv, ?_⟩;have hb:∃x,c=.v x:=by
        have:=hall .junk;rw[List.getElem?_append_left (by rw[JB,rj.1.h];exact hj)]at this;obtain⟨_,rfl⟩:=Wi.1 this;exact⟨_,rfl⟩
       obtain⟨x,rfl⟩:=hb;exact hrel
      ·subst hj;obtain⟨v,hv,hrel⟩:=hold 128 _ (Ul rj.1.h);rw[if_neg hii]at hrel;refine⟨v,hv, ?_⟩;cases hz:rj.2 with
       |none=>rw[hz]at hrel;exact hrel
       |some s0 =>
        rw[hz]at hrel;have hrel:(SC.ghost kp i').rel ρ v:=hrel;obtain⟨a0,l0,c0,hv0,he⟩:=hrel;have hPj:(VY D)[i']? = some (some s0):=by
         show(D.map (·.2))[i']? = _;rw[List.getElem?_map,hD,←hz];rfl
        refine⟨a0,l0,c0,hv0, ?_⟩;rw[Jq,hrext,hext i' hilt',if_neg hii,if_pos (by rw[hPj];rfl),he];rfl
   room:=fun ho hm hb n hn=>hxc.room rfl (fun _ hh=>by cases hh) (fun _ hh=>by cases hh) n (by
    have hn:n<(Ya ρ nx r kc).cap*129:=hn;rw[Jx hfc]at hn;exact hn) |> fun hh=>by
     have hadr:Jr (Ya ρ nx r) kc n=Jr ρ kc n:=by simp[Jr,Jx hfc]
     rw[hadr];exact hh
   off0:=fun _=>by rw[Jx hfc];exact hxc.off0 rfl
   keys:=fun Φ hΦ=>by cases hΦ
   boxed:=fun b hb=>by cases hb
   fixd:=fun n hn=>by cases hn
   typd:=fun t ht=>by cases ht }
 have hlook:∀j own o,look ([(nx,true,SO.box (WL (VY (YY D i q)))),(kc,true, .arr (XF nx (Qv (YY D i q)))),(kp,false, .cells []),(k',false, .cells [])]++s.H) j=some (own,o) →
  (j=nx∧own=true∧o=.box (WL (VY (YY D i q))))∨(j≠nx∧j=kc∧own=true∧o=.arr (XF nx (Qv (YY D i q))))∨(own=false∧o=.cells []) ∨
  (j≠nx∧j≠kc∧j≠kp∧j≠k'∧look s.H j=some (own,o)):=by
  intro j own o hj;simp only[List.cons_append,List.nil_append]at hj;rw[Jh]at hj;by_cases j1:j=nx
  ·rw[if_pos j1]at hj;simp at hj;exact .inl ⟨j1,hj.1,hj.2.symm⟩
  ·rw[if_neg j1,Jh]at hj;by_cases j2:j=kc
   ·rw[if_pos j2]at hj;simp at hj;exact .inr (.inl ⟨j1,j2,hj.1,hj.2.symm⟩)
   ·rw[if_neg j2,Jh]at hj;by_cases j3:j=kp
    ·rw[if_pos j3]at hj;simp at hj;exact .inr (.inr (.inl ⟨hj.1,hj.2.symm⟩))
    ·rw[if_neg j3,Jh]at hj;by_cases j4:j=k'
     ·rw[if_pos j4]at hj;simp at hj;exact .inr (.inr (.inl ⟨hj.1,hj.2.symm⟩))
     ·rw[if_neg j4]at hj;exact .inr (.inr (.inr ⟨j1,j2,j3,j4,hj⟩))
 have hroomq:0<(SO.arr (GH [q])).room (ρ k'):=by show 0<(ρ k').cap*128;omega
 have hroomp:0<(ρ kp).cap→0<(SO.box (WL (VY D))).room (ρ kp):=fun h=>h;have hfpq:(SO.arr (GH [q])).fp (ρ k')=[(ρ k').blk]:=rfl;have hsep:∀j own o,look s.H j=some (own,o)→j≠kp→j≠k'→0<o.room (ρ j)→∀b∈(SO.box (WL (VY (YY D i q)))).fp r,b∉o.fp (ρ j):=by
  intro j own o hj hjp hjq hrj b hb;rcases hfoot b hb with rfl|⟨hcap,hb⟩
  ·exact h.heap.apart k' j _ own o (Ne.symm hjq) hq hj hroomq hrj _ (by rw[hfpq];simp)
  ·exact h.heap.apart kp j _ own o (Ne.symm hjp) hp hj (hroomp hcap) hrj b hb
 refine { size:=h.size,defers:=by rw[h.defers];exact(Vt fun j hj=>Jx (by rintro rfl;exact hf.mks hj)).symm,env:=fun i=>SV.rel_upd' (h.env i) (hf.env i),heap:=?_,bnd:=?_,base:=fun j hj=>by rw[Jx (by omega)];exact h.base j hj,keep:=h.keep,n0:=h.n0 }
 ·refine { frm:=h.heap.frm,reg:=?_,apart:=?_,fresh:=?_,valid:=?_ }
  ·intro j own o hj;rcases hlook j own o hj with ⟨rfl,rfl,rfl⟩|⟨_,rfl,rfl,rfl⟩|⟨rfl,rfl⟩|⟨j1,j2,j3,j4,hjo⟩
   ·exact {
     wf := trivial, at_ := fun i j c hc => by simp[SO.cell?]at hc, room := fun _ _ hb => absurd rfl (hb _), off0 := fun _ => by rw[Jq, ←hr], keys := fun Φ hΦ => (by cases hΦ),
     boxed:=fun b hb=>(by cases hb;rw[Jq];exact hnewB),fixd:=fun n hn=>(by cases hn),typd:=fun t ht=>(by cases ht) }
   ·exact hnewR
   ·exact GM _ _ _
   ·exact(h.heap.reg j own o hjo).asg (Jx j1) (fun n hn=>Jx (by rintro rfl;have:=(hf.heap j own o hjo).2;rw[hn]at this;cases this))
  ·intro j j' o1 own' o2 hne hj hj' hr1 hr2 b hb hb';rcases hlook j true o1 hj with ⟨rfl,_,rfl⟩|⟨jn,rfl,_,rfl⟩|⟨hh,_⟩|⟨j1,j2,j3,j4,hjo⟩
   ·rw[Jq]at hb;rcases hlook j' own' o2 hj' with ⟨rfl,_,_⟩|⟨jn',rfl,rfl,rfl⟩|⟨_,rfl⟩|⟨j1',j2',j3',j4',hjo'⟩
    ·exact hne rfl
    ·rw[Jx jn']at hb' hr2;exact hsep j' true _ hc n1 n2 (show 0<(ρ j').cap*129 from hr2) b hb hb'
    ·simp[SO.room]at hr2
    ·rw[Jx j1']at hb' hr2;exact hsep j' own' o2 hjo' j3' j4' hr2 b hb hb'
   ·rw[Jx jn]at hb hr1;rcases hlook j' own' o2 hj' with ⟨rfl,_,rfl⟩|⟨jn',rfl,rfl,rfl⟩|⟨_,rfl⟩|⟨j1',j2',j3',j4',hjo'⟩
    ·rw[Jq]at hb';exact hsep j true _ hc n1 n2 (show 0<(ρ j).cap*129 from hr1) b hb' hb
    ·exact hne rfl
    ·simp[SO.room]at hr2
    ·rw[Jx j1']at hb' hr2;exact h.heap.apart j j' _ own' o2 hne hc hjo' (show 0<(ρ j).cap*129 from hr1) hr2 b hb hb'
   ·cases hh
   ·rw[Jx j1]at hb hr1;rcases hlook j' own' o2 hj' with ⟨rfl,_,rfl⟩|⟨jn',rfl,rfl,rfl⟩|⟨_,rfl⟩|⟨j1',j2',j3',j4',hjo'⟩
    ·rw[Jq]at hb';exact hsep j true o1 hjo j3 j4 hr1 b hb' hb
    ·rw[Jx jn']at hb' hr2;exact h.heap.apart j j' _ true _ hne hjo hc hr1 (show 0<(ρ j').cap*129 from hr2) b hb hb'
    ·simp[SO.room]at hr2
    ·rw[Jx j1']at hb' hr2;exact h.heap.apart j j' _ own' o2 hne hjo hjo' hr1 hr2 b hb hb'
  ·intro j o hj hr1 b hb;rcases hlook j true o hj with ⟨rfl,_,rfl⟩|⟨jn,rfl,_,rfl⟩|⟨hh,_⟩|⟨j1,j2,j3,j4,hjo⟩
   ·rw[Jq]at hb;rcases hfoot b hb with rfl|⟨hcap,hb⟩
    ·exact h.heap.fresh k' _ hq hroomq _ (by rw[hfpq];simp)
    ·exact h.heap.fresh kp _ hp (hroomp hcap) b hb
   ·rw[Jx jn]at hb hr1;exact h.heap.fresh j _ hc (show 0<(ρ j).cap*129 from hr1) b hb
   ·cases hh
   ·rw[Jx j1]at hb hr1;exact h.heap.fresh j o hjo hr1 b hb
  ·intro j own o hj hr1 b hb;rcases hlook j own o hj with ⟨rfl,_,rfl⟩|⟨jn,rfl,_,rfl⟩|⟨_,rfl⟩|⟨j1,j2,j3,j4,hjo⟩
   ·rw[Jq]at hb;rcases hfoot b hb with rfl|⟨hcap,hb⟩
    ·exact h.heap.valid k' true _ hq hroomq _ (by rw[hfpq];simp)
    ·exact h.heap.valid kp true _ hp (hroomp hcap) b hb
   ·rw[Jx jn]at hb hr1;exact h.heap.valid j true _ hc (show 0<(ρ j).cap*129 from hr1) b hb
   ·simp[SO.room]at hr1
   ·rw[Jx j1]at hb hr1;exact h.heap.valid j own o hjo hr1 b hb
 ·have hkc:=(h.bnd.heap kc true _ hc).1;have hkp:=(h.bnd.heap kp true _ hp).1;have hkq:=(h.bnd.heap k' true _ hq).1;have b1:=h.bnd.cons (own:=false) (o:=.cells []) hkq (by intro j hj;simp[SO.uses,XP]at hj);have b2:=b1.cons (own:=false) (o:=.cells []) hkp (by intro j hj;simp[SO.uses,XP]at hj);have b3:=b2.cons (own:=true) (o:=.arr (XF nx (Qv (YY D i q)))) hkc (by
   intro j hj;have hj:j∈[nx]:=by obtain⟨z,h1,h2⟩:=Qm.1 hj;simp at h2;subst h2;exact h1
   simp at hj;subst hj;exact hlt)
  exact b3.cons (own:=true) (o:=.box (WL (VY (YY D i q)))) hlt (by intro j hj;simp[SO.uses]at hj)
end Sx
end Go
namespace Go
namespace Sx
section
variable {cx:Cx} {B:Tabs} {o:Oper} {e:Env} {H:Je} {nx:Nat} {K:Eff→Prop}
theorem au3(hB:TabsOK cx.P B){t:TypeId}{ti:TI}{x y:Operand}{kc kp k' i:Nat}{D:Dk}(d q:Sct)(ho:o.op=.store t x y)(ht:Ji B.T t=some ti)(hn:ti.size=1)
 (hx:ev e x=.c (.p kc i 129 128)) (hy:ev e y=.c (.s k' 0 1 128)) (hc:look H kc=some (true, .arr (XF kp (Qv D)))) (hp:look H kp=some (true, .box (WL (VY D)))) (hq:look H k'=some (true, .arr (GH [q])))
 (hi:D[i]? = some (d,none)) (n1:kc≠kp) (n2:kc≠k')
 (hK:K ⟨.c .junk,[kc,kp,k'],[(nx,true, .box (WL (VY (YY D i q)))),(kc,true, .arr (XF nx (Qv (YY D i q)))),(kp,false, .cells []),(k',false, .cells [])],[nx]⟩):∃f,CallOK cx o e H nx f∧K f:=by
 have hrows:(Qv D)[i]? = some (d,none):=by rw[WR,hi];rfl
 have hloc:=ab7 (cx:=cx) (e:=e) (H:=H) (i:=i) (off:=128) (sz:=129) (new:=[.s k' 0 1 128]) hB ho hx ht (by rw[hn];rfl) (by omega) (fun ρ v hv=>by
  rw[hy]at hv;obtain⟨ad,rfl,h⟩:=hv;exact⟨⟨⟨ad,rfl,h⟩,trivial⟩,fun z hz=>by simp[Value.cells]at hz;subst hz;exact⟨fun _=>by simp,fun _=>by simp⟩⟩)
  (.arr (XF kp (Qv D))) (.arr (ba0 kp k' (aj2 D i))) [.s k' 0 1 128] (fun _ _ h=>h) hc (by simp) rfl ?_ (fun _=>rfl) rfl rfl rfl (.inl rfl) ?_ (by simp) rfl ?_ ?_
 ·refine⟨_,⟨?_,fun k hk=>by simp at hk;subst hk;simp⟩,hK⟩;intro ρ s a w hs hr hk hnew hdst KK Q hKK;obtain⟨hf,hlt,hn0⟩:=hnew nx (by simp);have lc:=hk kc (by simp);have lp:=hk kp (by simp);have lq:=hk k' (by simp);rw[hc]at lc;rw[hp]at lp;rw[hq]at lq;have fc:=(hf.heap kc true _ lc).1;have fp:=(hf.heap kp true _ lp).1;have fq:=(hf.heap k' true _ lq).1;refine hloc ρ s a w hs hr (fun k hk'=>hk k (by simp at hk';subst hk';simp)) (fun k hk'=>by simp at hk') hdst KK Q (fun ρ' a' w' hs' hold=>?_);have hf':Fresh nx { s with e:=putO o.dst (.c .junk) s.e,H:=[(kc,true, .arr (ba0 kp k' (aj2 D i)))]++s.H } :=
   {env:=fun i=>by
     cases hd:o.dst with
     |none=>exact hf.env i
     |some dd =>
      simp only[putO];rw[XA];by_cases hi':i=dd
      ·rw[if_pos hi'];rfl
      ·rw[if_neg hi'];exact hf.env i
    mks:=by rw[Ge];exact hf.mks
    heap:=fun j own p hj=>by
     simp only[List.cons_append,List.nil_append]at hj;rw[Jh]at hj;by_cases hjc:j=kc
     ·rw[if_pos hjc]at hj;simp at hj;obtain⟨_,rfl⟩:=hj;refine⟨by rw[hjc];exact fc, ?_⟩;cases hu:(SO.arr (ba0 kp k' (aj2 D i))).uses [nx]with
      |false=>rfl
      |true =>
       obtain⟨z,h1,h2⟩:=Qm.1 hu;simp at h2;subst h2;have h1:z∈[kp,k']:=h1;simp at h1;rcases h1 with h1|h1
       ·exact absurd h1.symm fp
       ·exact absurd h1.symm fq
     ·rw[if_neg hjc]at hj;exact hf.heap j own p hj }
  obtain⟨r,hs''⟩:=hs'.close (kc:=kc) (kp:=kp) (k':=k') (i:=i) (D:=D) (q:=q) hi (by show look ((kc,true,_)::s.H) kc=_;rw[Jh,if_pos rfl])
   (by show look ((kc,true,_)::s.H) kp=_;rw[Jh,if_neg (Ne.symm n1)];exact lp) (by show look ((kc,true,_)::s.H) k'=_;rw[Jh,if_neg (Ne.symm n2)];exact lq) n1 n2 hf' hlt hn0
  refine hKK (Ya ρ' nx r) a' w' (hs''.congr (fun _=>.inl rfl) (fun j=>?_) rfl rfl) (fun j hj=>?_)
  ·simp only[List.cons_append,List.nil_append];rw[Jh,Jh,Jh,Jh,Jh,Jh,Jh,Jh,Jh];by_cases j1:j=nx
   ·rw[if_pos j1,if_pos j1]
   ·rw[if_neg j1,if_neg j1];by_cases j2:j=kc
    ·rw[if_pos j2,if_pos j2]
    ·rw[if_neg j2,if_neg j2,if_neg j2]
  ·rw[Jx (by simpa using hj)];exact hold j (by simp)
 ·intro ρ hw;have hw:(Qv D).length≤(ρ kc).cap:=hw;have hlt:i<(Qv D).length:=(List.getElem?_eq_some_iff.1 hrows).1;show i*129+128+1≤(ρ kc).cap*129;have:=Nat.mul_le_mul_right 129 (show i+1≤(ρ kc).cap by omega);omega
 ·intro r hw;have hw:(Qv D).length≤r.cap:=hw;show(aj2 D i).length≤r.cap;rw[YH]at hw
  simpa [aj2] using hw
 ·intro r _ i' j c hcc;rw[aE0,aL6]at hcc;cases hD:D[i']? with
  |none=>rw[hD]at hcc;simp at hcc
  |some rj =>
   rw[hD]at hcc;simp only[Option.map_some,Option.bind_some]at hcc;have hjlt:j<129:=by
    have:=(List.getElem?_eq_some_iff.1 hcc).1;rw[List.length_append,JB,rj.1.h]at this;simpa using this
   show(i'*129+j<i*129+128∨i*129+128+1≤i'*129+j)∧_∨(i*129+128≤i'*129+j∧i'*129+j<i*129+128+1∧[SC.s k' 0 1 128][i'*129+j-(i*129+128)]? = some c);by_cases hii:i'=i
   ·subst hii;rw[if_pos rfl]at hcc;rcases aL7 rj.1.h hcc with ⟨hj,hall⟩|⟨rfl,rfl⟩
    ·refine .inl ⟨.inl (by omega), ?_⟩;rw[ak9,hrows];have:=hall (pnd kp none);rw[hi]at hD;cases hD;exact this
    ·refine .inr ⟨Nat.le_refl _,by omega, ?_⟩;rw[Nat.sub_self];rfl
   ·rw[if_neg hii]at hcc;refine .inl ⟨?_, ?_⟩
    ·rcases Nat.lt_or_gt_of_ne hii with hlt|hgt
     ·have:=Nat.mul_le_mul_right 129 (show i'+1≤i from hlt);left;omega
     ·have:=Nat.mul_le_mul_right 129 (show i+1≤i' from hgt);right;omega
    ·rw[ak9,WR,hD];exact hcc
 ·intro n h1 h2 j hj;have hj:j∈[kp,k']:=by obtain⟨z,h1,h2⟩:=Qm.1 hj;simp at h2;subst h2;exact h1
  simp at hj;rcases hj with rfl|rfl
  ·exact h1 j (Qm.2 ⟨j,List.mem_singleton.2 rfl,List.mem_singleton.2 rfl⟩)
  ·rw[hy,SV.below_c]at h2;exact h2 j (by simp[SC.nms])
end
end Sx
end Go
namespace Go
namespace Sx
theorem Triple.addBox{P:Program}{f:FuncId}{args:List SV}{pre:Je}{np:Nat}{r:SV}{post:Je}{k kb:Nat}{xs:List Sct}(T:Triple P f args pre np r ((k,true, .arr (JD xs))::post))
 (hkb:np≤kb) (hkk:k≠kb) (hpost:∀j own o,look post j=some (own,o)→j≠kb∧o.uses [kb]=false) (hr:r.uses [kb]=false) :
 Triple P f args pre np r ((k,true, .arr (XF kb (xs.map fun x=>(x,none))))::(kb,true, .box (WL (xs.map fun _=>none)))::post) where
 enter:=T.enter
 h ρ w vals hv hH:=by
  intro cs;obtain⟨e,w',fr,⟨ρ',v,hb,he,hrel,hS⟩,hrest⟩:=T.h ρ w vals hv hH cs;refine⟨e,w',fr,⟨Ya ρ' kb ⟨0,0,0,[]⟩,v,fun j hj=>by rw[Jx (by omega)];exact hb j hj,he,SV.rel_upd' hrel hr, ?_⟩,hrest⟩;have hk:=hS.reg k true (.arr (JD xs)) (by rw[Jh,if_pos rfl])
  have hlook:∀j own o,look ((k,true,SO.arr (XF kb (xs.map fun x=>(x,none))))::(kb,true, .box (WL (xs.map fun _=>none)))::post) j=some (own,o) →
   (j=k∧own=true∧o=.arr (XF kb (xs.map fun x=>(x,none))))∨(j=kb∧own=true∧o=.box (WL (xs.map fun _=>none)))∨(j≠k∧j≠kb∧look ((k,true,SO.arr (JD xs))::post) j=some (own,o)):=by
   intro j own o hj;rw[Jh]at hj;by_cases j1:j=k
   ·rw[if_pos j1]at hj;simp at hj;exact .inl ⟨j1,hj.1,hj.2.symm⟩
   ·rw[if_neg j1,Jh]at hj;by_cases j2:j=kb
    ·rw[if_pos j2]at hj;simp at hj;exact .inr (.inl ⟨j2,hj.1,hj.2.symm⟩)
    ·rw[if_neg j2]at hj;refine .inr (.inr ⟨j1,j2, ?_⟩);rw[Jh,if_neg j1];exact hj
  have hkl:look ((k,true,SO.arr (JD xs))::post) k=some (true, .arr (JD xs)):=by rw[Jh,if_pos rfl]
  refine { frm:=hS.frm,reg:=?_,apart:=?_,fresh:=?_,valid:=?_ }
  ·intro j own o hj;rcases hlook j own o hj with ⟨rfl,rfl,rfl⟩|⟨rfl,rfl,rfl⟩|⟨j1,j2,hjo⟩
   ·have hadr:∀n,Jr (Ya ρ' kb ⟨0,0,0,[]⟩) j n=Jr ρ' j n:=fun n=>by simp[Jr,Jx hkk]
    exact
     {wf:=by
       have h1:xs.length≤(ρ' j).cap:=hk.wf;show(xs.map fun x=>(x,none)).length≤_;rw[Jx hkk,List.length_map];exact h1
      at_:=fun i' m c hc=>by
       rw[ak9,List.getElem?_map]at hc;cases hx:xs[i']? with
       |none=>rw[hx]at hc;simp at hc
       |some x =>
        rw[hx]at hc;have hc:(JC x.l++[SC.v Qf])[m]? = some c:=hc;obtain⟨u,hu,hrel⟩:=hk.at_ i' m c (by rw[arr_cell?];show(xs[i']?).bind _=_;rw[hx];exact hc);refine⟨u,by show w'.cell? (Jr _ j (i'*129+m))=_;rw[hadr];exact hu, ?_⟩;have hnm:c.nms=[]:=by
         rcases List.mem_append.1 (List.mem_of_getElem? hc)with h1|h1
         ·exact an6 h1
         ·simp at h1;subst h1;rfl
        exact SC.rel_agree (fun k hk=>by rw[hnm]at hk;cases hk) hrel
      room:=fun ho hm hb n hn=>by
       rw[hadr];refine hk.room rfl (fun _ hh=>by cases hh) (fun _ hh=>by cases hh) n ?_;have hn:n<(Ya ρ' kb ⟨0,0,0,[]⟩ j).cap*129:=hn;rw[Jx hkk]at hn;exact hn
      off0:=fun _=>by rw[Jx hkk];exact hk.off0 rfl
      keys:=fun Φ hΦ=>(by cases hΦ),boxed:=fun b hb=>(by cases hb),fixd:=fun n hn=>(by cases hn),typd:=fun t ht=>(by cases ht) }
   ·exact {
     wf := trivial, at_ := fun i j c hc => by simp[SO.cell?]at hc, room := fun _ _ hb => absurd rfl (hb _), off0 := fun _ => by rw[Jq], keys := fun Φ hΦ => (by cases hΦ),
     boxed:=fun b hb=>(by
      cases hb;intro i s hi;rw[List.getElem?_map]at hi;cases hx:xs[i]? <;> rw[hx]at hi <;> simp at hi),fixd:=fun n hn=>(by cases hn),typd:=fun t ht=>(by cases ht) }
   ·have hju:o.uses [kb]=false:=by
     rw[Jh,if_neg j1]at hjo;exact(hpost j own o hjo).2
    exact(hS.reg j own o hjo).asg (Jx j2) (fun n hn=>Jx (by rintro rfl;rw[hju]at hn;cases hn))
  ·intro j j' o1 own' o2 hne hj hj' hr1 hr2 b hb hb';rcases hlook j true o1 hj with ⟨rfl,_,rfl⟩|⟨rfl,_,rfl⟩|⟨j1,j2,hjo⟩
   ·rw[Jx hkk]at hr1 hb;rcases hlook j' own' o2 hj' with ⟨rfl,_,_⟩|⟨rfl,rfl,rfl⟩|⟨j1',j2',hjo'⟩
    ·exact hne rfl
    ·rw[Jq]at hr2;simp[SO.room]at hr2
    ·rw[Jx j2']at hr2 hb';exact hS.apart j j' _ own' o2 hne hkl hjo' (show 0<(ρ' j).cap*129 from hr1) hr2 b hb hb'
   ·rw[Jq]at hr1;simp[SO.room]at hr1
   ·rw[Jx j2]at hr1 hb;rcases hlook j' own' o2 hj' with ⟨rfl,rfl,rfl⟩|⟨rfl,rfl,rfl⟩|⟨j1',j2',hjo'⟩
    ·rw[Jx hkk]at hr2 hb';exact hS.apart j j' _ true _ hne hjo hkl hr1 (show 0<(ρ' j').cap*129 from hr2) b hb hb'
    ·rw[Jq]at hr2;simp[SO.room]at hr2
    ·rw[Jx j2']at hr2 hb';exact hS.apart j j' o1 own' o2 hne hjo hjo' hr1 hr2 b hb hb'
  ·intro j o hj hr1 b hb;rcases hlook j true o hj with ⟨rfl,_,rfl⟩|⟨rfl,_,rfl⟩|⟨j1,j2,hjo⟩
   ·rw[Jx hkk]at hr1 hb;exact hS.fresh j _ hkl (show 0<(ρ' j).cap*129 from hr1) b hb
   ·rw[Jq]at hr1;simp[SO.room]at hr1
   ·rw[Jx j2]at hr1 hb;exact hS.fresh j o hjo hr1 b hb
  ·intro j own o hj hr1 b hb;rcases hlook j own o hj with ⟨rfl,_,rfl⟩|⟨rfl,_,rfl⟩|⟨j1,j2,hjo⟩
   ·rw[Jx hkk]at hr1 hb;exact hS.valid j true _ hkl (show 0<(ρ' j).cap*129 from hr1) b hb
   ·rw[Jq]at hr1;simp[SO.room]at hr1
   ·rw[Jx j2]at hr1 hb;exact hS.valid j own o hjo hr1 b hb
theorem Vq{A:Je}{k j:Nat}{x:Bool×SO}(hA:k∉keys A):look (A++[(k,x)]) j=if j=k then some x else look A j:=by
 rw[Yi];by_cases hj:j=k
 ·rw[if_pos hj];have:look A j=none:=by
   cases h:look A j with
   |none=>rfl
   |some y=>rw[hj]at h;exact absurd (Xm h) hA
  rw[this,hj];simp[look]
 ·rw[if_neg hj];have:look [(k,x)] j=none:=by rw[Jh,if_neg hj];rfl
  rw[this];cases look A j <;> rfl
theorem Triple.carry{P:Program}{f:FuncId}{args:List SV}{A:Je}{np:Nat}{r:SV}{post:Je}{k:Nat}{b b':Bx}(T:Triple P f args (A++[(k,false, .box b)]) np r post)
 (hA:k∉keys A) (hnd:VF (VO id (keys A))=true) (hkn:k<np) (hp:k∉keys post) (hown:∀x∈post,x.2.1=true) (himp:∀r w,b.Φ r w→b'.Φ r w) :
 Triple P f args (A++[(k,true, .box b)]) np r (post++[(k,true, .box b')]) where
 enter:=T.enter
 h ρ w vals hv hH:=by
  have hu:cC1 A:=al6 hnd;have hH':SatH w (Xi ρ (A++[(k,false, .box b)])) ρ (A++[(k,false, .box b)]) w :=
   {
    frm:=⟨Nat.le_refl _,fun _ _ _=>rfl,⟨rfl,rfl⟩,rfl,Nat.le_refl _⟩
    reg:=fun j own o hj=>by
     rw[Vq hA]at hj;by_cases hjk:j=k
     ·rw[if_pos hjk]at hj;cases hj;subst hjk;exact(hH.reg j true (.box b) (by rw[Vq hA,if_pos rfl])).less false
     ·rw[if_neg hjk]at hj;exact hH.reg j own o (by rw[Vq hA,if_neg hjk];exact hj)
    apart:=fun j j' o1 own' o2 hne hj hj' hr1 hr2=>by
     rw[Vq hA]at hj hj';by_cases hjk:j=k
     ·rw[if_pos hjk]at hj;cases hj
     ·rw[if_neg hjk]at hj;by_cases hjk':j'=k
      ·rw[if_pos hjk']at hj';cases hj';subst hjk';exact hH.apart j j' o1 true _ hne (by rw[Vq hA,if_neg hjk];exact hj) (by rw[Vq hA,if_pos rfl]) hr1 hr2
      ·rw[if_neg hjk']at hj';exact hH.apart j j' o1 own' o2 hne (by rw[Vq hA,if_neg hjk];exact hj) (by rw[Vq hA,if_neg hjk'];exact hj') hr1 hr2
    fresh:=fun j o hj hr1 c hc=>.inr (XZ.2 ⟨j,o,Qd hj,hr1,hc⟩)
    valid:=fun j own o hj hr1=>by
     rw[Vq hA]at hj;by_cases hjk:j=k
     ·rw[if_pos hjk]at hj;cases hj;subst hjk;exact hH.valid j true _ (by rw[Vq hA,if_pos rfl]) hr1
     ·rw[if_neg hjk]at hj;exact hH.valid j own o (by rw[Vq hA,if_neg hjk];exact hj) hr1 }
  have hkl:look (A++[(k,true,SO.box b)]) k=some (true, .box b):=by rw[Vq hA,if_pos rfl]
  have hsub:∀c,c∈Xi ρ (A++[(k,false, .box b)])→∃j o,look (A++[(k,true,SO.box b)]) j=some (true,o)∧j≠k∧0<o.room (ρ j)∧c∈o.fp (ρ j):=by
   intro c hc;obtain⟨j,o,hm,hr1,hcf⟩:=XZ.1 hc;rcases List.mem_append.1 hm with hma|hma
   ·have hjk:j≠k:=by
     rintro rfl
     exact hA (Xm (hu j true o hma))
    exact⟨j,o,by rw[Vq hA,if_neg hjk];exact hu j true o hma,hjk,hr1,hcf⟩
   ·simp at hma
  have hmem:∀c,c∈Xi ρ (A++[(k,false, .box b)])→c∈Xi ρ (A++[(k,true, .box b)]):=by
   intro c hc;obtain⟨j,o,hl,_,hr1,hcf⟩:=hsub c hc;exact XZ.2 ⟨j,o,Qd hl,hr1,hcf⟩
  intro cs;obtain⟨e,w',fr,⟨ρ',v,hb,he,hrel,hS⟩,hrest⟩:=T.h ρ w vals hv hH' cs;refine⟨e,w',fr,⟨ρ',v,hb,he,hrel, ?_⟩,hrest⟩;have hbk:=hH.reg k true _ hkl;have hdis:0<(SO.box b).room (ρ k)→∀c∈(SO.box b).fp (ρ k),c<w.heap.size∧c∉Xi ρ (A++[(k,false, .box b)]):=by
   intro hrk c hc;refine⟨hH.valid k true _ hkl hrk c hc,fun hcm=>?_⟩;obtain⟨j,o,hl,hjk,hr1,hcf⟩:=hsub c hcm;exact hH.apart j k o true _ hjk hl hkl hr1 hrk c hcf hc
  have hbk':=hbk.world (w':=w') (fun hrk c hc=>hS.frm.same c (hdis hrk c hc).1 (hdis hrk c hc).2);have hρk:ρ' k=ρ k:=hb k hkn;have hlook:∀j own o,look (post++[(k,true,SO.box b')]) j=some (own,o)→(j=k∧own=true∧o=.box b')∨(j≠k∧own=true∧look post j=some (true,o)):=by
   intro j own o hj;rw[Vq hp]at hj;by_cases hjk:j=k
   ·rw[if_pos hjk]at hj;cases hj;exact .inl ⟨hjk,rfl,rfl⟩
   ·rw[if_neg hjk]at hj;have:own=true:=hown _ (Qd hj);subst this;exact .inr ⟨hjk,rfl,hj⟩
  have hsep:∀j o,look post j=some (true,o)→0<o.room (ρ' j)→0<(SO.box b).room (ρ k)→∀c∈o.fp (ρ' j),c∉(SO.box b).fp (ρ k):=by
   intro j o hj hr1 hr2 c hc hc';have hd:=hdis hr2 c hc';rcases hS.fresh j o hj hr1 c hc with h1|h1
   ·omega
   ·exact hd.2 h1
  refine { frm:=⟨hS.frm.size,fun c hc hM=>hS.frm.same c hc (fun h=>hM (hmem c h)),hS.frm.io,hS.frm.quiet⟩,reg:=?_,apart:=?_,fresh:=?_,valid:=?_ }
  ·intro j own o hj;rcases hlook j own o hj with ⟨rfl,rfl,rfl⟩|⟨hjk,rfl,hjo⟩
   ·exact {
     wf := trivial, at_ := fun i j c hc => by simp[SO.cell?]at hc, room := fun _ _ hb => absurd rfl (hb _), off0 := fun _ => by rw[hρk];exact hbk.off0 rfl, keys := fun Φ hΦ => (by cases hΦ),
     boxed:=fun b0 hb0=>(by cases hb0;rw[hρk];exact himp _ _ (hbk'.boxed b rfl)),fixd:=fun n hn=>(by cases hn),typd:=fun t ht=>(by cases ht) }
   ·exact hS.reg j true o hjo
  ·intro j j' o1 own' o2 hne hj hj' hr1 hr2 c hc hc';rcases hlook j true o1 hj with ⟨rfl,_,rfl⟩|⟨hjk,_,hjo⟩
   ·rcases hlook j' own' o2 hj' with ⟨rfl,_,_⟩|⟨hjk',_,hjo'⟩
    ·exact hne rfl
    ·rw[hρk]at hr1 hc;exact hsep j' o2 hjo' hr2 hr1 c hc' hc
   ·rcases hlook j' own' o2 hj' with ⟨rfl,_,rfl⟩|⟨hjk',rfl,hjo'⟩
    ·rw[hρk]at hr2 hc';exact hsep j o1 hjo hr1 hr2 c hc hc'
    ·exact hS.apart j j' o1 true o2 hne hjo hjo' hr1 hr2 c hc hc'
  ·intro j o hj hr1 c hc;rcases hlook j true o hj with ⟨rfl,_,rfl⟩|⟨hjk,_,hjo⟩
   ·rw[hρk]at hr1 hc;exact .inr (XZ.2 ⟨j,_,Qd hkl,hr1,hc⟩)
   ·rcases hS.fresh j o hjo hr1 c hc with h1|h1
    ·exact .inl h1
    ·exact .inr (hmem c h1)
  ·intro j own o hj hr1 c hc;rcases hlook j own o hj with ⟨rfl,_,rfl⟩|⟨hjk,_,hjo⟩
   ·rw[hρk]at hr1 hc;exact Nat.lt_of_lt_of_le (hH.valid j true _ hkl hr1 c hc) hS.frm.size
   ·exact hS.valid j true o hjo hr1 c hc
theorem Un{α:Type}{sz:Nat}{enc enc':α→List SC}{nm nm':List Nat}{hl:∀x,(enc x).length=sz}{hl':∀x,(enc' x).length=sz}{hn:∀x c,c∈enc x→∀k∈c.nms,k∈nm}{hn':∀x c,c∈enc' x→∀k∈c.nms,k∈nm'}
 {xs:List α} {fx:Option Nat} {ty:Option TypeId} (h1:enc=enc') (h2:nm=nm'):(⟨α,sz,enc,nm,hl,hn,xs,fx,ty⟩:Arr)=⟨α,sz,enc',nm',hl',hn',xs,fx,ty⟩:=by
 subst h1;subst h2;rfl
theorem bK9{σ:Nat→Nat}(l:List UInt8):KT σ (JC l)=JC l:=by
 induction l with
 |nil=>rfl
 |cons b l ih=>show SC.ren σ _::KT σ (JC l)=_;rw[ih];rfl
theorem JI{σ:Nat→Nat}{k kp:Nat}{xs:List (Sct×Option Nat)}(h:σ k=kp):XF kp xs=(XF k xs).ren σ:=by
 subst h;refine Un (funext fun x=>?_) rfl;show _=KT σ (JC x.1.l++[pnd k x.2]);rw[af8,List.map_append,←af8,bK9];cases x.2 <;> rfl
end Sx
end Go
namespace Go
namespace Sx
section
variable {cx:Cx} {B:Tabs} {o:Oper} {e:Env} {H:Je} {nx:Nat} {K:Eff→Prop}
theorem ba1(hB:TabsOK cx.P B){c:Call}{x y:Operand}{t t' el s0 b0:TypeId}{z0:List Value}{ti:TI}{k st len n m:Nat}{fx:Option Nat}{l ys:List UInt8}{rd:List Nat}(ho:o.op=.call c)(hc:c.callee=.builtin .copy)(hca:c.args=#[x,y])(hct:c.argTypes=#[t,t'])
 (ht:Ji B.T t=some ⟨.slice el,s0,b0,z0⟩) (hti:Ji B.T el=some ti) (h1:ti.size=1) (hx:ev e x=.c (.s k st len 1)) (hl:look H k=some (true, .arr (Qr fx l))) (hle:st+len≤l.length) (hn:min len m=n) (hys:ys.length=n) (hkr:k∈rd)
 (hsrc:∀(ρ:Jn) (a:Act) (w:World),(∀z,z∈o.op.operands.toList→(ev e z).rel ρ (a.eval z))→(∀j∈rd,∀own p,look H j=some (own,p)→SatO ρ w j own p) →
  (Builtin.lenOf (a.eval y)).run cx.P w=.ok m w∧(Builtin.firstCells 1 n (a.eval y)).run cx.P w=.ok (Js ys).toArray w)
 (hK:K ⟨iv .i64 n,rd,[(k,true, .arr (Qr fx (Qh l st ys)))],[]⟩):∃f,CallOK cx o e H nx f∧K f:=by
 have hmx:x∈o.op.operands.toList:=by simp[ho,Op.operands,Call.operands,hc,hca]
 refine⟨_,⟨?_,fun j hj=>by cases hj⟩,hK⟩;intro ρ s a w hs hr hk _ hdst KK Q hKK;have hl1:look s.H k=some (true, .arr (Qr fx l)):=by rw[hk k hkr];exact hl
 have hfit:∀z,z∈o.op.operands.toList→(ev e z).rel ρ (a.eval z):=fun z hz=>Jg hz (fun t ht=>by rw[←hr t ht];exact hs.env t);obtain⟨hlen,hfc⟩:=hsrc ρ a w hfit (fun j hj own p hp=>hs.heap.reg j own p (by rw[hk j hj];exact hp));have hx1:=hfit x hmx;rw[hx]at hx1;obtain⟨ad,hxv,hcap,had⟩:=hx1;have hwf:l.length≤(ρ k).cap:=(hs.heap.reg k true _ hl1).wf
 obtain⟨hst,hsat⟩:=aK1 (A:=Qr fx l) (ys:=ys) (vs:=Js ys) (st:=st) hs hl1 (by show st+ys.length≤l.length;omega) (by rw[Jo];exact(Nat.mul_one _).symm)
  (fun i j xx cc hxx hcc=>by
   have hcc:[SC.v (.int .u8 xx.toNat)][j]? = some cc:=hcc;cases j with
   |succ j=>simp at hcc
   |zero =>
    simp at hcc;subst hcc;obtain⟨hi,rfl⟩:=List.getElem?_eq_some_iff.1 hxx;exact⟨_,by show(Js ys)[i*1+0]? = _;rw[Nat.mul_one,Nat.add_zero];exact Wh hi,rfl⟩) aC5
 have hst:∀P,(storeCells (Jr ρ k (st*1)) (Js ys) 0).run P w=.ok () (setCells w (ρ k).blk (st*1) (Js ys)):=hst;have hrun:(execOp a.eval o).run cx.P w=.ok (.value (.int .i64 n)) (setCells w (ρ k).blk (st*1) (Js ys)):=by
  have hrun0:=Vr (P:=cx.P) ho hc a w;rw[hca,hct]at hrun0;rw[hrun0];have hmin:Nat.min m len=n:=by rw[←hn];exact Nat.min_comm _ _
  have hsize:=QY hB hti w;rw[h1]at hsize;simp only[List.map_toArray,List.map_cons,List.map_nil,builtin,Builtin.copy_,hxv];rcases Nat.eq_zero_or_pos n with h0|hpos
  ·subst h0;have hy0:ys=[]:=List.length_eq_zero_iff.1 hys;subst hy0;have hbn:Js []=[]:=rfl;rw[hbn]at hfc ⊢;simp only[setCells];cases ad with
   |none=>simp[run_underlying (QX hB ht),hlen,hmin,hsize,hfc,goInt]
   |some b=>simp[run_underlying (QX hB ht),hlen,hmin,hsize,hfc,goInt,storeCells]
  ·rw[had (by omega)];have hst':=hst cx.P;simp only[Nat.mul_one]at hst' ⊢;simp[run_underlying (QX hB ht),hlen,hmin,hsize,hfc,goInt,hst']
 refine JQ (by simp[ho]) hrun (hKK ρ _ _ ?_ (fun _ _=>rfl));exact hsat.putO hdst rfl (YJ _ _ _)
theorem KA(hB:TabsOK cx.P B){c:Call}{x y:Operand}{t t' el s0 b0:TypeId}{z0:List Value}{ti:TI}{k st len n:Nat}{fx:Option Nat}{l l':List UInt8}(ho:o.op=.call c)(hc:c.callee=.builtin .copy)(hca:c.args=#[x,y])(hct:c.argTypes=#[t,t'])
 (ht:Ji B.T t=some ⟨.slice el,s0,b0,z0⟩) (hti:Ji B.T el=some ti) (h1:ti.size=1) (hx:ev e x=.c (.s k st len 1)) (hl:look H k=some (true, .arr (Qr fx l))) (hle:st+len≤l.length) (hy:ev e y=YC l') (hn:min len l'.length=n)
 (hK:K ⟨iv .i64 n,[k],[(k,true, .arr (Qr fx (Qh l st (l'.take n))))],[]⟩):∃f,CallOK cx o e H nx f∧K f:=by
 have hmy:y∈o.op.operands.toList:=by simp[ho,Op.operands,Call.operands,hc,hca]
 refine ba1 hB (rd:=[k]) (m:=l'.length) ho hc hca hct ht hti h1 hx hl hle hn (by rw[List.length_take];omega) (by simp) ?_ hK;intro ρ a w hfit hreg;have hv:=hfit y hmy;rw[hy]at hv;have hv:a.eval y=.string (S l'):=hv;rw[hv];refine⟨by simp[Builtin.lenOf,bq7], ?_⟩;simp only[Builtin.firstCells,Sem.run_pure];congr 1;apply Array.toList_inj.1;rw[bh5,List.drop_zero];simp[S,Js]
theorem ba2(hB:TabsOK cx.P B){c:Call}{x y:Operand}{t t' el s0 b0:TypeId}{z0:List Value}{ti:TI}{k k' st len st' len' n:Nat}{own:Bool}{fx fx':Option Nat}{l l':List UInt8}(ho:o.op=.call c)(hc:c.callee=.builtin .copy)(hca:c.args=#[x,y])(hct:c.argTypes=#[t,t'])
 (ht:Ji B.T t=some ⟨.slice el,s0,b0,z0⟩) (hti:Ji B.T el=some ti) (h1:ti.size=1) (hx:ev e x=.c (.s k st len 1)) (hl:look H k=some (true, .arr (Qr fx l))) (hle:st+len≤l.length)
 (hy:ev e y=.c (.s k' st' len' 1)) (hl':look H k'=some (own, .arr (Qr fx' l'))) (hle':st'+len'≤l'.length) (hn:min len len'=n)
 (hK:K ⟨iv .i64 n,[k,k'],[(k,true, .arr (Qr fx (Qh l st ((l'.drop st').take n))))],[]⟩):∃f,CallOK cx o e H nx f∧K f:=by
 have hmy:y∈o.op.operands.toList:=by simp[ho,Op.operands,Call.operands,hc,hca]
 refine ba1 hB (rd:=[k,k']) (m:=len') ho hc hca hct ht hti h1 hx hl hle hn (by rw[List.length_take,List.length_drop];omega) (by simp) ?_ hK;intro ρ a w hfit hreg;have hv:=hfit y hmy;rw[hy]at hv;obtain⟨ad,hv,hcap,had⟩:=hv;have hso:=hreg k' (by simp) own _ hl';have hwf:l'.length≤(ρ k').cap:=hso.wf;rw[hv];refine⟨by simp[Builtin.lenOf], ?_⟩;have hlen:(Js ((l'.drop st').take n)).length=n:=by rw[Jo,List.length_take,List.length_drop];omega
 rcases Nat.eq_zero_or_pos n with h0|hpos
 ·subst h0;have e0:(l'.drop st').take 0=[]:=rfl;rw[e0];cases ad with
  |none=>rfl
  |some b =>
   have:=Vx (P:=cx.P) (w:=w) (a:=b) (vs:=[]) (by simp)
   simpa [Builtin.firstCells,Js] using this
 ·rw[had (by omega)];simp only[Builtin.firstCells,Nat.mul_one];have:=Vx (P:=cx.P) (w:=w) (a:=Jr ρ k' (st'*1)) (vs:=Js ((l'.drop st').take n)) (fun j v hj=>by
   have hjn:j<n:=by have:=(List.getElem?_eq_some_iff.1 hj).1;omega
   have hjl:j<((l'.drop st').take n).length:=by rw[Jo]at hlen;omega
   rw[Wh hjl]at hj;obtain⟨u,hu,hrel⟩:=hso.at_ (st'+j) 0 _ (aa8.2 ⟨by omega,rfl,rfl⟩);have hu:w.cell? (Jr ρ k' ((st'+j)*1+0))=some u:=hu;rw[VV,show st'*1+j=(st'+j)*1+0 from by omega,hu,←hj];have hrel:u=.int .u8 (l'[st'+j]'(by omega)).toNat:=hrel;rw[hrel,List.getElem_take,List.getElem_drop])
  rw[hlen,Nat.mul_one]at this;exact this
end
end Sx
end Go
namespace Go
namespace Sx
variable {cx:Cx} {B:Tabs} {o:Oper} {e:Env} {H:Je} {nx:Nat} {K:Eff→Prop}
abbrev ci6(s:Sct):Value:=.agg (Js s.l++[Qf]).toArray
theorem ci7{ρ:Jn}{s:Sct}{v:Value}(h:(SV.c (.v (ci6 s))).rel ρ v):(SV.pk (Js s.l) [.v Qf]).rel ρ v:=by
 simp only[SV.rel,SC.rel]at h;subst h;exact⟨[Qf],rfl,rfl,trivial⟩
theorem ay8(hB:TabsOK cx.P B){t:TypeId}{ti:TI}{x y:Operand}{k i:Nat}(A:Arr)(s s':Sct)(c:SC)(ho:o.op=.store t x y)(ht:Ji B.T t=some ti)(hn:ti.size=129)
 (hx:ev e x=.c (.p k i 129 0)) (hy:ev e y=.c (.v (ci6 s'))) (hl:look H k=some (true, .arr A)) (hA:A.sz=129) (hi:i<A.xs.length) (he:A.enc (A.xs[i]'hi)=JC s.l++[c]) (x':A.α) (hx':A.enc x'=JC s'.l++[.v Qf])
 (hK:K ⟨.c .junk,[k],[(k,true, .arr (A.setXs (A.xs.set i x')))],[]⟩):∃f,CallOK cx o e H nx f∧K f :=
 aa0 hB A ho ht hx hl hA.symm (new:=JC s'.l++[.v Qf]) (by rw[List.length_append,JB,s'.h,hn];rfl) (by omega) (by rw[List.length_append,JB,s'.h,hA];exact Nat.le_refl _)
  (fun ρ v hv=>by rw[hy]at hv;exact aD6 (fun u hu=>aD7 (kp:=0) (b:=none) hu) (ci7 hv))
  hi x' (by rw[hx',he,aZ7 s.h s'.h]) hK
theorem Kn(s:Sct) :
 (∀j v,(Js s.l++[Qf])[j]? = some v→∃i' j',i'*(JD [s]).sz+j'=j∧(SO.arr (JD [s])).cell? i' j'=some (.v v))∧(Js s.l++[Qf]).length=129:=by
 refine⟨fun j v hv=>⟨0,j,by show 0*129+j=j;omega, ?_⟩,by rw[List.length_append,Jo,s.h];rfl⟩;rw[arr_cell?];show(JC s.l++[SC.v Qf])[j]? = _;by_cases hj:j<s.l.length
 ·rw[List.getElem?_append_left (by rw[Jo];exact hj),Wh hj]at hv;cases hv;rw[List.getElem?_append_left (by rw[JB];exact hj)];have:∀(l:List UInt8) (j:Nat) (h:j<l.length),(JC l)[j]? = some (.v (.int .u8 (l[j].toNat:Int))):=by
   intro l
   induction l with
   |nil=>intro j h;cases h
   |cons b l ih =>
    intro j h;cases j with
    |zero=>rfl
    |succ j=>exact ih j (by simpa using h)
  exact this _ _ hj
 ·rw[List.getElem?_append_right (by rw[Jo];omega),Jo]at hv;rw[List.getElem?_append_right (by rw[JB];omega),JB];cases hk:j-s.l.length with
  |zero=>rw[hk]at hv;cases hv;rfl
  |succ m=>rw[hk]at hv;cases hv
end Sx
end Go
