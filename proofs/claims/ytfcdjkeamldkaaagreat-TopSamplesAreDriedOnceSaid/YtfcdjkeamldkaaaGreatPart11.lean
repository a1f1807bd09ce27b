/-
  A part of the proof that a law answers true: lemmas of a symbolic walk, plain functions, or contracts of the functions walked (Sx53, Sx54, Sx55, Sx56, U2, U3, U4, U5). Conditions: none.
-/
import Derived.Test.YtfcdjkeamldkaaaGreatPart10
import Derived.Lib.Builder
import Derived.Lib.UnsafeStr
import Derived.Laws.Externs
import Derived.Test.YtfcdjkeamldkaaaGreatPart09
set_option maxRecDepth 100000
set_option linter.unusedVariables false
set_option linter.unusedSimpArgs false
namespace Go
namespace Sx
set_option maxHeartbeats 1000000 in
theorem bC8{cx:Cx}{B:Tabs}(hB:TabsOK cx.P B){o:Oper}{c:Call}{x y:Operand}{t t' el s0 b0:Nat}{z0:List Value}{ti:TI}(A0:Arr)(Z:List A0.α)(news:List Value)
 (hone:∀x,Vs (A0.enc x)=true) (hfx:A0.fx=none) (hty:∀t',A0.ty=some t'→el=t') (ho:o.op=.call c) (hc:c.callee=.builtin .append) (hca:c.args=#[x,y]) (hct:c.argTypes=#[t,t'])
 (ht:Ji B.T t=some ⟨.slice el,s0,b0,z0⟩) (hti:Ji B.T el=some ti) {k len m sz:Nat}
 (hb1:ti.size=sz) (hb3:1≤sz) (hb4:sz=A0.sz) {ρ:Jn} {s:St} {a:Act} {w:World} (hs:Sat cx ρ s a w)
 (hl1:look s.H k=some (true, .arr A0)) (hsrc:Src cx.P A0.sz t' (a.eval y) m news w) (h1:len≤A0.xs.length) (hZ:Z.length=m) (hnl:news.length=m*A0.sz)
 (hflat:∀j,j<m*A0.sz→∃v xx cc,Z[j/A0.sz]? = some xx∧(A0.enc xx)[j%A0.sz]? = some cc∧news[j]? = some v∧cc.rel ρ v) (h3:(len+m)*(ti.bytes+1)≤140737488355328)
 (hx1:(SC.s k 0 len sz).rel ρ (a.eval x)) {nx:Nat} (hfr:Fresh nx s) (hlt:nx<s.nx) (hn0:cx.n0≤nx) (hdst:∀d,o.dst=some d→d<cx.nt∧af2 cx.md d=true)
 {KK:Act→World→Prop} {Q:Exit→Act→World→Prop}
 (hKK:∀ρ' a' w',Sat cx ρ' { s with e:=putO o.dst (.c (.s nx 0 (len+m) sz)) s.e,H:=[(nx,true, .arr (A0.setXs (A0.xs.take len++Z))),(k,false, .cells [])]++s.H } a' w'→(∀j,j∉[nx]→ρ' j=ρ j)→KK a' w') :
 o.wpIn (WF cx.rd) 0 cx.P a w KK Q:=by
 simp only[SC.rel,Nat.sub_zero,Nat.zero_mul,Nat.zero_add]at hx1;obtain⟨ad,hxv,hcap,had⟩:=hx1;have hs1:=hs.heap.reg k true _ hl1;obtain⟨i,z,hi,hz,hisz,hiby,hzz⟩:=Gg hB hti;have hisz':i.size=A0.sz:=by omega
 have hoff:=hs1.off0 rfl;have hwf:=hs1.wf;simp only[SO.wf]at hwf;have hroom:=fun n hn=>hs1.room rfl (by simp) (by simp) n hn;simp only[SO.room]at hroom;have hrun0:=Vr (P:=cx.P) ho hc a w;rw[hca,hct]at hrun0;have hbelow:(SO.arr (A0.setXs (A0.xs.take len++Z))).below s.nx:=fun j hj=>(hs.bnd.heap k true _ hl1).2 j hj;have hnmf:∀ {r:Rg} {j:Nat},(SO.arr A0).uses [j]=true→Ya ρ nx r j=ρ j:=fun hj=>Jx (by rintro rfl;have:=(hfr.heap k true _ hl1).2;rw[hj]at this;cases this);have hrelf:∀ {r:Rg} {xx:A0.α} {j:Nat} {cc:SC} {v:Value},(A0.enc xx)[j]? = some cc→cc.rel ρ v→cc.rel (Ya ρ nx r) v:=fun hj hcc =>
  SC.rel_agree (fun n hn=>hnmf (Qm.2 ⟨n,A0.hn _ _ (List.mem_of_getElem? hj) n hn,by simp⟩)) hcc
 have hlenM:(A0.xs.take len++Z).length=len+m:=by simp;omega
 have hapg:∀ {i':Nat},i'<len+m→(A0.xs.take len++Z)[i']? = if i'<len then A0.xs[i']? else Z[i'-len]?:=by
  intro i' hi';have hlt:(A0.xs.take len).length=len:=by rw[List.length_take];omega
  by_cases hil:i'<len
  ·rw[if_pos hil,List.getElem?_append_left (by omega),List.getElem?_take,if_pos hil]
  ·rw[if_neg hil,List.getElem?_append_right (by omega),hlt]
 by_cases hfits:len+m≤(ρ k).cap
 ·
   have hle3:(len+m)*A0.sz≤(ρ k).cap*A0.sz:=Nat.mul_le_mul_right _ hfits;rw[Nat.add_mul]at hle3;have hrun:(execOp a.eval o).run cx.P w=.ok (.value (.slice ad (len+m) (ρ k).cap)) (setCells w (ρ k).blk (len*A0.sz) (news)):=by
    rw[hrun0];rcases Nat.eq_zero_or_pos (ρ k).cap with hc0|hc0
    ·have hl0:len=0:=by omega
     have hm0:m=0:=by omega
     subst hl0;subst hm0;have hn00:news=[]:=List.length_eq_zero_iff.1 (by rw[hnl,Nat.zero_mul]);subst hn00;simp only[setCells];have hcells:=hsrc.cells;have hlen:=hsrc.len;rw[←hisz']at hcells;rcases hsrc.kind with ⟨e',hk⟩|hk <;> cases ad <;> simp[builtin,Builtin.append_,run_underlying (QX hB ht),run_underlying hk,sizeOf,typeInfo,hi,hxv,hlen,hcells,storeCells,hc0]
    ·have hsrc':=hsrc;rw[←hisz']at hsrc';have:=run_append_room_src (P:=cx.P) w t t' o.type el i (QX hB ht) hi (ρ k).blk 0 len (ρ k).cap _ m _ hsrc' hfits (fun j hj=>by
      have:=(hroom (len*A0.sz+j) (by rw[hnl]at hj;omega)).1;obtain⟨v,hv⟩:=this;simp only[Jr,hoff,Nat.zero_add]at hv;simp[hisz',hv]) (fun j hj=>by
      have:=(hroom (len*A0.sz+j) (by rw[hnl]at hj;omega)).2
      simpa [Jr,hoff,hisz'] using this)
     have had0:ad=some ⟨(ρ k).blk,0,none⟩:=by rw[had hc0];simp[Jr,hoff]
     simp only[List.map_toArray,List.map_cons,List.map_nil,builtin,hxv,had0,Sem.run_bind,this,Result.andThen_ok,Sem.run_pure,Nat.zero_add,aq4,hisz']
   refine JQ (by simp[ho]) hrun (hKK (Ya ρ nx ⟨(ρ k).blk,(ρ k).off,(ρ k).cap,[]⟩) _ _ ?_ (fun j hj=>Jx (by simpa using hj)))
   have hsat:=hs.retake (n:=len*A0.sz) (cap:=(ρ k).cap) (vs:=news) (o':=.arr (A0.setXs (A0.xs.take len++Z))) hl1 hfr hlt hn0
    (by simp[SO.room,Arr.setXs]) (fun h0=>by
     simp only[SO.room]at h0;have:m*A0.sz=0:=by omega
     exact List.length_eq_zero_iff.1 (by rw[hnl,this])) hbelow ?_
   ·refine hsat.putO hdst ?_ (by rw[SV.below_c];intro j hj;simp[SC.nms]at hj;subst hj;exact hlt);simp only[SV.rel,SC.rel,Jq,Nat.sub_zero,Nat.zero_mul,Nat.zero_add];exact⟨ad,rfl,hfits,fun hpos=>by rw[had hpos];simp[Jr,Jq]⟩
   ·have hcellS:=Gr w (ρ k).blk (len*A0.sz) (news) (fun j hj=>by
     rw[hnl]at hj;have:=(hroom (len*A0.sz+j) (by omega)).1
     simpa [Jr,hoff] using this)
    refine⟨by simp only[SO.wf,Arr.setXs,Jq];rw[hlenM];exact hfits, ?_, ?_,fun _=>by rw[Jq];exact hoff,(fun _ h=>by cases h),(fun _ h=>by cases h),(fun n h=>by rw[Jq];exact hs1.fixd n h),(fun t h hr=>by rw[Jq]at hr ⊢;exact KR _ _ _ (hs1.typd t h hr))⟩
    ·intro i' j cc hcc;rw[ad6]at hcc;cases hxx:(A0.xs.take len++Z)[i']? with
     |none=>simp[hxx]at hcc
     |some xx =>
      simp only[hxx,Option.bind_some]at hcc;have hi':i'<len+m:=by have:=(List.getElem?_eq_some_iff.1 hxx).1;omega
      have hj:j<A0.sz:=by have:=(List.getElem?_eq_some_iff.1 hcc).1;rw[A0.hl]at this;exact this
      rw[hapg hi']at hxx;simp only[Jr,Jq,hoff,Nat.zero_add,SO.sz,Arr.setXs,hcellS,hnl];by_cases hil:i'<len
      ·rw[if_pos hil]at hxx;have hle2:i'*A0.sz+j<len*A0.sz:=by
        have:=Nat.mul_le_mul_right A0.sz (show i'+1≤len from hil);rw[Nat.add_mul]at this;omega
       rw[if_neg (by omega)];obtain⟨v,hv,hvr⟩:=hs1.at_ i' j cc (by simp only[SO.cell?,hxx];exact hcc);exact⟨v,by simpa [Jr,hoff,SO.sz] using hv,hrelf hcc hvr⟩
      ·rw[if_neg hil]at hxx;have hge:len*A0.sz≤i'*A0.sz:=Nat.mul_le_mul_right _ (by omega);have hle2:i'*A0.sz+j<len*A0.sz+m*A0.sz:=by
        have:=Nat.mul_le_mul_right A0.sz (show i'+1≤len+m from hi');rw[Nat.add_mul,Nat.add_mul]at this;omega
       rw[if_pos ⟨by omega,hle2⟩];have hsub:i'*A0.sz+j-len*A0.sz=(i'-len)*A0.sz+j:=by
        rw[Nat.sub_mul];omega
       obtain⟨v,x2,c2,q1,q2,q3,q4⟩:=hflat ((i'-len)*A0.sz+j) (by omega);have e1:((i'-len)*A0.sz+j)/A0.sz=i'-len:=by rw[Nat.mul_comm,Nat.mul_add_div (by omega),Nat.div_eq_of_lt hj];simp
       have e2:((i'-len)*A0.sz+j)%A0.sz=j:=by rw[Nat.mul_comm,Nat.mul_add_mod,Nat.mod_eq_of_lt hj]
       rw[e1,hxx]at q1;rw[e2]at q2;simp at q1;subst q1;rw[hcc]at q2;simp at q2;subst q2;exact⟨v,by rw[hsub];exact q3,hrelf hcc q4⟩
    ·intro _ _ _ n hn;simp only[SO.room,Arr.setXs,Jq]at hn;simp only[Jr,Jq,hoff,Nat.zero_add];have:=hroom n hn;simp only[Jr,hoff,Nat.zero_add]at this;refine⟨?_,by rw[Kt];exact this.2⟩;rw[hcellS];by_cases hin:len*A0.sz≤n∧n<len*A0.sz+(news).length
     ·rw[if_pos hin];exact⟨(news)[n-len*A0.sz]'(by omega),by rw[List.getElem?_eq_getElem]⟩
     ·rw[if_neg hin];exact this.1
 ·
   have hsrc':=hsrc;rw[←hisz']at hsrc';have hsrc1:SatO ρ w k true (.arr A0):=hs1;have hold:=aY0 hB ht hs1 (st:=0) (m:=len) (c:=(ρ k).cap) (by omega) hone (a:=ad) (fun hpos=>by rw[had (by omega)];simp)
   have hrunA:=run_append_grow_src (P:=cx.P) w t t' o.type el i z (QX hB ht) hi hz ad len (ρ k).cap (XO w ρ k (0*A0.sz) (len*A0.sz)) (by rw[hisz'];exact hold.cellsD) _ m _ hsrc' (by omega)
    (by
     have:(len+m)*1≤(len+m)*(ti.bytes+1):=Nat.mul_le_mul_left _ (by omega);omega) (growslice_fits (by omega) (by
     have:(len+m)*i.bytes≤(len+m)*(ti.bytes+1):=Nat.mul_le_mul_left _ (by omega);omega))
   have hge:=grownCap_ge w (len+m) (ρ k).cap el;generalize hgc:grownCap w (len+m) (ρ k).cap el=gc at hrunA hge
   have hrun:(execOp a.eval o).run cx.P w=.ok (.value (.slice (some ⟨w.heap.size,0,none⟩) (len+m) gc))
    (w.drew.alloc (.cells ((XO w ρ k (0*A0.sz) (len*A0.sz)++news).toArray++Builtin.zeroCells z.cells (gc-(len+m))) el)):=by
    rw[hrun0];simp only[List.map_toArray,List.map_cons,List.map_nil,builtin,hxv,Sem.run_bind,hrunA,Result.andThen_ok,Sem.run_pure,hisz']
   refine JQ (by simp[ho]) hrun (hKK (Ya ρ nx ⟨w.heap.size,0,gc,[]⟩) _ _ ?_ (fun j hj=>Jx (by simpa using hj)));have hzsz:z.cells.size=A0.sz:=by
    have:=congrArg List.length hzz;rw[←hb4,←hb1];have hz2:=hB.zsz el ti hti
    simpa [hz2] using this
   have hdr:=hs.drop (hs.bnd.heap k true _ hl1).1;have hfr':Fresh nx { s with H:=(k,false,SO.cells [])::s.H }:=⟨hfr.env,hfr.mks,fun j own q hj=>by
    rw[Jh]at hj;by_cases hjk:j=k
    ·rw[if_pos hjk]at hj;simp at hj;obtain⟨_,rfl⟩:=hj;exact⟨by rw[hjk];exact(hfr.heap k true _ hl1).1,by simp[SO.uses,XP]⟩
    ·rw[if_neg hjk]at hj;exact hfr.heap j own q hj⟩
   have hsat:=hdr.newAt (k:=nx) (cap:=gc) (o:=.arr (A0.setXs (A0.xs.take len++Z)))
    (ob:=.cells ((XO w ρ k (0*A0.sz) (len*A0.sz)++news).toArray++Builtin.zeroCells z.cells (gc-(len+m))) el (0,0)) hfr' hlt hn0 hbelow ?_
   ·refine(hsat.eqHeap (w':=w.drew.alloc _) rfl).putO hdst ?_ (by rw[SV.below_c];intro j hj;simp[SC.nms]at hj;subst hj;exact hlt);simp only[SV.rel,SC.rel,Jq,Nat.sub_zero,Nat.zero_mul,Nat.zero_add];exact⟨_,rfl,hge,fun _=>by simp[Jr,Jq]⟩
   ·refine VN ?_ ?_ ?_ (fun n h=>by rw[show(A0.setXs (A0.xs.take len++Z)).fx=A0.fx from rfl,hfx]at h;cases h) hty
    ·simp only[Arr.setXs];rw[hlenM];exact hge
    ·simp only[Arr.setXs,Array.size_append,List.size_toArray,List.length_append,Ql,hnl,size_zeroCells,hzsz];rw[←Nat.add_mul,←Nat.add_mul];congr 1;omega
    ·intro i' xx hxx j cc hcc;replace hxx:(A0.xs.take len++Z)[i']? = some xx:=hxx;replace hcc:(A0.enc xx)[j]? = some cc:=hcc;show ∃v,_=some v∧_;have hsz9:(A0.setXs (A0.xs.take len++Z)).sz=A0.sz:=rfl;rw[hsz9];have hi':i'<len+m:=by have:=(List.getElem?_eq_some_iff.1 hxx).1;omega
     have hj:j<A0.sz:=by
      have h8:j<(A0.enc xx).length:=(List.getElem?_eq_some_iff.1 hcc).1;have h9:=A0.hl xx;omega
     rw[hapg hi']at hxx;have hle2:i'*A0.sz+j<(len+m)*A0.sz:=by
      have:=Nat.mul_le_mul_right A0.sz (show i'+1≤len+m from hi');rw[Nat.add_mul]at this;omega
     rw[Nat.add_mul]at hle2;rw[Array.getElem?_append_left (by simp[Ql];omega)];simp only[List.getElem?_toArray];by_cases hil:i'<len
     ·rw[if_pos hil]at hxx;have hle3:i'*A0.sz+j<len*A0.sz:=by
       have:=Nat.mul_le_mul_right A0.sz (show i'+1≤len from hil);rw[Nat.add_mul]at this;omega
      rw[List.getElem?_append_left (by rw[Ql];exact hle3),WY hle3];obtain⟨v,hv,hvr⟩:=hs1.at_ i' j cc (by simp only[SO.cell?,hxx];exact hcc);refine⟨v, ?_,hrelf hcc hvr⟩;simp only[SO.sz]at hv;simp[hv]
     ·rw[if_neg hil]at hxx;have hge2:len*A0.sz≤i'*A0.sz:=Nat.mul_le_mul_right _ (by omega);rw[List.getElem?_append_right (by rw[Ql];omega),Ql];have hsub:i'*A0.sz+j-len*A0.sz=(i'-len)*A0.sz+j:=by
       rw[Nat.sub_mul];omega
      obtain⟨v,x2,c2,q1,q2,q3,q4⟩:=hflat ((i'-len)*A0.sz+j) (by omega);have e1:((i'-len)*A0.sz+j)/A0.sz=i'-len:=by rw[Nat.mul_comm,Nat.mul_add_div (by omega),Nat.div_eq_of_lt hj];simp
      have e2:((i'-len)*A0.sz+j)%A0.sz=j:=by rw[Nat.mul_comm,Nat.mul_add_mod,Nat.mod_eq_of_lt hj]
      rw[e1,hxx]at q1;rw[e2]at q2;have q1:=Option.some.inj q1;subst q1;rw[hcc]at q2;simp at q2;subst q2;exact⟨v,by rw[hsub];exact q3,hrelf hcc q4⟩
def KN(ty:Option TypeId)(l:List UInt8):Arr:=⟨UInt8,1,fun x=>[.v (.int .u8 x.toNat)],[],fun _=>rfl,(by intro x c hc k hk;simp at hc;subst hc;cases hk),l,none,ty⟩
theorem aR0(l:List UInt8):byteCells (S l)=Js l:=by simp[byteCells,S,Js]
theorem cr7{ρ:Jn}{ty:Option TypeId}{l l':List UInt8}:∀j,j<l'.length*(KN ty l).sz→∃v xx cc,l'[j/(KN ty l).sz]? = some xx∧((KN ty l).enc xx)[j%(KN ty l).sz]? = some cc∧(Js l')[j]? = some v∧cc.rel ρ v:=by
 intro j hj;have hj:j<l'.length:=by rw[show(KN ty l).sz=1 from rfl,Nat.mul_one]at hj;exact hj
 refine⟨_,l'[j], .v (.int .u8 (l'[j]).toNat), ?_, ?_,Wh hj,rfl⟩
 ·rw[show(KN ty l).sz=1 from rfl,Nat.div_one,List.getElem?_eq_getElem hj]
 ·rw[show(KN ty l).sz=1 from rfl,Nat.mod_one];rfl
theorem aK5{P:Program}{B:Tabs}(hB:TabsOK P B){t:TypeId}{s b:Nat}{z:List Value}(h:Ji B.T t=some ⟨.string,s,b,z⟩):P.underlying t=some .string:=by
 have:=hB.T.get h;unfold ao9 at this;split at this
 ·rename_i i d hi hd
  split at this
  ·rename_i zz hz
   simp only[Option.some.injEq,TI.mk.injEq]at this;have hk:=this.1;cases d <;> simp[VM]at hk
   exact hd
  ·cases this
 ·cases this
section
variable {cx:Cx} {B:Tabs} {o:Oper} {e:Env} {H:Je} {nx:Nat} {K:Eff→Prop}
theorem bU7(hB:TabsOK cx.P B){c:Call}{x y:Operand}{t t' el:TypeId}{s0 b0 s1 b1:Nat}{z0 z1:List Value}{ti:TI}{k:Nat}{ty:Option TypeId}{l l':List UInt8}(ho:o.op=.call c)(hc:c.callee=.builtin .append)
 (hca:c.args=#[x,y]) (hct:c.argTypes=#[t,t']) (ht:Ji B.T t=some ⟨.slice el,s0,b0,z0⟩) (ht':Ji B.T t'=some ⟨.string,s1,b1,z1⟩) (hti:Ji B.T el=some ti) (h1:ti.size=1) (hby:ti.bytes=1)
 (hx:ev e x=.c (.s k 0 l.length 1)) (hy:ev e y=YC l') (hl:look H k=some (true, .arr (KN ty l))) (hty:ty=none∨ty=some el) (hle:l.length+l'.length≤70368744177664)
 (hK:K ⟨.c (.s nx 0 (l.length+l'.length) 1),[k],[(nx,true, .arr (KN ty (l++l'))),(k,false, .cells [])],[nx]⟩):∃f,CallOK cx o e H nx f∧K f:=by
 have hmx:x∈o.op.operands.toList:=by simp[ho,Op.operands,Call.operands,hc,hca]
 have hmy:y∈o.op.operands.toList:=by simp[ho,Op.operands,Call.operands,hc,hca]
 refine⟨_,⟨?_,fun j hj=>by simp at hj;subst hj;simp⟩,hK⟩;intro ρ s a w hs hr hk hnew hdst KK Q hKK;obtain⟨hfr,hlt,hn0⟩:=hnew nx (by simp);have hl1:look s.H k=some (true, .arr (KN ty l)):=by rw[hk k (by simp)];exact hl
 have hx1:=Jg hmx (fun t ht=>by rw[←hr t ht];exact hs.env t);have hy1:=Xg hmy hy (fun t ht=>by rw[←hr t ht];exact hs.env t);rw[hx]at hx1;have hu:=aK5 hB ht';have hsrc:Src cx.P (KN ty l).sz t' (a.eval y) l'.length (Js l') w:=by
  rw[hy1,←aR0];exact Src.ofString w hu (S l')
 refine bC8 (A0:=KN ty l) (Z:=l') (news:=Js l') (m:=l'.length) (len:=l.length) (sz:=1) hB (fun _=>rfl) rfl ?_ ho hc hca hct ht hti h1 (Nat.le_refl _) rfl hs hl1 hsrc (Nat.le_refl _) rfl
  (by rw[Jo];exact(Nat.mul_one _).symm) cr7 ?_ hx1 hfr hlt hn0 hdst ?_
 ·intro t'' h;rcases hty with h2|h2
  ·subst h2;cases h
  ·subst h2;exact(Option.some.inj h)
 ·rw[hby];omega
 ·intro ρ' a' w' hsat hag;refine hKK ρ' a' w' ?_ hag;have e1:l.take l.length++l'=l++l':=by rw[List.take_length]
  have hsat:Sat cx ρ' { s with e:=putO o.dst (.c (.s nx 0 (l.length+l'.length) 1)) s.e,H:=[(nx,true, .arr (KN ty (l.take l.length++l'))),(k,false, .cells [])]++s.H } a' w':=hsat;rw[e1]at hsat;exact hsat
end
end Sx
end Go
namespace Go
namespace Sx
section
variable {cx:Cx} {B:Tabs} {o:Oper} {e:Env} {H:Je} {nx:Nat} {K:Eff→Prop}
theorem bq9(hB:TabsOK cx.P B){c:Call}{x y:Operand}{t t' el:TypeId}{s0 b0 s1 b1:Nat}{z0 z1:List Value}{ti:TI}{l':List UInt8}(ty:Option TypeId)(ho:o.op=.call c)(hc:c.callee=.builtin .append)
 (hca:c.args=#[x,y]) (hct:c.argTypes=#[t,t']) (ht:Ji B.T t=some ⟨.slice el,s0,b0,z0⟩) (ht':Ji B.T t'=some ⟨.string,s1,b1,z1⟩) (hti:Ji B.T el=some ti) (h1:ti.size=1) (hby:ti.bytes=1)
 (hx:ev e x=.c (.v (.slice none 0 0))) (hy:ev e y=YC l') (hty:ty=none∨ty=some el) (hle:l'.length≤70368744177664)
 (hK:K ⟨.c (.s (nx+1) 0 l'.length 1),[],[(nx+1,true, .arr (KN ty l')),(nx,false, .cells [])],[nx,nx+1]⟩):∃f,CallOK cx o e H nx f∧K f:=by
 have hmx:x∈o.op.operands.toList:=by simp[ho,Op.operands,Call.operands,hc,hca]
 have hmy:y∈o.op.operands.toList:=by simp[ho,Op.operands,Call.operands,hc,hca]
 refine⟨_,⟨?_,fun j hj=>by simp at hj;rcases hj with rfl|rfl <;> simp⟩,hK⟩;intro ρ s a w hs hr hk hnew hdst KK Q hKK;obtain⟨hfr,hlt,hn0⟩:=hnew nx (by simp);obtain⟨hfr1,hlt1,hn1⟩:=hnew (nx+1) (by simp);have hx1:=Xg hmx hx (fun t ht=>by rw[←hr t ht];exact hs.env t);have hy1:=Xg hmy hy (fun t ht=>by rw[←hr t ht];exact hs.env t);have hs2:=hs.addNil hfr hlt hn0 (A:=KN ty []) rfl rfl (fun(j:Nat) (hj:Jy [j] (KN ty []).nm=true)=>by cases hj);have hfr2:Fresh (nx+1) { s with H:=(nx,true, .arr (KN ty []))::s.H }:=⟨hfr1.env,hfr1.mks,fun j own o hl=>by
  rw[Jh]at hl;by_cases hj:j=nx
  ·rw[if_pos hj]at hl;simp at hl;obtain⟨_,rfl⟩:=hl;exact⟨by omega,rfl⟩
  ·rw[if_neg hj]at hl;exact hfr1.heap j own o hl⟩
 have hu:=aK5 hB ht';have hsrc:Src cx.P (KN ty []).sz t' (a.eval y) l'.length (Js l') w:=by
  rw[hy1,←aR0];exact Src.ofString w hu (S l')
 refine bC8 (A0:=KN ty []) (Z:=l') (news:=Js l') (m:=l'.length) (len:=0) (sz:=1) (k:=nx) (nx:=nx+1) hB (fun _=>rfl) rfl ?_ ho hc hca hct ht hti h1 (Nat.le_refl _) rfl hs2 ?_ hsrc (Nat.le_refl _) rfl
  (by rw[Jo];exact(Nat.mul_one _).symm) cr7 ?_ ?_ hfr2 hlt1 hn1 hdst ?_
 ·intro t'' h;rcases hty with h2|h2
  ·subst h2;cases h
  ·subst h2;exact(Option.some.inj h)
 ·show look ((nx,true,SO.arr (KN ty []))::s.H) nx=_;rw[Jh,if_pos rfl]
 ·rw[hby];omega
 ·exact⟨none,by rw[hx1,Jq];rfl,by rw[Jq];exact Nat.le_refl _,fun h=>by rw[Jq]at h;cases h⟩
 ·intro ρ' a' w' hsat hag;have hsat:Sat cx ρ' { s with e:=putO o.dst (.c (.s (nx+1) 0 (0+l'.length) 1)) s.e,H:=[(nx+1,true, .arr (KN ty (([]:List UInt8).take 0++l'))),(nx,false, .cells [])]++((nx,true, .arr (KN ty []))::s.H) } a' w':=hsat;rw[Nat.zero_add]at hsat;refine hKK ρ' a' w' (hsat.lookEq fun j=>?_) fun j hj=>?_
  ·simp only[List.cons_append,List.nil_append,Jh];by_cases h1:j=nx+1
   ·rw[if_pos h1,if_pos h1];rfl
   ·rw[if_neg h1,if_neg h1];by_cases h0:j=nx
    ·rw[if_pos h0,if_pos h0]
    ·rw[if_neg h0,if_neg h0,if_neg h0]
  ·have h1:j≠nx∧j≠nx+1:=by simpa using hj
   rw[hag j (by simp;exact h1.2),Jx h1.1]
end
end Sx
end Go
namespace Go
namespace Sx
theorem aV1{w:World}{b:Nat}{c:Array Value}{t:TypeId}{fz:Nat×Nat}(h:w.heap[b]? = some (.cells c t fz)):w.shape? b=some (t,c.size):=by
 simp[World.shape?,h]
theorem bU8{P:Program}{t n d:Nat}(hd:P.depth=d+1)(hc:P.cellsOf t=n)(hn:0<n)(hs:sameLayout P P.depth t t=true):∀cells,n≤cells→liesAt P P.depth t (cells/P.cellsOf t) 0 t 1=true:=by
 intro cells hle;have h1:1≤cells/P.cellsOf t:=by rw[hc];exact(Nat.le_div_iff_mul_le hn).2 (by omega)
 generalize cells/P.cellsOf t=q at h1;have hrow:rowAt P (sameLayout P P.depth · t) P.depth t q 0 1=true:=by
  rw[hd]at hs ⊢;simp only[rowAt,hc];rw[if_neg (by omega)];simp[hs,h1]
 rw[hd]at hrow ⊢;simp only[liesAt];rw[hd,hrow];rfl
section
variable {cx:Cx} {B:Tabs} {o:Oper} {e:Env} {H:Je} {nx:Nat} {K:Eff→Prop}
theorem aR1(hB:TabsOK cx.P B){t:TypeId}{ti:TI}(ho:o.op=.alloc t)(ht:Ji B.T t=some ti)
 (hK:K ⟨.c (.p nx 0 0 0),[],[(nx,true, .cel (some t) (ti.zero.map cC))],[nx]⟩):∃f,CallOK cx o e H nx f∧K f:=by
 refine aa9 (Ws (by simp[ho]) ab6 ?_ ?_) hK
 ·intro n _ j hj;obtain⟨c,hc,hu⟩:=Qo.1 hj;obtain⟨i,hi,_⟩:=SC.uses_iff.1 hu;rw[am3 hc]at hi;cases hi
 ·intro ρ a w _ _;obtain⟨z,hz,hzz⟩:=GN w (hB.T.get ht);refine⟨.pointer (some (Jr (Ya ρ nx ⟨w.heap.size,0,0,[]⟩) nx 0)), .cells z.cells t (0,0),0, ?_, ?_, ?_⟩
  ·simp[execOp,ho,Instr.alloc,hz,newVar,newRow,newObj,Sem.run,Jr,Jq,push]
  ·simp[SV.rel,SC.rel]
  ·have h:=af5 (ρ:=ρ) (w:=w) (k:=nx) (cap:=0) (l:=ti.zero.map cC) (c:=z.cells) (t:=t) (by rw[hzz];exact KG _ _)
   exact {
    wf := trivial, at_ := h.at_, room := fun h1 _ _ => h.room h1 (by simp) (by simp), off0 := h.off0, keys := (fun _ h => by cases h), boxed := (fun _ h => by cases h), fixd := (fun _ h => by cases h),
    typd:=fun t' ht' _=>by
     have:t=t':=Option.some.inj ht';subst this;rw[Jq];exact⟨_,_,KF w _⟩ }
theorem ch4{s d t u:TypeId}{x:Operand}{k sz:Nat}{own:Bool}{l:List SC}{j:TypeInfo}(ho:o.op=.convert s d x)(hs:cx.P.underlying s=some (.pointer u))(hd:cx.P.underlying d=some .unsafePointer)
 (hu:cx.P.info? u=some j) (hj:j.size≠0) (hx:ev e x=.c (.p k 0 sz 0)) (hl:look H k=some (own, .cel (some t) l)) (hown:own=true) (hpos:0<l.length)
 (hK:K ⟨.c (.p k 0 sz 0),[k],[],[]⟩):∃f,CallOK cx o e H nx f∧K f:=by
 subst hown;refine Yx (by simp[ho]) ⟨fun m hm _=>?_,fun ρ a w hr hreg=>⟨.pointer (some (Jr ρ k (0*sz+0))), ?_, ?_⟩⟩ hK
 rotate_right
 ·rfl
 ·have:=Qy (x:=x) (by simp[ho,Op.operands]) hm;rw[hx]at this;exact this
 ·have e1:=Jg (x:=x) (by simp[ho,Op.operands]) hr;rw[hx]at e1;simp only[SV.rel,SC.rel]at e1;have hso:=hreg k (by simp) true _ hl;obtain⟨c,fz,hb⟩:=hso.typd t rfl hpos;have hoff:=hso.off0 rfl;obtain⟨⟨v,hv⟩,_⟩:=hso.room rfl (by simp) (by simp) 0 hpos;have hc0:0<c.size:=by
   simp only[Jr,hoff,World.cell?,hb]at hv;exact(Array.getElem?_eq_some_iff.1 (by simpa using hv)).1
  have:=Lib.run_to_unsafe (P:=cx.P) (w:=w) (Jr ρ k (0*sz+0)) hs hd hu hj (aV1 hb) (by show(ρ k).off+(0*sz+0)<c.size;rw[hoff];simpa using hc0);simp only[execOp,ho,e1,Sem.run_bind,this,Result.andThen_ok,Sem.run_pure]
theorem bK0{s d t u:TypeId}{x:Operand}{k sz:Nat}{l:List SC}{j:TypeInfo}(ho:o.op=.convert s d x)(hs:cx.P.underlying s=some .unsafePointer)(hd:cx.P.underlying d=some (.pointer u))
 (hu:cx.P.info? u=some j) (hlies:∀cells,l.length≤cells→liesAt cx.P cx.P.depth t (cells/cx.P.cellsOf t) 0 u 1=true) (hx:ev e x=.c (.p k 0 sz 0)) (hl:look H k=some (true, .cel (some t) l)) (hpos:0<l.length)
 (hK:K ⟨.c (.p k 0 sz 0),[k],[],[]⟩):∃f,CallOK cx o e H nx f∧K f:=by
 refine Yx (by simp[ho]) ⟨fun m hm _=>?_,fun ρ a w hr hreg=>⟨.pointer (some (Jr ρ k (0*sz+0))), ?_, ?_⟩⟩ hK
 rotate_right
 ·rfl
 ·have:=Qy (x:=x) (by simp[ho,Op.operands]) hm;rw[hx]at this;exact this
 ·have e1:=Jg (x:=x) (by simp[ho,Op.operands]) hr;rw[hx]at e1;simp only[SV.rel,SC.rel]at e1;have hso:=hreg k (by simp) true _ hl;obtain⟨c,fz,hb⟩:=hso.typd t rfl hpos;have hoff:=hso.off0 rfl;have hcs:l.length≤c.size:=by
   obtain⟨⟨v,hv⟩,_⟩:=hso.room rfl (by simp) (by simp) (l.length-1) (by show l.length-1<l.length;omega);simp only[Jr,hoff,World.cell?,hb]at hv;have:=(Array.getElem?_eq_some_iff.1 (by simpa using hv)).1;omega
  have hl0:=hlies c.size hcs;have e0:(Jr ρ k (0*sz+0)).off=0:=by show(ρ k).off+(0*sz+0)=0;rw[hoff];simp
  have:=Lib.run_from_unsafe (P:=cx.P) (w:=w) (Jr ρ k (0*sz+0)) hs hd hu (aV1 hb) (by rw[e0];exact hl0);simp only[execOp,ho,e1,Sem.run_bind,this,Result.andThen_ok,Sem.run_pure]
theorem bK1 {c : Call} {x : Operand} {f : FuncId} {fn : Func} {v : SV} (ho : o.op = .call c) (hc : c.callee = .value (.func f)) (hca : c.args = #[x]) (hf : cx.P.funcs[f]? = some fn) (hname : (fn.name == "runtime.NumGoroutine") = false)
 (hb:fn.body.isNone=true) (hn:Extern.findNext fn=none) (he:Extern.find fn=some Extern.AbiNoEscape.same) (hx:ev e x=v) (hK:K ⟨v,[],[],[]⟩):∃f,CallOK cx o e H nx f∧K f:=by
 have hmx:x∈o.op.operands.toList:=by simp[ho,Op.operands,Call.operands,hc,hca]
 refine Yx (by simp[ho]) ⟨fun m hm _=>?_,fun ρ a w hr _=>⟨a.eval x, ?_, ?_⟩⟩ hK
 ·have:=Qy hmx hm;rw[hx]at this;exact this
 ·have h1:=run_callFunc_extern (P:=cx.P) hf hname hb hn he #[a.eval x] w;rw[Lib.run_noEscape]at h1;simp only[Result.andThen_ok]at h1;have hfv:a.eval (.func f)=.func (.func f) #[] #[]:=rfl;simp[execOp,ho,resolve,hc,hca,hfv,Deferred.ofValue,invoke,h1]
 ·have:=Jg hmx hr;rw[hx]at this;exact this
theorem br0{P:Program}(hB:TabsOK P B){t el:TypeId}{s b:Nat}{z:List Value}(h:Ji B.T t=some ⟨.ptr el,s,b,z⟩)(w:World):(underlying t).run P w=.ok (.pointer el) w:=by
 obtain⟨d,hd,hk⟩:=Qq hB.T h w;rw[hd,aG9 hk]
theorem by1(hB:TabsOK cx.P B){t el yt:TypeId}{s0 b0:Nat}{z0:List Value}{x y:Operand}{k i sz off:Nat}(ho:o.op=.binOp .eql t x y yt)(ht:Ji B.T t=some ⟨.ptr el,s0,b0,z0⟩)
 (hx:ev e x=.c (.p k i sz off)) (hy:ev e y=.c (.v (.pointer none))) (hK:K ⟨.c (.b false),[],[],[]⟩):∃f,CallOK cx o e H nx f∧K f:=by
 refine Yx (by simp[ho]) (Xp (fun n=>WT n _) fun ρ a w hr=>⟨.bool false, ?_,rfl⟩) hK;have h1:=Jg (x:=x) (by simp[ho,Op.operands]) hr;rw[hx]at h1;simp only[SV.rel,SC.rel]at h1;have h2:=Xg (x:=y) (by simp[ho,Op.operands]) hy hr;simp[execOp,ho,h1,h2,eqGuard,binOp,bd7 _ (br0 hB ht w)]
theorem br1(hB:TabsOK cx.P B){t el yt:TypeId}{s0 b0:Nat}{z0:List Value}{x y:Operand}(ho:o.op=.binOp .eql t x y yt)(ht:Ji B.T t=some ⟨.ptr el,s0,b0,z0⟩)
 (hx:ev e x=.c (.v (.pointer none))) (hy:ev e y=.c (.v (.pointer none))) (hK:K ⟨.c (.b true),[],[],[]⟩):∃f,CallOK cx o e H nx f∧K f:=by
 refine Yx (by simp[ho]) (Xp (fun n=>WT n _) fun ρ a w hr=>⟨.bool true, ?_,rfl⟩) hK;have h1:=Xg (x:=x) (by simp[ho,Op.operands]) hx hr;have h2:=Xg (x:=y) (by simp[ho,Op.operands]) hy hr;simp[execOp,ho,h1,h2,eqGuard,binOp,bd8 (br0 hB ht w)]
theorem ch5{t u yt:TypeId}{j:TypeInfo}{x y:Operand}{k i sz off:Nat}(ho:o.op=.binOp .neq t x y yt)(ht:cx.P.underlying t=some (.pointer u))(hu:cx.P.info? u=some j)
 (hx:ev e x=.c (.p k i sz off)) (hy:ev e y=.c (.p k i sz off)) (hK:K ⟨.c (.b false),[],[],[]⟩):∃f,CallOK cx o e H nx f∧K f:=by
 refine Yx (by simp[ho]) (Xp (fun n=>WT n _) fun ρ a w hr=>⟨.bool false, ?_,rfl⟩) hK;have h1:=Jg (x:=x) (by simp[ho,Op.operands]) hr;rw[hx]at h1;simp only[SV.rel,SC.rel]at h1;have h2:=Jg (x:=y) (by simp[ho,Op.operands]) hr;rw[hy]at h2;simp only[SV.rel,SC.rel]at h2;have:=Lib.run_neq_ptr_same (P:=cx.P) w (Jr ρ k (i*sz+off)) ht hu;simp[execOp,ho,h1,h2,eqGuard,this]
end
end Sx
end Go
namespace Go
namespace Sx
theorem by2(w:World)(a:Addr)(n:Nat):(w.freeze a n).heap.size=w.heap.size:=by
 unfold World.freeze;split <;> simp
theorem br2(w:World)(a:Addr)(n:Nat){b:Nat}(h:b≠a.block):(w.freeze a n).heap[b]? = w.heap[b]?:=by
 unfold World.freeze;split
 ·rfl
 ·simp only[Array.getElem?_modify];rw[if_neg (Ne.symm h)]
theorem br3(w:World)(a:Addr)(n:Nat):(w.freeze a n).os=w.os∧(w.freeze a n).output=w.output∧(w.freeze a n).tape=w.tape∧(w.freeze a n).drawn=w.drawn:=by
 unfold World.freeze;split <;> simp
theorem Sat.dropTo{cx:Cx}{ρ:Jn}{s:St}{a:Act}{w w':World}(h:Sat cx ρ s a w){k:Nat}{o:SO}(hl:look s.H k=some (true,o))(hr:0<o.room (ρ k))(hsz:w'.heap.size=w.heap.size)
 (hsame:∀b,b≠(ρ k).blk→w'.heap[b]? = w.heap[b]?) (hq:w'.os=w.os∧w'.output=w.output∧w'.tape=w.tape∧w'.drawn=w.drawn):Sat cx ρ { s with H:=(k,false, .cells [])::s.H } a w' where
 size:=h.size
 defers:=h.defers
 env:=h.env
 heap:=by
  have hd:∀j own' p,look s.H j=some (own',p)→j≠k→0<p.room (ρ j)→∀b∈p.fp (ρ j),b≠(ρ k).blk:=fun j own' p hj hjk hpr b hb he =>
   h.heap.apart k j o own' p (Ne.symm hjk) hl hj hr hpr (ρ k).blk Xf (he▸hb)
  refine h.heap.cons (fun j own o' _ _=>⟨rfl,fun _ _=>rfl⟩) (by rw[hsz];exact Nat.le_refl _) ⟨by rw[hsz];exact h.heap.frm.size,fun b hb hM=>?_,⟨hq.1.trans h.heap.frm.io.1,hq.2.1.trans h.heap.frm.io.2⟩,hq.2.2.1.trans h.heap.frm.quiet.1,by rw[hq.2.2.2];exact h.heap.frm.quiet.2⟩
   (fun b _ hb=>hsame b hb) rfl (fun _ _ _ _ _ _ hr=>by simp[SO.room]at hr) (fun j own' p hj hjk hpr b hb=>hsame b (hd j own' p hj hjk hpr b hb)) (GM ρ w' k) (fun h=>by cases h) (fun hr=>by simp[SO.room]at hr)
  rw[hsame b (by
   rintro rfl
   rcases h.heap.fresh k o hl hr _ Xf with h1|h1
   ·omega
   ·exact hM h1)]
  exact h.heap.frm.same b hb hM
 bnd:=h.bnd.cons (h.bnd.heap k true o hl).1 (by intro j hj;simp[SO.uses,XP]at hj)
 base:=h.base
 keep:=h.keep
 n0:=h.n0
section
variable {cx:Cx} {B:Tabs} {o:Oper} {e:Env} {H:Je} {nx:Nat} {K:Eff→Prop}
theorem bK2{c:Call}{x:Operand}{k n:Nat}(ho:o.op=.call c)(hc:c.callee=.builtin .unsafeSliceData)(hca:c.args=#[x])(hx:ev e x=.c (.s k 0 n 1))(hn:0<n)
 (hK:K ⟨.c (.p k 0 1 0),[],[],[]⟩):∃f,CallOK cx o e H nx f∧K f:=by
 have hmx:x∈o.op.operands.toList:=by simp[ho,Op.operands,Call.operands,hc,hca]
 refine Yx (by simp[ho]) ⟨fun m hm _=>?_,fun ρ a w hr _=>⟨.pointer (some (Jr ρ k (0*1+0))), ?_, ?_⟩⟩ hK
 rotate_right
 ·rfl
 ·have:=Qy hmx hm;rw[hx,SV.below_c]at this;rw[SV.below_c];exact this
 ·have e1:=Jg hmx hr;rw[hx]at e1;obtain⟨ad,hv,hcap,had⟩:=e1;have hp:0<(ρ k).cap:=by omega
  have:=had hp;subst this;have hne:(ρ k).cap-0≠0:=by omega
  have hrun:(Builtin.unsafeSliceData_ c.argTypes o.type #[.slice (some (Jr ρ k (0*1))) n ((ρ k).cap-0)]).run cx.P w=.ok (.pointer (some (Jr ρ k (0*1)))) w:=by
   have hdef:Builtin.unsafeSliceData_ c.argTypes o.type #[.slice (some (Jr ρ k (0*1))) n ((ρ k).cap-0)] =
    (do
     if(ρ k).cap-0≠0 then pure (.pointer (some (Jr ρ k (0*1))))
     else if(←viewAt (Jr ρ k (0*1)).block).isSome then pure (.pointer (some (Jr ρ k (0*1))))
     else pure (.pointer (some ⟨←newObj (.view (Jr ρ k (0*1)) (←elemOf o.type)),0,none⟩))):=rfl
   rw[hdef,if_pos hne];rfl
  rw[Vr ho hc,hca];simp only[List.map_toArray,List.map_cons,List.map_nil,builtin,hv,Sem.run_bind,hrun,Result.andThen_ok,Sem.run_pure]
theorem bU9(hB:TabsOK cx.P B){c:Call}{x y:Operand}{pt it el:TypeId}{k n:Nat}{l:List UInt8}(ho:o.op=.call c)(hc:c.callee=.builtin .unsafeString)(hca:c.args=#[x,y])(hct:c.argTypes=#[pt,it])
 (hp:cx.P.underlying pt=some (.pointer el)) (hcl:cx.P.cellsOf el=1) (hx:ev e x=.c (.p k 0 1 0)) (hy:ev e y=iv .i64 (n:Int)) (hl:look H k=some (true, .arr (KN (some el) l))) (hn:n=l.length) (hpos:0<l.length)
 (h63:l.length≤9223372036854775807) (hK:K ⟨YC l,[k],[(k,false, .cells [])],[]⟩):∃f,CallOK cx o e H nx f∧K f:=by
 have hmx:x∈o.op.operands.toList:=by simp[ho,Op.operands,Call.operands,hc,hca]
 have hmy:y∈o.op.operands.toList:=by simp[ho,Op.operands,Call.operands,hc,hca]
 refine⟨_,⟨?_,fun j hj=>by cases hj⟩,hK⟩;intro ρ s a w hs hr hk hnew hdst KK Q hKK;have hl1:look s.H k=some (true, .arr (KN (some el) l)):=by rw[hk k (by simp)];exact hl
 have e1:=Jg hmx (fun t ht=>by rw[←hr t ht];exact hs.env t);have e2:=Xg hmy hy (fun t ht=>by rw[←hr t ht];exact hs.env t);rw[hx]at e1;simp only[SV.rel,SC.rel]at e1;have hso:=hs.heap.reg k true _ hl1;have hoff:=hso.off0 rfl;have hwf:l.length≤(ρ k).cap:=hso.wf;have hroom:(SO.arr (KN (some el) l)).room (ρ k)=(ρ k).cap:=Nat.mul_one _;obtain⟨cc,fz,hb⟩:=hso.typd el rfl (by rw[hroom];omega);have hsize:l.length≤cc.size:=by
  obtain⟨⟨v,hv⟩,_⟩:=hso.room rfl (by simp) (by simp) (l.length-1) (by rw[hroom];omega);simp only[Jr,hoff,World.cell?,hb]at hv;have:=(Array.getElem?_eq_some_iff.1 (by simpa using hv)).1;omega
 have hadr:Jr ρ k (0*1+0)=⟨(ρ k).blk,0,none⟩:=by simp[Jr,hoff]
 have hrun:=Lib.run_unsafeString_row (P:=cx.P) (w:=w) pt it o.type el hp hcl (ρ k).blk cc.size (aV1 hb) l (by intro h0;rw[h0]at hpos;cases hpos) hsize h63 (fun j xx hj=>by
  obtain⟨hjl,rfl⟩:=List.getElem?_eq_some_iff.1 hj;obtain⟨v',hv',hrel⟩:=hso.at_ j 0 (.v (.int .u8 (l[j]).toNat)) (by rw[arr_cell?];show(l[j]?).bind _=_;rw[List.getElem?_eq_getElem hjl];rfl);have hrel:v'=.int .u8 (l[j]).toNat:=hrel;rw[←hrel,←hv'];show _=w.cell? (Jr ρ k (j*1+0));simp[Jr,hoff,Addr.add];by_cases h0:j=0 <;> simp[h0])
 refine JQ (w':=w.freeze ⟨(ρ k).blk,0,none⟩ l.length) (v:=.string (S l)) (by simp[ho]) ?_ (hKK ρ _ _ ?_ (fun _ _=>rfl))
 ·rw[Vr ho hc,hca,hct];simp only[List.map_toArray,List.map_cons,List.map_nil,builtin,e1,e2,hadr,hn,Sem.run_bind,hrun,Result.andThen_ok,Sem.run_pure];rfl
 ·have h2:=hs.dropTo (w':=w.freeze ⟨(ρ k).blk,0,none⟩ l.length) hl1 (by rw[hroom];omega) (by2 _ _ _) (fun b hbb=>br2 _ _ _ hbb) (br3 _ _ _);exact h2.putO hdst rfl (VX _ _)
end
end Sx
end Go
namespace Go.Proofs
open Go.Sx
abbrev bK3:SO:=.cel (some 143) [.v (.pointer none), .v (.slice none 0 0)]
abbrev aC9(k n:Nat):SO:=.cel (some 143) [.p 0 0 0 0, .s k 0 n 1]
theorem ch6:∀cells,2≤cells→liesAt Tryz.prog Tryz.prog.depth 143 (cells/Tryz.prog.cellsOf 143) 0 143 1=true :=
 bU8 (d:=Tryz.prog.depth-1) (by kernel_rfl) (by kernel_rfl) (by decide) (by kernel_rfl)
theorem bC9:Triple Tryz.prog 115 [.c (.p 0 0 0 0)] [(0,true,bK3)] 1 (.tup []) [(0,true, .cel (some 143) [.p 0 0 0 0, .v (.slice none 0 0)])]:=by
 refine Jc Ja Tryz.func115 rfl Tryz.call115 rfl ?_;intro ρ w hH;conv=>whnf
 refine br1 Ja rfl rfl rfl rfl ?_;conv=>whnf
 refine ch4 (u:=143) (j:=(Tryz.prog.info? 143).get!) rfl (by kernel_rfl) (by kernel_rfl) (by kernel_rfl) (by decide +kernel) rfl rfl rfl (by decide) ?_;conv=>whnf
 refine bK1 (fn:=Tryz.f167) rfl rfl rfl (by kernel_rfl) (by kernel_rfl) (by kernel_rfl) (by kernel_rfl) (by kernel_rfl) rfl ?_;conv=>whnf
 refine bK0 (t:=143) (l:=[.v (.pointer none), .v (.slice none 0 0)]) (u:=143) (j:=(Tryz.prog.info? 143).get!) rfl (by kernel_rfl) (by kernel_rfl) (by kernel_rfl) ch6 rfl rfl (by decide) ?_;conv=>whnf
 exact cl
theorem bD0(ty:Option TypeId)(l:List UInt8):Triple Tryz.prog 115 [.c (.p 0 0 0 0)] [(0,true,aC9 1 l.length),(1,true, .arr (KN ty l))] 2 (.tup []) [(0,true,aC9 1 l.length),(1,true, .arr (KN ty l))]:=by
 refine Jc Ja Tryz.func115 rfl Tryz.call115 rfl ?_;intro ρ w hH;conv=>whnf
 refine by1 Ja rfl rfl rfl rfl ?_;conv=>whnf
 refine ch5 (u:=143) (j:=(Tryz.prog.info? 143).get!) rfl (by kernel_rfl) (by kernel_rfl) rfl rfl ?_;conv=>whnf
 exact cl
abbrev UG(l:List UInt8):Arr:=KN (some 5) l
theorem bV0(l':List UInt8)(hl:l'.length≤70368744177664):Triple Tryz.prog 145 [.c (.p 0 0 0 0),YC l'] [(0,true,bK3)] 1
 (.tup [.inl (.v (.int .i64 (l'.length:Int))), .inl (.v .nilIface)]) [(0,true,aC9 2 l'.length),(2,true, .arr (UG l'))]:=by
 refine Jc Ja Tryz.func145 rfl Tryz.call145 rfl ?_;intro ρ w hH;conv=>whnf
 refine Jb bC9 rfl rfl ?_;conv=>whnf
 refine cs ?_;conv=>whnf
 refine bq9 Ja (some 5) rfl rfl rfl rfl rfl rfl rfl rfl rfl rfl rfl (.inr rfl) hl ?_;conv=>whnf
 exact cl
theorem bh7(l l':List UInt8)(hl:l.length+l'.length≤70368744177664):Triple Tryz.prog 145 [.c (.p 0 0 0 0),YC l'] [(0,true,aC9 1 l.length),(1,true, .arr (UG l))] 2
 (.tup [.inl (.v (.int .i64 (l'.length:Int))), .inl (.v .nilIface)]) [(0,true,aC9 2 (l.length+l'.length)),(2,true, .arr (UG (l++l')))]:=by
 refine Jc Ja Tryz.func145 rfl Tryz.call145 rfl ?_;intro ρ w hH;conv=>whnf
 refine Jb (bD0 (some 5) l) rfl rfl ?_;conv=>whnf
 refine cs ?_;conv=>whnf
 refine bU7 Ja rfl rfl rfl rfl rfl rfl rfl rfl rfl rfl rfl rfl (.inr rfl) hl ?_;conv=>whnf
 exact cl
theorem tyB{el s b:Nat}{z:List Value}{t':TypeId}(h1:Ji tB.T 141=some ⟨.slice el,s,b,z⟩)(h2:(some 5:Option TypeId)=some t'):el=t':=by
 have h0:Ji tB.T 141=some ⟨.slice 5,1,24,[.slice none 0 0]⟩:=rfl;rw[h0]at h1;cases h1;cases h2;rfl
theorem aV2(l:List UInt8)(c:UInt8)(hl:l.length≤1000000):Triple Tryz.prog 63 [.c (.p 0 0 0 0),bt c] [(0,true,aC9 1 l.length),(1,true, .arr (UG l))] 2
 (.c (.v .nilIface)) [(0,true,aC9 3 (l.length+1)),(3,true, .arr (UG (l++[c])))]:=by
 have e:UG (l.take l.length++(([c]:List UInt8).drop 0).take 1)=UG (l++[c]):=congrArg UG ab0;rw[←e];refine Jc Ja Tryz.func63 rfl Tryz.call63 rfl ?_;intro ρ w hH;conv=>whnf
 refine Jb (bD0 (some 5) l) rfl rfl ?_;conv=>whnf
 refine cs ?_;conv=>whnf
 refine Yf Ja (UG [c]) rfl rfl ?_ rfl (fun _ _ _ _ _ h1 h2=>tyB h1 h2);conv=>whnf
 refine⟨⟨rfl,cl⟩, ?_⟩;conv=>whnf
 refine VE Ja (UG l) [c] (fun _=>rfl) rfl rfl rfl rfl ?_ rfl (fun _ _ _ _ _ h1 h2=>tyB h1 h2);conv=>whnf
 refine⟨⟨rfl,rfl,Nat.le_refl _,Nat.le_refl _,by show(l.length+1)*2≤_;omega⟩, ?_⟩;conv=>whnf
 exact cl
theorem ch7(c:UInt8):Triple Tryz.prog 63 [.c (.p 0 0 0 0),bt c] [(0,true,bK3)] 1
 (.c (.v .nilIface)) [(0,true,aC9 3 1),(3,true, .arr (UG [c]))]:=by
 refine Jc Ja Tryz.func63 rfl Tryz.call63 rfl ?_;intro ρ w hH;conv=>whnf
 refine Jb bC9 rfl rfl ?_;conv=>whnf
 refine cs ?_;conv=>whnf
 refine Yf Ja (UG [c]) rfl rfl ?_ rfl (fun _ _ _ _ _ h1 h2=>tyB h1 h2);conv=>whnf
 refine⟨⟨rfl,cl⟩, ?_⟩;conv=>whnf
 refine aw1 Ja (UG []) [c] (fun _=>rfl) rfl rfl rfl rfl ?_ rfl (fun _ _ _ _ _ h1 h2=>tyB h1 h2);conv=>whnf
 refine⟨⟨rfl,rfl,Nat.le_refl _,by decide⟩, ?_⟩;conv=>whnf
 exact cl
theorem bV1(l:List UInt8)(hp:0<l.length)(hl:l.length≤70368744177664):Triple Tryz.prog 64 [.c (.p 0 0 0 0)] [(0,true,aC9 1 l.length),(1,true, .arr (UG l))] 2 (YC l) []:=by
 refine Jc Ja Tryz.func64 rfl Tryz.call64 rfl ?_;intro ρ w hH;conv=>whnf
 refine bK2 rfl rfl rfl rfl hp ?_;conv=>whnf
 refine bU9 (n:=l.length) Ja rfl rfl rfl rfl (by kernel_rfl) (by kernel_rfl) rfl rfl rfl rfl hp (by omega) ?_;conv=>whnf
 exact cl
def aK6(n:Int):UInt64:=UInt64.ofNat (n%18446744073709551616).toNat
theorem bh8(n:Int):IntKind.u64.wrap n=((aK6 n).toNat:Int):=by
 rw[XC,aK6,UInt64.toNat_ofNat'];omega
def ab1:Nat→UInt64→List UInt8
 |0,z=>[z.toUInt8]
 |f+1,z=>if 128≤z.toNat then(z.toUInt8|||128)::ab1 f (z>>>UInt64.ofNat 7)else [z.toUInt8]
def JH(n:Int):List UInt8:=ab1 10 ((aK6 n<<<UInt64.ofNat 1)^^^aK6 (n.fdiv 9223372036854775808))
theorem bm4(x y:UInt8):KO .or .u8 (x.toNat:Int) (y.toNat:Int)=some ((x|||y).toNat:Int):=by
 show some (IntKind.u8.wrap ((BitVec.ofInt 8 (x.toNat:Int)|||BitVec.ofInt 8 (y.toNat:Int)).toNat:Int))=_;have e:∀x:UInt8,BitVec.ofInt 8 (x.toNat:Int)=x.toBitVec:=fun x=>by rw[BitVec.ofInt_natCast];exact BitVec.ofNat_toNat ..
 rw[e,e,ao4];have:=(x|||y).toNat_lt;show some (((x|||y).toNat:Int)%256)=_;rw[Int.emod_eq_of_lt (by omega) (by omega)]
theorem bh9(z:UInt64)(h:¬128≤z.toNat):∀f,ab1 f z=[z.toUInt8]
 |0=>rfl
 |f+1=>by simp only[ab1];rw[if_neg h]
theorem UY(n:Int)(hn:-9223372036854775808≤n∧n≤9223372036854775807):Triple Tryz.prog 48 [iv .i64 n] [] 0 (YC (JH n)) []:=by
 refine Jc Ja Tryz.func48 rfl Tryz.call48 rfl ?_;intro ρ w hH;conv=>whnf
 refine⟨_,bh8 n, ?_⟩;conv=>whnf
 refine⟨by decide,_,ag6 _ 1 (by omega), ?_⟩;conv=>whnf
 refine⟨by decide,_,rfl, ?_⟩;conv=>whnf
 refine⟨_,bh8 _, ?_⟩;conv=>whnf
 refine⟨_,Uw _ _, ?_⟩;conv=>whnf
 show Sound _ _ _ _
 refine Jz Ja (G:=Nat×UInt64×List UInt8) 1 [] (fun g=>[(3,uv g.2.1),(4, .c (.s 0 0 g.2.2.length 1))]) (fun g=>[(0,true, .arr (Qr none g.2.2))])
  (fun g=>g.1+g.2.2.length≤10∧g.2.1.toNat<128 ^ (g.1+1)∧g.2.2++ab1 g.1 g.2.1=JH n) (fun g=>g.1) ?_
 conv=>whnf
 refine⟨⟨(10,_,[]),⟨Nat.le_refl _, ?_,rfl⟩, ?_⟩, ?_⟩
 ·exact Nat.lt_of_lt_of_le (ay4 _) (by show 18446744073709551616≤128 ^ (10+1);decide)
 ·conv=>whnf
  exact cl
 rintro ⟨f,z,acc⟩ ⟨hf,hz,hR⟩ ρ1 t1 hρ1
 dsimp only at hf hz hR;conv=>whnf
 refine⟨fun hc=>?_,fun hc=>?_⟩
 ·have hge:128≤z.toNat:=by simp at hc;omega
  conv=>whnf
  refine⟨_,ag7 _, ?_⟩;conv=>whnf
  refine⟨_,bm4 _ 128, ?_⟩;conv=>whnf
  refine Yf Ja (Qr none [z.toUInt8|||128]) rfl rfl ?_;conv=>whnf
  refine⟨⟨rfl,cl⟩, ?_⟩;conv=>whnf
  refine VE Ja (Qr none acc) [z.toUInt8|||128] (fun _=>rfl) rfl rfl rfl rfl ?_;conv=>whnf
  refine⟨⟨rfl,rfl,Nat.le_refl _,Nat.le_refl _,by show(acc.length+1)*2≤_;omega⟩, ?_⟩;conv=>whnf
  refine⟨by decide,_,Km _ 7 (by omega), ?_⟩;obtain⟨f,rfl⟩:∃j,f=j+1:=by
   cases f with
   |zero=>omega
   |succ j=>exact⟨j,rfl⟩
  have e1:(z>>>UInt64.ofNat 7).toNat=z.toNat/128:=by
   rw[UInt64.toNat_shiftRight];show z.toNat>>>7=_;rw[Nat.shiftRight_eq_div_pow]
  refine⟨(f,z>>>UInt64.ofNat 7,acc++[z.toUInt8|||128]),⟨by simp;omega, ?_, ?_⟩,by show f<f+1;omega, ?_⟩
  ·show(z>>>UInt64.ofNat 7).toNat<128 ^ (f+1);rw[e1];rw[Nat.pow_succ]at hz;omega
  ·show(acc++[z.toUInt8|||128])++ab1 f (z>>>UInt64.ofNat 7)=JH n;rw[←hR];simp only[ab1];rw[if_pos hge];simp
  have e2:Qr none (acc.take acc.length++(([z.toUInt8|||128]:List UInt8).drop 0).take 1)=Qr none (acc++[z.toUInt8|||128]):=congrArg (Qr none) ab0;have e3:(acc++[z.toUInt8|||128]).length=acc.length+1:=by simp
  dsimp only;rw[←e2,e3];conv=>whnf
  refine⟨rfl, ?_⟩;conv=>whnf
  exact cl
 ·have hlt:¬128≤z.toNat:=by simp at hc;omega
  rw[bh9 z hlt f]at hR;conv=>whnf
  refine⟨_,ag7 _, ?_⟩;conv=>whnf
  refine Yf Ja (Qr none [z.toUInt8]) rfl rfl ?_;conv=>whnf
  refine⟨⟨rfl,cl⟩, ?_⟩;conv=>whnf
  refine VE Ja (Qr none acc) [z.toUInt8] (fun _=>rfl) rfl rfl rfl rfl ?_;conv=>whnf
  refine⟨⟨rfl,rfl,Nat.le_refl _,Nat.le_refl _,by show(acc.length+1)*2≤_;omega⟩, ?_⟩;have e4:(((acc.take acc.length++(([z.toUInt8]:List UInt8).drop 0).take 1)).drop 0).take (acc.length+1)=JH n:=by
   have a1:acc.take acc.length++(([z.toUInt8]:List UInt8).drop 0).take 1=acc++[z.toUInt8]:=ab0;rw[List.drop_zero,a1,←hR];exact List.take_of_length_le (by rw[List.length_append];exact Nat.le_refl _)
  rw[←e4];conv=>whnf
  refine Ju (fx:=none) (l:=acc.take acc.length++(([z.toUInt8]:List UInt8).drop 0).take 1) Ja rfl rfl rfl rfl rfl rfl (by rw[ab0];show 0+(acc.length+1)≤(acc++[z.toUInt8]).length;simp) ?_;conv=>whnf
  exact cl
theorem aR2:∀(f:Nat) (z:UInt64),(ab1 f z).length≤f+1
 |0,_=>Nat.le_refl _
 |f+1,z=>by
  simp only[ab1];split
  ·simp only[List.length_cons];have:=aR2 f (z>>>UInt64.ofNat 7);omega
  ·simp
theorem Qz(n:Int):(JH n).length≤11:=aR2 10 _
def VK(s:List UInt8):List UInt8:=JH (s.length:Int)++s
theorem br4(s:List UInt8)(hl:s.length≤140737488355328):Triple Tryz.prog 65 [YC s] [] 0 (YC (VK s)) []:=by
 refine Jc Ja Tryz.func65 rfl Tryz.call65 rfl ?_;intro ρ w hH;conv=>whnf
 refine Jb (UY (s.length:Int) ⟨by omega,by omega⟩) rfl rfl ?_;conv=>whnf
 refine cs ?_;conv=>whnf
 refine Yq (l:=JH (s.length:Int)) (l':=s) rfl rfl rfl (by have:=Qz (s.length:Int);omega) ?_;conv=>whnf
 exact cl
def Va(l:List (List UInt8)):Arr:=⟨List UInt8,1,fun x=>[WI x],[],fun _=>rfl,(by intro x c hc k hk;simp at hc;subst hc;cases hk),l,none,none⟩
abbrev cC7(j k n:Nat):SO:=.cel (some 143) [.p j 0 0 0, .s k 0 n 1]
def Gt(tag:Int)(ps:List (List UInt8)):List UInt8:=JH tag++JH (ps.length:Int)++(ps.map VK).flatten
def at9(ps:List (List UInt8)):Prop:=ps.length≤1000∧∀p∈ps,p.length≤1000000
theorem GY(p:List UInt8):(VK p).length≤p.length+11:=by
 unfold VK;rw[List.length_append];have:=Qz (p.length:Int);omega
theorem aD0:∀(ps:List (List UInt8)),(∀p∈ps,p.length≤1000000)→((ps.map VK).flatten).length≤ps.length*1000011
 | [],_=>by simp
 |p::ps,h=>by
  simp only[List.map_cons,List.flatten_cons,List.length_append,List.length_cons];have h1:=GY p;have h2:=h p (List.mem_cons_self ..);have h3:=aD0 ps (fun q hq=>h q (List.mem_cons_of_mem _ hq));omega
theorem bi0{ps:List (List UInt8)}{i:Nat}(h:i<ps.length):((ps.take (i+1)).map VK).flatten=((ps.take i).map VK).flatten++VK ps[i]:=by
 rw[JR h,List.map_append,List.flatten_append];simp
theorem ch8(f:Nat)(z:UInt64):0<(ab1 f z).length:=by
 cases f with
 |zero=>simp[ab1]
 |succ f=>simp only[ab1];split <;> simp
theorem ch9(n:Int):0<(JH n).length:=ch8 _ _
theorem aD1{tag:Int}{ps:List (List UInt8)}(h:at9 ps):(Gt tag ps).length≤1001000000:=by
 have h1:=aD0 ps h.2;have h2:=Qz tag;have h3:=Qz (ps.length:Int);have h4:=h.1;simp only[Gt,List.length_append];omega
theorem cv2(tag:Int)(ht:-9223372036854775808≤tag∧tag≤9223372036854775807)(ps:List (List UInt8))(hp:at9 ps) :
 Triple Tryz.prog 93 [iv .i64 tag, .c (.s 0 0 ps.length 1)] [(0,false, .arr (Va ps))] 1 (.c (.f 146 [1])) [(1,true, .cells [WI (Gt tag ps)])]:=by
 have hp1:=hp.1;refine Jc Ja Tryz.func93 rfl Tryz.call93 rfl ?_;intro ρ w hH;conv=>whnf
 refine aR1 Ja rfl rfl ?_;conv=>whnf
 refine Jb (UY tag ht) rfl rfl ?_;conv=>whnf
 refine cs ?_;conv=>whnf
 refine Jb (bV0 (JH tag) (by have:=Qz tag;omega)) rfl rfl ?_;conv=>whnf
 refine cs ?_;conv=>whnf
 refine Jb (UY (ps.length:Int) ⟨by omega,by omega⟩) rfl rfl ?_;conv=>whnf
 refine cs ?_;conv=>whnf
 refine Jb (bh7 (JH tag) (JH (ps.length:Int)) (by have:=Qz tag;have:=Qz (ps.length:Int);omega)) rfl rfl ?_;conv=>whnf
 refine cs ?_;conv=>whnf
 let B:Nat→List UInt8:=fun i=>JH tag++JH (ps.length:Int)++((ps.take i).map VK).flatten
 have hB:∀i,(B i).length≤1001000000:=by
  intro i;have h1:=aD0 (ps.take i) (fun p hq=>hp.2 p (List.mem_of_mem_take hq));have h2:=Qz tag;have h3:=Qz (ps.length:Int);have h4:(ps.take i).length≤ps.length:=by rw[List.length_take];omega
  simp only[B,List.length_append];omega
 have hB0:∀i,0<(B i).length:=by
  intro i;have h2:=ch9 tag;simp only[B,List.length_append];omega
 have hBs:∀i (h:i<ps.length),B (i+1)=B i++VK ps[i]:=by
  intro i h;simp only[B];rw[bi0 h,←List.append_assoc]
 have hBe:B ps.length=Gt tag ps:=by simp only[B,Gt,List.take_length]
 refine Jz Ja (G:=Nat) 1 [4] (fun i=>[(18,iv .i64 i)]) (fun i=>[(1,true,cC7 1 5 (B i).length),(5,true, .arr (UG (B i)))]) (fun i=>i≤ps.length) (fun i=>ps.length-i) ?_;conv=>whnf
 refine⟨⟨0,Nat.zero_le _, ?_⟩, ?_⟩
 ·have e0:B 0=JH tag++JH (ps.length:Int):=by simp[B]
  dsimp only;rw[e0,List.length_append];conv=>whnf
  exact cl
 intro i hi ρ1 t1 hρ1;conv=>whnf
 refine⟨fun hc=>?_,fun hc=>?_⟩
 ·conv=>whnf
  have h:i<ps.length:=by simpa using hc
  refine⟨i,rfl,h,h, ?_⟩;conv=>whnf
  refine Jb (br4 ps[i] (by have:=hp.2 ps[i] (List.getElem_mem h);omega)) rfl rfl ?_;conv=>whnf
  refine cs ?_;conv=>whnf
  refine Jb (bh7 (B i) (VK ps[i]) (by have:=hB i;have:=GY ps[i];have:=hp.2 ps[i] (List.getElem_mem h);omega)) rfl rfl ?_;conv=>whnf
  refine cs ?_;conv=>whnf
  refine⟨_,wO, ?_⟩;refine⟨i+1,h,by show ps.length-(i+1)<ps.length-i;omega, ?_⟩;dsimp only;rw[hBs i h,List.length_append];conv=>whnf
  refine⟨rfl, ?_⟩;conv=>whnf
  exact cl
 ·have hie:i=ps.length:=by simp at hc;omega
  subst hie;dsimp only;conv=>whnf
  refine Jb (bV1 (B ps.length) (hB0 _) (by have:=hB ps.length;omega)) rfl rfl ?_;conv=>whnf
  refine cs ?_;conv=>whnf
  rw[hBe];exact cl
def an4:Code→Option (Code×Code)
 | .rangeFunc _ _ a b=>some (a,b)
 | .seq x y=>(an4 x).or (an4 y)
 | .block _ b=>an4 b
 | .scope b=>an4 b
 | .cond _ x y=>(an4 x).or (an4 y)
 | .loop b=>an4 b
 |_=>none
def ci0(f:Func):Code:=match f.body with
 |some c=>(match an4 c with
  |some p=>p.1
  |none=>.skip)
 |none=>.skip
def ci1(f:Func):Code:=match f.body with
 |some c=>(match an4 c with
  |some p=>p.2
  |none=>.skip)
 |none=>.skip
def orF(l:List UInt8):UInt64:=(l.zipIdx).foldl (fun w p=>w|||p.1.toUInt64<<<UInt64.ofNat (8*p.2)) 0
theorem br5(l:List UInt8)(b:UInt8):orF (l++[b])=orF l|||b.toUInt64<<<UInt64.ofNat (8*l.length):=by
 simp[orF,List.zipIdx_append]
def aD2(s:List UInt8)(j:Nat):UInt64:=orF ((s.drop (8*j)).take 8)
def al8(m:Mix):Mix:=bm3 (bm3 m 32 40) 48 1
def YV(m:Mix)(w:UInt64):Mix:=al8 (al8 { m with a:=m.a^^^w })
def cK2:Mix:=⟨6,28,496,8128⟩
def ab2(s:List UInt8)(j:Nat):Mix:=(List.range j).foldl (fun m j=>YV m (aD2 s j)) cK2
theorem aK7(s:List UInt8)(j:Nat):ab2 s (j+1)=YV (ab2 s j) (aD2 s j):=by
 simp[ab2,List.range_succ]
def ag8(s:List UInt8):Mix:=YV (YV (YV (YV (ab2 s ((s.length+7)/8)) (UInt64.ofNat s.length)) 0) 0) 0
def Xv(tag:Int)(ps:List (List UInt8)):List UInt8:=JW 8 (ag8 (Gt tag ps)).b++JW 8 (ag8 (Gt tag ps)).d
theorem XL(tag:Int)(ps:List (List UInt8)):(Xv tag ps).length=16:=by simp[Xv,JU]
abbrev bK4(m:Mix):Je:=[(1,true, .cells [.v (.int .u64 (m.a.toNat:Int))]),(2,true, .cells [.v (.int .u64 (m.b.toNat:Int))]),(3,true, .cells [.v (.int .u64 (m.d.toNat:Int))]),(4,true, .cells [.v (.int .u64 (m.c.toNat:Int))])]
theorem aq7(m:Mix)(x:UInt64):RoundT Tryz.prog Tryz.f47.ntmps [(5, .c (.p 1 0 0 0)),(9, .c (.p 5 0 0 0))] #[16]
 (ci0 Tryz.f47) (ci1 Tryz.f47) [uv x]
 (bK4 m++[(5,false, .cells [.f 91 [1,2,3,4]])]) 6 (bK4 (YV m x)):=by
 refine cg5 Ja rfl ?_;intro Φ Φ' ρ w;conv=>whnf
 refine⟨rfl, ?_⟩;conv=>whnf
 refine⟨_,Uw _ _, ?_⟩;conv=>whnf
 refine Jz Ja (G:=Nat×Mix) 0 [] (fun g=>[(20,iv .i64 g.1)]) (fun g=>bK4 g.2) (fun g=>g.1≤2∧(match g.1 with|0=>al8 (al8 g.2)|1=>al8 g.2|_=>g.2)=YV m x) (fun g=>2-g.1) ?_;conv=>whnf
 refine⟨⟨(0,{ m with a:=m.a^^^x }),⟨Nat.zero_le _,rfl⟩, ?_⟩, ?_⟩
 ·conv=>whnf
  exact cl
 rintro ⟨i,g⟩ ⟨hi,hg⟩ ρ1 t1 hρ1
 dsimp only at hi hg;conv=>whnf
 refine⟨fun hc=>?_,fun hc=>?_⟩
 ·have hlt:i<2:=by simp at hc;omega
  conv=>whnf
  refine Jb (bU6 g 32 40 (by decide) (by decide) (by decide) (by decide)) rfl rfl ?_;conv=>whnf
  refine cs ?_;conv=>whnf
  refine Jb (bU6 (bm3 g 32 40) 48 1 (by decide) (by decide) (by decide) (by decide)) rfl rfl ?_;conv=>whnf
  refine cs ?_;conv=>whnf
  refine⟨_,wO, ?_⟩;refine⟨(i+1,al8 g),⟨hlt, ?_⟩,by show 2-(i+1)<2-i;omega, ?_⟩
  ·match i,hlt,hg with
   |0,_,hg=>exact hg
   |1,_,hg=>exact hg
  conv=>whnf
  refine⟨rfl, ?_⟩;conv=>whnf
  exact cl
 ·have hie:i=2:=by simp at hc;omega
  subst hie;have hg:g=YV m x:=hg;subst hg;conv=>whnf
  refine⟨rfl, ?_⟩;conv=>whnf
  exact cl
end Go.Proofs
