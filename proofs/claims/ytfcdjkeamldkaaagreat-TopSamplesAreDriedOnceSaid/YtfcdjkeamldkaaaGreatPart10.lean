/-
  A part of the proof that a law answers true: lemmas of a symbolic walk, plain functions, or contracts of the functions walked (Sx52, Sx42, Pm1, Pm2, Tz, Pm31, U1, Sx30). Conditions: none.
-/
import Derived.Test.YtfcdjkeamldkaaaGreatPart09
import Derived.Test.YtfcdjkeamldkaaaGreatProg
import Derived.KernelRfl
import Derived.Test.YtfcdjkeamldkaaaGreatPart07
set_option maxRecDepth 100000
set_option linter.unusedVariables false
set_option linter.unusedSimpArgs false
namespace Go
namespace Sx
def Js(l:List UInt8):List Value:=l.map fun b=>Value.int .u8 b.toNat
def GX(l:List UInt8):Value:=.agg (Js l).toArray
abbrev YQ(l:List UInt8):SV:=.c (.v (GX l))
def JC(l:List UInt8):List SC:=l.map fun b=>SC.v (Value.int .u8 b.toNat)
theorem JB(l:List UInt8):(JC l).length=l.length:=List.length_map _
theorem Jo(l:List UInt8):(Js l).length=l.length:=List.length_map _
theorem aZ0(ρ:Jn):∀l,Yb ρ (JC l) (Js l)
 | []=>trivial
 |_::l=>⟨rfl,aZ0 ρ l⟩
theorem aC5{l:List UInt8}:∀u∈Js l,(∀xs,u≠.agg xs)∧(∀xs,u≠.tuple xs):=by
 intro u hu;obtain⟨b,_,rfl⟩:=List.mem_map.1 hu;simp
theorem Gk(n:Nat):Js (List.replicate n 0)=List.replicate n (.int .u8 0):=by
 simp[Js]
theorem aa8{fx:Option Nat}{l:List UInt8}{i j:Nat}{c:SC}:(SO.arr (Qr fx l)).cell? i j=some c↔∃h:i<l.length,j=0∧c=.v (.int .u8 (l[i]'h).toNat):=by
 rw[arr_cell?];show(l[i]?).bind (fun x=>[SC.v (.int .u8 x.toNat)][j]?)=some c↔_;constructor
 ·intro h;cases hx:l[i]? with
  |none=>rw[hx]at h;cases h
  |some x =>
   rw[hx]at h;obtain⟨hi,rfl⟩:=List.getElem?_eq_some_iff.1 hx;cases j with
   |zero=>simp at h;exact⟨hi,rfl,h.symm⟩
   |succ j=>simp at h
 ·rintro ⟨h,rfl,rfl⟩
  rw[List.getElem?_eq_getElem h];rfl
theorem Wh{l:List UInt8}{i:Nat}(h:i<l.length):(Js l)[i]? = some (.int .u8 (l[i]'h).toNat):=by
 simp[Js,h]
theorem aZ1{ρ:Jn}{w:World}{k:Nat}{l:List UInt8}{t:TypeId} :
 SatO (Ya ρ k ⟨w.heap.size,0,l.length,[]⟩) (push w (.cells (Js l).toArray t (0,0))) k true (.arr (Qr (some l.length) l)):=by
 refine VN (Nat.le_refl _) (by simp[Jo,Qr]) ?_ (by intro n h;exact Option.some.inj h);intro i x hx j d hd;have hx:l[i]? = some x:=hx;obtain⟨hi,rfl⟩:=List.getElem?_eq_some_iff.1 hx;have hd:[SC.v (.int .u8 (l[i]).toNat)][j]? = some d:=hd;cases j with
 |succ j=>simp at hd
 |zero =>
  simp at hd;subst hd;refine⟨_, ?_,rfl⟩;show(Js l).toArray[i*1+0]? = _;rw[Nat.mul_one,Nat.add_zero,List.getElem?_toArray,Wh hi]
section
variable {cx:Cx} {B:Tabs} {o:Oper} {e:Env} {H:Je} {nx:Nat} {K:Eff→Prop}
theorem aa9{so:SO}{sv:SV}(hl:We cx o e H ⟨sv,[],[(nx,true,so)],[nx]⟩)(hK:K ⟨sv,[],[(nx,true,so)],[nx]⟩):∃f,CallOK cx o e H nx f∧K f :=
 ⟨_,⟨hl,fun k hk=>by simp at hk;subst hk;simp⟩,hK⟩
theorem ak6(fx:Option Nat)(l:List UInt8)(n:Nat):(SO.arr (Qr fx l)).below n:=fun j hj=>by
 simp[SO.uses,Qr,Jy]at hj
theorem Jv(hB:TabsOK cx.P B){t:TypeId}{ti:TI}(n:Nat)(ho:o.op=.alloc t)(ht:Ji B.T t=some ti)(hz:ti.zero=List.replicate n (.int .u8 0))
 (hK:K ⟨.c (.p nx 0 1 0),[],[(nx,true, .arr (Qr (some n) (List.replicate n 0)))],[nx]⟩):∃f,CallOK cx o e H nx f∧K f:=by
 refine aa9 (Ws (by simp[ho]) ab6 (fun m _=>ak6 _ _ m) ?_) hK;intro ρ a w _ _;obtain⟨z,hzr,hzz⟩:=GN w (hB.T.get ht);have hzc:z.cells=(Js (List.replicate n 0)).toArray:=by
  rw[Gk,←hz,←hzz]
 refine⟨.pointer (some (Jr (Ya ρ nx ⟨w.heap.size,0,n,[]⟩) nx 0)), .cells z.cells t (0,0),n, ?_, ?_, ?_⟩
 ·simp[execOp,ho,Instr.alloc,hzr,newVar,newRow,newObj,Sem.run,Jr,Jq,push]
 ·simp[SV.rel,SC.rel]
 ·have:=aZ1 (ρ:=ρ) (w:=w) (k:=nx) (l:=List.replicate n 0) (t:=t);rw[List.length_replicate]at this;rw[hzc];exact this
theorem YT{t:TypeId}{x:Operand}{l:List UInt8}(ho:o.op=.box t x)(hx:ev e x=YQ l)
 (hK:K ⟨.c (.p nx 0 1 0),[],[(nx,true, .arr (Qr (some l.length) l))],[nx]⟩):∃f,CallOK cx o e H nx f∧K f:=by
 refine aa9 (Ws (by simp[ho]) ab6 (fun m _=>ak6 _ _ m) ?_) hK;intro ρ a w hr _;have h1:=Xg (x:=x) (by simp[ho,Op.operands]) hx hr;refine⟨.pointer (some (Jr (Ya ρ nx ⟨w.heap.size,0,l.length,[]⟩) nx 0)), .cells (Js l).toArray t (0,0),l.length, ?_, ?_,aZ1⟩
 ·simp[execOp,ho,h1,GX,Value.cells,Instr.box,newVar,newRow,newObj,Sem.run,Jr,Jq,push]
 ·simp[SV.rel,SC.rel]
theorem aK4(hB:TabsOK cx.P B){t:TypeId}{ti:TI}{x:Operand}{k i sz off:Nat}{own:Bool}{so:SO}(l:List UInt8)(ho:o.op=.load t x)(ht:Ji B.T t=some ti)
 (hag:ti.kd.isAgg=true) (hx:ev e x=.c (.p k i sz off)) (hl:look H k=some (own,so)) (hn:ti.size=l.length) (hsz:so.sz=sz∨i=0)
 (hc:∀j (h:j<l.length),∃i' j',i'*so.sz+j'=i*so.sz+off+j∧so.cell? i' j'=some (.v (.int .u8 (l[j]'h).toNat)))
 (hK:K ⟨YQ l,[k],[],[]⟩):∃f,CallOK cx o e H nx f∧K f:=by
 refine Yx (by simp[ho]) ⟨fun n _ _=>VX n _, ?_⟩ hK;intro ρ a w hr hreg;have hso:=hreg k (by simp) own so hl;have h1:=Jg (x:=x) (by simp[ho,Op.operands]) hr;rw[hx]at h1;simp only[SV.rel,SC.rel]at h1;have hoff:i*sz+off=i*so.sz+off:=by rcases hsz with h|h <;> simp[h]
 refine⟨GX l, ?_,rfl⟩;have hcells:∀(j:Nat) v,(Js l)[j]? = some v→w.cell? ((Jr ρ k (i*sz+off)).add j)=some v:=by
  intro j v hv;obtain⟨hj,rfl⟩:=List.getElem?_eq_some_iff.1 hv;have hj':j<l.length:=by rw[Jo]at hj;exact hj
  obtain⟨i',j',he,hcc⟩:=hc j hj';obtain⟨v',hv',hrel⟩:=hso.at_ i' j' _ hcc;have hrel:v'=.int .u8 (l[j]).toNat:=hrel;rw[VV,hoff,←he,hv',hrel];simp[Js]
 have hload:=Vx (P:=cx.P) hcells;have hsize:=QY hB ht w;have hagg:=WP w (hB.T.get ht);rw[hag]at hagg;have hln:(Js l).length=ti.size:=by rw[Jo,hn]
 rw[hln]at hload;simp[execOp,ho,h1,Instr.loadAt,Instr.sureAddr,loadVar,hagg,hsize,hload,GX]
theorem Jm(hB:TabsOK cx.P B){t:TypeId}{ti:TI}{x:Operand}{k:Nat}{own:Bool}{fx:Option Nat}{l:List UInt8}(ho:o.op=.load t x)(ht:Ji B.T t=some ti)
 (hag:ti.kd.isAgg=true) (hx:ev e x=.c (.p k 0 1 0)) (hl:look H k=some (own, .arr (Qr fx l))) (hn:ti.size=l.length)
 (hK:K ⟨YQ l,[k],[],[]⟩):∃f,CallOK cx o e H nx f∧K f :=
 aK4 hB l ho ht hag hx hl hn (.inr rfl) (fun j h=>⟨j,0,by show j*1+0=0*1+0+j;omega,aa8.2 ⟨h,rfl,rfl⟩⟩) hK
theorem aC6{ρ:Jn}{l:List UInt8}{v:Value}(h:(YQ l).rel ρ v):Yb ρ (JC l) v.cells.toList∧∀u∈v.cells.toList,(∀xs,u≠.agg xs)∧(∀xs,u≠.tuple xs):=by
 have h:v=GX l:=h;subst h;exact⟨aZ0 ρ l,aC5⟩
theorem Wi{l:List UInt8}{i:Nat}{c:SC}:(JC l)[i]? = some c↔∃h:i<l.length,c=.v (.int .u8 (l[i]'h).toNat):=by
 constructor
 ·intro h;obtain⟨hi,rfl⟩:=List.getElem?_eq_some_iff.1 h;have hi':i<l.length:=by rw[JB]at hi;exact hi
  exact⟨hi',by simp[JC]⟩
 ·rintro ⟨h,rfl⟩
  simp[JC,h]
theorem Jp(hB:TabsOK cx.P B){t:TypeId}{ti:TI}{x y:Operand}{k:Nat}{fx:Option Nat}{l l':List UInt8}(ho:o.op=.store t x y)(ht:Ji B.T t=some ti)
 (hx:ev e x=.c (.p k 0 1 0)) (hy:ev e y=YQ l') (hl:look H k=some (true, .arr (Qr fx l))) (hn:ti.size=l.length) (hn':l'.length=l.length) (hp:1≤ti.size)
 (hK:K ⟨.c .junk,[k],[(k,true, .arr (Qr fx l'))],[]⟩):∃f,CallOK cx o e H nx f∧K f:=by
 have hloc:=ab7 (cx:=cx) (e:=e) (H:=H) (i:=0) (off:=0) (sz:=1) (new:=JC l') hB ho hx ht (by rw[JB,hn',hn]) hp (fun ρ v hv=>by rw[hy]at hv;exact aC6 hv)
  (.arr (Qr fx l)) (.arr (Qr fx l')) (JC l') (fun _ _ h=>h) hl (by simp) rfl ?_ ?_ rfl rfl rfl (.inr rfl) ?_ (by simp) rfl ?_ ?_
 ·exact⟨_,⟨hloc,fun k hk=>by cases hk⟩,hK⟩
 ·intro ρ hw;have hw:l.length≤(ρ k).cap:=hw;rw[JB];show 0*1+0+l'.length≤(ρ k).cap*1;omega
 ·intro r;rfl
 ·intro r hw;have hw:l.length≤r.cap:=hw;show l'.length≤r.cap;omega
 ·intro r _ i' j c hc;obtain⟨hi,rfl,rfl⟩:=aa8.1 hc;refine .inr ⟨Nat.zero_le _, ?_, ?_⟩
  ·rw[JB];show i'*1+0<0*1+0+l'.length;omega
  ·show(JC l')[i'*1+0-(0*1+0)]? = _;rw[show i'*1+0-(0*1+0)=i' from by omega];exact Wi.2 ⟨hi,rfl⟩
 ·intro n _ _;exact ak6 _ _ _
theorem ag5{P:Program}(hB:TabsOK P B){t el:TypeId}{n s b:Nat}{z:List Value}(h:Ji B.T t=some ⟨.array n el,s,b,z⟩)(w:World):(underlying t).run P w=.ok (.array n el) w:=by
 obtain⟨d,hd,hk⟩:=Qq hB.T h w;rw[hd,aT1 hk]
theorem Qk(hB:TabsOK cx.P B){t el:TypeId}{x y:Operand}{k n:Nat}{ik:IntKind}{i:Int}{s0 b0:Nat}{z0:List Value}{ti:TI}(ho:o.op=.indexAddr t x y)(ht:Ji B.T t=some ⟨.array n el,s0,b0,z0⟩)
 (hel:Ji B.T el=some ti) (h1:ti.size=1) (hx:ev e x=.c (.p k 0 1 0)) (hy:ev e y=iv ik i) (j:Nat) (hj:i=(j:Int)) (hlt:j<n) (hK:K ⟨.c (.p k j 1 0),[],[],[]⟩):∃f,CallOK cx o e H nx f∧K f:=by
 refine Yx (by simp[ho]) ⟨fun m hm _=>?_,fun ρ a w hr _=>⟨.pointer (some (Jr ρ k (j*1+0))), ?_, ?_⟩⟩ hK
 rotate_right
 ·rfl
 ·have:=Qy (x:=x) (by simp[ho,Op.operands]) hm;rw[hx,SV.below_c]at this;rw[SV.below_c];exact this
 ·have e1:=Jg (x:=x) (by simp[ho,Op.operands]) hr;rw[hx]at e1;simp only[SV.rel,SC.rel]at e1;have e2:=Xg (x:=y) (by simp[ho,Op.operands]) hy hr;have hu:=ag5 hB ht w;have hsz:=QY hB hel w;subst hj;simp[execOp,ho,e1,e2,Instr.indexAt,asIntOf,hu,hlt,hsz,Instr.sureAddr,VV,h1]
theorem bh6(hB:TabsOK cx.P B){t el:TypeId}{x y:Operand}{l:List UInt8}{n:Nat}{ik:IntKind}{i:Int}{s0 b0:Nat}{z0:List Value}{ti:TI}(ho:o.op=.index t x y)(ht:Ji B.T t=some ⟨.array n el,s0,b0,z0⟩)
 (hel:Ji B.T el=some ti) (h1:ti.size=1) (hag:ti.kd.isAgg=false) (hx:ev e x=YQ l) (hy:ev e y=iv ik i) (j:Nat) (hj:i=(j:Int)) (hn:l.length=n) (hlt:j<l.length) (hK:K ⟨iv .u8 ((l[j]'hlt).toNat:Nat),[],[],[]⟩):∃f,CallOK cx o e H nx f∧K f:=by
 refine Yx (by simp[ho]) (Xp (fun n=>YJ n _ _) fun ρ a w hr=>⟨_, ?_,rfl⟩) hK;have e1:=Xg (x:=x) (by simp[ho,Op.operands]) hx hr;have e2:=Xg (x:=y) (by simp[ho,Op.operands]) hy hr;have hu:=ag5 hB ht w;have hsz:=QY hB hel w;have hagg:=WP w (hB.T.get hel);rw[hag]at hagg;subst hj;have hlt':j<n:=by omega
 have hg:=Wh hlt;simp[execOp,ho,e1,e2,GX,Instr.index,asIntOf,hu,hsz,h1,hlt',part,hagg,hg]
theorem Jk(hB:TabsOK cx.P B){t el:TypeId}{x:Operand}{lo hi:Option Operand}{k n:Nat}{own:Bool}{l:List UInt8}{s0 b0:Nat}{z0:List Value}{ti:TI}(ho:o.op=.slice t x lo hi none)(ht:Ji B.T t=some ⟨.array n el,s0,b0,z0⟩)
 (hel:Ji B.T el=some ti) (h1:ti.size=1) (hx:ev e x=.c (.p k 0 1 0)) (hl:look H k=some (own, .arr (Qr (some n) l)))
 (h:al3 e hi n fun j=>j≤n∧al3 e lo 0 fun i=>i≤j∧K ⟨.c (.s k i (JV j i) 1),[k],[],[]⟩):∃f,CallOK cx o e H nx f∧K f:=by
 have hlo:∀y,lo=some y→y∈o.op.operands.toList:=fun y hy=>by simp[ho,Op.operands,hy]
 have hhi:∀y,hi=some y→y∈o.op.operands.toList:=fun y hy=>by simp[ho,Op.operands,hy]
 obtain⟨j,⟨hj,h⟩,jd,jy⟩:=UJ (P:=cx.P) (lim:=0) hhi h;obtain⟨i,⟨hi',hK⟩,id,iy⟩:=UJ (P:=cx.P) (lim:=0) hlo h;refine Yx (by simp[ho]) ⟨fun m hm _=>?_,fun ρ a w hr hreg=>?_⟩ hK
 ·have:=Qy (x:=x) (by simp[ho,Op.operands]) hm;rw[hx,SV.below_c]at this;rw[SV.below_c];exact this
 ·have e1:=Jg (x:=x) (by simp[ho,Op.operands]) hr;rw[hx]at e1;simp only[SV.rel,SC.rel]at e1;have hu:=ag5 hB ht w;have hsz:=QY hB hel w;have hcap:(ρ k).cap=n:=(hreg k (by simp) own _ hl).fixd n rfl;have hb:(Instr.sliceBounds false n n (lo.map a.eval) (hi.map a.eval) none).run cx.P w=.ok (i,j,n) w:=by
   cases lo with
   |none =>
    have:=id rfl;subst this;cases hi with
    |none=>have:=jd rfl;subst this;simp[Instr.sliceBounds]
    |some y=>obtain⟨k,hk⟩:=jy y rfl ρ a hr;simp[Instr.sliceBounds,Instr.sliceBound,hk,asIntOf,hj]
   |some u =>
    obtain⟨k',hk'⟩:=iy u rfl ρ a hr;cases hi with
    |none=>have:=jd rfl;subst this;simp[Instr.sliceBounds,Instr.sliceBound,hk',asIntOf,hi']
    |some y=>obtain⟨k,hk⟩:=jy y rfl ρ a hr;simp[Instr.sliceBounds,Instr.sliceBound,hk,hk',asIntOf,hj,hi']
  refine⟨.slice (some (if n=i then Jr ρ k 0 else(Jr ρ k 0).add (i*1))) (j-i) (n-i), ?_, ?_⟩
  ·simp[execOp,ho,e1,Instr.sliceAt,hu,Instr.sureAddr,hb,hsz,h1]
  ·simp only[SV.rel,SC.rel,Jt];refine⟨_,by rw[hcap],by omega,fun hlt=>?_⟩;rw[if_neg (by omega),VV,Nat.zero_add]
theorem GA(hB:TabsOK cx.P B){t el:TypeId}{n s0 b0:Nat}{z0:List Value}{ti:TI}(ho:o.op=.build t #[])(ht:Ji B.T t=some ⟨.array n el,s0,b0,z0⟩)(hel:Ji B.T el=some ti)(hz:z0=List.replicate n (.int .u8 0))
 (hK:K ⟨YQ (List.replicate n 0),[],[],[]⟩):∃f,CallOK cx o e H nx f∧K f:=by
 refine Yx (by simp[ho]) (Xp (fun n=>VX n _) fun ρ a w hr=>⟨_, ?_,rfl⟩) hK;obtain⟨z,hzr,hzz⟩:=GN w (hB.T.get ht);have hu:=ag5 hB ht w;have hsz:=QY hB hel w;have hzc:z.cells=(Js (List.replicate n 0)).toArray:=by
  rw[Gk,←hz,show z0=z.cells.toList from hzz.symm]
 simp[execOp,ho,Instr.build,hzr,hu,hsz,Instr.fill,GX,hzc]
theorem Ju(hB:TabsOK cx.P B){s d el:TypeId}{x:Operand}{k st m:Nat}{own:Bool}{fx:Option Nat}{l:List UInt8}{s0 b0 s1 b1 s2 b2:Nat}{z0 z1 z2:List Value}(ho:o.op=.convert s d x)
 (hs:Ji B.T s=some ⟨.slice el,s0,b0,z0⟩) (hd:Ji B.T d=some ⟨.string,s1,b1,z1⟩) (hel:Ji B.T el=some ⟨.int .u8,s2,b2,z2⟩)
 (hx:ev e x=.c (.s k st m 1)) (hl:look H k=some (own, .arr (Qr fx l))) (hle:st+m≤l.length)
 (hK:K ⟨YC ((l.drop st).take m),[k],[],[]⟩):∃f,CallOK cx o e H nx f∧K f:=by
 refine Yx (by simp[ho]) ⟨fun n _ _=>VX n _,fun ρ a w hr hreg=>⟨_, ?_,rfl⟩⟩ hK;have e1:=Jg (x:=x) (by simp[ho,Op.operands]) hr;rw[hx]at e1;obtain⟨ad,hv,hcap,had⟩:=e1;have hso:=hreg k (by simp) own _ hl;obtain⟨ds,hds,hks⟩:=Qq hB.T hs w;have:=aa6 hks;subst this;obtain⟨de,hde,hke⟩:=Qq hB.T hel w;have:=bn7 hke;subst this;have hdu:=aC4 hB hd w;have hconv:(convert s d (.slice ad m ((ρ k).cap-st))).run cx.P w=(Conv.bytesToString (.slice ad m ((ρ k).cap-st))).run cx.P w:=by
  simp[convert,hds,hdu,hde]
 have hrun:(Conv.bytesToString (.slice ad m ((ρ k).cap-st))).run cx.P w=.ok (.string (S ((l.drop st).take m))) w:=by
  cases ad with
  |none =>
   have hm:m=0:=by
    refine Nat.eq_zero_of_not_pos fun hp=>?_;have:=had (by omega);cases this
   subst hm;simp[Conv.bytesToString,S];rfl
  |some a0 =>
   have hfold:∀(ns:List UInt8) (r:ByteArray),(ns.map fun b=>(b.toNat:Int)).foldl (fun r n=>r.push (UInt8.ofNat n.toNat)) r=⟨r.data++ns.toArray⟩:=by
    intro ns
    induction ns with
    |nil=>intro r;simp
    |cons b ns ih =>
     intro r;simp only[List.map_cons,List.foldl_cons];rw[ih];simp[ByteArray.push]
   have hload:(loadCells a0 m).run cx.P w=.ok ((((l.drop st).take m).map fun b=>(b.toNat:Int)).map (Value.int .u8)).toArray w:=by
    have hlen:(Js ((l.drop st).take m)).length=m:=by rw[Jo,List.length_take,List.length_drop];omega
    have:=Vx (P:=cx.P) (w:=w) (a:=a0) (vs:=Js ((l.drop st).take m)) (fun j v hv=>by
     obtain⟨hj,rfl⟩:=List.getElem?_eq_some_iff.1 hv;have hj':j<m:=by rw[hlen]at hj;exact hj
     have hc:st<(ρ k).cap:=by
      have hw:l.length≤(ρ k).cap:=hso.wf;omega
     have:=had hc;cases this;obtain⟨v',hv',hrel⟩:=hso.at_ (st+j) 0 _ (aa8.2 ⟨by omega,rfl,rfl⟩);have hrel:v'=.int .u8 (l[st+j]).toNat:=hrel;rw[VV];have hv2:w.cell? (Jr ρ k ((st+j)*1+0))=some v':=hv';rw[show st*1+j=(st+j)*1+0 from by omega,hv2,hrel];simp[Js])
    rw[hlen]at this;rw[this];simp[Js,Function.comp_def]
   rw[run_bytesToString w a0 m _ _ hload,hfold];simp[S]
 simp only[execOp,ho,hv,Sem.run_bind,hconv,hrun,Result.andThen_ok,Sem.run_pure]
end
end Sx
end Go
namespace Go
namespace Sx
end Sx
end Go
/-
  The plain functions that the program's functions of chapter 3 compute,part 1: links,places,relaxing arcs. Conditions: none; definitions and plain lemmas.
-/
namespace Go
namespace Proofs
def Jf(n lo hi:Int):Bool:=decide (lo≤n)&&decide (n≤hi)
end Proofs
end Go
/-
  Plain lemmas,part 2: what slices.IndexFunc and slices.DeleteFunc compute. Conditions: none.
-/
namespace Go
namespace Proofs
theorem JR{α:Type}{xs:List α}{i:Nat}(h:i<xs.length):xs.take (i+1)=xs.take i++[xs[i]]:=by
 rw[List.take_succ_eq_append_getElem h]
theorem bx9{α:Type}(p:α→Bool)(xs:List α)(x:α):(xs++[x]).filter p=xs.filter p++(if p x then [x]else []):=by
 rw[List.filter_append];congr 1;cases h:p x <;> simp[h]
theorem aq6{α:Type}{ls:List α}{p:α→Bool}{i:Nat}(h:i<ls.length):(ls.take (i+1)).filter p=(ls.take i).filter p++(if p ls[i]then [ls[i]]else []):=by
 rw[JR h,bx9]
theorem ab0{α:Type}{xs:List α}{x:α}:List.take xs.length xs++List.take 1 (List.drop 0 [x])=xs++[x]:=by rw[List.take_length];rfl
def YU{α:Type}(p:α→Bool):Nat→List α→Int
 |_,[]=>-1
 |i,x::r=>if p x then i else YU p (i+1) r
theorem ak7{α:Type}{p:α→Bool}:∀ {xs:List α} {i:Nat},(∀x∈xs,p x=false)→YU p i xs=-1
 | [],_,_=>rfl
 |x::r,i,h=>by
  simp only[YU];rw[if_neg (by rw[h x (by simp)];simp)];exact ak7 fun y hy=>h y (by simp[hy])
theorem ay3{α:Type}{p:α→Bool}:∀ {xs:List α} {i k:Nat} (h:k<xs.length),(∀x∈xs.take k,p x=false)→p xs[k]=true→YU p i xs=(i+k:Nat)
 | [],_,_,h,_,_=>by simp at h
 |x::r,i,0,_,_,hp=>by
  simp only[YU];rw[if_pos (by simpa using hp)];simp
 |x::r,i,k+1,h,hn,hp=>by
  simp only[YU];rw[if_neg (by rw[hn x (by simp)];simp),ay3 (k:=k) (by simpa using h) (fun y hy=>hn y (by simp[hy])) (by simpa using hp)];omega
theorem aZ2{α:Type}(p:α→Bool)(xs:List α):(YU p 0 xs=-1∧∀x∈xs,p x=false)∨∃(k:Nat) (h:k<xs.length),YU p 0 xs=k∧(∀x∈xs.take k,p x=false)∧p xs[k]=true:=by
 have key:∀(n:Nat),n≤xs.length→(∀x∈xs.take n,p x=false)∨∃(k:Nat) (_:k<xs.length),(∀x∈xs.take k,p x=false)∧p xs[k]=true:=by
  intro n
  induction n with
  |zero=>intro _;exact .inl (by simp)
  |succ n ih =>
   intro hn;rcases ih (by omega)with h|h
   ·cases hp:p (xs[n]'(by omega))with
    |true=>exact .inr ⟨n,by omega,h,hp⟩
    |false =>
     refine .inl fun x hx=>?_;rw[JR (by omega)]at hx;rcases List.mem_append.1 hx with hx|hx
     ·exact h x hx
     ·simp at hx;rw[hx];exact hp
   ·exact .inr h
 rcases key xs.length (Nat.le_refl _)with h|⟨k,hk,h1,h2⟩
 ·rw[List.take_length]at h;exact .inl ⟨ak7 h,h⟩
 ·exact .inr ⟨k,hk,by have:=ay3 (i:=0) hk h1 h2;simpa using this,h1,h2⟩
def Ki{α:Type}(p:α→Bool)(xs:List α)(j:Nat):List α:=(xs.take j).filter fun x=>!p x
def GG{α:Type}(p:α→Bool)(xs:List α)(j:Nat):List α:=Ki p xs j++xs.drop (Ki p xs j).length
theorem bC5{α:Type}(p:α→Bool)(xs:List α)(j:Nat)(h:j≤xs.length):(Ki p xs j).length≤j:=by
 unfold Ki;refine Nat.le_trans (List.length_filter_le _ _) ?_;simp;omega
theorem by0{α:Type}(p:α→Bool)(xs:List α)(j:Nat)(h:j≤xs.length):(GG p xs j).length=xs.length:=by
 have:=bC5 p xs j h;simp[GG];omega
theorem ch1{α:Type}(p:α→Bool)(xs:List α)(j i:Nat)(hi:(Ki p xs j).length≤i):(GG p xs j)[i]? = xs[i]?:=by
 unfold GG;rw[List.getElem?_append_right hi,List.getElem?_drop];congr 1;omega
theorem aU7{α:Type}{p:α→Bool}{xs:List α}{j:Nat}(h:j<xs.length)(hp:p xs[j]=true):Ki p xs (j+1)=Ki p xs j:=by
 unfold Ki;rw[aq6 h,hp];simp
theorem bC6{α:Type}{p:α→Bool}{xs:List α}{j:Nat}(h:j<xs.length)(hp:p xs[j]=false):Ki p xs (j+1)=Ki p xs j++[xs[j]]:=by
 unfold Ki;rw[aq6 h,hp];simp
theorem ch2{α:Type}{p:α→Bool}{xs:List α}{j:Nat}(h:j<xs.length)(hp:p xs[j]=true):GG p xs (j+1)=GG p xs j:=by
 unfold GG;rw[aU7 h hp]
theorem cv1{α:Type}{p:α→Bool}{xs:List α}{j:Nat}(h:j<xs.length)(hp:p xs[j]=false):(GG p xs j).set (Ki p xs j).length xs[j]=GG p xs (j+1):=by
 have hk:=bC5 p xs j (by omega);unfold GG;rw[bC6 h hp,List.set_append_right _ _ (Nat.le_refl _)];rw[List.append_assoc,List.length_append];congr 1;rw[Nat.sub_self];have e:=List.drop_eq_getElem_cons (l:=xs) (i:=(Ki p xs j).length) (by omega);rw[e];rfl
theorem bJ7{α:Type}{p:α→Bool}{xs:List α}{k:Nat}(h:k<xs.length)(hn:∀x∈xs.take k,p x=false)(hp:p xs[k]=true) :
 Ki p xs (k+1)=xs.take k∧GG p xs (k+1)=xs:=by
 have h1:Ki p xs (k+1)=xs.take k:=by
  rw[aU7 h hp];unfold Ki;exact List.filter_eq_self.2 fun x hx=>by rw[hn x hx];rfl
 refine⟨h1, ?_⟩;unfold GG;rw[h1];have:(xs.take k).length=k:=by simp;omega
 rw[this,List.take_append_drop]
theorem ch3{α:Type}(p:α→Bool)(xs:List α):(GG p xs xs.length).take (Ki p xs xs.length).length=xs.filter fun x=>!p x:=by
 unfold GG;rw[List.take_left' rfl];unfold Ki;rw[List.take_length]
end Proofs
end Go
namespace Go.Proofs
open Go.Sx
def tT:List (Nat×TI):=[
 (3,⟨.int .i64,1,8,[.int .i64 0]⟩),
 (4,⟨.bool,1,1,[.bool false]⟩),
 (5,⟨.int .u8,1,1,[.int .u8 0]⟩),
 (9,⟨.string,1,16,[.string (ByteArray.mk #[])]⟩),
 (22,⟨.slice 74,1,24,[.slice none 0 0]⟩),
 (24,⟨.struct [(0,3),(1,9),(2,22)],3,48,[.int .i64 0, .string (ByteArray.mk #[]), .slice none 0 0]⟩),
 (26,⟨.struct [(0,24),(3,3)],4,56,[.int .i64 0, .string (ByteArray.mk #[]), .slice none 0 0, .int .i64 0]⟩),
 (28,⟨.struct [(0,9),(1,9)],2,32,[.string (ByteArray.mk #[]), .string (ByteArray.mk #[])]⟩),
 (29,⟨.slice 3,1,24,[.slice none 0 0]⟩),
 (30,⟨.int .i64,1,8,[.int .i64 0]⟩),
 (33,⟨.slice 9,1,24,[.slice none 0 0]⟩),
 (35,⟨.array 16 5,16,16,[.int .u8 0, .int .u8 0, .int .u8 0, .int .u8 0, .int .u8 0, .int .u8 0, .int .u8 0, .int .u8 0, .int .u8 0, .int .u8 0, .int .u8 0, .int .u8 0, .int .u8 0, .int .u8 0, .int .u8 0, .int .u8 0]⟩),
 (45,⟨.slice 47,1,24,[.slice none 0 0]⟩),
 (47,⟨.struct [(0,3),(1,3),(2,3)],3,24,[.int .i64 0, .int .i64 0, .int .i64 0]⟩),
 (52,⟨.slice 29,1,24,[.slice none 0 0]⟩),
 (53,⟨.slice 64,1,24,[.slice none 0 0]⟩),
 (57,⟨.ptr 124,1,8,[.pointer none]⟩),
 (62,⟨.struct [(0,3),(1,3)],2,16,[.int .i64 0, .int .i64 0]⟩),
 (64,⟨.struct [(0,3),(1,3),(2,3),(3,62),(5,3)],6,48,[.int .i64 0, .int .i64 0, .int .i64 0, .int .i64 0, .int .i64 0, .int .i64 0]⟩),
 (65,⟨.slice 62,1,24,[.slice none 0 0]⟩),
 (68,⟨.struct [(0,3),(1,3),(2,3),(3,3),(4,3)],5,40,[.int .i64 0, .int .i64 0, .int .i64 0, .int .i64 0, .int .i64 0]⟩),
 (74,⟨.struct [(0,3),(1,3)],2,16,[.int .i64 0, .int .i64 0]⟩),
 (79,⟨.func,1,8,[.nilFunc]⟩),
 (84,⟨.ptr 151,1,8,[.pointer none]⟩),
 (88,⟨.ptr 164,1,8,[.pointer none]⟩),
 (91,⟨.ptr 98,1,8,[.pointer none]⟩),
 (94,⟨.ptr 234,1,8,[.pointer none]⟩),
 (95,⟨.ptr 243,1,8,[.pointer none]⟩),
 (96,⟨.map 9 9,1,8,[.map none]⟩),
 (98,⟨.struct [(0,94),(1,95),(2,3),(3,96),(4,96),(5,4)],6,48,[.pointer none, .pointer none, .int .i64 0, .map none, .map none, .bool false]⟩),
 (104,⟨.int .u64,1,8,[.int .u64 0]⟩),
 (105,⟨.ptr 189,1,8,[.pointer none]⟩),
 (117,⟨.ptr 200,1,8,[.pointer none]⟩),
 (120,⟨.map 62 3,1,8,[.map none]⟩),
 (121,⟨.slice 125,1,24,[.slice none 0 0]⟩),
 (122,⟨.slice 130,1,24,[.slice none 0 0]⟩),
 (124,⟨.struct [(0,117),(1,121),(2,3),(3,122),(4,3),(5,120)],6,80,[.pointer none, .slice none 0 0, .int .i64 0, .slice none 0 0, .int .i64 0, .map none]⟩),
 (125,⟨.ptr 210,1,8,[.pointer none]⟩),
 (130,⟨.struct [(0,3),(1,3),(2,3),(3,62),(5,3),(6,3)],7,56,[.int .i64 0, .int .i64 0, .int .i64 0, .int .i64 0, .int .i64 0, .int .i64 0, .int .i64 0]⟩),
 (140,⟨.ptr 143,1,8,[.pointer none]⟩),
 (141,⟨.slice 5,1,24,[.slice none 0 0]⟩),
 (143,⟨.struct [(0,140),(1,141)],2,32,[.pointer none, .slice none 0 0]⟩),
 (149,⟨.slice 187,1,24,[.slice none 0 0]⟩),
 (151,⟨.struct [(0,149),(1,3),(2,4)],3,40,[.slice none 0 0, .int .i64 0, .bool false]⟩),
 (153,⟨.struct [(0,84),(1,3),(2,3)],3,24,[.pointer none, .int .i64 0, .int .i64 0]⟩),
 (156,⟨.int .u64,1,8,[.int .u64 0]⟩),
 (158,⟨.struct [(0,156),(1,156),(2,156),(3,156),(4,9)],5,48,[.int .u64 0, .int .u64 0, .int .u64 0, .int .u64 0, .string (ByteArray.mk #[])]⟩),
 (162,⟨.slice 171,1,24,[.slice none 0 0]⟩),
 (164,⟨.struct [(0,153),(3,158),(8,156),(9,162)],10,104,[.pointer none, .int .i64 0, .int .i64 0, .int .u64 0, .int .u64 0, .int .u64 0, .int .u64 0, .string (ByteArray.mk #[]), .int .u64 0, .slice none 0 0]⟩),
 (165,⟨.ptr 181,1,8,[.pointer none]⟩),
 (171,⟨.struct [(0,9),(1,156),(2,9)],3,40,[.string (ByteArray.mk #[]), .int .u64 0, .string (ByteArray.mk #[])]⟩),
 (181,⟨.array 128 5,128,128,List.replicate 128 (.int .u8 0)⟩),
 (185,⟨.slice 181,1,24,[.slice none 0 0]⟩),
 (187,⟨.struct [(0,181),(128,185)],129,152,List.replicate 128 (.int .u8 0)++[.slice none 0 0]⟩),
 (189,⟨.struct [(0,9),(1,3)],2,24,[.string (ByteArray.mk #[]), .int .i64 0]⟩),
 (192,⟨.func,1,8,[.nilFunc]⟩),
 (194,⟨.func,1,8,[.nilFunc]⟩),
 (198,⟨.map 62 68,1,8,[.map none]⟩),
 (200,⟨.struct [(0,3),(1,3),(2,3),(3,198)],4,32,[.int .i64 0, .int .i64 0, .int .i64 0, .map none]⟩),
 (203,⟨.func,1,8,[.nilFunc]⟩),
 (205,⟨.slice 65,1,24,[.slice none 0 0]⟩),
 (206,⟨.map 62 218,1,8,[.map none]⟩),
 (208,⟨.struct [(0,29),(1,205),(2,206)],3,56,[.slice none 0 0, .slice none 0 0, .map none]⟩),
 (210,⟨.struct [(0,208),(3,3),(4,120),(5,120)],6,80,[.slice none 0 0, .slice none 0 0, .map none, .int .i64 0, .map none, .map none]⟩),
 (214,⟨.func,1,8,[.nilFunc]⟩),
 (218,⟨.struct [(0,3),(1,3),(2,3)],3,24,[.int .i64 0, .int .i64 0, .int .i64 0]⟩),
 (232,⟨.slice 245,1,24,[.slice none 0 0]⟩),
 (234,⟨.struct [(0,232),(1,3),(2,4)],3,40,[.slice none 0 0, .int .i64 0, .bool false]⟩),
 (241,⟨.slice 252,1,24,[.slice none 0 0]⟩),
 (243,⟨.struct [(0,94),(1,3),(2,3),(3,3),(4,3),(5,3),(6,3),(7,9),(8,241)],9,96,[.pointer none, .int .i64 0, .int .i64 0, .int .i64 0, .int .i64 0, .int .i64 0, .int .i64 0, .string (ByteArray.mk #[]), .slice none 0 0]⟩),
 (245,⟨.struct [(0,181),(128,185)],129,152,List.replicate 128 (.int .u8 0)++[.slice none 0 0]⟩),
 (252,⟨.struct [(0,9),(1,3),(2,9)],3,40,[.string (ByteArray.mk #[]), .int .i64 0, .string (ByteArray.mk #[])]⟩),
 (254,⟨.ptr 187,1,8,[.pointer none]⟩),
 (261,⟨.func,1,8,[.nilFunc]⟩),
 (262,⟨.ptr 293,1,8,[.pointer none]⟩),
 (264,⟨.func,1,8,[.nilFunc]⟩),
 (273,⟨.int .i64,1,8,[.int .i64 0]⟩),
 (280,⟨.int .u32,1,4,[.int .u32 0]⟩),
 (285,⟨.struct [(0,156),(1,156),(2,156),(3,156)],4,32,[.int .u64 0, .int .u64 0, .int .u64 0, .int .u64 0]⟩),
 (293,⟨.struct [(0,9),(1,3)],2,24,[.string (ByteArray.mk #[]), .int .i64 0]⟩),
 (299,⟨.int .u64,1,8,[.int .u64 0]⟩),
 (306,⟨.ptr 299,1,8,[.pointer none]⟩)]
theorem bU5(P:Program):am1 P []:=by intro p hp;cases hp
theorem bJ8{P:Program}{t:Nat}{ti:TI}{T:List (Nat×TI)}(h:ao9 P t=some ti)(hT:am1 P T):am1 P ((t,ti)::T):=by
 intro p hp;rcases List.mem_cons.1 hp with rfl|hp
 ·exact h
 ·exact hT p hp
theorem cH8:am1 Tryz.prog tT:=by
 unfold tT;repeat (refine bJ8 (by kernel_rfl) ?_)
 exact bU5 _
def tB:Tabs:=⟨tT,[(47,3),(62,2)],[(35,16, .int .u8),(181,128, .int .u8)]⟩
theorem cr5:aT0 Tryz.prog [(47,3),(62,2)] :=
 bh2 (by kernel_rfl) (by kernel_rfl) (by kernel_rfl) (by kernel_rfl) (by kernel_rfl) (bh2 (by kernel_rfl) (by kernel_rfl) (by kernel_rfl) (by kernel_rfl) (by kernel_rfl) cg9)
theorem cC5:aW9 Tryz.prog [(35,16, .int .u8),(181,128, .int .u8)] :=
 bh3 (e:=5) (d:=.int .u8) (i:=(Tryz.prog.info? 5).get!) (by kernel_rfl) (by kernel_rfl) rfl (by kernel_rfl) (by kernel_rfl) (by kernel_rfl)
  (bh3 (e:=5) (d:=.int .u8) (i:=(Tryz.prog.info? 5).get!) (by kernel_rfl) (by kernel_rfl) rfl (by kernel_rfl) (by kernel_rfl) (by kernel_rfl) bS0)
theorem Ja:TabsOK Tryz.prog tB:=⟨cH8,by kernel_rfl,by kernel_rfl,cr5,cC5,by kernel_rfl⟩
end Go.Proofs
namespace Go
namespace Sx
theorem XC(z:Int):IntKind.u64.wrap z=z%18446744073709551616:=by
 simp[IntKind.wrap,IntKind.bits,IntKind.signed]
theorem ao4(z:Int):IntKind.u8.wrap z=z%256:=by
 simp[IntKind.wrap,IntKind.bits,IntKind.signed]
abbrev uv(x:UInt64):SV:=iv .u64 (x.toNat:Int)
abbrev bt(x:UInt8):SV:=iv .u8 (x.toNat:Int)
theorem ay4(x:UInt64):x.toNat<18446744073709551616:=x.toNat_lt
theorem UX(x:UInt8):x.toNat<256:=x.toNat_lt
theorem GB(x y:UInt64):IntKind.u64.wrap ((x.toNat:Int)+(y.toNat:Int))=((x+y).toNat:Int):=by
 rw[XC,UInt64.toNat_add];omega
theorem ay5(x:UInt64):BitVec.ofInt 64 (x.toNat:Int)=x.toBitVec:=by
 rw[BitVec.ofInt_natCast];exact BitVec.ofNat_toNat ..
theorem aU9(b:BitVec 64):IntKind.u64.wrap (b.toNat:Int)=(b.toNat:Int):=by
 rw[XC];have:=b.isLt;omega
theorem Uw(x y:UInt64):KO .xor .u64 (x.toNat:Int) (y.toNat:Int)=some ((x^^^y).toNat:Int):=by
 show some (IntKind.u64.wrap ((BitVec.ofInt 64 (x.toNat:Int)^^^BitVec.ofInt 64 (y.toNat:Int)).toNat:Int))=_;rw[ay5,ay5,aU9];rfl
theorem aZ3(x y:UInt64):KO .or .u64 (x.toNat:Int) (y.toNat:Int)=some ((x|||y).toNat:Int):=by
 show some (IntKind.u64.wrap ((BitVec.ofInt 64 (x.toNat:Int)|||BitVec.ofInt 64 (y.toNat:Int)).toNat:Int))=_;rw[ay5,ay5,aU9];rfl
theorem be9(x y:UInt64):KO .and .u64 (x.toNat:Int) (y.toNat:Int)=some ((x&&&y).toNat:Int):=by
 show some (IntKind.u64.wrap ((BitVec.ofInt 64 (x.toNat:Int)&&&BitVec.ofInt 64 (y.toNat:Int)).toNat:Int))=_;rw[ay5,ay5,aU9];rfl
theorem ag6(x:UInt64)(k:Nat)(h:k<64):IntKind.u64.wrap ((x.toNat:Int)*2 ^ (min k 64))=((x<<<UInt64.ofNat k).toNat:Int):=by
 rw[XC,Nat.min_eq_left (by omega),UInt64.toNat_shiftLeft];have e:(UInt64.ofNat k).toNat%64=k:=by
  rw[UInt64.toNat_ofNat'];omega
 rw[e,Nat.shiftLeft_eq];simp
theorem Km(x:UInt64)(k:Nat)(h:k<64):(x.toNat:Int).fdiv (2 ^ (min k 64))=((x>>>UInt64.ofNat k).toNat:Int):=by
 rw[Nat.min_eq_left (by omega),UInt64.toNat_shiftRight];have e:(UInt64.ofNat k).toNat%64=k:=by
  rw[UInt64.toNat_ofNat'];omega
 rw[e,Nat.shiftRight_eq_div_pow,Int.fdiv_eq_ediv_of_nonneg _ (Int.le_of_lt (Int.pow_pos (by decide)))];simp
theorem ag7(x:UInt64):IntKind.u8.wrap (x.toNat:Int)=(x.toUInt8.toNat:Int):=by
 rw[ao4,UInt64.toNat_toUInt8];omega
theorem aO8(x:UInt8):IntKind.u64.wrap (x.toNat:Int)=(x.toUInt64.toNat:Int):=by
 rw[XC,UInt8.toNat_toUInt64];have:=UX x;omega
end Sx
end Go
namespace Go.Proofs
open Go.Sx
theorem YX{z:Int}(h:-9223372036854775808≤z∧z≤9223372036854775807):IntKind.i64.wrap z=z:=by
 rw[IntKind.wrap_i64];omega
theorem JA(n lo hi:Int):Triple Tryz.prog 22 [iv .i64 n,iv .i64 lo,iv .i64 hi] [] 0 (bv (Jf n lo hi)) []:=by
 refine Jc Ja Tryz.func22 rfl Tryz.call22 rfl ?_;intro ρ w hH;conv=>whnf
 refine⟨fun h=>?_,fun h=>?_⟩
 ·conv=>whnf
  exact⟨(by simp[Jf,h]:decide (n≤hi)=Jf n lo hi),trivial⟩
 ·conv=>whnf
  exact⟨(by simp[Jf,h]:false=Jf n lo hi),trivial⟩
def JJ(l:List UInt8):UInt64:=l.foldl (fun n b=>n<<<UInt64.ofNat 8|||b.toUInt64) 0
theorem at8(l:List UInt8)(b:UInt8):JJ (l++[b])=JJ l<<<UInt64.ofNat 8|||b.toUInt64:=by simp[JJ]
theorem aC7(fx:Option Nat)(L:List UInt8)(st n:Nat)(h:st+n≤L.length)(hn:n≤1000000):Triple Tryz.prog 71 [.c (.s 0 st n 1)] [(0,false, .arr (Qr fx L))] 1 (uv (JJ ((L.drop st).take n))) []:=by
 refine Jc Ja Tryz.func71 rfl Tryz.call71 rfl ?_;intro ρ w hH;conv=>whnf
 refine Jz Ja (G:=Nat) 0 [] (fun i=>[(3,uv (JJ ((L.drop st).take i))),(8,iv .i64 i)]) (fun _=>[]) (fun i=>i≤n) (fun i=>n-i) ?_;conv=>whnf
 refine⟨⟨0,Nat.zero_le _, ?_⟩, ?_⟩
 ·conv=>whnf
  exact cl
 rintro i hi ρ1 t1 hρ1
 conv=>whnf
 refine⟨fun hc=>?_,fun hc=>?_⟩
 ·have hlt:i<n:=by simpa using hc
  conv=>whnf
  refine⟨i,rfl,hlt, ?_⟩;conv=>whnf
  refine⟨by rw[Qc];show st+i<L.length;omega, ?_⟩;conv=>whnf
  refine⟨by decide,_,ag6 _ 8 (by omega), ?_⟩;conv=>whnf
  refine⟨_,aO8 _, ?_⟩;conv=>whnf
  refine⟨_,aZ3 _ _, ?_⟩;conv=>whnf
  refine⟨_,wO, ?_⟩;refine⟨i+1,hlt,by show n-(i+1)<n-i;omega, ?_⟩;have key:∀hz,JJ ((L.drop st).take i)<<<UInt64.ofNat 8|||(L[JO st i]'hz).toUInt64=JJ ((L.drop st).take (i+1)):=by
   intro hz;have h1:i<(L.drop st).length:=by rw[List.length_drop];omega
   rw[JR h1,at8,List.getElem_drop];simp only[Qc]
  conv=>whnf
  refine⟨rfl, ?_⟩;conv=>whnf
  repeat' (first|exact congrArg (fun z:UInt64=>(z.toNat:Int)) (key _)|exact trivial|exact rfl|refine And.intro ?_ ?_|((conv=>whnf);first|exact congrArg (fun z:UInt64=>(z.toNat:Int)) (key _)|exact trivial|exact rfl|refine And.intro ?_ ?_|omega))
 ·have hie:i=n:=by simp at hc;omega
  subst hie;conv=>whnf
  exact cl
def JW:Nat→UInt64→List UInt8
 |0,_=>[]
 |n+1,x=>JW n (x>>>UInt64.ofNat 8)++[x.toUInt8]
theorem JU(n:Nat)(x:UInt64):(JW n x).length=n:=by
 induction n generalizing x with
 |zero=>rfl
 |succ n ih=>simp[JW,ih]
theorem bJ9(fx:Option Nat)(L:List UInt8)(st n:Nat)(x:UInt64)(h:st+n≤L.length)(hn:n≤1000000) :
 Triple Tryz.prog 94 [.c (.s 0 st n 1),uv x] [(0,true, .arr (Qr fx L))] 1 (.tup []) [(0,true, .arr (Qr fx (L.take st++JW n x++L.drop (st+n))))]:=by
 generalize hR:L.take st++JW n x++L.drop (st+n)=R;refine Jc Ja Tryz.func94 rfl Tryz.call94 rfl ?_;intro ρ w hH;conv=>whnf
 refine⟨_,wO, ?_⟩
 refine Jz Ja (G:=Nat×UInt64×List UInt8) 0 [] (fun g=>[(1,uv g.2.1),(4,iv .i64 ((g.1:Int)-1))]) (fun g=>[(0,true, .arr (Qr fx g.2.2))])
  (fun g=>g.1≤n∧g.2.2.length=L.length∧g.2.2.take (st+g.1)=L.take (st+g.1)∧L.take st++JW g.1 g.2.1++g.2.2.drop (st+g.1)=R) (fun g=>g.1) ?_
 conv=>whnf
 refine⟨⟨(n,x,L),⟨Nat.le_refl _,rfl,rfl,hR⟩, ?_⟩, ?_⟩
 ·conv=>whnf
  exact cl
 rintro ⟨m,y,M⟩ ⟨hm,hl,ht,hg⟩ ρ1 t1 hρ1
 dsimp only at hm hl ht hg;conv=>whnf
 refine⟨fun hc=>?_,fun hc=>?_⟩
 ·have hpos:1≤m:=by simp at hc;omega
  obtain⟨m,rfl⟩:∃j,m=j+1:=⟨m-1,by omega⟩;conv=>whnf
  refine⟨_,ag7 _, ?_⟩;conv=>whnf
  refine⟨m,by omega,by omega, ?_⟩;conv=>whnf
  refine⟨by rw[Qc];show st+m<M.length;omega,y.toUInt8,rfl, ?_⟩;conv=>whnf
  refine⟨by decide,_,Km _ 8 (by omega), ?_⟩;conv=>whnf
  refine⟨(m:Int)-1,by rw[YX ⟨by omega,by omega⟩];omega, ?_⟩;have e1:(M.set (JO st m) y.toUInt8).drop (st+m)=y.toUInt8::M.drop (st+m+1):=by
   rw[Qc,List.drop_set,if_neg (by omega),Nat.sub_self,List.drop_eq_getElem_cons (by omega)];rfl
  refine⟨(m,y>>>UInt64.ofNat 8,M.set (JO st m) y.toUInt8),⟨by omega,by simpa using hl, ?_, ?_⟩,by show m<m+1;omega, ?_⟩
  ·show(M.set (JO st m) y.toUInt8).take (st+m)=_;rw[Qc,List.take_set_of_le (by omega)];have:=congrArg (List.take (st+m)) ht;rwa[List.take_take,List.take_take,Nat.min_eq_left (by omega)]at this
  ·show L.take st++JW m (y>>>UInt64.ofNat 8)++(M.set (JO st m) y.toUInt8).drop (st+m)=R;rw[e1,←hg];simp[JW,Nat.add_assoc]
  conv=>whnf
  refine⟨rfl, ?_⟩;conv=>whnf
  exact cl
 ·have hm0:m=0:=by simp at hc;omega
  subst hm0;have e2:M=R:=by
   rw[←hg];have:=List.take_append_drop st M;rw[Nat.add_zero]at ht ⊢;rw[←ht];simp[JW]
  subst e2;conv=>whnf
  exact cl
theorem aV0(a b:List UInt8):Triple Tryz.prog 46 [.agg [WI a,WI b]] [] 0 (bv (Jf a.length 1 64&&Jf b.length 1 64)) []:=by
 refine Jc Ja Tryz.func46 rfl Tryz.call46 rfl ?_;intro ρ w hH;conv=>whnf
 refine Jb (JA a.length 1 64) rfl rfl ?_;conv=>whnf
 refine cs ?_;conv=>whnf
 refine⟨fun hc=>?_,fun hc=>?_⟩
 ·conv=>whnf
  refine Jb (JA b.length 1 64) rfl rfl ?_;conv=>whnf
  refine cs ?_;conv=>whnf
  exact⟨(by rw[hc];rfl:Jf b.length 1 64=(Jf a.length 1 64&&Jf b.length 1 64)),trivial⟩
 ·conv=>whnf
  exact⟨(by rw[hc];rfl:false=(Jf a.length 1 64&&Jf b.length 1 64)),trivial⟩
def aC8(x:UInt64)(k:Nat):UInt64:=x<<<UInt64.ofNat k|||x>>>UInt64.ofNat (64-k)
theorem cr6(x:UInt64)(k:Nat)(h0:0<k)(hk:k<64)(hb:KO .and .u64 (k:Int) 63=some (k:Int)):Triple Tryz.prog 92 [uv x,iv .i64 (k:Int)] [] 0 (uv (aC8 x k)) []:=by
 refine Jc Ja Tryz.func92 rfl Tryz.call92 rfl ?_;intro ρ w hH;conv=>whnf
 refine⟨(k:Int),by rw[XC];omega, ?_⟩;conv=>whnf
 refine⟨_,hb, ?_⟩;conv=>whnf
 refine⟨by omega,_,ag6 _ k hk, ?_⟩;conv=>whnf
 refine⟨((64-k:Nat):Int),by rw[XC];omega, ?_⟩;conv=>whnf
 refine⟨by omega,_,Km _ (64-k) (by omega), ?_⟩;conv=>whnf
 refine⟨_,aZ3 _ _, ?_⟩;conv=>whnf
 exact cl
structure Mix where
 a:UInt64
 b:UInt64
 c:UInt64
 d:UInt64
def bm3(m:Mix)(k l:Nat):Mix :=
 let a:=m.a+m.b
 let d:=aC8 (m.d^^^a) k
 let c:=m.c+d
 ⟨a,aC8 (m.b^^^c) l,c,d⟩
abbrev cC6(m:Mix):Je:=[(0,true, .cells [.v (.int .u64 (m.a.toNat:Int))]),(1,true, .cells [.v (.int .u64 (m.b.toNat:Int))]),(2,true, .cells [.v (.int .u64 (m.d.toNat:Int))]),(3,true, .cells [.v (.int .u64 (m.c.toNat:Int))])]
theorem bU6(m:Mix)(k l:Nat)(hk:0<k∧k<64)(hl:0<l∧l<64)(hb:KO .and .u64 (k:Int) 63=some (k:Int))(hb2:KO .and .u64 (l:Int) 63=some (l:Int)) :
 Triple Tryz.prog 91 [iv .i64 (k:Int),iv .i64 (l:Int), .c (.p 0 0 0 0), .c (.p 1 0 0 0), .c (.p 2 0 0 0), .c (.p 3 0 0 0)] (cC6 m) 4 (.tup []) (cC6 (bm3 m k l)):=by
 obtain⟨a,b,c,d⟩:=m;refine Jc Ja Tryz.func91 rfl Tryz.call91 rfl ?_;intro ρ w hH;conv=>whnf
 refine⟨_,GB _ _, ?_⟩;conv=>whnf
 refine⟨_,Uw _ _, ?_⟩;conv=>whnf
 refine Jb (cr6 (d^^^(a+b)) k hk.1 hk.2 hb) rfl rfl ?_;conv=>whnf
 refine cs ?_;conv=>whnf
 refine⟨_,GB _ _, ?_⟩;conv=>whnf
 refine⟨_,Uw _ _, ?_⟩;conv=>whnf
 refine Jb (cr6 (b^^^(c+aC8 (d^^^(a+b)) k)) l hl.1 hl.2 hb2) rfl rfl ?_;conv=>whnf
 refine cs ?_;conv=>whnf
 exact cl
end Go.Proofs
namespace Go
namespace Sx
theorem Sat.lookEq{cx:Cx}{ρ:Jn}{e:Env}{H H':Je}{n:Nat}{a:Act}{w:World}(h:Sat cx ρ ⟨e,H,n⟩ a w)(hl:∀k,look H' k=look H k):Sat cx ρ ⟨e,H',n⟩ a w where
 size:=h.size
 defers:=h.defers
 env:=h.env
 heap:=⟨h.heap.frm,fun k own o hk=>h.heap.reg k own o (by rw[←hl k];exact hk),fun k k' o own' o' hne hk hk'=>h.heap.apart k k' o own' o' hne (by rw[←hl k];exact hk) (by rw[←hl k'];exact hk'),
  fun k o hk=>h.heap.fresh k o (by rw[←hl k];exact hk),fun k own o hk=>h.heap.valid k own o (by rw[←hl k];exact hk)⟩
 bnd:=⟨h.bnd.env,h.bnd.mks,fun k own o hk=>h.bnd.heap k own o (by rw[←hl k];exact hk)⟩
 base:=h.base
 keep:=h.keep
 n0:=h.n0
theorem Sat.addNil{cx:Cx}{ρ:Jn}{s:St}{a:Act}{w:World}(h:Sat cx ρ s a w){k:Nat}(hf:Fresh k s)(hlt:k<s.nx)(hn:cx.n0≤k){A:Arr}(hA:A.xs=[])(hfx:(SO.arr A).fx=none)(hb:(SO.arr A).below s.nx) :
 Sat cx (Ya ρ k ⟨0,0,0,[]⟩) { s with H:=(k,true, .arr A)::s.H } a w where
 size:=h.size
 defers:=by rw[h.defers];exact(Vt fun j hj=>Jx (by rintro rfl;exact hf.mks hj)).symm
 env i:=SV.rel_agree (fun j hj=>Jx (by rintro rfl;have:=hf.env i;rw[hj]at this;cases this)) (h.env i)
 heap:=by
  refine h.heap.cons (fun j own o hl hj=>⟨Jx hj,fun n hnn=>Jx (fun hkk=>by have:=(hf.heap j own o hl).2;rw[←hkk,hnn]at this;cases this)⟩) (Nat.le_refl _) h.heap.frm (fun _ _ _=>rfl)
   rfl (fun j own' o' hl hj hp hr=>?_) (fun _ _ _ _ _ _ _ _=>rfl) ?_ ?_ ?_
  ·simp only[SO.room,Jq,Nat.zero_mul]at hr;cases hr
  ·refine⟨by simp only[SO.wf,hA];exact Nat.zero_le _,fun i j c hc=>?_,fun _ _ _ n hn=>?_,fun _=>by rw[Jq],(fun Φ hΦ=>by cases hΦ),(fun Φ hΦ=>by cases hΦ),(fun n hn=>by rw[hfx]at hn;cases hn),(fun t ht hr=>by rw[Jq]at hr;simp[SO.room]at hr)⟩
   ·simp only[SO.cell?,hA]at hc;cases hc
   ·simp only[SO.room,Jq,Nat.zero_mul]at hn;cases hn
  ·intro _ hr;simp only[SO.room,Jq,Nat.zero_mul]at hr;cases hr
  ·intro hr;simp only[SO.room,Jq,Nat.zero_mul]at hr;cases hr
 bnd:=h.bnd.cons hlt hb
 base j hj:=by rw[Jx (by omega)];exact h.base j hj
 keep:=h.keep
 n0:=h.n0
def bC7(B:Tabs)(A:Arr)(zs:List A.α)(t t':TypeId)(x y:SV)(H:Je)(nx:Nat)(K:Eff→Prop):Prop :=
 match Ji B.T t,Ji B.T t',x,y with
 |some ⟨.slice el,_,_,_⟩,some ⟨.slice _,_,_,_⟩, .c (.v (.slice none 0 0)), .c (.s k' st m sz)=>(match Ji B.T el with
  |some ti=>bif Nat.beq ti.size sz&&(Nat.ble 1 sz&&Nat.beq sz A.sz)then(match look H k' with
   |some (_, .arr X)=>(X=A.setXs zs∧A.nm=[]∧st+m≤zs.length∧m*(ti.bytes+1)≤140737488355328) ∧
    K ⟨.c (.s (nx+1) 0 m sz),[k'],[(nx+1,true, .arr (A.setXs ((zs.drop st).take m))),(nx,false, .cells [])],[nx,nx+1]⟩
   |_=>False)else False
  |none=>False)
 |_,_,_,_=>False
theorem aw1{cx:Cx}{B:Tabs}(hB:TabsOK cx.P B){o:Oper}{e:Env}{H:Je}{nx:Nat}{K:Eff→Prop}{c:Call}{x y:Operand}{t t':TypeId}(A:Arr)(zs:List A.α)
 (hone:∀x,Vs (A.enc x)=true) (ho:o.op=.call c) (hc:c.callee=.builtin .append) (hca:c.args=#[x,y]) (hct:c.argTypes=#[t,t'])
 (h:bC7 B A zs t t' (ev e x) (ev e y) H nx K) (hfx:A.fx=none:=by rfl) (hty:∀el s b z t',Ji B.T t=some ⟨.slice el,s,b,z⟩→A.ty=some t'→el=t':=by intro _ _ _ _ _ _ h;cases h):∃F,CallOK cx o e H nx F∧K F:=by
 have hx:x∈o.op.operands.toList:=by simp[ho,Op.operands,Call.operands,hc,hca]
 have hy:y∈o.op.operands.toList:=by simp[ho,Op.operands,Call.operands,hc,hca]
 unfold bC7 at h;split at h
 ·rename_i el s0 b0 z0 el' s1 b1 z1 k' st m sz ht ht' hex hey
  split at h
  ·rename_i ti hti
   obtain⟨hb,h⟩:=YS h;simp only[Bool.and_eq_true]at hb;obtain⟨hb1,hb3,hb4⟩:=hb;have hb1:=Nat.eq_of_beq_eq_true hb1;have hb3:=Nat.le_of_ble_eq_true hb3;have hb4:=Nat.eq_of_beq_eq_true hb4;split at h
   ·rename_i ow X hlk'
    obtain⟨⟨rfl,hnm,h2,h3⟩,hK⟩:=h;refine⟨_,⟨?_, ?_⟩,hK⟩
    rotate_left
    ·intro j hj;simp at hj;rcases hj with rfl|rfl <;> simp
    intro ρ s a w hs hr hk hnew hdst KK Q hKK;obtain⟨hfr,hlt,hn0⟩:=hnew nx (by simp);obtain⟨hfr1,hlt1,hn1⟩:=hnew (nx+1) (by simp);have hl2:look s.H k'=some (ow, .arr (A.setXs zs)):=by rw[hk k' (by simp)];exact hlk'
    have hfit:∀z,z∈o.op.operands.toList→(ev e z).rel ρ (a.eval z):=fun z hz=>Jg hz (fun t ht=>by rw[←hr t ht];exact hs.env t);have hx1:=hfit x hx;have hy1:=hfit y hy;rw[hex]at hx1;rw[hey]at hy1;have hkn:k'≠nx:=(hfr.heap k' ow _ hl2).1;have hkn1:k'≠nx+1:=(hfr1.heap k' ow _ hl2).1;have hx1:a.eval x=.slice none 0 0:=hx1;have hs2:=hs.addNil hfr hlt hn0 (A:=A.setXs []) rfl hfx (fun(j:Nat) (hj:Jy [j] A.nm=true)=>by rw[hnm]at hj;cases hj);have hfr2:Fresh (nx+1) { s with H:=(nx,true, .arr (A.setXs []))::s.H }:=⟨hfr1.env,hfr1.mks,fun j own o hl=>by
     rw[Jh]at hl;by_cases hj:j=nx
     ·rw[if_pos hj]at hl;simp at hl;obtain⟨_,rfl⟩:=hl;refine⟨by omega, ?_⟩;show Jy [nx+1] A.nm=false;rw[hnm];rfl
     ·rw[if_neg hj]at hl;exact hfr1.heap j own o hl⟩
    refine bp9 (A0:=A.setXs []) (k:=nx) (k':=k') (len:=0) (st:=st) (m:=m) (sz:=sz) (sz':=sz) (ow:=ow) (nx:=nx+1) hB zs hone hfx (fun t' h=>hty _ _ _ _ t' ht h) ho hc hca hct ht ht' hti hb1 rfl hb3 hb4 hs2 ?_ ?_ (Nat.le_refl _) h2 (by rw[Nat.zero_add];exact h3) ?_ ?_ hfr2 hlt1 hn1 hdst ?_
    ·show look ((nx,true,SO.arr (A.setXs []))::s.H) nx=_;rw[Jh,if_pos rfl]
    ·refine hs2.heap.reg k' ow _ ?_;show look ((nx,true,SO.arr (A.setXs []))::s.H) k'=_;rw[Jh,if_neg hkn];exact hl2
    ·exact⟨none,by rw[hx1,Jq];rfl,by rw[Jq];exact Nat.le_refl _,fun h=>by rw[Jq]at h;cases h⟩
    ·exact SC.rel_agree (fun j hj=>Jx (by simp[SC.nms]at hj;subst hj;exact hkn)) hy1
    ·intro ρ' a' w' hsat hag;rw[Nat.zero_add]at hsat;refine hKK ρ' a' w' (hsat.lookEq fun j=>?_) fun j hj=>?_
     ·simp only[List.cons_append,List.nil_append,Jh];by_cases h1:j=nx+1
      ·rw[if_pos h1,if_pos h1];rfl
      ·rw[if_neg h1,if_neg h1];by_cases h0:j=nx
       ·rw[if_pos h0,if_pos h0]
       ·rw[if_neg h0,if_neg h0,if_neg h0]
     ·have h1:j≠nx∧j≠nx+1:=by simpa using hj
      rw[hag j (by simp;exact h1.2),Jx h1.1]
   ·exact h.elim
  ·exact h.elim
 ·exact h.elim
end Sx
end Go
