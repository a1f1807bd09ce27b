/-
  A part of the proof that a law answers true: lemmas of a symbolic walk, plain functions, or contracts of the functions walked (Sx1, Sx2, Sx3, Sx4, Sx5). Conditions: none.
-/
import Derived.CallsIn
import Derived.OrdersIn
import Derived.RangeFuncRecord
set_option maxRecDepth 100000
set_option linter.unusedVariables false
set_option linter.unusedSimpArgs false
namespace Go.Sx
theorem cl{P:Prop}(h:P:=by repeat'(first|exact trivial|exact rfl|refine And.intro ?_ ?_|((conv=>whnf);first|exact trivial|exact rfl|refine And.intro ?_ ?_|omega))):P:=h
theorem cs{A B C:Prop}(h:C)(a:A:=by repeat'(first|exact trivial|exact rfl|refine And.intro ?_ ?_|((conv=>whnf);first|exact trivial|exact rfl|refine And.intro ?_ ?_|omega)))(b:B:=by repeat'(first|exact trivial|exact rfl|refine And.intro ?_ ?_|((conv=>whnf);first|exact trivial|exact rfl|refine And.intro ?_ ?_|omega))):A∧B∧C:=⟨a,b,h⟩
theorem JE{P:Prop}(h:P:=by repeat'(first|exact(JI rfl)|exact trivial|exact rfl|refine And.intro ?_ ?_|((conv=>whnf);first|exact(JI rfl)|exact trivial|exact rfl|refine And.intro ?_ ?_|omega))):P:=h
theorem Qs{A B C:Prop}(h:C)(a:A:=by repeat'(first|exact(JI rfl)|exact trivial|exact rfl|refine And.intro ?_ ?_|((conv=>whnf);first|exact(JI rfl)|exact trivial|exact rfl|refine And.intro ?_ ?_|omega)))(b:B:=by repeat'(first|exact(JI rfl)|exact trivial|exact rfl|refine And.intro ?_ ?_|((conv=>whnf);first|exact(JI rfl)|exact trivial|exact rfl|refine And.intro ?_ ?_|omega))):A∧B∧C:=⟨a,b,h⟩
theorem cl1{P:Prop}(h:P:=by repeat'(first|exact(ac2 rfl)|exact trivial|exact rfl|refine And.intro ?_ ?_|((conv=>whnf);first|exact(ac2 rfl)|exact trivial|exact rfl|refine And.intro ?_ ?_|omega))):P:=h
theorem VL{A B C:Prop}(h:C)(a:A:=by repeat'(first|exact(ac2 rfl)|exact trivial|exact rfl|refine And.intro ?_ ?_|((conv=>whnf);first|exact(ac2 rfl)|exact trivial|exact rfl|refine And.intro ?_ ?_|omega)))(b:B:=by repeat'(first|exact(ac2 rfl)|exact trivial|exact rfl|refine And.intro ?_ ?_|((conv=>whnf);first|exact(ac2 rfl)|exact trivial|exact rfl|refine And.intro ?_ ?_|omega))):A∧B∧C:=⟨a,b,h⟩
theorem cl2{P:Prop}(h:P:=by repeat'(first|exact(VW rfl)|exact trivial|exact rfl|refine And.intro ?_ ?_|((conv=>whnf);first|exact(VW rfl)|exact trivial|exact rfl|refine And.intro ?_ ?_|omega))):P:=h
theorem cs2{A B C:Prop}(h:C)(a:A:=by repeat'(first|exact(VW rfl)|exact trivial|exact rfl|refine And.intro ?_ ?_|((conv=>whnf);first|exact(VW rfl)|exact trivial|exact rfl|refine And.intro ?_ ?_|omega)))(b:B:=by repeat'(first|exact(VW rfl)|exact trivial|exact rfl|refine And.intro ?_ ?_|((conv=>whnf);first|exact(VW rfl)|exact trivial|exact rfl|refine And.intro ?_ ?_|omega))):A∧B∧C:=⟨a,b,h⟩
theorem qT{B:Bool}{A C:Prop}(a:B=true→A)(h:B=true:=by first|assumption|decide):(B=true→A)∧(B=false→C):=⟨a,fun g=>(by rw[h]at g;cases g)⟩
theorem qF{B:Bool}{A C:Prop}(a:B=false→C)(h:B=false:=by first|assumption|decide):(B=true→A)∧(B=false→C):=⟨fun g=>(by rw[h]at g;cases g),a⟩
theorem wO{z:Int}(a: -9223372036854775808≤z:=by omega)(b:z≤9223372036854775807:=by omega):IntKind.i64.wrap z=z:=by rw[IntKind.wrap_i64];omega
theorem nF{A B C D:Prop}(h:C→D)(n:¬A:=by simp):(A→B)∧(C→D):=⟨fun x=>absurd x n,h⟩
theorem nT{A B C D:Prop}(h:A→B)(n:¬C:=by simp):(A→B)∧(C→D):=⟨h,fun x=>absurd x n⟩
end Go.Sx
/-
  The symbolic walk,part 1: symbolic values,regions of memory,what it means that a frame and a world fit them.
  Conditions: none; everything here is a definition or a plain lemma over any program.
-/
namespace Go
namespace Sx
structure Rg where
 blk:Nat
 off:Nat
 cap:Nat
 ext:List Value
def bm8:Value→List Nat
 | .slice (some a) _ (_+1)=>[a.block]
 |_=>[]
def Rg.more(r:Rg):List Nat:=r.ext.flatMap bm8
abbrev Jn:=Nat→Rg
inductive SC where
 |v (x:Value)
 |b (x:Bool)
 |p (k i sz off:Nat)
 |s (k st len sz:Nat)
 |f (g:FuncId) (caps:List Nat)
 |m (k:Nat)
 |cut (k h sz:Nat)
 /-- the slice with a number that a region holds apart -/
 |ghost (k i:Nat)
 /-- the place where that slice begins -/
 |gp (k i:Nat)
 |any
 |junk
inductive SV where
 |c (x:SC)
 |agg (l:List SC)
 |tup (l:List (Sum SC (List SC)))
 /-- an aggregate: plain cells (any list of them) and some more -/
 |pk (vs:List Value) (l:List SC)
def SC.nms:SC→List Nat
 | .p k _ _ _=>[k]
 | .s k _ _ _=>[k]
 | .f _ caps=>caps
 | .m k=>[k]
 | .cut k _ _=>[k]
 | .ghost k _=>[k]
 | .gp k _=>[k]
 |_=>[]
structure Arr where
 α:Type
 sz:Nat
 enc:α→List SC
 nm:List Nat
 hl:∀x,(enc x).length=sz
 hn:∀x c,c∈enc x→∀k∈c.nms,k∈nm
 xs:List α
 /-- how many elements it has room for,if that is known (an array) -/
 fx:Option Nat
 /-- the type of the block's elements,if it is known -/
 ty:Option TypeId
structure Bx where
 Φ:Rg→World→Prop
 loc:∀(r:Rg) (w w':World),(0<r.cap→∀b,b=r.blk∨b∈r.more→w'.heap[b]? = w.heap[b]?)→Φ r w→Φ r w'
inductive SO where
 /-- cells;the type of the block,if it is known -/
 |cel (ty:Option TypeId) (l:List SC)
 |arr (a:Arr)
 |raw (Φ:Obj→Prop)
 |box (b:Bx)
abbrev SO.cells(l:List SC):SO:=.cel none l
abbrev Je:=List (Nat×Bool×SO)
inductive Env where
 |nil
 |put (i:Nat) (v:SV) (e:Env)
 |mask (m:Nat) (e:Env)
 |mark (k:Nat) (e:Env)
def Ys(k:Nat):List Nat→Bool
 | []=>false
 |x::r=>bif Nat.beq k x then true else Ys k r
def Jy(ks:List Nat):List Nat→Bool
 | []=>false
 |x::r=>bif Ys x ks then true else Jy ks r
def SC.uses(ks:List Nat)(c:SC):Bool:=Jy ks c.nms
def XP(ks:List Nat):List SC→Bool
 | []=>false
 |x::r=>bif x.uses ks then true else XP ks r
def Ks(ks:List Nat):List (Sum SC (List SC))→Bool
 | []=>false
 | .inl x::r=>bif x.uses ks then true else Ks ks r
 | .inr l::r=>bif XP ks l then true else Ks ks r
def SV.uses(ks:List Nat):SV→Bool
 | .c x=>x.uses ks
 | .agg l=>XP ks l
 | .tup l=>Ks ks l
 | .pk _ l=>XP ks l
def SO.uses(ks:List Nat):SO→Bool
 | .cel _ l=>XP ks l
 | .arr a=>Jy ks a.nm
 | .raw _=>false
 | .box _=>false
def XB(m i:Nat):Bool:=Nat.beq (Nat.land (Nat.shiftRight m i) 1) 1
def Env.get:Env→Nat→SV
 | .nil,_=>.c .junk
 | .put j v e,i=>bif Nat.beq i j then v else e.get i
 | .mask m e,i=>bif XB m i then .c .junk else e.get i
 | .mark _ e,i=>e.get i
def Env.marks:Env→List Nat
 | .nil=>[]
 | .put _ _ e=>e.marks
 | .mask _ e=>e.marks
 | .mark k e=>k::e.marks
def look:Je→Nat→Option (Bool×SO)
 | [],_=>none
 |(j,o)::r,k=>bif Nat.beq k j then some o else look r k
def Jr(ρ:Jn)(k n:Nat):Addr:=⟨(ρ k).blk,(ρ k).off+n,none⟩
def SC.rel(ρ:Jn):SC→Value→Prop
 | .v x,y=>y=x
 | .b x,y=>y=.bool x
 | .p k i sz off,y=>y=.pointer (some (Jr ρ k (i*sz+off)))
 | .s k st len sz,y=>∃a,y=.slice a len ((ρ k).cap-st)∧st+len≤(ρ k).cap∧(st<(ρ k).cap→a=some (Jr ρ k (st*sz)))
 | .f g caps,y=>y=.func (.func g) #[] (caps.map fun k=>Value.pointer (some (Jr ρ k 0))).toArray
 | .m k,y=>y=.map (some (ρ k).blk)
 | .cut k h sz,y=>∃a,y=.slice a h h∧h≤(ρ k).cap∧(0<(ρ k).cap→a=some (Jr ρ k (0*sz)))
 | .ghost k i,y=>∃a l c,y=.slice a l c∧(ρ k).ext[i]? = some y
 | .gp k i,y=>∃a l c,y=.pointer (some a)∧(ρ k).ext[i]? = some (.slice (some a) l c)
 | .any,y=>∃t,y=.bool t
 | .junk,_=>True
def Yb(ρ:Jn):List SC→List Value→Prop
 | [],[]=>True
 |c::l,v::vs=>c.rel ρ v∧Yb ρ l vs
 |_,_=>False
def aa5(ρ:Jn):List (Sum SC (List SC))→List Value→Prop
 | [],[]=>True
 | .inl c::l,v::vs=>c.rel ρ v∧aa5 ρ l vs
 | .inr cs::l,v::vs=>(∃xs:Array Value,v=.agg xs∧Yb ρ cs xs.toList)∧aa5 ρ l vs
 |_,_=>False
def SV.rel(ρ:Jn):SV→Value→Prop
 | .c x,y=>x.rel ρ y
 | .agg l,y=>∃xs:Array Value,y=.agg xs∧Yb ρ l xs.toList
 | .tup l,y=>∃xs:Array Value,y=.tuple xs∧aa5 ρ l xs.toList
 | .pk vs l,y=>∃us:List Value,y=.agg (vs++us).toArray∧Yb ρ l us
def SO.sz:SO→Nat
 | .arr a=>a.sz
 |_=>0
def SO.cell?:SO→Nat→Nat→Option SC
 | .cel _ l,i,j=>match i with
  |0=>l[j]?
  |_+1=>none
 | .arr a,i,j=>match a.xs[i]? with
  |some x=>(a.enc x)[j]?
  |none=>none
 | .raw _,_,_=>none
 | .box _,_,_=>none
def SO.fx:SO→Option Nat
 | .arr a=>a.fx
 |_=>none
def SO.ty:SO→Option TypeId
 | .arr a=>a.ty
 | .cel ty _=>ty
 |_=>none
def SO.fp(r:Rg):SO→List Nat
 | .box _=>r.blk::r.more
 |_=>[r.blk]
def SO.room(r:Rg):SO→Nat
 | .cel _ l=>l.length
 | .arr a=>r.cap*a.sz
 | .raw _=>1
 | .box _=>r.cap
def SO.wf(r:Rg):SO→Prop
 | .cel _ _=>True
 | .arr a=>a.xs.length≤r.cap
 | .raw _=>True
 | .box _=>True
structure SatO (ρ:Jn) (w:World) (k:Nat) (own:Bool) (o:SO):Prop where
 wf:o.wf (ρ k)
 at_:∀i j c,o.cell? i j=some c→∃v,w.cell? (Jr ρ k (i*o.sz+j))=some v∧c.rel ρ v
 room:own=true→(∀keys,o≠.raw keys)→(∀b,o≠.box b)→∀n,n<o.room (ρ k)→(∃v,w.cell? (Jr ρ k n)=some v)∧w.frozen? (Jr ρ k n)=false
 off0:own=true→(ρ k).off=0
 keys:∀Φ,o=.raw Φ→∃x,w.heap[(ρ k).blk]? = some x∧Φ x
 boxed:∀b,o=.box b→b.Φ (ρ k) w
 fixd:∀n,o.fx=some n→(ρ k).cap=n
 typd:∀t,o.ty=some t→0<o.room (ρ k)→∃c fz,w.heap[(ρ k).blk]? = some (.cells c t fz)
structure Frm (w0 w:World) (M:List Nat):Prop where
 size:w0.heap.size≤w.heap.size
 same:∀b,b<w0.heap.size→b∉M→w.heap[b]? = w0.heap[b]?
 io:w.os=w0.os∧w.output=w0.output
 quiet:w.tape=w0.tape∧w0.drawn≤w.drawn
structure SatH (w0:World) (M:List Nat) (ρ:Jn) (H:Je) (w:World):Prop where
 frm:Frm w0 w M
 reg:∀k own o,look H k=some (own,o)→SatO ρ w k own o
 apart:∀k k' o own' o',k≠k'→look H k=some (true,o)→look H k'=some (own',o')→0<o.room (ρ k)→0<o'.room (ρ k')→∀b∈o.fp (ρ k),b∉o'.fp (ρ k')
 fresh:∀k o,look H k=some (true,o)→0<o.room (ρ k)→∀b∈o.fp (ρ k),w0.heap.size≤b∨b∈M
 valid:∀k own o,look H k=some (own,o)→0<o.room (ρ k)→∀b∈o.fp (ρ k),b<w.heap.size
structure Bnd (e:Env) (H:Je) (n:Nat):Prop where
 env:∀i,∀k,(e.get i).uses [k]=true→k<n
 mks:∀k∈e.marks,k<n
 heap:∀k own o,look H k=some (own,o)→k<n∧∀k',o.uses [k']=true→k'<n
structure St where
 e:Env
 H:Je
 nx:Nat
def mkD(ρ:Jn)(k:Nat):Deferred:={ target:=.collected (ρ k).blk,args:=#[] }
structure Cx where
 P:Program
 w0:World
 M:List Nat
 nt:Nat
 rd:Option Nat
 ρ0:Jn
 n0:Nat
 /-- the slots that may be written (none: all),and what the others hold -/
 md:Option Nat
 t0:Array Value
 /-- calls of functions that were deferred before -/
 df:List Deferred
def af2(m:Option Nat)(d:Nat):Bool:=match m with
 |none=>true
 |some m=>XB m d
structure Sat (cx:Cx) (ρ:Jn) (s:St) (a:Act) (w:World):Prop where
 size:a.tmps.size=cx.nt
 defers:a.defers=s.e.marks.map (mkD ρ)++cx.df
 env:∀i,(s.e.get i).rel ρ (a.tmps.getD i undef)
 heap:SatH cx.w0 cx.M ρ s.H w
 bnd:Bnd s.e s.H s.nx
 base:∀k,k<cx.n0→ρ k=cx.ρ0 k
 keep:∀i,af2 cx.md i=false→a.tmps.getD i undef=cx.t0.getD i undef
 n0:cx.n0≤s.nx
theorem aN5{a:Addr}{l c:Nat}(h:0<c):bm8 (.slice (some a) l c)=[a.block]:=by
 cases c with
 |zero=>cases h
 |succ c=>rfl
theorem bm9{a:Option Addr}{l c b:Nat}(h:b∈bm8 (.slice a l c)):∃ad,a=some ad∧b=ad.block∧0<c:=by
 cases a with
 |none=>cases h
 |some ad =>
  cases c with
  |zero=>cases h
  |succ c=>exact⟨ad,rfl,List.mem_singleton.1 h,Nat.succ_pos c⟩
end Sx
end Go
namespace Go
namespace Sx
def Ya(ρ:Jn)(k:Nat)(r:Rg):Jn:=fun j=>if j=k then r else ρ j
theorem Jx{ρ:Jn}{k j:Nat}{r:Rg}(h:j≠k):Ya ρ k r j=ρ j:=by simp[Ya,h]
theorem Jq{ρ:Jn}{k:Nat}{r:Rg}:Ya ρ k r k=r:=by simp[Ya]
theorem JY{k:Nat}{l:List Nat}:Ys k l=true↔k∈l:=by
 induction l with
 |nil=>simp[Ys]
 |cons x r ih =>
  simp only[Ys,List.mem_cons];cases h:Nat.beq k x with
  |true=>simp[Nat.eq_of_beq_eq_true h]
  |false=>simp[ih,Nat.ne_of_beq_eq_false h]
theorem Qm{ks l:List Nat}:Jy ks l=true↔∃k,k∈l∧k∈ks:=by
 induction l with
 |nil=>simp[Jy]
 |cons x r ih =>
  simp only[Jy];cases h:Ys x ks with
  |true=>rw[JY]at h;simp[h]
  |false =>
   have h':x∉ks:=by rw[←JY,h];simp
   simp[ih,h']
theorem SC.uses_iff{ks:List Nat}{c:SC}:c.uses ks=true↔∃k,k∈c.nms∧k∈ks:=Qm
theorem Qo{ks:List Nat}{l:List SC}:XP ks l=true↔∃c∈l,c.uses ks=true:=by
 induction l with
 |nil=>simp[XP]
 |cons x r ih=>simp only[XP];cases h:x.uses ks <;> simp[ih,h]
theorem KY{ks:List Nat}{l:List (Sum SC (List SC))} :
 Ks ks l=true↔∃x∈l,(∃c,x=.inl c∧c.uses ks=true)∨(∃cs,x=.inr cs∧XP ks cs=true):=by
 induction l with
 |nil=>simp[Ks]
 |cons x r ih =>
  cases x with
  |inl c=>simp only[Ks];cases h:c.uses ks <;> simp[ih,h]
  |inr c=>simp only[Ks];cases h:XP ks c <;> simp[ih,h]
theorem SC.rel_agree{ρ ρ':Jn}{c:SC}{v:Value}(h:∀k∈c.nms,ρ' k=ρ k)(hr:c.rel ρ v):c.rel ρ' v:=by
 cases c with
 |v x=>exact hr
 |b x=>exact hr
 |p k i sz off=>simp only[SC.rel,Jr]at *;rw[h k (by simp[SC.nms])];exact hr
 |s k st len sz=>simp only[SC.rel,Jr]at *;rw[h k (by simp[SC.nms])];exact hr
 |f g caps =>
  simp only[SC.rel,Jr]at *
  rw[hr];congr 2;apply List.map_congr_left;intro k hk;rw[h k (by simpa [SC.nms] using hk)]
 |m k=>simp only[SC.rel]at *;rw[h k (by simp[SC.nms])];exact hr
 |cut k hh sz=>simp only[SC.rel,Jr]at *;rw[h k (by simp[SC.nms])];exact hr
 |ghost k i=>simp only[SC.rel]at *;rw[h k (by simp[SC.nms])];exact hr
 |gp k i=>simp only[SC.rel]at *;rw[h k (by simp[SC.nms])];exact hr
 |any=>exact hr
 |junk=>trivial
theorem ac5{ρ ρ':Jn}:∀ {l:List SC} {vs:List Value},(∀c∈l,∀k∈c.nms,ρ' k=ρ k)→Yb ρ l vs→Yb ρ' l vs
 | [],[],_,_=>trivial
 | [],_::_,_,h=>h.elim
 |_::_,[],_,h=>h.elim
 |c::l,v::vs,ha,h=>⟨SC.rel_agree (ha c (List.mem_cons_self ..)) h.1,ac5 (fun d hd=>ha d (List.mem_cons_of_mem _ hd)) h.2⟩
theorem aA2{ρ ρ':Jn}:∀ {l:List (Sum SC (List SC))} {vs:List Value},
    (∀k,Ks [k] l=true→ρ' k=ρ k)→aa5 ρ l vs→aa5 ρ' l vs
  | [],[],_,_=>trivial
  | [],_::_,_,h=>h.elim
  | .inl _::_,[],_,h=>h.elim
  | .inr _::_,[],_,h=>h.elim
  | .inl c::l,v::vs,ha,h =>
    ⟨SC.rel_agree (fun k hk=>ha k (KY.2 ⟨_,List.mem_cons_self .., .inl ⟨c,rfl,SC.uses_iff.2 ⟨k,hk,by simp⟩⟩⟩)) h.1,
     aA2 (fun k hk=>ha k (by obtain⟨x,hx,hu⟩:=KY.1 hk;exact KY.2 ⟨x,List.mem_cons_of_mem _ hx,hu⟩)) h.2⟩
  | .inr cs::l,v::vs,ha,h =>
    ⟨(by
      obtain⟨xs,rfl,hx⟩:=h.1;exact⟨xs,rfl,ac5 (fun c hc k hk=>ha k (KY.2 ⟨_,List.mem_cons_self .., .inr ⟨cs,rfl,Qo.2 ⟨c,hc,SC.uses_iff.2 ⟨k,hk,by simp⟩⟩⟩⟩)) hx⟩),
     aA2 (fun k hk=>ha k (by obtain⟨x,hx,hu⟩:=KY.1 hk;exact KY.2 ⟨x,List.mem_cons_of_mem _ hx,hu⟩)) h.2⟩
theorem SV.rel_agree{ρ ρ':Jn}{s:SV}{v:Value}(h:∀k,s.uses [k]=true→ρ' k=ρ k)(hr:s.rel ρ v):s.rel ρ' v:=by
 cases s with
 |c x=>exact SC.rel_agree (fun k hk=>h k (SC.uses_iff.2 ⟨k,hk,by simp⟩)) hr
 |agg l =>
  obtain⟨xs,rfl,hx⟩:=hr;exact⟨xs,rfl,ac5 (fun c hc k hk=>h k (Qo.2 ⟨c,hc,SC.uses_iff.2 ⟨k,hk,by simp⟩⟩)) hx⟩
 |tup l =>
  obtain⟨xs,rfl,hx⟩:=hr;exact⟨xs,rfl,aA2 h hx⟩
 |pk vs l =>
  obtain⟨us,rfl,hx⟩:=hr;exact⟨us,rfl,ac5 (fun c hc k hk=>h k (Qo.2 ⟨c,hc,SC.uses_iff.2 ⟨k,hk,by simp⟩⟩)) hx⟩
theorem bR8{r:Rg}{o:SO}(hw:o.wf r){i j:Nat}{c:SC}(h:o.cell? i j=some c):i*o.sz+j<o.room r:=by
 cases o with
 |cel ty l =>
  cases i with
  |zero=>simp only[SO.cell?]at h;obtain⟨hj,_⟩:=List.getElem?_eq_some_iff.1 h;simpa [SO.sz,SO.room] using hj
  |succ i=>simp[SO.cell?]at h
 |arr a =>
  simp only[SO.cell?]at h;cases hx:a.xs[i]? with
  |none=>simp[hx]at h
  |some x =>
   simp only[hx]at h;obtain⟨hi,he⟩:=List.getElem?_eq_some_iff.1 hx;obtain⟨hj,_⟩:=List.getElem?_eq_some_iff.1 h;have hs:=a.hl x;simp only[SO.sz,SO.room];have h1:i+1≤r.cap:=Nat.le_trans hi hw
   calc i*a.sz+j<i*a.sz+a.sz:=by omega
    _=(i+1)*a.sz:=by rw[Nat.add_mul];omega
    _≤r.cap*a.sz:=Nat.mul_le_mul_right _ h1
 |raw l=>simp[SO.cell?]at h
 |box l=>simp[SO.cell?]at h
def SO.nb:SO→Bool
 | .box _=>false
 |_=>true
theorem aN6{o:SO}{r:Rg}(h:o.nb=true):o.fp r=[r.blk]:=by cases o <;> simp[SO.nb]at h <;> rfl
theorem Xf{o:SO}{r:Rg}:r.blk∈o.fp r:=by cases o <;> simp[SO.fp]
theorem cell?_congr{w w':World}{a:Addr}(h:w'.heap[a.block]? = w.heap[a.block]?):w'.cell? a=w.cell? a:=by
 simp only[World.cell?,h]
theorem frozen?_congr{w w':World}{a:Addr}(h:w'.heap[a.block]? = w.heap[a.block]?):w'.frozen? a=w.frozen? a:=by
 simp only[World.frozen?,h]
theorem SatO.world{ρ:Jn}{w w':World}{k:Nat}{own:Bool}{o:SO}(h:SatO ρ w k own o)
 (hbs:0<o.room (ρ k)→∀b∈o.fp (ρ k),w'.heap[b]? = w.heap[b]?):SatO ρ w' k own o :=
 have hb:0<o.room (ρ k)→w'.heap[(ρ k).blk]? = w.heap[(ρ k).blk]?:=fun hr=>hbs hr _ Xf
 {
  wf:=h.wf
  at_:=fun i j c hc=>by
   have hr:=bR8 h.wf hc;obtain⟨v,hv,hrel⟩:=h.at_ i j c hc;exact⟨v,by rw[cell?_congr (a:=Jr ρ k _) (hb (by omega))];exact hv,hrel⟩
  room:=fun ho hm hx n hn=>by
   have:=h.room ho hm hx n hn;rw[cell?_congr (a:=Jr ρ k n) (hb (by omega)),frozen?_congr (a:=Jr ρ k n) (hb (by omega))];exact this
  off0:=h.off0
  keys:=fun l hl=>by
   subst hl;have:=h.keys l rfl;rw[hb (by simp[SO.room])];exact this
  boxed:=fun b hb'=>by
   subst hb';exact b.loc _ _ _ (fun hc x hx=>hbs (by simpa [SO.room] using hc) x (by simpa [SO.fp] using hx)) (h.boxed b rfl)
  fixd:=h.fixd
  typd:=fun t ht hr=>by rw[hb hr];exact h.typd t ht hr }
theorem SO.uses_cell{o:SO}{r:Rg}(hw:o.wf r){i j:Nat}{c:SC}(h:o.cell? i j=some c){k:Nat}(hk:k∈c.nms):o.uses [k]=true:=by
 cases o with
 |cel ty l =>
  cases i with
  |zero =>
   simp only[SO.cell?]at h;exact Qo.2 ⟨c,List.mem_of_getElem? h,SC.uses_iff.2 ⟨k,hk,by simp⟩⟩
  |succ i=>simp[SO.cell?]at h
 |arr a =>
  simp only[SO.cell?]at h;cases hx:a.xs[i]? with
  |none=>simp[hx]at h
  |some x =>
   simp only[hx]at h;exact Qm.2 ⟨k,a.hn x c (List.mem_of_getElem? h) k hk,by simp⟩
 |raw l=>simp[SO.cell?]at h
 |box l=>simp[SO.cell?]at h
theorem SatO.asg{ρ ρ':Jn}{w:World}{k:Nat}{own:Bool}{o:SO}(h:SatO ρ w k own o)(hk:ρ' k=ρ k)
 (ha:∀j,o.uses [j]=true→ρ' j=ρ j):SatO ρ' w k own o where
 wf:=by rw[hk];exact h.wf
 at_ i j c hc:=by
  obtain⟨v,hv,hrel⟩:=h.at_ i j c hc;refine⟨v, ?_,SC.rel_agree (fun n hn=>ha n (SO.uses_cell h.wf hc hn)) hrel⟩;simp only[Jr,hk]at *;exact hv
 room ho hm hx n hn:=by
  rw[hk]at hn;have:=h.room ho hm hx n hn;simp only[Jr,hk]at *;exact this
 off0 ho:=by rw[hk];exact h.off0 ho
 keys l hl:=by rw[hk];exact h.keys l hl
 boxed l hl:=by rw[hk];exact h.boxed l hl
 fixd n hn:=by rw[hk];exact h.fixd n hn
 typd t ht hr:=by rw[hk]at hr ⊢;exact h.typd t ht hr
end Sx
end Go
namespace Go
namespace Sx
theorem Jh{k j:Nat}{x:Bool×SO}{H:Je}:look ((j,x)::H) k=if k=j then some x else look H k:=by
 simp only[look];cases h:Nat.beq k j with
 |true=>simp[Nat.eq_of_beq_eq_true h]
 |false=>simp[Nat.ne_of_beq_eq_false h]
theorem XA{i j:Nat}{v:SV}{e:Env}:(Env.put j v e).get i=if i=j then v else e.get i:=by
 simp only[Env.get];cases h:Nat.beq i j with
 |true=>simp[Nat.eq_of_beq_eq_true h]
 |false=>simp[Nat.ne_of_beq_eq_false h]
theorem Frm.refl(w:World)(M:List Nat):Frm w w M:=⟨Nat.le_refl _,fun _ _ _=>rfl,⟨rfl,rfl⟩,rfl,Nat.le_refl _⟩
theorem SatH.cons{w0:World}{M:List Nat}{ρ ρ':Jn}{H:Je}{w w':World}{k:Nat}{own:Bool}{o:SO}(h:SatH w0 M ρ H w)
 (hag:∀j own o',look H j=some (own,o')→j≠k→ρ' j=ρ j∧∀n,o'.uses [n]=true→ρ' n=ρ n)
 (hsz:w.heap.size≤w'.heap.size) (hfrm:Frm w0 w' M)
 (hsame:∀b,b<w.heap.size→b≠(ρ' k).blk→w'.heap[b]? = w.heap[b]?)
 (hnb:o.nb=true)
 (hdis:∀j own' o',look H j=some (own',o')→j≠k→0<o'.room (ρ j)→0<o.room (ρ' k)→∀b∈o'.fp (ρ j),b≠(ρ' k).blk)
 (hdis':∀j own' o',look H j=some (own',o')→j≠k→0<o'.room (ρ j)→∀b∈o'.fp (ρ j),w'.heap[b]? = w.heap[b]?)
 (hnew:SatO ρ' w' k own o)
 (hfresh:own=true→0<o.room (ρ' k)→w0.heap.size≤(ρ' k).blk∨(ρ' k).blk∈M)
 (hvalid:0<o.room (ρ' k)→(ρ' k).blk<w'.heap.size):SatH w0 M ρ' ((k,own,o)::H) w' where
 frm:=hfrm
 reg j own' o' hl:=by
  rw[Jh]at hl;by_cases hj:j=k
  ·subst hj;simp at hl;obtain⟨rfl,rfl⟩:=hl;exact hnew
  ·rw[if_neg hj]at hl;have ha:=hag j own' o' hl hj;exact((h.reg j own' o' hl).world (hdis' j own' o' hl hj)).asg ha.1 ha.2
 apart j j' o1 own' o2 hne hl hl' hr hr':=by
  rw[Jh]at hl hl';by_cases hj:j=k
  ·subst hj;simp at hl;obtain⟨rfl,rfl⟩:=hl;rw[if_neg (Ne.symm hne)]at hl';have ha:=hag j' own' o2 hl' (Ne.symm hne);rw[ha.1]at hr' ⊢;intro b hb hb';rw[aN6 hnb]at hb;exact hdis j' own' o2 hl' (Ne.symm hne) hr' hr b hb' (by simpa using hb)
  ·rw[if_neg hj]at hl;have ha:=hag j true o1 hl hj;rw[ha.1]at hr ⊢;by_cases hj':j'=k
   ·subst hj';simp at hl';obtain⟨rfl,rfl⟩:=hl';intro b hb hb';rw[aN6 hnb]at hb';exact hdis j true o1 hl hj hr hr' b hb (by simpa using hb')
   ·rw[if_neg hj']at hl';have ha':=hag j' own' o2 hl' hj';rw[ha'.1]at hr' ⊢;exact h.apart j j' o1 own' o2 hne hl hl' hr hr'
 fresh j o1 hl hr:=by
  rw[Jh]at hl;by_cases hj:j=k
  ·subst hj;simp at hl;obtain⟨rfl,rfl⟩:=hl;intro b hb;rw[aN6 hnb]at hb;obtain rfl:b=_:=by simpa using hb
   exact hfresh rfl hr
  ·rw[if_neg hj]at hl;have ha:=hag j true o1 hl hj;rw[ha.1]at hr ⊢;exact h.fresh j o1 hl hr
 valid j own' o1 hl hr:=by
  rw[Jh]at hl;by_cases hj:j=k
  ·subst hj;simp at hl;obtain⟨rfl,rfl⟩:=hl;intro b hb;rw[aN6 hnb]at hb;obtain rfl:b=_:=by simpa using hb
   exact hvalid hr
  ·rw[if_neg hj]at hl;have ha:=hag j own' o1 hl hj;rw[ha.1]at hr ⊢;exact fun b hb=>Nat.lt_of_lt_of_le (h.valid j own' o1 hl hr b hb) hsz
theorem GM(ρ:Jn)(w:World)(k:Nat):SatO ρ w k false (.cells []) where
 wf:=trivial
 at_ i j c h:=by cases i <;> simp[SO.cell?]at h
 room h:=by cases h
 off0 h:=by cases h
 keys l h:=by cases h
 boxed l h:=by cases h
 fixd n h:=by cases h
 typd n h:=by cases h
theorem SatH.drop{w0:World}{M:List Nat}{ρ:Jn}{H:Je}{w:World}(h:SatH w0 M ρ H w)(k:Nat) :
 SatH w0 M ρ ((k,false, .cells [])::H) w :=
 h.cons (fun j own o' _ _=>⟨rfl,fun _ _=>rfl⟩) (Nat.le_refl _) h.frm (fun _ _ _=>rfl)
  rfl (fun _ _ _ _ _ _ hr=>by simp[SO.room]at hr) (fun _ _ _ _ _ _ _ _=>rfl) (GM ρ w k) (fun h=>by cases h) (fun hr=>by simp[SO.room]at hr)
def push(w:World)(o:Obj):World:={ w with heap:=w.heap.push o }
theorem as4(w:World)(o:Obj):(push w o).heap.size=w.heap.size+1:=by simp[push]
theorem aS7(w:World)(o:Obj){b:Nat}(h:b<w.heap.size):(push w o).heap[b]? = w.heap[b]?:=by
 simp only[push];rw[Array.getElem?_push_lt h];simp[h]
theorem KF(w:World)(o:Obj):(push w o).heap[w.heap.size]? = some o:=by unfold push;exact Array.getElem?_push_size
theorem Frm.push{w0 w:World}{M:List Nat}(h:Frm w0 w M)(o:Obj):Frm w0 (push w o) M where
 io:=h.io
 quiet:=h.quiet
 size:=by rw[as4];exact Nat.le_succ_of_le h.size
 same b hb hM:=by rw[aS7 w o (Nat.lt_of_lt_of_le hb h.size)];exact h.same b hb hM
theorem SatH.new{w0:World}{M:List Nat}{ρ:Jn}{H:Je}{w:World}{k cap:Nat}{o:SO}{ob:Obj}(h:SatH w0 M ρ H w)
 (hk:∀j own o',look H j=some (own,o')→j≠k∧o'.uses [k]=false)
 (hnew:SatO (Ya ρ k ⟨w.heap.size,0,cap,[]⟩) (push w ob) k true o) (hnb:o.nb=true:=by rfl) :
 SatH w0 M (Ya ρ k ⟨w.heap.size,0,cap,[]⟩) ((k,true,o)::H) (push w ob):=by
 refine h.cons (fun j own o' hl hj=>⟨Jx hj,fun n hn=>Jx ?_⟩) (by rw[as4];exact Nat.le_succ _) (h.frm.push ob)
  (fun b hb _=>aS7 w ob hb) hnb ?_ ?_ hnew ?_ ?_
 ·rintro rfl
  rw[(hk j own o' hl).2]at hn;cases hn
 ·intro j own' o' hl _ hr _ b hb;rw[Jq];exact Nat.ne_of_lt (h.valid j own' o' hl hr b hb)
 ·intro j own' o' hl _ hr b hb;exact aS7 w ob (h.valid j own' o' hl hr b hb)
 ·intro _ _;rw[Jq];exact .inl h.frm.size
 ·intro _;rw[Jq,as4];exact Nat.lt_succ_self _
theorem bn0(w:World)(a:Addr)(v:Value):(w.setCell a v).heap.size=w.heap.size:=by simp[World.setCell]
theorem bl0(w:World)(a:Addr)(v:Value){b:Nat}(h:b≠a.block):(w.setCell a v).heap[b]? = w.heap[b]?:=by
 simp only[World.setCell,Array.getElem?_modify];rw[if_neg (Ne.symm h)]
theorem cell?_setCell{w:World}{b o:Nat}{x:Addr}{v y:Value}(hx:w.cell? ⟨b,o,none⟩=some y) :
 (w.setCell ⟨b,o,none⟩ v).cell? x=if x.block=b∧x.off=o∧x.spot=none then some v else w.cell? x:=by
 simp only[World.cell?,World.setCell,Array.getElem?_modify]at *
 cases hb:w.heap[b]? with
 |none=>simp[hb]at hx
 |some ob =>
  simp only[hb]at hx;cases ob with
  |cells c e fz =>
   simp only at hx;by_cases h1:x.block=b
   ·subst h1;simp only[hb];cases hs:x.spot with
    |none =>
     by_cases h2:x.off=o
     ·subst h2;have hlt:x.off<c.size:=by
       have:=hx;simp at this;exact(Array.getElem?_eq_some_iff.1 this).1
      simp[hlt]
     ·have:¬(o=x.off):=fun h=>h2 h.symm;simp[h2,this]
    |some n=>simp
   ·have:¬(b=x.block):=fun h=>h1 h.symm;simp[h1,this]
  |_=>simp at hx
theorem frozen?_setCell(w:World)(a x:Addr)(v:Value):(w.setCell a v).frozen? x=w.frozen? x:=by
 simp only[World.frozen?,World.setCell,Array.getElem?_modify];by_cases h:a.block=x.block
 ·rw[if_pos h];cases hb:w.heap[x.block]? with
  |none=>simp
  |some ob=>cases ob <;> simp
 ·simp[h]
def setCells(w:World)(b o:Nat):List Value→World
 | []=>w
 |v::vs=>setCells (w.setCell ⟨b,o,none⟩ v) b (o+1) vs
theorem bG5(w:World)(a:Addr)(v:Value):(w.setCell a v).os=w.os∧(w.setCell a v).output=w.output:=by
 unfold World.setCell;split <;> simp
theorem aQ8(w:World)(b o:Nat)(vs:List Value):(setCells w b o vs).os=w.os∧(setCells w b o vs).output=w.output:=by
 induction vs generalizing w o with
 |nil=>exact⟨rfl,rfl⟩
 |cons v vs ih =>
  have:=ih (w.setCell ⟨b,o,none⟩ v) (o+1);have h2:=bG5 w ⟨b,o,none⟩ v;exact⟨this.1.trans h2.1,this.2.trans h2.2⟩
theorem ax1(w:World)(b o:Nat)(vs:List Value):(setCells w b o vs).tape=w.tape∧(setCells w b o vs).drawn=w.drawn:=by
 induction vs generalizing w o with
 |nil=>exact⟨rfl,rfl⟩
 |cons v vs ih =>
  have:=ih (w.setCell ⟨b,o,none⟩ v) (o+1);have h2:(w.setCell ⟨b,o,none⟩ v).tape=w.tape∧(w.setCell ⟨b,o,none⟩ v).drawn=w.drawn:=by unfold World.setCell;split <;> simp
  exact⟨this.1.trans h2.1,this.2.trans h2.2⟩
theorem Vw(w:World)(b o:Nat)(vs:List Value):(setCells w b o vs).heap.size=w.heap.size:=by
 induction vs generalizing w o with
 |nil=>rfl
 |cons v vs ih=>simp only[setCells];rw[ih,bn0]
theorem Vd(w:World)(b o:Nat)(vs:List Value){x:Nat}(h:x≠b):(setCells w b o vs).heap[x]? = w.heap[x]?:=by
 induction vs generalizing w o with
 |nil=>rfl
 |cons v vs ih=>simp only[setCells];rw[ih,bl0];exact h
theorem Kt(w:World)(b o:Nat)(vs:List Value)(x:Addr):(setCells w b o vs).frozen? x=w.frozen? x:=by
 induction vs generalizing w o with
 |nil=>rfl
 |cons v vs ih=>simp only[setCells];rw[ih,frozen?_setCell]
theorem Gr(w:World)(b o:Nat)(vs:List Value)(hx:∀j,j<vs.length→∃y,w.cell? ⟨b,o+j,none⟩=some y)(n:Nat) :
 (setCells w b o vs).cell? ⟨b,n,none⟩=if o≤n∧n<o+vs.length then vs[n-o]? else w.cell? ⟨b,n,none⟩:=by
 induction vs generalizing w o with
 |nil=>simp only[setCells];rw[if_neg];simp
 |cons v vs ih =>
  obtain⟨y0,hy0⟩:=hx 0 (by simp);simp only[Nat.add_zero]at hy0;have key:=fun x=>cell?_setCell (v:=v) (x:=x) hy0;simp only[setCells];rw[ih]
  ·rw[key];by_cases h1:n=o
   ·subst h1;rw[if_neg (by omega),if_pos ⟨rfl,rfl,rfl⟩,if_pos (by simp)];simp
   ·rw[if_neg (c:=(_∧_∧_)) (by simp[h1])];by_cases h2:o+1≤n∧n<o+1+vs.length
    ·rw[if_pos h2,if_pos (by simp;omega)];have:n-o=(n-(o+1))+1:=by omega
     rw[this];simp
    ·rw[if_neg h2,if_neg (by simp;omega)]
  ·intro j hj;obtain⟨y,hy⟩:=hx (j+1) (by simp;omega);rw[key];refine⟨y, ?_⟩;rw[if_neg (by simp;omega),show o+1+j=o+(j+1)from by omega];exact hy
theorem bx2{w:World}{b o:Nat}{v:Value}{t:TypeId}(h:∃c fz,w.heap[b]? = some (.cells c t fz)):∃c fz,(w.setCell ⟨b,o,none⟩ v).heap[b]? = some (.cells c t fz):=by
 obtain⟨c,fz,hb⟩:=h;simp only[World.setCell,Array.getElem?_modify,hb];exact⟨_,_,rfl⟩
theorem KR{t:TypeId}{b:Nat}:∀(vs:List Value) (w:World) (o:Nat),(∃c fz,w.heap[b]? = some (.cells c t fz))→∃c fz,(setCells w b o vs).heap[b]? = some (.cells c t fz)
 | [],_,_,h=>h
 |_::vs,_,_,h=>KR vs _ _ (bx2 h)
theorem SatH.frmSet{w0:World}{M:List Nat}{ρ:Jn}{H:Je}{w:World}(h:SatH w0 M ρ H w){k:Nat}{o:SO}(hl:look H k=some (true,o))(hr:0<o.room (ρ k))(n:Nat)
 (vs:List Value):Frm w0 (setCells w (ρ k).blk n vs) M where
 io:=by rw[(aQ8 w _ n vs).1,(aQ8 w _ n vs).2];exact h.frm.io
 quiet:=by rw[(ax1 w _ n vs).1,(ax1 w _ n vs).2];exact h.frm.quiet
 size:=by rw[Vw];exact h.frm.size
 same b hb hM:=by
  have hne:b≠(ρ k).blk:=by
   rintro rfl
   rcases h.fresh k o hl hr _ Xf with h1|h1
   ·omega
   ·exact hM h1
  rw[Vd _ _ _ _ hne];exact h.frm.same b hb hM
theorem SatH.store{w0:World}{M:List Nat}{ρ:Jn}{H:Je}{w:World}{k n:Nat}{o o':SO}{vs:List Value}(h:SatH w0 M ρ H w)
 (hl:look H k=some (true,o)) (hr:0<o.room (ρ k)) 
 (hnew:SatO ρ (setCells w (ρ k).blk n vs) k true o') (hnb:o'.nb=true:=by rfl) :
 SatH w0 M ρ ((k,true,o')::H) (setCells w (ρ k).blk n vs):=by
 have hd:∀j own' p,look H j=some (own',p)→j≠k→0<p.room (ρ j)→∀b∈p.fp (ρ j),b≠(ρ k).blk:=fun j own' p hj hjk hpr b hb he =>
  h.apart k j o own' p (Ne.symm hjk) hl hj hr hpr (ρ k).blk Xf (he▸hb)
 refine h.cons (fun j own o' hl hj=>⟨rfl,fun _ _=>rfl⟩) (by rw[Vw];exact Nat.le_refl _) (h.frmSet hl hr n vs)
  (fun b _ hb=>Vd _ _ _ _ hb) hnb (fun j own' p hj hjk hpr _=>hd j own' p hj hjk hpr) (fun j own' p hj hjk hpr b hb=>Vd _ _ _ _ (hd j own' p hj hjk hpr b hb)) hnew ?_ ?_
 ·intro _ _;exact h.fresh k o hl hr _ Xf
 ·intro _;rw[Vw];exact h.valid k true o hl hr _ Xf
end Sx
end Go
namespace Go
namespace Sx
inductive Kd where
 |bool
 |int (k:IntKind)
 |string
 |ptr (elem:TypeId)
 |slice (elem:TypeId)
 |array (len:Nat) (elem:TypeId)
 |map (key elem:TypeId)
 |struct (fields:List (Nat×TypeId))
 |func
 |other
structure TI where
 kd:Kd
 size:Nat
 bytes:Nat
 zero:List Value
def VM:TypeDesc→Kd
 | .bool=>.bool
 | .int k=>.int k
 | .string=>.string
 | .pointer e=>.ptr e
 | .slice e=>.slice e
 | .array n e=>.array n e
 | .map k e=>.map k e
 | .struct fs=>.struct (fs.toList.map fun f=>(f.offset,f.type))
 | .func _ _ _=>.func
 |_=>.other
def ao9(P:Program)(t:TypeId):Option TI :=
 match P.info? t,P.underlying t with
 |some i,some d=>match i.zero with
  |some z=>some ⟨VM d,i.size,i.bytes,z.cells.toList⟩
  |none=>none
 |_,_=>none
def Ji:List (Nat×TI)→Nat→Option TI
 | [],_=>none
 |(j,o)::r,k=>bif Nat.beq k j then some o else Ji r k
def am1(P:Program)(T:List (Nat×TI)):Prop:=∀p∈T,ao9 P p.1=some p.2
theorem am1.get{P:Program}{T:List (Nat×TI)}(h:am1 P T){t:Nat}{ti:TI}(hl:Ji T t=some ti):ao9 P t=some ti:=by
 unfold am1 at h
 induction T with
 |nil=>simp[Ji]at hl
 |cons p r ih =>
  obtain⟨j,o⟩:=p;simp only[Ji]at hl;cases hb:Nat.beq t j with
  |true =>
   simp[hb]at hl;have:=h (j,o) (List.mem_cons_self ..);rw[Nat.eq_of_beq_eq_true hb,this,hl]
  |false =>
   simp[hb]at hl;exact ih (fun p hp=>h p (List.mem_cons_of_mem _ hp)) hl
theorem ac6{P:Program}{t:Nat}{ti:TI}(h:ao9 P t=some ti) :
 ∃i d z,P.info? t=some i∧P.underlying t=some d∧i.zero=some z∧VM d=ti.kd∧i.size=ti.size∧i.bytes=ti.bytes∧z.cells.toList=ti.zero:=by
 unfold ao9 at h;cases hi:P.info? t with
 |none=>simp[hi]at h
 |some i =>
  cases hd:P.underlying t with
  |none=>simp[hi,hd]at h
  |some d =>
   cases hz:i.zero with
   |none=>simp[hi,hd,hz]at h
   |some z =>
    simp[hi,hd,hz]at h;subst h;exact⟨i,d,z,rfl,rfl,hz,rfl,rfl,rfl,rfl⟩
section runs
variable {P:Program} {t:Nat} {ti:TI} (w:World)
theorem bn1(h:ao9 P t=some ti):∃i z,(typeInfo t).run P w=.ok i w∧i.size=ti.size∧i.bytes=ti.bytes∧i.zero=some z∧z.cells.toList=ti.zero:=by
 obtain⟨i,d,z,hi,hd,hz,hk,hs,hb,hzz⟩:=ac6 h;exact⟨i,z,by simp[typeInfo,hi],hs,hb,hz,hzz⟩
theorem ce7(h:ao9 P t=some ti):(sizeOf t).run P w=.ok ti.size w:=by
 obtain⟨i,z,hi,hs,_⟩:=bn1 w h;simp[sizeOf,hi,hs]
theorem bB4(h:ao9 P t=some ti):∃d,(underlying t).run P w=.ok d w∧VM d=ti.kd:=by
 obtain⟨i,d,z,hi,hd,hz,hk,hs,hb,hzz⟩:=ac6 h;exact⟨d,by simp[underlying,hd],hk⟩
end runs
def Kd.isAgg:Kd→Bool
 | .struct _=>true
 | .array _ _=>true
 |_=>false
theorem WP{P:Program}{t:Nat}{ti:TI}(w:World)(h:ao9 P t=some ti):(isAgg t).run P w=.ok ti.kd.isAgg w:=by
 obtain⟨d,hd,hk⟩:=bB4 w h;simp only[isAgg,Sem.run_bind,hd,Result.andThen];rw[←hk];cases d <;> simp[VM,Kd.isAgg]
theorem GN{P:Program}{t:Nat}{ti:TI}(w:World)(h:ao9 P t=some ti):∃z,(zeroValue t).run P w=.ok z w∧z.cells.toList=ti.zero:=by
 obtain⟨i,z,hi,hs,hb,hz,hzz⟩:=bn1 w h;exact⟨z,by simp[zeroValue,hi,hz],hzz⟩
def cC:Value→SC
 | .bool b=>.b b
 |v=>.v v
def evC:Value→SV
 | .bool b=>.c (.b b)
 | .agg cs=>.agg (cs.toList.map cC)
 |v=>.c (.v v)
def ev(e:Env):Operand→SV
 | .tmp t=>e.get t
 | .const v=>evC v
 | .global _=>.c .junk
 | .func f=>.c (.f f [])
theorem bR9(ρ:Jn)(v:Value):(cC v).rel ρ v:=by cases v <;> simp[cC,SC.rel]
theorem KG(ρ:Jn):∀l:List Value,Yb ρ (l.map cC) l
 | []=>trivial
 |v::l=>⟨bR9 ρ v,KG ρ l⟩
theorem ct4(ρ:Jn)(v:Value):(evC v).rel ρ v:=by
 cases v <;> simp[evC,SV.rel,SC.rel,KG]
def Fit(ρ:Jn)(e:Env)(a:Act)(x:Operand):Prop:=∀t,x=.tmp t→(e.get t).rel ρ (a.tmps.getD t undef)
theorem bn2{ρ:Jn}{e:Env}{a:Act}{x:Operand}(h:Fit ρ e a x):(ev e x).rel ρ (a.eval x):=by
 cases x with
 |tmp t=>exact h t rfl
 |const v=>exact ct4 ρ v
 |global g=>trivial
 |func f=>simp[ev,SV.rel,SC.rel,Act.eval]
theorem SV.below_cC(v:Value):(cC v).nms=[]:=by cases v <;> rfl
theorem ap0(v:Value)(ks:List Nat):(evC v).uses ks=false:=by
 cases v <;> simp[evC,SV.uses,SC.uses,SC.nms,Jy]
 rename_i cs
 rw[←Bool.not_eq_true,Qo]
 rintro ⟨c,hc,hu⟩
 simp only[List.mem_map]at hc;obtain⟨v,_,rfl⟩:=hc;rw[SC.uses,SV.below_cC]at hu;simp[Jy]at hu
def SV.below(s:SV)(n:Nat):Prop:=∀k,s.uses [k]=true→k<n
def SC.below(s:SC)(n:Nat):Prop:=∀k∈s.nms,k<n
def SO.below(s:SO)(n:Nat):Prop:=∀k,s.uses [k]=true→k<n
theorem SV.below_c{c:SC}{n:Nat}:(SV.c c).below n↔c.below n:=by
 simp only[SV.below,SC.below,SV.uses];exact⟨fun h k hk=>h k (SC.uses_iff.2 ⟨k,hk,by simp⟩),fun h k hk=>by obtain⟨j,hj,hm⟩:=SC.uses_iff.1 hk;simp at hm;subst hm;exact h _ hj⟩
theorem bn3{e:Env}{x:Operand}{n:Nat}(h:∀t,x=.tmp t→(e.get t).below n):(ev e x).below n:=by
 cases x with
 |tmp t=>exact h t rfl
 |const v=>intro k hk;simp only[ev]at hk;rw[ap0]at hk;cases hk
 |global g=>intro k hk;simp[ev,SV.uses,SC.uses,SC.nms,Jy]at hk
 |func f=>intro k hk;simp[ev,SV.uses,SC.uses,SC.nms,Jy]at hk
end Sx
end Go
namespace Go
namespace Sx
def Wr(o:Oper)(t:Nat):Prop:=Operand.tmp t∈o.op.operands.toList
structure PureOK (P:Program) (o:Oper) (e:Env) (H:Je) (sv:SV) (rd:List Nat):Prop where
 below:∀n,(∀t,Wr o t→(e.get t).below n)→(∀k∈rd,∀own q,look H k=some (own,q)→k<n∧q.below n)→sv.below n
 run:∀(ρ:Jn) (a:Act) (w:World),(∀t,Wr o t→(e.get t).rel ρ (a.tmps.getD t undef)) →
  (∀k∈rd,∀own q,look H k=some (own,q)→SatO ρ w k own q)→∃v,(execOp a.eval o).run P w=.ok (.value v) w∧sv.rel ρ v
theorem Jg{ρ:Jn}{e:Env}{a:Act}{o:Oper}{x:Operand}(hx:x∈o.op.operands.toList)
 (h:∀t,Wr o t→(e.get t).rel ρ (a.tmps.getD t undef)):(ev e x).rel ρ (a.eval x) :=
 bn2 fun t ht=>h t (by subst ht;exact hx)
theorem Qy{e:Env}{o:Oper}{x:Operand}{n:Nat}(hx:x∈o.op.operands.toList)
 (h:∀t,Wr o t→(e.get t).below n):(ev e x).below n :=
 bn3 fun t ht=>h t (by subst ht;exact hx)
abbrev PK:=SV→List Nat→Prop
def bG6(e:Env)(c x y:Operand)(K:PK):Prop :=
 match ev e c with
 | .c (.b true)=>K (ev e x) []
 | .c (.b false)=>K (ev e y) []
 | .c (.v (.bool t))=>(t=true→K (ev e x) [])∧(t=false→K (ev e y) [])
 |_=>False
theorem VX(n:Nat)(x:Value):(SV.c (.v x)).below n:=by intro k hk;simp[SV.uses,SC.uses,SC.nms,Jy]at hk
theorem WT(n:Nat)(x:Bool):(SV.c (.b x)).below n:=by intro k hk;simp[SV.uses,SC.uses,SC.nms,Jy]at hk
theorem bB5{P:Program}{o:Oper}{e:Env}{H:Je}{x:Operand}(ho:o.op=.move x∨o.op=.assign x):PureOK P o e H (ev e x) [] where
 below n h _:=Qy (by rcases ho with ho|ho <;> simp[ho,Op.operands]) h
 run ρ a w h _:=⟨a.eval x,by rcases ho with ho|ho <;> simp[execOp,ho],Jg (by rcases ho with ho|ho <;> simp[ho,Op.operands]) h⟩
theorem ct5{P:Program}{o:Oper}{e:Env}{H:Je}{c x y:Operand}{K:PK}(ho:o.op=.pick c x y)(h:bG6 e c x y K) :
 ∃sv rd,K sv rd∧PureOK P o e H sv rd:=by
 have key:∀t:Bool,(∀(ρ:Jn) (a:Act) (w:World),(∀t,Wr o t→(e.get t).rel ρ (a.tmps.getD t undef))→a.eval c=.bool t)→K (if t then ev e x else ev e y) [] →
  ∃sv rd,K sv rd∧PureOK P o e H sv rd:=by
  intro t ht hK;refine⟨_,_,hK, ?_, ?_⟩
  ·intro n hn _;cases t
   ·exact Qy (by simp[ho,Op.operands]) hn
   ·exact Qy (by simp[ho,Op.operands]) hn
  ·intro ρ a w hr _;have hc:=ht ρ a w hr;cases t
   ·exact⟨a.eval y,by simp[execOp,ho,hc,asBool],Jg (by simp[ho,Op.operands]) hr⟩
   ·exact⟨a.eval x,by simp[execOp,ho,hc,asBool],Jg (by simp[ho,Op.operands]) hr⟩
 have hcr:∀(ρ:Jn) (a:Act),(∀t,Wr o t→(e.get t).rel ρ (a.tmps.getD t undef))→(ev e c).rel ρ (a.eval c):=fun ρ a hr=>Jg (by simp[ho,Op.operands]) hr;unfold bG6 at h;split at h
 ·rename_i he
  exact key true (fun ρ a w hr=>by have:=hcr ρ a hr;rw[he]at this;exact this) h
 ·rename_i he
  exact key false (fun ρ a w hr=>by have:=hcr ρ a hr;rw[he]at this;exact this) h
 ·rename_i t he
  refine key t (fun ρ a w hr=>by have:=hcr ρ a hr;rw[he]at this;exact this) ?_;cases t
  ·exact h.2 rfl
  ·exact h.1 rfl
 ·exact h.elim
def nilK(e:Env)(x:Operand)(K:PK):Prop :=
 match ev e x with
 | .c (.p k i sz off)=>K (.c (.p k i sz off)) []
 |_=>False
theorem cB0{P:Program}{o:Oper}{e:Env}{H:Je}{x:Operand}{K:PK}(ho:o.op=.nilCheck x)(h:nilK e x K) :
 ∃sv rd,K sv rd∧PureOK P o e H sv rd:=by
 have hx:x∈o.op.operands.toList:=by simp[ho,Op.operands]
 unfold nilK at h;split at h
 ·rename_i k i sz off he
  refine⟨_,_,h,fun n hn _=>by rw[←he];exact Qy hx hn,fun ρ a w hr _=>?_⟩;have:=Jg hx hr;rw[he]at this;exact⟨a.eval x,by simp only[SV.rel,SC.rel]at this;simp[execOp,ho,this],this⟩
 ·exact h.elim
def ce8(e:Env)(x:Operand)(i:Nat)(K:PK):Prop :=
 match ev e x with
 | .tup l=>match l[i]? with
  |some (.inl c)=>K (.c c) []
  |some (.inr l)=>K (.agg l) []
  |none=>False
 |_=>False
theorem aS8{ρ:Jn}:∀ {l:List (Sum SC (List SC))} {vs:List Value} {i:Nat} {x:Sum SC (List SC)},aa5 ρ l vs→l[i]? = some x →
 ∃v,vs[i]? = some v∧(match x with | .inl c=>SV.c c | .inr l=>SV.agg l).rel ρ v
 | [],_,_,_,_,h=>by simp at h
 | .inl c::l,v::vs,0,x,hr,h=>by simp at h;subst h;exact⟨v,by simp,hr.1⟩
 | .inr c::l,v::vs,0,x,hr,h=>by simp at h;subst h;exact⟨v,by simp,hr.1⟩
 | .inl c::l,v::vs,i+1,x,hr,h=>by
  obtain⟨u,hu,hx⟩:=aS8 (i:=i) hr.2 (by simpa using h);exact⟨u,by simpa using hu,hx⟩
 | .inr c::l,v::vs,i+1,x,hr,h=>by
  obtain⟨u,hu,hx⟩:=aS8 (i:=i) hr.2 (by simpa using h);exact⟨u,by simpa using hu,hx⟩
 | .inl c::l,[],_,_,hr,_=>hr.elim
 | .inr c::l,[],_,_,hr,_=>hr.elim
theorem cB1{P:Program}{o:Oper}{e:Env}{H:Je}{x:Operand}{i:Nat}{K:PK}(ho:o.op=.extract x i)(h:ce8 e x i K) :
 ∃sv rd,K sv rd∧PureOK P o e H sv rd:=by
 have hx:x∈o.op.operands.toList:=by simp[ho,Op.operands]
 unfold ce8 at h;split at h
 ·rename_i l he
  have run:∀y,l[i]? = some y→∀(ρ:Jn) (a:Act) (w:World),(∀t,Wr o t→(e.get t).rel ρ (a.tmps.getD t undef)) →
   ∃v,(execOp a.eval o).run P w=.ok (.value v) w∧(match y with | .inl c=>SV.c c | .inr l=>SV.agg l).rel ρ v:=by
   intro y hy ρ a w hr;have:=Jg hx hr;rw[he]at this;obtain⟨xs,hv,hrel⟩:=this;obtain⟨v,hv',hx'⟩:=aS8 hrel hy;have hv'':xs[i]? = some v:=by simpa using hv'
   exact⟨v,by simp[execOp,ho,hv,Instr.extract,hv''],hx'⟩
  have bel:∀y,l[i]? = some y→∀n,(∀t,Wr o t→(e.get t).below n)→(match y with | .inl c=>SV.c c | .inr l=>SV.agg l).below n:=by
   intro y hy n hn k hk;have hb:=Qy hx hn;rw[he]at hb;refine hb k (KY.2 ⟨y,List.mem_of_getElem? hy, ?_⟩);cases y with
   |inl c=>exact .inl ⟨c,rfl,hk⟩
   |inr c=>exact .inr ⟨c,rfl,hk⟩
  split at h
  ·rename_i c hc
   exact⟨_,_,h,fun n hn _=>bel _ hc n hn,fun ρ a w hr _=>run _ hc ρ a w hr⟩
  ·rename_i c hc
   exact⟨_,_,h,fun n hn _=>bel _ hc n hn,fun ρ a w hr _=>run _ hc ρ a w hr⟩
  ·exact h.elim
 ·exact h.elim
def aS9:IntKind→IntKind→Bool
 | .i8, .i8 | .i16, .i16 | .i32, .i32 | .i64, .i64 | .u8, .u8 | .u16, .u16 | .u32, .u32 | .u64, .u64=>true
 |_,_=>false
theorem aN7{a b:IntKind}(h:aS9 a b=true):a=b:=by cases a <;> cases b <;> simp[aS9]at h <;> rfl
abbrev iv(k:IntKind)(z:Int):SV:=.c (.v (.int k z))
abbrev bv(t:Bool):SV:=.c (.v (.bool t))
def KO(op:BinOp)(k:IntKind)(x y:Int):Option Int :=
 let a:=BitVec.ofInt k.bits x
 let b:=BitVec.ofInt k.bits y
 match op with
 | .and=>some (k.wrap (a&&&b).toNat)
 | .or=>some (k.wrap (a|||b).toNat)
 | .xor=>some (k.wrap (a^^^b).toNat)
 | .andNot=>some (k.wrap (a &&& ~~~b).toNat)
 |_=>none
def bn4(op:BinOp)(k:IntKind)(x y:Int)(K:PK):Prop :=
 match op with
 | .add=>∃z,k.wrap (x+y)=z∧K (iv k z) []
 | .sub=>∃z,k.wrap (x-y)=z∧K (iv k z) []
 | .mul=>∃z,k.wrap (x*y)=z∧K (iv k z) []
 | .quo=>y≠0∧∃z,k.wrap (x.tdiv y)=z∧K (iv k z) []
 | .rem=>y≠0∧∃z,x.tmod y=z∧K (iv k z) []
 | .eql=>K (bv (x==y)) []
 | .neq=>K (bv (x != y)) []
 | .lss=>K (bv (decide (x<y))) []
 | .leq=>K (bv (decide (x≤y))) []
 | .gtr=>K (bv (decide (y<x))) []
 | .geq=>K (bv (decide (y≤x))) []
 | .and=>∃z,KO .and k x y=some z∧K (iv k z) []
 | .or=>∃z,KO .or k x y=some z∧K (iv k z) []
 | .xor=>∃z,KO .xor k x y=some z∧K (iv k z) []
 | .andNot=>∃z,KO .andNot k x y=some z∧K (iv k z) []
 |_=>False
def bn5(op:BinOp)(k:IntKind)(x y:Int)(K:PK):Prop :=
 match op with
 | .shl=>0≤y∧∃z,k.wrap (x*2 ^ (min y.toNat k.bits))=z∧K (iv k z) []
 | .shr=>0≤y∧∃z,x.fdiv (2 ^ (min y.toNat k.bits))=z∧K (iv k z) []
 |_=>False
def ax2:BinOp→Bool
 | .shl | .shr=>true
 |_=>false
def aW7:SC→Option Int
 | .v (.int .i64 z)=>some z
 |_=>none
def ap1:List SC→Option (List Int)
 | []=>some []
 |c::l=>match aW7 c,ap1 l with
  |some z,some zs=>some (z::zs)
  |_,_=>none
def Ku:List (Nat×Nat)→Nat→Option Nat
 | [],_=>none
 |(j,o)::r,k=>bif Nat.beq k j then some o else Ku r k
theorem as5{L:List (Nat×Nat)}{k n:Nat}(h:Ku L k=some n):(k,n)∈L:=by
 induction L with
 |nil=>simp[Ku]at h
 |cons p r ih =>
  obtain⟨j,o⟩:=p;simp only[Ku]at h;cases hb:Nat.beq k j with
  |true=>simp[hb]at h;subst h;rw[Nat.eq_of_beq_eq_true hb];exact List.mem_cons_self ..
  |false=>simp[hb]at h;exact List.mem_cons_of_mem _ (ih h)
def Yv(l:List Int):Value:=.agg (l.map (Value.int .i64)).toArray
def aT0(P:Program)(L:List (Nat×Nat)):Prop:=∀t n,(t,n)∈L→∀(xs ys:List Int),xs.length=n→ys.length=n→∀(w:World) (x y:Operand),
 (eqGuard .eql t x y (Yv xs) (Yv ys)).run P w=.ok () w∧(eqGuard .neq t x y (Yv xs) (Yv ys)).run P w=.ok () w ∧
 (Op.equal t (Yv xs) (Yv ys)).run P w=.ok (xs==ys) w
def ai1:Kd→Value→Bool
 | .bool, .bool _=>true
 | .int k, .int k' _=>aS9 k k'
 | .string, .string _=>true
 |_,_=>false
def af3(k:Kd):List Value→Bool
 | []=>true
 |v::r=>bif ai1 k v then af3 k r else false
def ce9:Value→Value→Bool
 | .bool a, .bool b=>a==b
 | .int _ a, .int _ b=>a==b
 | .string a, .string b=>a.toList==b.toList
 |_,_=>false
def ai2:List Value→List Value→Bool
 | [],[]=>true
 |a::l,b::l'=>ce9 a b&&ai2 l l'
 |_,_=>false
def aW8:SC→Option Value
 | .v x=>some x
 | .b x=>some (.bool x)
 |_=>none
def ap2:List SC→Option (List Value)
 | []=>some []
 |c::l=>match aW8 c,ap2 l with
  |some z,some zs=>some (z::zs)
  |_,_=>none
def aN8:List (Nat×Nat×Kd)→Nat→Option (Nat×Kd)
 | [],_=>none
 |(j,o)::r,k=>bif Nat.beq k j then some o else aN8 r k
theorem bg4{L:List (Nat×Nat×Kd)}{k:Nat}{o:Nat×Kd}(h:aN8 L k=some o):(k,o)∈L:=by
 induction L with
 |nil=>simp[aN8]at h
 |cons p r ih =>
  obtain⟨j,q⟩:=p;simp only[aN8]at h;cases hb:Nat.beq k j with
  |true=>simp[hb]at h;subst h;rw[Nat.eq_of_beq_eq_true hb];exact List.mem_cons_self ..
  |false=>simp[hb]at h;exact List.mem_cons_of_mem _ (ih h)
def aW9(P:Program)(L:List (Nat×Nat×Kd)):Prop:=∀t n k,(t,n,k)∈L→∀(xs ys:List Value),xs.length=n→ys.length=n→af3 k xs=true→af3 k ys=true→∀(w:World) (x y:Operand),
 (eqGuard .eql t x y (.agg xs.toArray) (.agg ys.toArray)).run P w=.ok () w∧(eqGuard .neq t x y (.agg xs.toArray) (.agg ys.toArray)).run P w=.ok () w ∧
 (Op.equal t (.agg xs.toArray) (.agg ys.toArray)).run P w=.ok (ai2 xs ys) w
theorem bS0{P:Program}:aW9 P []:=by intro t n k h;cases h
structure Tabs where
 T:List (Nat×TI)
 E:List (Nat×Nat)
 D:List (Nat×Nat×Kd)
def af4(B:Tabs):List (Nat×TypeId)→Bool
 | []=>true
 |(_,t)::r=>match Ji B.T t with
  |some _=>af4 B r
  |none=>false
def ab5(B:Tabs):List (Nat×TI)→Bool
 | []=>true
 |(_,⟨.struct fs,_,_,_⟩)::r=>bif af4 B fs then ab5 B r else false
 |(_,_)::r=>ab5 B r
def bG7:List (Nat×TI)→Bool
 | []=>true
 |(_,ti)::r=>bif Nat.beq ti.zero.length ti.size then bG7 r else false
structure TabsOK (P:Program) (B:Tabs):Prop where
 T:am1 P B.T
 Z:bG7 B.T=true
 F:ab5 B B.T=true
 E:aT0 P B.E
 D:aW9 P B.D
 mixed:P.follows .mixedOrders=true
def bS1(B:Tabs)(op:BinOp)(t:TypeId)(l l':List SC)(K:PK):Prop :=
 match Ku B.E t,ap1 l,ap1 l' with
 |some n,some xs,some ys=>bif Nat.beq xs.length n&&Nat.beq ys.length n then(match op with
  | .eql=>K (bv (xs==ys)) []
  | .neq=>K (bv (xs != ys)) []
  |_=>False)else False
 |_,_,_=>False
def cB2(op:BinOp)(n:Nat)(k:Kd)(l l':List SC)(K:PK):Prop :=
 match ap2 l,ap2 l' with
 |some xs,some ys=>bif (Nat.beq xs.length n&&Nat.beq ys.length n)&&(af3 k xs&&af3 k ys)then(match op with
  | .eql=>K (bv (ai2 xs ys)) []
  | .neq=>K (bv (!ai2 xs ys)) []
  |_=>False)else False
 |_,_=>False
def bd6(B:Tabs)(op:BinOp)(t:TypeId)(x y:SV)(K:PK):Prop :=
 match x,y with
 | .c (.v (.int k a)), .c (.v (.int k' b))=>bif ax2 op then bn5 op k a b K else bif aS9 k k' then bn4 op k a b K else False
 | .c (.p _ _ _ _), .c (.v (.pointer none))=>(match op,Ji B.T t with
  | .eql,some ⟨.ptr _,_,_,_⟩=>K (.c (.b false)) []
  | .neq,some ⟨.ptr _,_,_,_⟩=>K (.c (.b true)) []
  |_,_=>False)
 | .c (.v (.pointer none)), .c (.v (.pointer none))=>(match op,Ji B.T t with
  | .eql,some ⟨.ptr _,_,_,_⟩=>K (.c (.b true)) []
  | .neq,some ⟨.ptr _,_,_,_⟩=>K (.c (.b false)) []
  |_,_=>False)
 | .c (.s _ _ len _), .c (.v (.slice none 0 0))=>(match op,Ji B.T t with
  | .eql,some ⟨.slice _,_,_,_⟩=>(len=0→K (.c .any) [])∧(0<len→K (.c (.b false)) [])
  | .neq,some ⟨.slice _,_,_,_⟩=>(len=0→K (.c .any) [])∧(0<len→K (.c (.b true)) [])
  |_,_=>False)
 | .c (.v (.bool a)), .c (.v (.bool b))=>boolK op t a b K
 | .c (.v (.bool a)), .c (.b b)=>boolK op t a b K
 | .c (.b a), .c (.v (.bool b))=>boolK op t a b K
 | .c (.b a), .c (.b b)=>boolK op t a b K
 | .agg l, .agg l'=>(match aN8 B.D t with
  |some (n,k)=>cB2 op n k l l' K
  |none=>bS1 B op t l l' K)
 |_,_=>False
where
 boolK (op:BinOp) (t:TypeId) (a b:Bool) (K:PK):Prop :=
  match op,Ji B.T t with
   | .eql,some ⟨.bool,_,_,_⟩=>K (bv (a==b)) []
   | .neq,some ⟨.bool,_,_,_⟩=>K (bv (a != b)) []
   |_,_=>False
theorem bn6:∀ {T:List (Nat×TI)} {t:Nat} {ti:TI},bG7 T=true→Ji T t=some ti→ti.zero.length=ti.size
 | [],_,_,_,h=>by simp[Ji]at h
 |(j,o)::r,t,ti,hz,h=>by
  simp only[bG7]at hz;cases hb:Nat.beq o.zero.length o.size with
  |false=>simp[hb]at hz
  |true =>
   simp only[hb,cond_true]at hz;simp only[Ji]at h;cases hc:Nat.beq t j with
   |true=>simp[hc]at h;subst h;exact Nat.eq_of_beq_eq_true hb
   |false=>simp[hc]at h;exact bn6 hz h
theorem TabsOK.zsz{P:Program}{B:Tabs}(hB:TabsOK P B)(t:Nat)(ti:TI)(h:Ji B.T t=some ti):ti.zero.length=ti.size:=bn6 hB.Z h
end Sx
end Go
