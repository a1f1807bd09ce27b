/-
  A part of the proof that a law answers true: lemmas of a symbolic walk, plain functions, or contracts of the functions walked (Sx14, SxA, SxB). Conditions: none.
-/
import Derived.Test.YtfcdjkeamldkaaaGreatPart03
set_option maxRecDepth 100000
set_option linter.unusedVariables false
set_option linter.unusedSimpArgs false
namespace Go
namespace Sx
structure CallOK (cx:Cx) (o:Oper) (e:Env) (H:Je) (nx:Nat) (f:Eff):Prop where
 loc:We cx o e H f
 news:∀k∈f.news,nx≤k∧k<nx+f.news.length
def ap5(B:Tabs)(t:TypeId):Bool:=match Ji B.T t with
 |some ⟨.array _ _,sz,_,_⟩=>Nat.blt 8 sz
 |some ⟨.struct _,sz,_,_⟩=>Nat.blt 16 sz
 |_=>false
def bo9(B:Tabs)(t:TypeId):Bool:=match Ji B.T t with
 |some ⟨.string,_,_,_⟩=>true
 |_=>false
def bS5(B:Tabs)(t:TypeId):Bool:=match Ji B.T t with
 |some ⟨.ptr e,_,_,_⟩=>ap5 B e
 |_=>false
def cq6(B:Tabs)(t:TypeId):Bool:=match Ji B.T t with
 |some ⟨.struct ((_,p)::_),_,_,_⟩=>(match Ji B.T p with
  |some ⟨.ptr e,_,_,_⟩=>Nat.beq e t
  |_=>false)
 |_=>false
def cH2(B:Tabs)(t:TypeId):Bool:=match Ji B.T t with
 |some ⟨.ptr e,_,_,_⟩=>cq6 B e
 |_=>false
def noT(B:Tabs)(t:TypeId):Bool:=match Ji B.T t with
 |none=>true
 |_=>false
def cq7(B:Tabs)(t:TypeId):Bool:=match Ji B.T t with
 |some ⟨.slice e,_,_,_⟩=>(match Ji B.T e with
  |some ⟨.array _ _,sz,_,_⟩=>Nat.blt 8 sz
  |_=>false)
 |_=>false
def cH3(B:Tabs)(t:TypeId):Bool:=match Ji B.T t with
 |some ⟨.slice e,_,_,_⟩=>(match Ji B.T e with
  |some ⟨.struct _,sz,_,_⟩=>Nat.beq sz 2
  |_=>false)
 |_=>false
def cH4(B:Tabs)(t:TypeId):Bool:=match Ji B.T t with
 |some ⟨.slice e,_,_,_⟩=>(match Ji B.T e with
  |some ⟨.struct _,sz,_,_⟩=>Nat.beq sz 7
  |_=>false)
 |_=>false
def cB8(B:Tabs)(ts:Array TypeId):Bool:=match ts.toList with
 | [t]=>(match Ji B.T t with
  |some ⟨.map _ _,_,_,_⟩=>true
  |_=>false)
 |_=>false
def cq8(B:Tabs)(o:Oper):Bool:=match o.op with
 | .makeFunc _ first _=>(match first.toList with
  | []=>false
  |_=>true)
 | .mapEntry ..=>true
 | .entryStore ..=>true
 | .range ..=>true
 | .next ..=>true
 | .entry ..=>true
 | .call c=>(match c.callee with
  | .builtin .len=>cB8 B c.argTypes
  |_=>false)
 | .index ..=>true
 | .load t _=>ap5 B t||cq7 B t
 | .binOp _ t _ _ _=>bo9 B t||(cH2 B t||ap5 B t)
 | .convert s d _=>bo9 B s||(bo9 B d||(noT B s||noT B d))
 | .slice t _ (some _) (some _) none=>bo9 B t||(ap5 B t||(bS5 B t||cH4 B t))
 | .slice t _ _ _ none=>bo9 B t||(ap5 B t||bS5 B t)
 | .indexAddr t _ _=>ap5 B t
 | .build t _=>ap5 B t
 | .field t _ _=>ap5 B t
 | .alloc t=>ap5 B t||cq6 B t
 | .box t _=>ap5 B t
 | .store t _ _=>ap5 B t||(cq7 B t||cH3 B t)
 |_=>false
def cf9(cx:Cx)(B:Tabs)(o:Oper)(e:Env)(H:Je)(nx:Nat)(K:Eff→Prop):Prop :=
 match o.op with
 | .alloc t=>bo6 B t nx K
 | .box _ x=>cf7 (ev e x) nx K
 | .store t x y=>bo8 B t (ev e x) (ev e y) H K
 | .makeSlice ..=>∃f,CallOK cx o e H nx f∧K f
 | .buildSlice ..=>∃f,CallOK cx o e H nx f∧K f
 | .makeMap ..=>∃f,CallOK cx o e H nx f∧K f
 | .lookup ..=>∃f,CallOK cx o e H nx f∧K f
 | .mapUpdate ..=>∃f,CallOK cx o e H nx f∧K f
 | .slice _ _ _ _ (some _)=>∃f,CallOK cx o e H nx f∧K f
 | .call c=>(match c.callee with
  | .builtin .len=>ac7 B o e H (fun sv rd=>K ⟨sv,rd,[],[]⟩)
  | .builtin .min=>ac7 B o e H (fun sv rd=>K ⟨sv,rd,[],[]⟩)
  | .builtin .max=>ac7 B o e H (fun sv rd=>K ⟨sv,rd,[],[]⟩)
  |_=>∃f,CallOK cx o e H nx f∧K f)
 |_=>ac7 B o e H (fun sv rd=>K ⟨sv,rd,[],[]⟩)
theorem cB9{cx:Cx}{B:Tabs}(hB:TabsOK cx.P B){o:Oper}{e:Env}{H:Je}{nx:Nat}{K:Eff→Prop}(h:cf9 cx B o e H nx K) :
 ∃f,K f∧We cx o e H f∧ap4 nx f:=by
 have hpure:ac7 B o e H (fun sv rd=>K ⟨sv,rd,[],[]⟩)→∃f,K f∧We cx o e H f∧ap4 nx f:=fun h=>by
  obtain⟨sv,rd,hK,hp⟩:=cu0 hB h;exact⟨_,hK,hp.loc (bl1 h),fun k hk=>by cases hk⟩
 have hcall:(∃f,CallOK cx o e H nx f∧K f)→∃f,K f∧We cx o e H f∧ap4 nx f:=fun⟨f,hf,hK⟩=>⟨f,hK,hf.loc,hf.news⟩;unfold cf9 at h;split at h
 ·rename_i t ho;exact cf6 hB ho h
 ·rename_i t x ho;exact cB7 ho h
 ·rename_i t x y ho
  obtain⟨f,hK,hf,hn⟩:=cf8 (cx:=cx) hB ho h;exact⟨f,hK,hf,hn nx⟩
 ·exact hcall h
 ·exact hcall h
 ·exact hcall h
 ·exact hcall h
 ·exact hcall h
 ·exact hcall h
 ·split at h
  ·exact hpure h
  ·exact hpure h
  ·exact hpure h
  ·exact hcall h
 ·exact hpure h
def opK(cx:Cx)(B:Tabs)(o:Oper)(e:Env)(H:Je)(nx:Nat)(K:Eff→Prop):Prop :=
 bif cq8 B o then ∃f,CallOK cx o e H nx f∧K f else cf9 cx B o e H nx K
theorem cq9{cx:Cx}{B:Tabs}(hB:TabsOK cx.P B){o:Oper}{e:Env}{H:Je}{nx:Nat}{K:Eff→Prop}(h:opK cx B o e H nx K) :
 ∃f,K f∧We cx o e H f∧ap4 nx f:=by
 unfold opK at h;cases hx:cq8 B o with
 |true =>
  simp only[hx,cond_true]at h;obtain⟨f,hf,hK⟩:=h;exact⟨f,hK,hf.loc,hf.news⟩
 |false =>
  simp only[hx,cond_false]at h;exact cB9 hB h
def ai5(d:Option Nat)(cx:Cx):Bool:=match d with
 |none=>true
 |some d=>bif Nat.blt d cx.nt then af2 cx.md d else false
def XY(n:Nat)(K:Nat→Prop):Prop:=match n with
 |0=>K 0
 |m+1=>K (m+1)
theorem WQ{n:Nat}{K:Nat→Prop}:XY n K=K n:=by cases n <;> rfl
def Gy:List Nat→(List Nat→Prop)→Prop
 | [],K=>K []
 |a::r,K=>XY a fun a=>Gy r fun r=>K (a::r)
theorem ac9{l:List Nat}{K:List Nat→Prop}:Gy l K=K l:=by
 induction l generalizing K with
 |nil=>rfl
 |cons c l ih=>simp[Gy,WQ,ih]
def bS6(x:Value)(K:Value→Prop):Prop:=match x with
 | .int k z=>K (.int k z)
 | .bool t=>K (.bool t)
 |x=>K x
def aH5(c:SC)(K:SC→Prop):Prop:=match c with
 | .v x=>bS6 x fun x=>K (.v x)
 | .b x=>K (.b x)
 | .p k i sz off=>XY k fun k=>XY sz fun sz=>XY off fun off=>K (.p k i sz off)
 | .s k st len sz=>XY k fun k=>XY sz fun sz=>K (.s k st len sz)
 | .f g caps=>Gy caps fun caps=>K (.f g caps)
 | .m k=>XY k fun k=>K (.m k)
 | .cut k h sz=>XY k fun k=>XY sz fun sz=>K (.cut k h sz)
 | .ghost k i=>XY k fun k=>K (.ghost k i)
 | .gp k i=>XY k fun k=>K (.gp k i)
 | .any=>K .any
 | .junk=>K .junk
def af7:List SC→(List SC→Prop)→Prop
 | [],K=>K []
 |c::l,K=>aH5 c fun c=>af7 l fun l=>K (c::l)
def aH6:List (Sum SC (List SC))→(List (Sum SC (List SC))→Prop)→Prop
 | [],K=>K []
 | .inl c::l,K=>aH5 c fun c=>aH6 l fun l=>K (.inl c::l)
 | .inr c::l,K=>af7 c fun c=>aH6 l fun l=>K (.inr c::l)
def ao1(s:SV)(K:SV→Prop):Prop:=match s with
 | .c x=>aH5 x fun x=>K (.c x)
 | .agg l=>af7 l fun l=>K (.agg l)
 | .tup l=>aH6 l fun l=>K (.tup l)
 | .pk vs l=>af7 l fun l=>K (.pk vs l)
def aX1(o:SO)(K:SO→Prop):Prop:=match o with
 | .cel ty l=>af7 l fun l=>K (.cel ty l)
 | .arr a=>K (.arr a)
 | .raw l=>K (.raw l)
 | .box b=>K (.box b)
def aj6:Je→Je→(Je→Prop)→Prop
 | [],H,K=>K H
 |(k,true,o)::r,H,K=>XY k fun k=>aX1 o fun o=>aj6 r H fun H=>K ((k,true,o)::H)
 |(k,false,o)::r,H,K=>XY k fun k=>aX1 o fun o=>aj6 r H fun H=>K ((k,false,o)::H)
theorem bS7{n:Value}{K:Value→Prop}:bS6 n K=K n:=by cases n <;> rfl
theorem aH7{c:SC}{K:SC→Prop}:aH5 c K=K c:=by cases c <;> simp[aH5,WQ,bS7,ac9]
theorem aA7{l:List SC}{K:List SC→Prop}:af7 l K=K l:=by
 induction l generalizing K with
 |nil=>rfl
 |cons c l ih=>simp[af7,aH7,ih]
theorem bS8{l:List (Sum SC (List SC))}{K:List (Sum SC (List SC))→Prop}:aH6 l K=K l:=by
 induction l generalizing K with
 |nil=>rfl
 |cons c l ih=>cases c <;> simp[aH6,aH7,aA7,ih]
theorem am4{s:SV}{K:SV→Prop}:ao1 s K=K s:=by cases s <;> simp[ao1,aH7,aA7,bS8]
theorem bS9{s:SO}{K:SO→Prop}:aX1 s K=K s:=by cases s <;> simp[aX1,aA7]
theorem aH8{l H:Je}{K:Je→Prop}:aj6 l H K=K (l++H):=by
 induction l generalizing K with
 |nil=>rfl
 |cons c l ih =>
  obtain⟨k,own,o⟩:=c;cases own <;> simp[aj6,WQ,bS9,ih]
def ax3(d:Option Nat)(sv:SV)(e:Env)(K:Env→Prop):Prop:=match d with
 |none=>K e
 |some d=>ao1 sv fun sv=>K (.put d sv e)
theorem as7{d:Option Nat}{sv:SV}{e:Env}{K:Env→Prop}:ax3 d sv e K=K (putO d sv e):=by
 cases d <;> simp[ax3,am4,putO]
def bp0:List Nat→Nat
 | []=>0
 |_::r=>bp0 r+1
theorem cu2(l:List Nat):bp0 l=l.length:=by induction l <;> simp[bp0, *]
def aT4(cx:Cx)(B:Tabs)(o:Oper)(s:St)(K:St→Prop):Prop:=match s with
 |⟨e,H,nx⟩=>bif ai5 o.dst cx then opK cx B o e H nx fun f=>aj6 f.wr H fun H=>XY (nx+bp0 f.news) fun nx=>ax3 o.dst f.sv e fun e=>K ⟨e,H,nx⟩else False
def aA8(cx:Cx)(o:Oper)(s:St)(K:St→Prop):Prop:=match s with
 |⟨e,H,nx⟩=>bif ai5 o.dst cx then ax3 o.dst (.tup []) e fun e=>K ⟨e,H,nx⟩else False
theorem aH9{d:Option Nat}{cx:Cx}(h:ai5 d cx=true):∀x,d=some x→x<cx.nt∧af2 cx.md x=true:=by
 rintro x rfl
 simp only[ai5]at h;cases hb:Nat.blt x cx.nt with
 |false=>rw[hb]at h;cases h
 |true=>rw[hb]at h;exact⟨Eq.mp Nat.blt_eq hb,h⟩
theorem cg0{e:Env}{H:Je}{n k m:Nat}(h:Bnd e H n)(hk:n≤k):Fresh k ⟨e,H,m⟩ where
 env i:=by
  cases hu:(e.get i).uses [k]with
  |false=>rfl
  |true=>have:=h.env i k hu;omega
 mks:=fun hm=>by have:=h.mks k hm;omega
 heap j own o hl:=by
  have:=h.heap j own o hl;refine⟨by omega, ?_⟩;cases hu:o.uses [k]with
  |false=>rfl
  |true=>have:=this.2 k hu;omega
theorem Sat.bump{cx:Cx}{ρ:Jn}{s:St}{a:Act}{w:World}(h:Sat cx ρ s a w){m:Nat}(hm:s.nx≤m):Sat cx ρ { s with nx:=m } a w where
 size:=h.size
 defers:=h.defers
 env:=h.env
 heap:=h.heap
 bnd:=h.bnd.more hm
 base:=h.base
 keep:=h.keep
 n0:=Nat.le_trans h.n0 hm
theorem bT0{cx:Cx}{B:Tabs}(hB:TabsOK cx.P B){o:Oper}{s:St}{K:St→Prop}(h:aT4 cx B o s K){ρ:Jn}{a:Act}{w:World}(hs:Sat cx ρ s a w)
 {KK:Act→World→Prop} {Q:Exit→Act→World→Prop} (hK:∀ρ' s' a' w',K s'→Sat cx ρ' s' a' w'→KK a' w'):o.wpIn (WF cx.rd) 0 cx.P a w KK Q:=by
 obtain⟨e0,H0,nx0⟩:=s;simp only[aT4]at h;cases hd:ai5 o.dst cx with
 |false=>simp[hd]at h
 |true =>
  simp only[hd,cond_true]at h;simp only[aH8,WQ,as7,cu2]at h;obtain⟨f,hKf,hf,hn⟩:=cq9 hB h;refine hf ρ _ a w (hs.bump (m:=nx0+f.news.length) (by simp)) (fun _ _=>rfl) (fun _ _=>rfl) (fun k hk=>?_) (aH9 hd) KK Q fun ρ' a' w' h1 _=>hK ρ' _ a' w' hKf h1;have:=hn k hk;exact⟨cg0 hs.bnd this.1,this.2,Nat.le_trans hs.n0 this.1⟩
theorem as8{ρ:Jn}:(SV.tup []).rel ρ undef:=⟨#[],rfl,trivial⟩
theorem ai6{n:Nat}:(SV.tup []).below n:=by intro k hk;simp[SV.uses,Ks]at hk
theorem aT5{ρ:Jn}{v:Value}(h:(SV.tup []).rel ρ v):v=.tuple #[]:=by
 obtain⟨xs,rfl,hx⟩:=h;cases hl:xs.toList with
 |nil=>congr 1;exact Array.toList_inj.1 (by simpa using hl)
 |cons a l=>rw[hl]at hx;exact hx.elim
theorem bH6{cx:Cx}{o:Oper}{s:St}{K:St→Prop}(h:aA8 cx o s K){ρ:Jn}{a:Act}{w:World}(hs:Sat cx ρ s a w)
 {KK:Act→World→Prop} (hK:∀ρ' s' a' w',K s'→Sat cx ρ' s' a' w'→KK a' w'):KK (a.put o.dst undef) w:=by
 obtain⟨e0,H0,nx0⟩:=s;simp only[aA8]at h;cases hd:ai5 o.dst cx with
 |false=>simp[hd]at h
 |true =>
  simp only[hd,cond_true,as7]at h;exact hK ρ _ _ w h (hs.putO (aH9 hd) (v:=undef) (sv:=.tup []) as8 ai6)
def UR(ops:Array Oper)(j:Nat):Option Nat:=match ops.toList[j]? with
 |some o=>o.dst
 |none=>none
def be1:Bool→Bool→Bool
 |true,true=>true
 |false,false=>true
 |_,_=>false
def setB(d:Nat)(b:Bool)(s:St):St:=match s with
 |⟨e,H,nx⟩=>⟨.put d (.c (.b b)) e,H,nx⟩
def bp1(cx:Cx)(B:Tabs)(ops:Array Oper)(o:Oper)(s:St)(R:St→Prop):Prop:=match o.guard with
 |none=>aT4 cx B o s R
 |some (j,want)=>match UR ops j with
  |none=>False
  |some d=>match s.e.get d with
   | .c (.b t)=>bif be1 t want then aT4 cx B o s R else aA8 cx o s R
   | .c (.v (.bool t)) =>
    (t=true→bif want then aT4 cx B o (setB d true s) R else aA8 cx o (setB d true s) R) ∧
    (t=false→bif want then aA8 cx o (setB d false s) R else aT4 cx B o (setB d false s) R)
   | .tup []=>aA8 cx o s R
   |_=>False
def as9(cx:Cx)(B:Tabs)(ops:Array Oper)(l:List Oper):St→(St→Prop)→Prop :=
 List.rec (motive:=fun _=>St→(St→Prop)→Prop) (fun s K=>K s) (fun o _ ih s K=>bp1 cx B ops o s fun s'=>ih s' K) l
theorem bH7{cx:Cx}{B:Tabs}{ops:Array Oper}{o:Oper}{r:List Oper}{s:St}{K:St→Prop} :
 as9 cx B ops (o::r) s K=bp1 cx B ops o s fun s'=>as9 cx B ops r s' K:=rfl
theorem al4{ops:Array Oper}{j d:Nat}{a:Act}(hd:UR ops j=some d)(hv:a.tmps.getD d undef=.tuple #[]):yielded ops a.tmps j=none:=by
 unfold UR at hd;unfold yielded;split at hd
 ·rename_i o ho
  have:ops[j]? = some o:=by simpa using ho
  simp only[this,Option.bind_some,hd];by_cases hlt:d<a.tmps.size
  ·simp[Array.getD,hlt]at hv;simp[hlt,hv]
  ·simp[hlt]
 ·cases hd
theorem aA9{ops:Array Oper}{j d:Nat}{a:Act}{t:Bool}(hd:UR ops j=some d)(hv:a.tmps.getD d undef=.bool t):yielded ops a.tmps j=some t:=by
 unfold UR at hd;unfold yielded;split at hd
 ·rename_i o ho
  have:ops[j]? = some o:=by simpa using ho
  simp only[this,Option.bind_some,hd];by_cases hlt:d<a.tmps.size
  ·simp[Array.getD,hlt]at hv;simp[hlt,hv]
  ·simp[Array.getD,hlt,undef]at hv
 ·cases hd
theorem Sat.setB{cx:Cx}{ρ:Jn}{s:St}{a:Act}{w:World}(hs:Sat cx ρ s a w){d:Nat}{t:Bool}(hv:a.tmps.getD d undef=.bool t):Sat cx ρ (Sx.setB d t s) a w where
 size:=hs.size
 defers:=hs.defers
 env i:=by
  simp only[Sx.setB];rw[XA];by_cases hi:i=d
  ·rw[if_pos hi,hi];exact hv
  ·rw[if_neg hi];exact hs.env i
 heap:=hs.heap
 bnd:=hs.bnd.put (WT _ _)
 base:=hs.base
 keep:=hs.keep
 n0:=hs.n0
theorem av3{cx:Cx}{B:Tabs}(hB:TabsOK cx.P B){ops:Array Oper}{K:St→Prop}{Q:Exit→Act→World→Prop}(hK:∀ρ' s' a' w',K s'→Sat cx ρ' s' a' w'→Q .normal a' w') :
 ∀(l:List Oper) (k:Nat),(∀j,l[j]? = ops[k+j]?)→∀(s:St) (ρ:Jn) (a:Act) (w:World),as9 cx B ops l s K→Sat cx ρ s a w →
  wpOpsIn (WF cx.rd) 0 cx.P ops Q (List.range' k l.length) a w
 | [],k,_,s,ρ,a,w,h,hs=>by simpa [wpOpsIn] using hK ρ s a w h hs
 |o::r,k,hl,s,ρ,a,w,h,hs=>by
  have h0:ops[k]? = some o:=by simpa using (hl 0).symm
  have ih:=av3 hB hK r (k+1) (fun j=>by have:=hl (j+1);simpa [Nat.add_assoc,Nat.add_comm 1 j] using this);simp only[List.length_cons,List.range'_succ,wpOpsIn,h0]
  have run:∀(s:St),Sat cx ρ s a w→aT4 cx B o s (fun s'=>as9 cx B ops r s' K)→Region.wanted o (yielded ops a.tmps)=true →
   (if Region.wanted o (yielded ops a.tmps)=true then o.wpIn (WF cx.rd) 0 cx.P a w (wpOpsIn (WF cx.rd) 0 cx.P ops Q (List.range' (k+1) r.length)) Q
    else(∀f,o.about cx.P w a.eval=some f→(WF cx.rd).fn f)∧wpOpsIn (WF cx.rd) 0 cx.P ops Q (List.range' (k+1) r.length) (a.put o.dst undef) w):=by
   intro s hs h hw;rw[if_pos hw];exact bT0 hB h hs fun ρ' s' a' w' h1 h2=>ih s' ρ' a' w' h1 h2
  have skip:∀(s:St),Sat cx ρ s a w→aA8 cx o s (fun s'=>as9 cx B ops r s' K)→Region.wanted o (yielded ops a.tmps)=false →
   (if Region.wanted o (yielded ops a.tmps)=true then o.wpIn (WF cx.rd) 0 cx.P a w (wpOpsIn (WF cx.rd) 0 cx.P ops Q (List.range' (k+1) r.length)) Q
    else(∀f,o.about cx.P w a.eval=some f→(WF cx.rd).fn f)∧wpOpsIn (WF cx.rd) 0 cx.P ops Q (List.range' (k+1) r.length) (a.put o.dst undef) w):=by
   intro s hs h hw;rw[if_neg (by simp[hw])];exact⟨fun _ _=>trivial,bH6 h hs fun ρ' s' a' w' h1 h2=>ih s' ρ' a' w' h1 h2⟩
  rw[bH7]at h;unfold bp1 at h;split at h
  ·rename_i hg
   exact run s hs h (by simp[Region.wanted,hg])
  ·rename_i j want hg
   split at h
   ·exact h.elim
   ·rename_i d hd
    have hwant:∀t,a.tmps.getD d undef=.bool t→Region.wanted o (yielded ops a.tmps)=(t==want):=by
     intro t ht;simp only[Region.wanted,hg,aA9 hd ht];cases t <;> cases want <;> rfl
    split at h
    ·rename_i t he
     have hv:a.tmps.getD d undef=.bool t:=by have:=hs.env d;rw[he]at this;exact this
     have hw:=hwant t hv;cases t <;> cases want <;> simp only[be1,cond_true,cond_false]at h
     ·exact run s hs h (by rw[hw];rfl)
     ·exact skip s hs h (by rw[hw];rfl)
     ·exact skip s hs h (by rw[hw];rfl)
     ·exact run s hs h (by rw[hw];rfl)
    ·rename_i t he
     have hv:a.tmps.getD d undef=.bool t:=by have:=hs.env d;rw[he]at this;exact this
     have hw:=hwant t hv;cases t
     ·have h2:=h.2 rfl;cases want <;> simp only[cond_true,cond_false]at h2
      ·exact run _ (hs.setB hv) h2 (by rw[hw];rfl)
      ·exact skip _ (hs.setB hv) h2 (by rw[hw];rfl)
     ·have h1:=h.1 rfl;cases want <;> simp only[cond_true,cond_false]at h1
      ·exact skip _ (hs.setB hv) h1 (by rw[hw];rfl)
      ·exact run _ (hs.setB hv) h1 (by rw[hw];rfl)
    ·rename_i he
     have hv:a.tmps.getD d undef=.tuple #[]:=by have:=hs.env d;rw[he]at this;exact aT5 this
     exact skip s hs h (by simp only[Region.wanted,hg,al4 hd hv];rfl)
    ·exact h.elim
end Sx
end Go
namespace Go
namespace Sx
def JM:List (Nat×Nat)→Nat→Nat
 | [],k=>k
 |(a,b)::r,k=>bif Nat.beq k a then b else JM r k
def keys:Je→List Nat
 | []=>[]
 |(k,_)::r=>k::keys r
def VF:List Nat→Bool
 | []=>true
 |x::r=>bif Ys x r then false else VF r
def VO(f:Nat→Nat):List Nat→List Nat
 | []=>[]
 |x::r=>f x::VO f r
def US(l:List Nat):List Nat→Bool
 | []=>true
 |x::r=>bif Ys x l then US l r else false
def ap6(n:Nat):List (Nat×Nat)→Bool
 | []=>true
 |(x,_)::r=>bif Nat.ble n x then ap6 n r else false
def XR(n:Nat):List Nat→Bool
 | []=>true
 |x::r=>bif Nat.blt x n then XR n r else false
def UF:List SC→List Nat
 | []=>[]
 |c::l=>c.nms++UF l
def av4:List (Sum SC (List SC))→List Nat
 | []=>[]
 | .inl c::l=>c.nms++av4 l
 | .inr cs::l=>UF cs++av4 l
def SV.nms:SV→List Nat
 | .c x=>x.nms
 | .agg l=>UF l
 | .tup l=>av4 l
 | .pk _ l=>UF l
def SO.nms:SO→List Nat
 | .cel _ l=>UF l
 | .arr a=>a.nm
 | .raw _=>[]
 | .box _=>[]
def av5:List SV→List Nat
 | []=>[]
 |s::l=>s.nms++av5 l
def Vl:Je→List Nat
 | []=>[]
 |(k,_,o)::r=>k::(o.nms++Vl r)
theorem Xj{n:Nat}{l:List Nat}:XR n l=true↔∀k∈l,k<n:=by
 induction l with
 |nil=>simp[XR]
 |cons x r ih =>
  simp only[XR,List.mem_cons,forall_eq_or_imp];cases h:Nat.blt x n with
  |true=>have:=Eq.mp Nat.blt_eq h;simp[ih,this]
  |false =>
   have : ¬x<n := by rw[←Nat.blt_eq, h];simp
   simp[this]
theorem at0{m l:List Nat}:US m l=true↔∀k∈l,k∈m:=by
 induction l with
 |nil=>simp[US]
 |cons x r ih =>
  simp only[US,List.mem_cons,forall_eq_or_imp];cases h:Ys x m with
  |true=>simp[ih,JY.1 h]
  |false =>
   have : ¬x∈m := by rw[←JY, h];simp
   simp[this]
theorem cg1{l:List SC}{k:Nat}:k∈UF l↔∃c∈l,k∈c.nms:=by
 induction l with
 |nil=>simp[UF]
 |cons c l ih=>simp[UF,ih]
theorem aj7{l:List SC}{k:Nat}:XP [k] l=true↔k∈UF l:=by
 rw[Qo,cg1];constructor
 ·rintro ⟨c,hc,hu⟩
  obtain⟨j,hj,hm⟩:=SC.uses_iff.1 hu;simp at hm;subst hm;exact⟨c,hc,hj⟩
 ·rintro ⟨c,hc,hk⟩
  exact⟨c,hc,SC.uses_iff.2 ⟨k,hk,by simp⟩⟩
theorem aI0{k:Nat}:∀ {l:List (Sum SC (List SC))},Ks [k] l=true↔k∈av4 l
 | []=>by simp[Ks,av4]
 | .inl c::l=>by
  simp only[Ks,av4,List.mem_append];have hc:c.uses [k]=true↔k∈c.nms:=by rw[SC.uses_iff];simp
  cases h:c.uses [k]with
  |true=>simp[hc.1 h]
  |false =>
   have:¬k∈c.nms:=fun hh=>by rw[hc.2 hh]at h;cases h
   simp[aI0,this]
 | .inr c::l=>by
  simp only[Ks,av4,List.mem_append];cases h:XP [k] c with
  |true=>simp[aj7.1 h]
  |false =>
   have:¬k∈UF c:=fun hh=>by rw[aj7.2 hh]at h;cases h
   simp[aI0,this]
theorem SV.uses_nms{s:SV}{k:Nat}:s.uses [k]=true↔k∈s.nms:=by
 cases s with
 |c x=>simp only[SV.uses,SV.nms];rw[SC.uses_iff];simp
 |agg l=>exact aj7
 |tup l=>exact aI0
 |pk _ l=>exact aj7
theorem SO.uses_nms{o:SO}{k:Nat}:o.uses [k]=true↔k∈o.nms:=by
 cases o with
 |cel ty l=>exact aj7
 |arr a=>simp only[SO.uses,SO.nms];rw[Qm];simp
 |raw l=>simp[SO.uses,SO.nms]
 |box l=>simp[SO.uses,SO.nms]
theorem VP{H:Je}{k:Nat}{x:Bool×SO}(h:look H k=some x):k∈Vl H∧∀j∈x.2.nms,j∈Vl H:=by
 induction H with
 |nil=>simp[look]at h
 |cons p r ih =>
  obtain⟨j,own,o⟩:=p;rw[Jh]at h;by_cases hk:k=j
  ·rw[if_pos hk]at h;simp at h;subst h;exact⟨by simp[Vl,hk],fun i hi=>by simp[Vl];exact .inr (.inl hi)⟩
  ·rw[if_neg hk]at h;have:=ih h;exact⟨by simp[Vl,this.1],fun i hi=>by simp[Vl,this.2 i hi]⟩
theorem Xm{H:Je}{k:Nat}{x:Bool×SO}(h:look H k=some x):k∈keys H:=by
 induction H with
 |nil=>simp[look]at h
 |cons p r ih =>
  obtain⟨j,o⟩:=p;rw[Jh]at h;by_cases hk:k=j
  ·simp[keys,hk]
  ·rw[if_neg hk]at h;simp[keys,ih h]
theorem GP{H:Je}{k:Nat}(h:k∈keys H):∃x,look H k=some x:=by
 induction H with
 |nil=>cases h
 |cons p r ih =>
  obtain⟨j,o⟩:=p;rw[Jh];by_cases hk:k=j
  ·rw[if_pos hk];exact⟨_,rfl⟩
  ·rw[if_neg hk];exact ih (by simpa [keys,hk] using h)
theorem aB0{f:Nat→Nat}{l:List Nat}{k:Nat}:k∈VO f l↔∃j∈l,f j=k:=by
 induction l with
 |nil=>simp[VO]
 |cons x r ih=>simp[VO,ih,eq_comm]
theorem ad0{f:Nat→Nat}:∀ {l:List Nat},VF (VO f l)=true→∀a∈l,∀b∈l,f a=f b→a=b
 | [],_,a,ha,_,_,_=>by cases ha
 |x::r,h,a,ha,b,hb,hab=>by
  simp only[VO,VF]at h;cases hm:Ys (f x) (VO f r)with
  |true=>simp[hm]at h
  |false =>
   simp[hm]at h;have hnot:∀y∈r,f y≠f x:=by
    intro y hy he;have:f x∈VO f r:=aB0.2 ⟨y,hy,he⟩;rw[←JY,hm]at this;cases this
   rcases List.mem_cons.1 ha with h1|h1
   ·rcases List.mem_cons.1 hb with h2|h2
    ·exact h1.trans h2.symm
    ·exact absurd (by rw[←hab,h1]) (hnot b h2)
   ·rcases List.mem_cons.1 hb with h2|h2
    ·exact absurd (by rw[hab,h2]) (hnot a h1)
    ·exact ad0 h a h1 b h2 hab
theorem bp2{τ:List (Nat×Nat)}{n k:Nat}(h:ap6 n τ=true)(hk:k<n):JM τ k=k:=by
 induction τ with
 |nil=>rfl
 |cons p r ih =>
  obtain⟨a,b⟩:=p;simp only[ap6]at h;cases ha:Nat.ble n a with
  |false=>simp[ha]at h
  |true =>
   simp[ha]at h;have:=Nat.le_of_ble_eq_true ha;simp only[JM];cases hb:Nat.beq k a with
   |true=>have:=Nat.eq_of_beq_eq_true hb;omega
   |false=>simpa using ih h
theorem Yi{A B:Je}{k:Nat}:look (A++B) k=(look A k).or (look B k):=by
 induction A with
 |nil=>simp[look]
 |cons p r ih =>
  obtain⟨j,o⟩:=p;simp only[List.cons_append,Jh];by_cases hk:k=j
  ·simp[hk]
  ·simp[hk,ih]
theorem YS{b:Bool}{p:Prop}(h:bif b then p else False):b=true∧p:=by cases b <;> simp_all
def bit(d:Nat):Nat:=Nat.shiftLeft 1 d
theorem UT(m i:Nat):XB m i=m.testBit i:=by
 simp only[XB,Nat.testBit];show Nat.beq ((m>>>i)&&&1) 1=(1&&&(m>>>i) != 0);rw[Nat.and_comm 1,Nat.and_one_is_mod];rcases Nat.mod_two_eq_zero_or_one (m>>>i)with h|h <;> rw[h] <;> rfl
theorem SatO.eqHeap{ρ:Jn}{w w':World}{k:Nat}{own:Bool}{o:SO}(h:SatO ρ w k own o)(e:w'.heap=w.heap):SatO ρ w' k own o :=
 h.world fun _ _ _=>by rw[e]
theorem SatH.eqHeap{w0:World}{M:List Nat}{ρ:Jn}{H:Je}{w w':World}(h:SatH w0 M ρ H w)(e:w'.heap=w.heap)(eio:w'.os=w.os∧w'.output=w.output:=by exact⟨rfl,rfl⟩)(equ:w'.tape=w.tape∧w.drawn≤w'.drawn:=by first|exact⟨rfl,Nat.le_refl _⟩|exact⟨rfl,Nat.le_add_right _ _⟩):SatH w0 M ρ H w' where
 frm:=⟨by rw[e];exact h.frm.size,fun b hb hM=>by rw[e];exact h.frm.same b hb hM,⟨eio.1.trans h.frm.io.1,eio.2.trans h.frm.io.2⟩,equ.1.trans h.frm.quiet.1,Nat.le_trans h.frm.quiet.2 equ.2⟩
 reg k own o hl:=(h.reg k own o hl).eqHeap e
 apart:=h.apart
 fresh:=h.fresh
 valid k own o hl hr:=by rw[e];exact h.valid k own o hl hr
theorem Sat.eqHeap{cx:Cx}{ρ:Jn}{s:St}{a:Act}{w w':World}(h:Sat cx ρ s a w)(e:w'.heap=w.heap)(eio:w'.os=w.os∧w'.output=w.output:=by exact⟨rfl,rfl⟩)(equ:w'.tape=w.tape∧w.drawn≤w'.drawn:=by first|exact⟨rfl,Nat.le_refl _⟩|exact⟨rfl,Nat.le_add_right _ _⟩):Sat cx ρ s a w' :=
 { size:=h.size,defers:=h.defers,env:=h.env,heap:=h.heap.eqHeap e eio equ,bnd:=h.bnd,base:=h.base,keep:=h.keep,n0:=h.n0 }
end Sx
end Go
namespace Go
namespace Sx
def rO:Operand→List Nat→List Nat
 | .tmp t,l=>t::l
 |_,l=>l
def rOs:List Operand→List Nat→List Nat
 | [],l=>l
 |x::r,l=>rO x (rOs r l)
def rPs:List (Nat×Operand)→List Nat→List Nat
 | [],l=>l
 |(_,x)::r,l=>rO x (rPs r l)
def be2:Option Operand→List Nat→List Nat
 |some x,l=>rO x l
 |none,l=>l
def ax4:Op→Option (List Nat)
 | .move x=>some (rO x [])
 | .assign x=>some (rO x [])
 | .pick c x y=>some (rO c (rO x (rO y [])))
 | .alloc _=>some []
 | .box _ x=>some (rO x [])
 | .build _ ps=>some (rPs ps.toList [])
 | .buildSlice _ _ ps=>some (rPs ps.toList [])
 | .load _ x=>some (rO x [])
 | .store _ x y=>some (rO x (rO y []))
 | .nilCheck x=>some (rO x [])
 | .binOp _ _ x y _=>some (rO x (rO y []))
 | .unOp _ _ x=>some (rO x [])
 | .convert _ _ x=>some (rO x [])
 | .makeFunc _ f c=>some (rOs f.toList (rOs c.toList []))
 | .makeMap _ r=>some (be2 r [])
 | .makeSlice _ x y=>some (rO x (rO y []))
 | .slice _ x l h m=>some (rO x (be2 l (be2 h (be2 m []))))
 | .fieldAddr _ x _=>some (rO x [])
 | .field _ x _=>some (rO x [])
 | .indexAddr _ x y=>some (rO x (rO y []))
 | .index _ x y=>some (rO x (rO y []))
 | .lookup _ x y _=>some (rO x (rO y []))
 | .mapUpdate _ x y z=>some (rO x (rO y (rO z [])))
 | .mapEntry _ x y=>some (rO x (rO y []))
 | .entryStore _ x y z=>some (rO x (rO y (rO z [])))
 | .range _ x=>some (rO x [])
 | .next x _=>some (rO x [])
 | .entry x=>some (rO x [])
 | .extract x _=>some (rO x [])
 | .call c=>(match c.callee with
  | .value f=>some (rO f (rOs c.args.toList []))
  | .builtin _=>some (rOs c.args.toList [])
  |_=>none)
 |_=>none
theorem aI1{x:Operand}{l:List Nat}{t:Nat}:t∈rO x l↔x=.tmp t∨t∈l:=by
 cases x <;> simp[rO,eq_comm]
theorem bB8{l:List Operand}{r:List Nat}{t:Nat}:t∈rOs l r↔Operand.tmp t∈l∨t∈r:=by
 induction l with
 |nil=>simp[rOs]
 |cons x l ih=>simp[rOs,aI1,ih,or_assoc,eq_comm]
theorem cu3{l:List (Nat×Operand)}{r:List Nat}{t:Nat}:t∈rPs l r↔(∃i,(i,Operand.tmp t)∈l)∨t∈r:=by
 induction l with
 |nil=>simp[rPs]
 |cons x l ih =>
  obtain⟨j,x⟩:=x;simp only[rPs,aI1,ih,List.mem_cons,Prod.mk.injEq];constructor
  ·rintro (h|⟨i,h⟩|h)
   ·exact .inl ⟨j, .inl ⟨rfl,h.symm⟩⟩
   ·exact .inl ⟨i, .inr h⟩
   ·exact .inr h
  ·rintro (⟨i,⟨_,h⟩|h⟩|h)
   ·exact .inl h.symm
   ·exact .inr (.inl ⟨i,h⟩)
   ·exact .inr (.inr h)
theorem cg2{x:Option Operand}{l:List Nat}{t:Nat}:t∈be2 x l↔x=some (.tmp t)∨t∈l:=by
 cases x <;> simp[be2,aI1]
theorem bx4{op:Op}{l:List Nat}(h:ax4 op=some l){t:Nat}(ht:Operand.tmp t∈op.operands.toList):t∈l:=by
 cases op
 case call c =>
  simp only[ax4]at h;simp only[Op.operands,Call.operands]at ht;cases hc:c.callee <;> simp only[hc]at h ht <;> cases h <;> simp[aI1,bB8]at ht ⊢
  ·rcases ht with ht|ht
   ·exact .inl ht.symm
   ·exact .inr ht
  ·exact ht
 all_goals simp only[ax4]at h
 all_goals (first|cases h|skip)
 all_goals simp[Op.operands,aI1,bB8,cu3,cg2]at ht ⊢
 all_goals simp_all [eq_comm,or_assoc]
theorem bH8{o:Oper}{l:List Nat}(h:ax4 o.op=some l){t:Nat}(ht:Wr o t):t∈l:=bx4 h ht
structure LogE where
 rs:List Nat
 d:Option Nat
 sv:SV
 rd:List Nat
 wr:Je
 news:List Nat
def LogE.nms(x:LogE):List Nat:=x.sv.nms++Vl x.wr
def Kg(p:Env×Je)(x:LogE):Env×Je:=(putO x.d x.sv p.1,x.wr++p.2)
def YB(p:Env×Je):List LogE→Env×Je
 | []=>p
 |x::r=>YB (Kg p x) r
def ovl:List (Nat×Bool)→Env→Env
 | [],e=>e
 |(d,t)::r,e=>.put d (.c (.b t)) (ovl r e)
def Ve:List (Nat×Bool)→Nat→Option Bool
 | [],_=>none
 |(j,o)::r,k=>bif Nat.beq k j then some o else Ve r k
def rmB(d:Nat):List (Nat×Bool)→List (Nat×Bool)
 | []=>[]
 |(j,o)::r=>bif Nat.beq j d then rmB d r else(j,o)::rmB d r
def rmO:Option Nat→List (Nat×Bool)→List (Nat×Bool)
 |none,g=>g
 |some d,g=>rmB d g
def aI2:List (Nat×Bool)→(List (Nat×Bool)→Prop)→Prop
 | [],K=>K []
 |p::r,K=>aI2 r fun r=>K (p::r)
theorem bg6{l:List (Nat×Bool)}{K:List (Nat×Bool)→Prop}:aI2 l K=K l:=by
 induction l generalizing K with
 |nil=>rfl
 |cons c l ih=>simp[aI2,ih]
def aI3(cx:Cx)(B:Tabs)(o:Oper)(gd:List Nat)(s:St)(gs:List (Nat×Bool))(K:LogE→St→List (Nat×Bool)→Prop):Prop:=match s with
 |⟨e,H,nx⟩=>match ax4 o.op with
 |none=>False
 |some rs=>bif ai5 o.dst cx then opK cx B o (ovl gs e) H nx fun f =>
  ao1 f.sv fun sv=>aj6 f.wr [] fun wr=>Gy f.rd fun rd=>Gy f.news fun news=>XY (nx+bp0 news) fun nx=>Gy (gd++rs) fun rs=>ax3 o.dst sv e fun e=>aj6 wr H fun H=>aI2 (rmO o.dst gs) fun gs =>
   K ⟨rs,o.dst,sv,rd,wr,news⟩ ⟨e,H,nx⟩ gs
  else False
def at1(cx:Cx)(o:Oper)(gd:List Nat)(s:St)(gs:List (Nat×Bool))(K:LogE→St→List (Nat×Bool)→Prop):Prop:=match s with
 |⟨e,H,nx⟩=>bif ai5 o.dst cx then ax3 o.dst (.tup []) e fun e=>aI2 (rmO o.dst gs) fun gs=>K ⟨gd,o.dst, .tup [],[],[],[]⟩ ⟨e,H,nx⟩ gs else False
def Kc(cx:Cx)(B:Tabs)(ops:Array Oper):List Oper→St→List (Nat×Bool)→List LogE→(List LogE→St→List (Nat×Bool)→Prop)→Prop
  | [],s,gs,log,K=>K log.reverse s gs
  |o::r,s,gs,log,K=>match o.guard with
    |none=>aI3 cx B o [] s gs fun x s' gs'=>Kc cx B ops r s' gs' (x::log) K
    |some (j,want)=>match UR ops j with
      |none=>False
      |some d=>match Ve gs d with
        |some t =>
                    bif be1 t want then aI3 cx B o [d] s gs fun x s' gs' => Kc cx B ops r s' gs' (x::log) K
                    else at1 cx o [d] s gs fun x s' gs'=>Kc cx B ops r s' gs' (x::log) K
        |none=>match s.e.get d with
          | .c (.b t) => bif be1 t want then aI3 cx B o [d] s gs fun x s' gs' => Kc cx B ops r s' gs' (x::log) K
                    else at1 cx o [d] s gs fun x s' gs'=>Kc cx B ops r s' gs' (x::log) K
          | .c (.v (.bool t)) =>
            (t=true→bif want then aI3 cx B o [d] s ((d,true)::gs) fun x s' gs'=>Kc cx B ops r s' gs' (x::log) K
              else at1 cx o [d] s ((d,true)::gs) fun x s' gs'=>Kc cx B ops r s' gs' (x::log) K) ∧
            (t=false→bif want then at1 cx o [d] s ((d,false)::gs) fun x s' gs'=>Kc cx B ops r s' gs' (x::log) K
              else aI3 cx B o [d] s ((d,false)::gs) fun x s' gs'=>Kc cx B ops r s' gs' (x::log) K)
          | .tup []=>at1 cx o [d] s gs fun x s' gs'=>Kc cx B ops r s' gs' (x::log) K
          |_=>False
def WV(sv:SV)(t:Bool):Prop:=sv=.c (.b t)∨sv=.c (.v (.bool t))
def cr0(sv:SV)(want:Bool):Prop:=WV sv (!want)∨sv=.tup []
def ad1(gs:List (Nat×Bool))(e:Env):Prop:=∀d t,(d,t)∈gs→WV (e.get d) t
structure EntOK (cx:Cx) (ops:Array Oper) (p:Env×Je) (o:Oper) (x:LogE):Prop where
 d:x.d=o.dst
 dst:ai5 o.dst cx=true
 news:∀k∈x.news,cx.n0≤k
 act:((∃gs f,ad1 gs p.1∧We cx o (ovl gs p.1) p.2 f∧f.sv=x.sv∧f.rd=x.rd∧f.wr=x.wr∧f.news=x.news∧(∀t,Wr o t→t∈x.rs)) ∧
  (o.guard=none∨∃j want d,o.guard=some (j,want)∧UR ops j=some d∧d∈x.rs∧WV (p.1.get d) want)) ∨
  ((x.sv=.tup []∧x.rd=[]∧x.wr=[]∧x.news=[])∧∃j want d,o.guard=some (j,want)∧UR ops j=some d∧d∈x.rs∧cr0 (p.1.get d) want)
inductive LogOK (cx:Cx) (ops:Array Oper):Env×Je→List Oper→List LogE→Prop
 |nil {p}:LogOK cx ops p [] []
 |cons {p o r x l}:EntOK cx ops p o x→LogOK cx ops (Kg p x) r l→LogOK cx ops p (o::r) (x::l)
theorem LogOK.get{cx:Cx}{ops:Array Oper}:∀ {p:Env×Je} {l:List Oper} {log:List LogE},LogOK cx ops p l log →
 log.length=l.length∧∀i o,l[i]? = some o→∃x,log[i]? = some x∧EntOK cx ops (YB p (log.take i)) o x
 |_,_,_, .nil=>⟨rfl,by simp⟩
 |_,_,_, .cons (x:=x) h hl=>by
  have ih:=hl.get;refine⟨by simp[ih.1], ?_⟩;intro i o ho;cases i with
  |zero=>simp at ho;subst ho;exact⟨x,by simp,h⟩
  |succ i =>
   obtain⟨y,hy,he⟩:=ih.2 i o (by simpa using ho);exact⟨y,by simpa using hy,by simpa [YB] using he⟩
theorem Kv{gs:List (Nat×Bool)}{d:Nat}{t:Bool}(h:Ve gs d=some t):(d,t)∈gs:=by
 induction gs with
 |nil=>simp[Ve]at h
 |cons p r ih =>
  obtain⟨j,o⟩:=p;simp only[Ve]at h;cases hb:Nat.beq d j with
  |true=>simp[hb]at h;subst h;rw[Nat.eq_of_beq_eq_true hb];exact List.mem_cons_self ..
  |false=>simp[hb]at h;exact List.mem_cons_of_mem _ (ih h)
theorem cu4{d:Nat}{gs:List (Nat×Bool)}{p:Nat×Bool}(h:p∈rmB d gs):p∈gs∧p.1≠d:=by
 induction gs with
 |nil=>cases h
 |cons q r ih =>
  obtain⟨j,o⟩:=q;simp only[rmB]at h;cases hb:Nat.beq j d with
  |true=>simp[hb]at h;exact⟨List.mem_cons_of_mem _ (ih h).1,(ih h).2⟩
  |false =>
   simp only[hb,cond_false]at h;rcases List.mem_cons.1 h with rfl|h
   ·exact⟨List.mem_cons_self ..,Nat.ne_of_beq_eq_false hb⟩
   ·exact⟨List.mem_cons_of_mem _ (ih h).1,(ih h).2⟩
theorem bB9{gs:List (Nat×Bool)}{e:Env}(h:ad1 gs e)(d:Option Nat)(sv:SV):ad1 (rmO d gs) (putO d sv e):=by
 cases d with
 |none=>exact h
 |some d =>
  intro j t hm;have:=cu4 hm;simp only[putO];rw[XA,if_neg this.2];exact h j t this.1
theorem bC0{cx:Cx}{B:Tabs}(hB:TabsOK cx.P B){ops:Array Oper}{o:Oper}{gd:List Nat}{s:St}{gs:List (Nat×Bool)}{K:LogE→St→List (Nat×Bool)→Prop}(h:aI3 cx B o gd s gs K)
 (hgs:ad1 gs s.e) (hn:cx.n0≤s.nx) (hg:o.guard=none∨∃j want d,o.guard=some (j,want)∧UR ops j=some d∧d∈gd∧WV (s.e.get d) want) :
 ∃x s' gs',K x s' gs'∧EntOK cx ops (s.e,s.H) o x∧(s'.e,s'.H)=Kg (s.e,s.H) x∧ad1 gs' s'.e∧s.nx≤s'.nx:=by
 obtain⟨e0,H0,nx0⟩:=s;simp only[aI3]at h;split at h
 ·exact h.elim
 ·rename_i rs hrs
  obtain⟨hd,h⟩:=YS h;obtain⟨f,hK,hf,hnw⟩:=cq9 hB h;simp only[am4,aH8,ac9,WQ,as7,bg6,List.append_nil]at hK;refine⟨_,_,_,hK,⟨rfl,hd,fun k hk=>Nat.le_trans hn (hnw k hk).1, .inl ⟨⟨gs,f,hgs,hf,rfl,rfl,rfl,rfl,fun t ht=>List.mem_append_right _ (bH8 hrs ht)⟩, ?_⟩⟩,rfl,bB9 hgs _ _,Nat.le_add_right _ _⟩;rcases hg with hg|⟨j,want,d,h1,h2,h3,h4⟩
  ·exact .inl hg
  ·exact .inr ⟨j,want,d,h1,h2,List.mem_append_left _ h3,h4⟩
theorem bp3{cx:Cx}{ops:Array Oper}{o:Oper}{gd:List Nat}{s:St}{gs:List (Nat×Bool)}{K:LogE→St→List (Nat×Bool)→Prop}(h:at1 cx o gd s gs K)
 (hgs:ad1 gs s.e) (hg:∃j want d,o.guard=some (j,want)∧UR ops j=some d∧d∈gd∧cr0 (s.e.get d) want) :
 ∃x s' gs',K x s' gs'∧EntOK cx ops (s.e,s.H) o x∧(s'.e,s'.H)=Kg (s.e,s.H) x∧ad1 gs' s'.e∧s.nx≤s'.nx:=by
 obtain⟨e0,H0,nx0⟩:=s;simp only[at1]at h;obtain⟨hd,h⟩:=YS h;simp only[as7,bg6]at h;exact⟨_,_,_,h,⟨rfl,hd,by simp, .inr ⟨⟨rfl,rfl,rfl,rfl⟩,hg⟩⟩,rfl,bB9 hgs _ _,Nat.le_refl _⟩
theorem aT6{cx:Cx}{B:Tabs}(hB:TabsOK cx.P B){ops:Array Oper}{K:List LogE→St→List (Nat×Bool)→Prop}:∀(l:List Oper) (s:St) (gs:List (Nat×Bool)) (log:List LogE),
 Kc cx B ops l s gs log K→ad1 gs s.e→cx.n0≤s.nx→∃log' s' gs',K (log.reverse++log') s' gs'∧LogOK cx ops (s.e,s.H) l log'∧(s'.e,s'.H)=YB (s.e,s.H) log'∧ad1 gs' s'.e∧s.nx≤s'.nx
 | [],s,gs,log,h,hgs,hn=>⟨[],s,gs,by simpa [Kc] using h, .nil,rfl,hgs,Nat.le_refl _⟩
 |o::r,s,gs,log,h,hgs,hn=>by
  have fin:(∃x s' gs',Kc cx B ops r s' gs' (x::log) K∧EntOK cx ops (s.e,s.H) o x∧(s'.e,s'.H)=Kg (s.e,s.H) x∧ad1 gs' s'.e∧s.nx≤s'.nx) →
   ∃log' s' gs',K (log.reverse++log') s' gs'∧LogOK cx ops (s.e,s.H) (o::r) log'∧(s'.e,s'.H)=YB (s.e,s.H) log'∧ad1 gs' s'.e∧s.nx≤s'.nx:=by
   rintro ⟨x,s1,gs1,hK,hx,he,hg1,hle⟩
   obtain⟨log',s2,gs2,hK2,hl2,he2,hg2,hle2⟩:=aT6 hB r s1 gs1 (x::log) hK hg1 (Nat.le_trans hn hle);refine⟨x::log',s2,gs2,by simpa using hK2, .cons hx (by rw[←he];exact hl2),by rw[he2,he];rfl,hg2,Nat.le_trans hle hle2⟩
  simp only[Kc]at h;split at h
  ·rename_i hg
   exact fin (bC0 hB h hgs hn (.inl hg))
  ·rename_i j want hg
   split at h
   ·exact h.elim
   ·rename_i d hd
    have hrun:∀gs,ad1 gs s.e→WV (s.e.get d) want→aI3 cx B o [d] s gs (fun x s' gs'=>Kc cx B ops r s' gs' (x::log) K)→_:=fun gs hgs hb h =>
     fin (bC0 hB h hgs hn (.inr ⟨j,want,d,hg,hd,by simp,hb⟩))
    have hskip:∀gs,ad1 gs s.e→WV (s.e.get d) (!want)→at1 cx o [d] s gs (fun x s' gs'=>Kc cx B ops r s' gs' (x::log) K)→_:=fun gs hgs hb h =>
     fin (bp3 h hgs ⟨j,want,d,hg,hd,by simp, .inl hb⟩)
    have hadd:∀t,WV (s.e.get d) t→ad1 ((d,t)::gs) s.e:=fun t ht j u hm=>by
     rcases List.mem_cons.1 hm with he|hm
     ·simp at he;rw[he.1,he.2];exact ht
     ·exact hgs j u hm
    split at h
    ·rename_i t ht
     have hb:=hgs d t (Kv ht);cases t <;> cases want <;> simp only[be1,cond_true,cond_false]at h
     ·exact hrun gs hgs hb h
     ·exact hskip gs hgs hb h
     ·exact hskip gs hgs hb h
     ·exact hrun gs hgs hb h
    ·split at h
     ·rename_i t he
      have hb:WV (s.e.get d) t:=.inl he;cases t <;> cases want <;> simp only[be1,cond_true,cond_false]at h
      ·exact hrun gs hgs hb h
      ·exact hskip gs hgs hb h
      ·exact hskip gs hgs hb h
      ·exact hrun gs hgs hb h
     ·rename_i t he
      have hb:WV (s.e.get d) t:=.inr he;cases t
      ·have h2:=h.2 rfl;cases want <;> simp only[cond_true,cond_false]at h2
       ·exact hrun _ (hadd _ hb) hb h2
       ·exact hskip _ (hadd _ hb) hb h2
      ·have h1:=h.1 rfl;cases want <;> simp only[cond_true,cond_false]at h1
       ·exact hskip _ (hadd _ hb) hb h1
       ·exact hrun _ (hadd _ hb) hb h1
     ·rename_i he
      exact fin (bp3 h hgs ⟨j,want,d,hg,hd,by simp, .inr he⟩)
     ·exact h.elim
end Sx
end Go
