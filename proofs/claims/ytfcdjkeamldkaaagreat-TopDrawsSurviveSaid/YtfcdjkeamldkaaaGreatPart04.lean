/-
  A part of the proof that a law answers true: lemmas of a symbolic walk, plain functions, or contracts of the functions walked (Sx14, SxA, SxB). Conditions: none.
-/
import Derived.Test.YtfcdjkeamldkaaaGreatPart03
set_option maxRecDepth 100000
set_option linter.unusedVariables false
set_option linter.unusedSimpArgs false
namespace Go
namespace Sx

structure CallOK (cx:Cx) (o:Oper) (e:Env) (H:Heap) (nx:Nat) (f:Eff):Prop where
  loc:LocalOK cx o e H f
  news:∀ k ∈ f.news,nx≤k∧k < nx+f.news.length

def bigT (B:Tabs) (t:TypeId):Bool:=match lookT B.T t with
  | some ⟨.array _ _,sz,_,_⟩=>Nat.blt 8 sz
  | some ⟨.struct _,sz,_,_⟩=>Nat.blt 16 sz
  | _=>false

def strT (B:Tabs) (t:TypeId):Bool:=match lookT B.T t with
  | some ⟨.string,_,_,_⟩=>true
  | _=>false

def ptrBig (B:Tabs) (t:TypeId):Bool:=match lookT B.T t with
  | some ⟨.ptr e,_,_,_⟩=>bigT B e
  | _=>false

def selfT (B:Tabs) (t:TypeId):Bool:=match lookT B.T t with
  | some ⟨.struct ((_,p) :: _),_,_,_⟩=>(match lookT B.T p with
    | some ⟨.ptr e,_,_,_⟩=>Nat.beq e t
    | _=>false)
  | _=>false

def selfP (B:Tabs) (t:TypeId):Bool:=match lookT B.T t with
  | some ⟨.ptr e,_,_,_⟩=>selfT B e
  | _=>false

def noT (B:Tabs) (t:TypeId):Bool:=match lookT B.T t with
  | none=>true
  | _=>false

def slBig (B:Tabs) (t:TypeId):Bool:=match lookT B.T t with
  | some ⟨.slice e,_,_,_⟩=>(match lookT B.T e with
    | some ⟨.array _ _,sz,_,_⟩=>Nat.blt 8 sz
    | _=>false)
  | _=>false

def slTwo (B:Tabs) (t:TypeId):Bool:=match lookT B.T t with
  | some ⟨.slice e,_,_,_⟩=>(match lookT B.T e with
    | some ⟨.struct _,sz,_,_⟩=>Nat.beq sz 2
    | _=>false)
  | _=>false

def slSev (B:Tabs) (t:TypeId):Bool:=match lookT B.T t with
  | some ⟨.slice e,_,_,_⟩=>(match lookT B.T e with
    | some ⟨.struct _,sz,_,_⟩=>Nat.beq sz 7
    | _=>false)
  | _=>false

def mapArg (B:Tabs) (ts:Array TypeId):Bool:=match ts.toList with
  | [t]=>(match lookT B.T t with
    | some ⟨.map _ _,_,_,_⟩=>true
    | _=>false)
  | _=>false

def extOp (B:Tabs) (o:Oper):Bool:=match o.op with
  | .makeFunc _ first _=>(match first.toList with
    | []=>false
    | _=>true)
  | .mapEntry ..=>true
  | .entryStore ..=>true
  | .range ..=>true
  | .next ..=>true
  | .entry ..=>true
  | .call c=>(match c.callee with
    | .builtin .len=>mapArg B c.argTypes
    | _=>false)
  | .index ..=>true
  | .load t _=>bigT B t || slBig B t
  | .binOp _ t _ _ _=>strT B t || (selfP B t || bigT B t)
  | .convert s d _=>strT B s || (strT B d || (noT B s || noT B d))
  | .slice t _ (some _) (some _) none=>strT B t || (bigT B t || (ptrBig B t || slSev B t))
  | .slice t _ _ _ none=>strT B t || (bigT B t || ptrBig B t)
  | .indexAddr t _ _=>bigT B t
  | .build t _=>bigT B t
  | .field t _ _=>bigT B t
  | .alloc t=>bigT B t || selfT B t
  | .box t _=>bigT B t
  | .store t _ _=>bigT B t || (slBig B t || slTwo B t)
  | _=>false

def opK0 (cx:Cx) (B:Tabs) (o:Oper) (e:Env) (H:Heap) (nx:Nat) (K:Eff → Prop):Prop :=
  match o.op with
  | .alloc t=>allocK B t nx K
  | .box _ x=>boxK (ev e x) nx K
  | .store t x y=>storeK B t (ev e x) (ev e y) H K
  | .makeSlice ..=>∃ f,CallOK cx o e H nx f∧K f
  | .buildSlice ..=>∃ f,CallOK cx o e H nx f∧K f
  | .makeMap ..=>∃ f,CallOK cx o e H nx f∧K f
  | .lookup ..=>∃ f,CallOK cx o e H nx f∧K f
  | .mapUpdate ..=>∃ f,CallOK cx o e H nx f∧K f
  | .slice _ _ _ _ (some _)=>∃ f,CallOK cx o e H nx f∧K f
  | .call c=>(match c.callee with
    | .builtin .len=>pureOp B o e H (fun sv rd=>K ⟨sv,rd,[],[]⟩)
    | .builtin .min=>pureOp B o e H (fun sv rd=>K ⟨sv,rd,[],[]⟩)
    | .builtin .max=>pureOp B o e H (fun sv rd=>K ⟨sv,rd,[],[]⟩)
    | _=>∃ f,CallOK cx o e H nx f∧K f)
  | _=>pureOp B o e H (fun sv rd=>K ⟨sv,rd,[],[]⟩)

theorem op_ok0 {cx:Cx} {B:Tabs} (hB:TabsOK cx.P B) {o:Oper} {e:Env} {H:Heap} {nx:Nat} {K:Eff → Prop} (h:opK0 cx B o e H nx K) :
    ∃ f,K f∧LocalOK cx o e H f∧newsOK nx f:=by
  have hpure:pureOp B o e H (fun sv rd=>K ⟨sv,rd,[],[]⟩) → ∃ f,K f∧LocalOK cx o e H f∧newsOK nx f:=fun h=>by
    obtain ⟨sv,rd,hK,hp⟩:=pure_ok hB h
    exact⟨_,hK,hp.loc (pure_notDefer h),fun k hk=>by cases hk⟩
  have hcall:(∃ f,CallOK cx o e H nx f∧K f) → ∃ f,K f∧LocalOK cx o e H f∧newsOK nx f:=fun ⟨f,hf,hK⟩=>⟨f,hK,hf.loc,hf.news⟩
  unfold opK0 at h
  split at h
  · rename_i t ho; exact alloc_ok hB ho h
  · rename_i t x ho; exact box_ok ho h
  · rename_i t x y ho
    obtain ⟨f,hK,hf,hn⟩:=store_ok (cx:=cx) hB ho h
    exact⟨f,hK,hf,hn nx⟩
  · exact hcall h
  · exact hcall h
  · exact hcall h
  · exact hcall h
  · exact hcall h
  · exact hcall h
  · split at h
    · exact hpure h
    · exact hpure h
    · exact hpure h
    · exact hcall h
  · exact hpure h

def opK (cx:Cx) (B:Tabs) (o:Oper) (e:Env) (H:Heap) (nx:Nat) (K:Eff → Prop):Prop :=
  bif extOp B o then ∃ f,CallOK cx o e H nx f∧K f else opK0 cx B o e H nx K

theorem op_ok {cx:Cx} {B:Tabs} (hB:TabsOK cx.P B) {o:Oper} {e:Env} {H:Heap} {nx:Nat} {K:Eff → Prop} (h:opK cx B o e H nx K) :
    ∃ f,K f∧LocalOK cx o e H f∧newsOK nx f:=by
  unfold opK at h
  cases hx:extOp B o with
  | true =>
    simp only [hx,cond_true] at h
    obtain ⟨f,hf,hK⟩:=h
    exact⟨f,hK,hf.loc,hf.news⟩
  | false =>
    simp only [hx,cond_false] at h
    exact op_ok0 hB h

def dstOK (d:Option Nat) (cx:Cx):Bool:=match d with
  | none=>true
  | some d=>bif Nat.blt d cx.nt then inMd cx.md d else false

def forceN (n:Nat) (K:Nat → Prop):Prop:=match n with
  | 0=>K 0
  | m+1=>K (m+1)

theorem forceN_eq {n:Nat} {K:Nat → Prop}:forceN n K=K n:=by cases n <;> rfl
def forceLs:List Nat → (List Nat → Prop) → Prop
  | [],K=>K []
  | a :: r,K=>forceN a fun a=>forceLs r fun r=>K (a :: r)

theorem forceLs_eq {l:List Nat} {K:List Nat → Prop}:forceLs l K=K l:=by
  induction l generalizing K with
  | nil=>rfl
  | cons c l ih=>simp [forceLs,forceN_eq,ih]

def forceV (x:Value) (K:Value → Prop):Prop:=match x with
  | .int k z=>K (.int k z)
  | .bool t=>K (.bool t)
  | x=>K x

def forceC (c:SC) (K:SC → Prop):Prop:=match c with
  | .v x=>forceV x fun x=>K (.v x)
  | .b x=>K (.b x)
  | .p k i sz off=>forceN k fun k=>forceN sz fun sz=>forceN off fun off=>K (.p k i sz off)
  | .s k st len sz=>forceN k fun k=>forceN sz fun sz=>K (.s k st len sz)
  | .f g caps=>forceLs caps fun caps=>K (.f g caps)
  | .m k=>forceN k fun k=>K (.m k)
  | .cut k h sz=>forceN k fun k=>forceN sz fun sz=>K (.cut k h sz)
  | .ghost k i=>forceN k fun k=>K (.ghost k i)
  | .gp k i=>forceN k fun k=>K (.gp k i)
  | .any=>K .any
  | .junk=>K .junk

def forceCs:List SC → (List SC → Prop) → Prop
  | [],K=>K []
  | c :: l,K=>forceC c fun c=>forceCs l fun l=>K (c :: l)

def forceT:List (Sum SC (List SC)) → (List (Sum SC (List SC)) → Prop) → Prop
  | [],K=>K []
  | .inl c :: l,K=>forceC c fun c=>forceT l fun l=>K (.inl c :: l)
  | .inr c :: l,K=>forceCs c fun c=>forceT l fun l=>K (.inr c :: l)

def forceSV (s:SV) (K:SV → Prop):Prop:=match s with
  | .c x=>forceC x fun x=>K (.c x)
  | .agg l=>forceCs l fun l=>K (.agg l)
  | .tup l=>forceT l fun l=>K (.tup l)
  | .pk vs l=>forceCs l fun l=>K (.pk vs l)

def forceO (o:SO) (K:SO → Prop):Prop:=match o with
  | .cel ty l=>forceCs l fun l=>K (.cel ty l)
  | .arr a=>K (.arr a)
  | .raw l=>K (.raw l)
  | .box b=>K (.box b)

def forceH:Heap → Heap → (Heap → Prop) → Prop
  | [],H,K=>K H
  | (k,true,o) :: r,H,K=>forceN k fun k=>forceO o fun o=>forceH r H fun H=>K ((k,true,o) :: H)
  | (k,false,o) :: r,H,K=>forceN k fun k=>forceO o fun o=>forceH r H fun H=>K ((k,false,o) :: H)

theorem forceV_eq {n:Value} {K:Value → Prop}:forceV n K=K n:=by cases n <;> rfl
theorem forceC_eq {c:SC} {K:SC → Prop}:forceC c K=K c:=by cases c <;> simp [forceC,forceN_eq,forceV_eq,forceLs_eq]
theorem forceCs_eq {l:List SC} {K:List SC → Prop}:forceCs l K=K l:=by
  induction l generalizing K with
  | nil=>rfl
  | cons c l ih=>simp [forceCs,forceC_eq,ih]
theorem forceT_eq {l:List (Sum SC (List SC))} {K:List (Sum SC (List SC)) → Prop}:forceT l K=K l:=by
  induction l generalizing K with
  | nil=>rfl
  | cons c l ih=>cases c <;> simp [forceT,forceC_eq,forceCs_eq,ih]
theorem forceSV_eq {s:SV} {K:SV → Prop}:forceSV s K=K s:=by cases s <;> simp [forceSV,forceC_eq,forceCs_eq,forceT_eq]
theorem forceO_eq {s:SO} {K:SO → Prop}:forceO s K=K s:=by cases s <;> simp [forceO,forceCs_eq]
theorem forceH_eq {l H:Heap} {K:Heap → Prop}:forceH l H K=K (l ++ H):=by
  induction l generalizing K with
  | nil=>rfl
  | cons c l ih =>
    obtain ⟨k,own,o⟩:=c
    cases own <;> simp [forceH,forceN_eq,forceO_eq,ih]

def forceP (d:Option Nat) (sv:SV) (e:Env) (K:Env → Prop):Prop:=match d with
  | none=>K e
  | some d=>forceSV sv fun sv=>K (.put d sv e)

theorem forceP_eq {d:Option Nat} {sv:SV} {e:Env} {K:Env → Prop}:forceP d sv e K=K (putO d sv e):=by
  cases d <;> simp [forceP,forceSV_eq,putO]

def lenN:List Nat → Nat
  | []=>0
  | _ :: r=>lenN r+1

theorem lenN_eq (l:List Nat):lenN l=l.length:=by induction l <;> simp [lenN, *]

def runK (cx:Cx) (B:Tabs) (o:Oper) (s:St) (K:St → Prop):Prop:=match s with
  | ⟨e,H,nx⟩=>bif dstOK o.dst cx then opK cx B o e H nx fun f=>forceH f.wr H fun H=>forceN (nx+lenN f.news) fun nx=>forceP o.dst f.sv e fun e=>K ⟨e,H,nx⟩ else False

def skipK (cx:Cx) (o:Oper) (s:St) (K:St → Prop):Prop:=match s with
  | ⟨e,H,nx⟩=>bif dstOK o.dst cx then forceP o.dst (.tup []) e fun e=>K ⟨e,H,nx⟩ else False

theorem dst_lt {d:Option Nat} {cx:Cx} (h:dstOK d cx=true):∀ x,d=some x → x < cx.nt∧inMd cx.md x=true:=by
  rintro x rfl
  simp only [dstOK] at h
  cases hb:Nat.blt x cx.nt with
  | false=>rw [hb] at h; cases h
  | true=>rw [hb] at h; exact⟨Eq.mp Nat.blt_eq hb,h⟩

theorem fresh_of {e:Env} {H:Heap} {n k m:Nat} (h:Bnd e H n) (hk:n≤k):Fresh k ⟨e,H,m⟩ where
  env i:=by
    cases hu:(e.get i).uses [k] with
    | false=>rfl
    | true=>have:=h.env i k hu; omega
  mks:=fun hm=>by have:=h.mks k hm; omega
  heap j own o hl:=by
    have:=h.heap j own o hl
    refine⟨by omega, ?_⟩
    cases hu:o.uses [k] with
    | false=>rfl
    | true=>have:=this.2 k hu; omega

theorem Sat.bump {cx:Cx} {ρ:Asg} {s:St} {a:Act} {w:World} (h:Sat cx ρ s a w) {m:Nat} (hm:s.nx≤m):Sat cx ρ { s with nx:=m } a w where
  size:=h.size
  defers:=h.defers
  env:=h.env
  heap:=h.heap
  bnd:=h.bnd.more hm
  base:=h.base
  keep:=h.keep
  n0:=Nat.le_trans h.n0 hm

theorem run_sound {cx:Cx} {B:Tabs} (hB:TabsOK cx.P B) {o:Oper} {s:St} {K:St → Prop} (h:runK cx B o s K) {ρ:Asg} {a:Act} {w:World} (hs:Sat cx ρ s a w)
    {KK:Act → World → Prop} {Q:Exit → Act → World → Prop} (hK:∀ ρ' s' a' w',K s' → Sat cx ρ' s' a' w' → KK a' w'):o.wpIn (fen cx.rd) 0 cx.P a w KK Q:=by
  obtain ⟨e0,H0,nx0⟩:=s
  simp only [runK] at h
  cases hd:dstOK o.dst cx with
  | false=>simp [hd] at h
  | true =>
    simp only [hd,cond_true] at h
    simp only [forceH_eq,forceN_eq,forceP_eq,lenN_eq] at h
    obtain ⟨f,hKf,hf,hn⟩:=op_ok hB h
    refine hf ρ _ a w (hs.bump (m:=nx0+f.news.length) (by simp)) (fun _ _=>rfl) (fun _ _=>rfl) (fun k hk=>?_) (dst_lt hd) KK Q fun ρ' a' w' h1 _=>hK ρ' _ a' w' hKf h1
    have:=hn k hk
    exact⟨fresh_of hs.bnd this.1,this.2,Nat.le_trans hs.n0 this.1⟩

theorem undef_rel {ρ:Asg}:(SV.tup []).rel ρ undef:=⟨#[],rfl,trivial⟩
theorem undef_below {n:Nat}:(SV.tup []).below n:=by intro k hk; simp [SV.uses,usesT] at hk
theorem undef_of {ρ:Asg} {v:Value} (h:(SV.tup []).rel ρ v):v=.tuple #[]:=by
  obtain ⟨xs,rfl,hx⟩:=h
  cases hl:xs.toList with
  | nil=>congr 1; exact Array.toList_inj.1 (by simpa using hl)
  | cons a l=>rw [hl] at hx; exact hx.elim

theorem skip_sound {cx:Cx} {o:Oper} {s:St} {K:St → Prop} (h:skipK cx o s K) {ρ:Asg} {a:Act} {w:World} (hs:Sat cx ρ s a w)
    {KK:Act → World → Prop} (hK:∀ ρ' s' a' w',K s' → Sat cx ρ' s' a' w' → KK a' w'):KK (a.put o.dst undef) w:=by
  obtain ⟨e0,H0,nx0⟩:=s
  simp only [skipK] at h
  cases hd:dstOK o.dst cx with
  | false=>simp [hd] at h
  | true =>
    simp only [hd,cond_true,forceP_eq] at h
    exact hK ρ _ _ w h (hs.putO (dst_lt hd) (v:=undef) (sv:=.tup []) undef_rel undef_below)

def dstOf (ops:Array Oper) (j:Nat):Option Nat:=match ops.toList[j]? with
  | some o=>o.dst
  | none=>none

def beqB:Bool → Bool → Bool
  | true,true=>true
  | false,false=>true
  | _,_=>false

def setB (d:Nat) (b:Bool) (s:St):St:=match s with
  | ⟨e,H,nx⟩=>⟨.put d (.c (.b b)) e,H,nx⟩

def stepOp (cx:Cx) (B:Tabs) (ops:Array Oper) (o:Oper) (s:St) (R:St → Prop):Prop:=match o.guard with
    | none=>runK cx B o s R
    | some (j,want)=>match dstOf ops j with
      | none=>False
      | some d=>match s.e.get d with
        | .c (.b t)=>bif beqB t want then runK cx B o s R else skipK cx o s R
        | .c (.v (.bool t)) =>
          (t=true → bif want then runK cx B o (setB d true s) R else skipK cx o (setB d true s) R) ∧
          (t=false → bif want then skipK cx o (setB d false s) R else runK cx B o (setB d false s) R)
        | .tup []=>skipK cx o s R
        | _=>False

def vcOps (cx:Cx) (B:Tabs) (ops:Array Oper) (l:List Oper):St → (St → Prop) → Prop :=
  List.rec (motive:=fun _=>St → (St → Prop) → Prop) (fun s K=>K s) (fun o _ ih s K=>stepOp cx B ops o s fun s'=>ih s' K) l

theorem vcOps_cons {cx:Cx} {B:Tabs} {ops:Array Oper} {o:Oper} {r:List Oper} {s:St} {K:St → Prop} :
    vcOps cx B ops (o :: r) s K=stepOp cx B ops o s fun s'=>vcOps cx B ops r s' K:=rfl

theorem yielded_undef {ops:Array Oper} {j d:Nat} {a:Act} (hd:dstOf ops j=some d) (hv:a.tmps.getD d undef=.tuple #[]):yielded ops a.tmps j=none:=by
  unfold dstOf at hd
  unfold yielded
  split at hd
  · rename_i o ho
    have:ops[j]? = some o:=by simpa using ho
    simp only [this,Option.bind_some,hd]
    by_cases hlt:d < a.tmps.size
    · simp [Array.getD,hlt] at hv
      simp [hlt,hv]
    · simp [hlt]
  · cases hd

theorem yielded_of {ops:Array Oper} {j d:Nat} {a:Act} {t:Bool} (hd:dstOf ops j=some d) (hv:a.tmps.getD d undef=.bool t):yielded ops a.tmps j=some t:=by
  unfold dstOf at hd
  unfold yielded
  split at hd
  · rename_i o ho
    have:ops[j]? = some o:=by simpa using ho
    simp only [this,Option.bind_some,hd]
    by_cases hlt:d < a.tmps.size
    · simp [Array.getD,hlt] at hv
      simp [hlt,hv]
    · simp [Array.getD,hlt,undef] at hv
  · cases hd

theorem Sat.setB {cx:Cx} {ρ:Asg} {s:St} {a:Act} {w:World} (hs:Sat cx ρ s a w) {d:Nat} {t:Bool} (hv:a.tmps.getD d undef=.bool t):Sat cx ρ (Sx.setB d t s) a w where
  size:=hs.size
  defers:=hs.defers
  env i:=by
    simp only [Sx.setB]
    rw [get_put]
    by_cases hi:i=d
    · rw [if_pos hi,hi]; exact hv
    · rw [if_neg hi]; exact hs.env i
  heap:=hs.heap
  bnd:=hs.bnd.put (below_b _ _)
  base:=hs.base
  keep:=hs.keep
  n0:=hs.n0

theorem vcOps_sound {cx:Cx} {B:Tabs} (hB:TabsOK cx.P B) {ops:Array Oper} {K:St → Prop} {Q:Exit → Act → World → Prop} (hK:∀ ρ' s' a' w',K s' → Sat cx ρ' s' a' w' → Q .normal a' w') :
    ∀ (l:List Oper) (k:Nat),(∀ j,l[j]? = ops[k+j]?) → ∀ (s:St) (ρ:Asg) (a:Act) (w:World),vcOps cx B ops l s K → Sat cx ρ s a w →
      wpOpsIn (fen cx.rd) 0 cx.P ops Q (List.range' k l.length) a w
  | [],k,_,s,ρ,a,w,h,hs=>by simpa [wpOpsIn] using hK ρ s a w h hs
  | o :: r,k,hl,s,ρ,a,w,h,hs=>by
    have h0:ops[k]? = some o:=by simpa using (hl 0).symm
    have ih:=vcOps_sound hB hK r (k+1) (fun j=>by have:=hl (j+1); simpa [Nat.add_assoc,Nat.add_comm 1 j] using this)
    simp only [List.length_cons,List.range'_succ,wpOpsIn,h0]
    have run:∀ (s:St),Sat cx ρ s a w → runK cx B o s (fun s'=>vcOps cx B ops r s' K) → Region.wanted o (yielded ops a.tmps)=true →
        (if Region.wanted o (yielded ops a.tmps)=true then o.wpIn (fen cx.rd) 0 cx.P a w (wpOpsIn (fen cx.rd) 0 cx.P ops Q (List.range' (k+1) r.length)) Q
          else (∀ f,o.about cx.P w a.eval=some f → (fen cx.rd).fn f)∧wpOpsIn (fen cx.rd) 0 cx.P ops Q (List.range' (k+1) r.length) (a.put o.dst undef) w):=by
      intro s hs h hw
      rw [if_pos hw]
      exact run_sound hB h hs fun ρ' s' a' w' h1 h2=>ih s' ρ' a' w' h1 h2
    have skip:∀ (s:St),Sat cx ρ s a w → skipK cx o s (fun s'=>vcOps cx B ops r s' K) → Region.wanted o (yielded ops a.tmps)=false →
        (if Region.wanted o (yielded ops a.tmps)=true then o.wpIn (fen cx.rd) 0 cx.P a w (wpOpsIn (fen cx.rd) 0 cx.P ops Q (List.range' (k+1) r.length)) Q
          else (∀ f,o.about cx.P w a.eval=some f → (fen cx.rd).fn f)∧wpOpsIn (fen cx.rd) 0 cx.P ops Q (List.range' (k+1) r.length) (a.put o.dst undef) w):=by
      intro s hs h hw
      rw [if_neg (by simp [hw])]
      exact⟨fun _ _=>trivial,skip_sound h hs fun ρ' s' a' w' h1 h2=>ih s' ρ' a' w' h1 h2⟩
    rw [vcOps_cons] at h
    unfold stepOp at h
    split at h
    · rename_i hg
      exact run s hs h (by simp [Region.wanted,hg])
    · rename_i j want hg
      split at h
      · exact h.elim
      · rename_i d hd
        have hwant:∀ t,a.tmps.getD d undef=.bool t → Region.wanted o (yielded ops a.tmps)=(t == want):=by
          intro t ht
          simp only [Region.wanted,hg,yielded_of hd ht]
          cases t <;> cases want <;> rfl
        split at h
        · rename_i t he
          have hv:a.tmps.getD d undef=.bool t:=by have:=hs.env d; rw [he] at this; exact this
          have hw:=hwant t hv
          cases t <;> cases want <;> simp only [beqB,cond_true,cond_false] at h
          · exact run s hs h (by rw [hw]; rfl)
          · exact skip s hs h (by rw [hw]; rfl)
          · exact skip s hs h (by rw [hw]; rfl)
          · exact run s hs h (by rw [hw]; rfl)
        · rename_i t he
          have hv:a.tmps.getD d undef=.bool t:=by have:=hs.env d; rw [he] at this; exact this
          have hw:=hwant t hv
          cases t
          · have h2:=h.2 rfl
            cases want <;> simp only [cond_true,cond_false] at h2
            · exact run _ (hs.setB hv) h2 (by rw [hw]; rfl)
            · exact skip _ (hs.setB hv) h2 (by rw [hw]; rfl)
          · have h1:=h.1 rfl
            cases want <;> simp only [cond_true,cond_false] at h1
            · exact skip _ (hs.setB hv) h1 (by rw [hw]; rfl)
            · exact run _ (hs.setB hv) h1 (by rw [hw]; rfl)
        · rename_i he
          have hv:a.tmps.getD d undef=.tuple #[]:=by have:=hs.env d; rw [he] at this; exact undef_of this
          exact skip s hs h (by simp only [Region.wanted,hg,yielded_undef hd hv]; rfl)
        · exact h.elim

end Sx
end Go

namespace Go
namespace Sx

def rnf:List (Nat × Nat) → Nat → Nat
  | [],k=>k
  | (a,b) :: r,k=>bif Nat.beq k a then b else rnf r k

def keys:Heap → List Nat
  | []=>[]
  | (k,_) :: r=>k :: keys r

def nodupB:List Nat → Bool
  | []=>true
  | x :: r=>bif memN x r then false else nodupB r

def mapN (f:Nat → Nat):List Nat → List Nat
  | []=>[]
  | x :: r=>f x :: mapN f r

def allIn (l:List Nat):List Nat → Bool
  | []=>true
  | x :: r=>bif memN x l then allIn l r else false

def allGeF (n:Nat):List (Nat × Nat) → Bool
  | []=>true
  | (x,_) :: r=>bif Nat.ble n x then allGeF n r else false

def allLt (n:Nat):List Nat → Bool
  | []=>true
  | x :: r=>bif Nat.blt x n then allLt n r else false

def nmsL:List SC → List Nat
  | []=>[]
  | c :: l=>c.nms ++ nmsL l

def nmsT:List (Sum SC (List SC)) → List Nat
  | []=>[]
  | .inl c :: l=>c.nms ++ nmsT l
  | .inr cs :: l=>nmsL cs ++ nmsT l

def SV.nms:SV → List Nat
  | .c x=>x.nms
  | .agg l=>nmsL l
  | .tup l=>nmsT l
  | .pk _ l=>nmsL l

def SO.nms:SO → List Nat
  | .cel _ l=>nmsL l
  | .arr a=>a.nm
  | .raw _=>[]
  | .box _=>[]

def nmsV:List SV → List Nat
  | []=>[]
  | s :: l=>s.nms ++ nmsV l

def nmsH:Heap → List Nat
  | []=>[]
  | (k,_,o) :: r=>k :: (o.nms ++ nmsH r)

theorem allLt_iff {n:Nat} {l:List Nat}:allLt n l=true ↔ ∀ k ∈ l,k < n:=by
  induction l with
  | nil=>simp [allLt]
  | cons x r ih =>
    simp only [allLt,List.mem_cons,forall_eq_or_imp]
    cases h:Nat.blt x n with
    | true=>have:=Eq.mp Nat.blt_eq h; simp [ih,this]
    | false => have : ¬ x < n := by rw [← Nat.blt_eq, h]; simp
               simp [this]

theorem allIn_iff {m l:List Nat}:allIn m l=true ↔ ∀ k ∈ l,k ∈ m:=by
  induction l with
  | nil=>simp [allIn]
  | cons x r ih =>
    simp only [allIn,List.mem_cons,forall_eq_or_imp]
    cases h:memN x m with
    | true=>simp [ih,memN_iff.1 h]
    | false => have : ¬ x ∈ m := by rw [← memN_iff, h]; simp
               simp [this]

theorem mem_nmsL {l:List SC} {k:Nat}:k ∈ nmsL l ↔ ∃ c ∈ l,k ∈ c.nms:=by
  induction l with
  | nil=>simp [nmsL]
  | cons c l ih=>simp [nmsL,ih]

theorem usesL_nms {l:List SC} {k:Nat}:usesL [k] l=true ↔ k ∈ nmsL l:=by
  rw [usesL_iff,mem_nmsL]
  constructor
  · rintro ⟨c,hc,hu⟩
    obtain ⟨j,hj,hm⟩:=SC.uses_iff.1 hu
    simp at hm; subst hm; exact⟨c,hc,hj⟩
  · rintro ⟨c,hc,hk⟩
    exact⟨c,hc,SC.uses_iff.2 ⟨k,hk,by simp⟩⟩

theorem usesT_nms {k:Nat}:∀ {l:List (Sum SC (List SC))},usesT [k] l=true ↔ k ∈ nmsT l
  | []=>by simp [usesT,nmsT]
  | .inl c :: l=>by
    simp only [usesT,nmsT,List.mem_append]
    have hc:c.uses [k]=true ↔ k ∈ c.nms:=by rw [SC.uses_iff]; simp
    cases h:c.uses [k] with
    | true=>simp [hc.1 h]
    | false =>
      have:¬ k ∈ c.nms:=fun hh=>by rw [hc.2 hh] at h; cases h
      simp [usesT_nms,this]
  | .inr c :: l=>by
    simp only [usesT,nmsT,List.mem_append]
    cases h:usesL [k] c with
    | true=>simp [usesL_nms.1 h]
    | false =>
      have:¬ k ∈ nmsL c:=fun hh=>by rw [usesL_nms.2 hh] at h; cases h
      simp [usesT_nms,this]

theorem SV.uses_nms {s:SV} {k:Nat}:s.uses [k]=true ↔ k ∈ s.nms:=by
  cases s with
  | c x=>simp only [SV.uses,SV.nms]; rw [SC.uses_iff]; simp
  | agg l=>exact usesL_nms
  | tup l=>exact usesT_nms
  | pk _ l=>exact usesL_nms

theorem SO.uses_nms {o:SO} {k:Nat}:o.uses [k]=true ↔ k ∈ o.nms:=by
  cases o with
  | cel ty l=>exact usesL_nms
  | arr a=>simp only [SO.uses,SO.nms]; rw [anyMem_iff]; simp
  | raw l=>simp [SO.uses,SO.nms]
  | box l=>simp [SO.uses,SO.nms]

theorem look_nms {H:Heap} {k:Nat} {x:Bool × SO} (h:look H k=some x):k ∈ nmsH H∧∀ j ∈ x.2.nms,j ∈ nmsH H:=by
  induction H with
  | nil=>simp [look] at h
  | cons p r ih =>
    obtain ⟨j,own,o⟩:=p
    rw [look_cons] at h
    by_cases hk:k=j
    · rw [if_pos hk] at h; simp at h; subst h
      exact⟨by simp [nmsH,hk],fun i hi=>by simp [nmsH]; exact .inr (.inl hi)⟩
    · rw [if_neg hk] at h
      have:=ih h
      exact⟨by simp [nmsH,this.1],fun i hi=>by simp [nmsH,this.2 i hi]⟩

theorem look_keys {H:Heap} {k:Nat} {x:Bool × SO} (h:look H k=some x):k ∈ keys H:=by
  induction H with
  | nil=>simp [look] at h
  | cons p r ih =>
    obtain ⟨j,o⟩:=p
    rw [look_cons] at h
    by_cases hk:k=j
    · simp [keys,hk]
    · rw [if_neg hk] at h; simp [keys,ih h]

theorem look_of_keys {H:Heap} {k:Nat} (h:k ∈ keys H):∃ x,look H k=some x:=by
  induction H with
  | nil=>cases h
  | cons p r ih =>
    obtain ⟨j,o⟩:=p
    rw [look_cons]
    by_cases hk:k=j
    · rw [if_pos hk]; exact⟨_,rfl⟩
    · rw [if_neg hk]; exact ih (by simpa [keys,hk] using h)

theorem mem_mapN {f:Nat → Nat} {l:List Nat} {k:Nat}:k ∈ mapN f l ↔ ∃ j ∈ l,f j=k:=by
  induction l with
  | nil=>simp [mapN]
  | cons x r ih=>simp [mapN,ih,eq_comm]

theorem nodupB_inj {f:Nat → Nat}:∀ {l:List Nat},nodupB (mapN f l)=true → ∀ a ∈ l,∀ b ∈ l,f a=f b → a=b
  | [],_,a,ha,_,_,_=>by cases ha
  | x :: r,h,a,ha,b,hb,hab=>by
    simp only [mapN,nodupB] at h
    cases hm:memN (f x) (mapN f r) with
    | true=>simp [hm] at h
    | false =>
      simp [hm] at h
      have hnot:∀ y ∈ r,f y ≠ f x:=by
        intro y hy he
        have:f x ∈ mapN f r:=mem_mapN.2 ⟨y,hy,he⟩
        rw [← memN_iff,hm] at this; cases this
      rcases List.mem_cons.1 ha with h1 | h1
      · rcases List.mem_cons.1 hb with h2 | h2
        · exact h1.trans h2.symm
        · exact absurd (by rw [← hab,h1]) (hnot b h2)
      · rcases List.mem_cons.1 hb with h2 | h2
        · exact absurd (by rw [hab,h2]) (hnot a h1)
        · exact nodupB_inj h a h1 b h2 hab

theorem rnf_lt {τ:List (Nat × Nat)} {n k:Nat} (h:allGeF n τ=true) (hk:k < n):rnf τ k=k:=by
  induction τ with
  | nil=>rfl
  | cons p r ih =>
    obtain ⟨a,b⟩:=p
    simp only [allGeF] at h
    cases ha:Nat.ble n a with
    | false=>simp [ha] at h
    | true =>
      simp [ha] at h
      have:=Nat.le_of_ble_eq_true ha
      simp only [rnf]
      cases hb:Nat.beq k a with
      | true=>have:=Nat.eq_of_beq_eq_true hb; omega
      | false=>simpa using ih h

theorem look_append {A B:Heap} {k:Nat}:look (A ++ B) k=(look A k).or (look B k):=by
  induction A with
  | nil=>simp [look]
  | cons p r ih =>
    obtain ⟨j,o⟩:=p
    simp only [List.cons_append,look_cons]
    by_cases hk:k=j
    · simp [hk]
    · simp [hk,ih]

theorem bif_and {b:Bool} {p:Prop} (h:bif b then p else False):b=true∧p:=by cases b <;> simp_all

def bit (d:Nat):Nat:=Nat.shiftLeft 1 d

theorem bitAt_testBit (m i:Nat):bitAt m i=m.testBit i:=by
  simp only [bitAt,Nat.testBit]
  show Nat.beq ((m >>> i) &&& 1) 1=(1 &&& (m >>> i) != 0)
  rw [Nat.and_comm 1,Nat.and_one_is_mod]
  rcases Nat.mod_two_eq_zero_or_one (m >>> i) with h | h <;> rw [h] <;> rfl

theorem SatO.eqHeap {ρ:Asg} {w w':World} {k:Nat} {own:Bool} {o:SO} (h:SatO ρ w k own o) (e:w'.heap=w.heap):SatO ρ w' k own o :=
  h.world fun _ _ _=>by rw [e]

theorem SatH.eqHeap {w0:World} {M:List Nat} {ρ:Asg} {H:Heap} {w w':World} (h:SatH w0 M ρ H w) (e:w'.heap=w.heap) (eio:w'.os=w.os∧w'.output=w.output:=by exact⟨rfl,rfl⟩) (equ:w'.tape=w.tape∧w.drawn≤w'.drawn:=by first | exact⟨rfl,Nat.le_refl _⟩ | exact⟨rfl,Nat.le_add_right _ _⟩):SatH w0 M ρ H w' where
  frm:=⟨by rw [e]; exact h.frm.size,fun b hb hM=>by rw [e]; exact h.frm.same b hb hM,⟨eio.1.trans h.frm.io.1,eio.2.trans h.frm.io.2⟩,equ.1.trans h.frm.quiet.1,Nat.le_trans h.frm.quiet.2 equ.2⟩
  reg k own o hl:=(h.reg k own o hl).eqHeap e
  apart:=h.apart
  fresh:=h.fresh
  valid k own o hl hr:=by rw [e]; exact h.valid k own o hl hr

theorem Sat.eqHeap {cx:Cx} {ρ:Asg} {s:St} {a:Act} {w w':World} (h:Sat cx ρ s a w) (e:w'.heap=w.heap) (eio:w'.os=w.os∧w'.output=w.output:=by exact⟨rfl,rfl⟩) (equ:w'.tape=w.tape∧w.drawn≤w'.drawn:=by first | exact⟨rfl,Nat.le_refl _⟩ | exact⟨rfl,Nat.le_add_right _ _⟩):Sat cx ρ s a w' :=
  { size:=h.size,defers:=h.defers,env:=h.env,heap:=h.heap.eqHeap e eio equ,bnd:=h.bnd,base:=h.base,keep:=h.keep,n0:=h.n0 }

end Sx
end Go

namespace Go
namespace Sx

def rO:Operand → List Nat → List Nat
  | .tmp t,l=>t :: l
  | _,l=>l

def rOs:List Operand → List Nat → List Nat
  | [],l=>l
  | x :: r,l=>rO x (rOs r l)

def rPs:List (Nat × Operand) → List Nat → List Nat
  | [],l=>l
  | (_,x) :: r,l=>rO x (rPs r l)

def rOpt:Option Operand → List Nat → List Nat
  | some x,l=>rO x l
  | none,l=>l

def opReads:Op → Option (List Nat)
  | .move x=>some (rO x [])
  | .assign x=>some (rO x [])
  | .pick c x y=>some (rO c (rO x (rO y [])))
  | .alloc _=>some []
  | .box _ x=>some (rO x [])
  | .build _ ps=>some (rPs ps.toList [])
  | .buildSlice _ _ ps=>some (rPs ps.toList [])
  | .load _ x=>some (rO x [])
  | .store _ x y=>some (rO x (rO y []))
  | .nilCheck x=>some (rO x [])
  | .binOp _ _ x y _=>some (rO x (rO y []))
  | .unOp _ _ x=>some (rO x [])
  | .convert _ _ x=>some (rO x [])
  | .makeFunc _ f c=>some (rOs f.toList (rOs c.toList []))
  | .makeMap _ r=>some (rOpt r [])
  | .makeSlice _ x y=>some (rO x (rO y []))
  | .slice _ x l h m=>some (rO x (rOpt l (rOpt h (rOpt m []))))
  | .fieldAddr _ x _=>some (rO x [])
  | .field _ x _=>some (rO x [])
  | .indexAddr _ x y=>some (rO x (rO y []))
  | .index _ x y=>some (rO x (rO y []))
  | .lookup _ x y _=>some (rO x (rO y []))
  | .mapUpdate _ x y z=>some (rO x (rO y (rO z [])))
  | .mapEntry _ x y=>some (rO x (rO y []))
  | .entryStore _ x y z=>some (rO x (rO y (rO z [])))
  | .range _ x=>some (rO x [])
  | .next x _=>some (rO x [])
  | .entry x=>some (rO x [])
  | .extract x _=>some (rO x [])
  | .call c=>(match c.callee with
    | .value f=>some (rO f (rOs c.args.toList []))
    | .builtin _=>some (rOs c.args.toList [])
    | _=>none)
  | _=>none

theorem rO_mem {x:Operand} {l:List Nat} {t:Nat}:t ∈ rO x l ↔ x=.tmp t ∨ t ∈ l:=by
  cases x <;> simp [rO,eq_comm]
theorem rOs_mem {l:List Operand} {r:List Nat} {t:Nat}:t ∈ rOs l r ↔ Operand.tmp t ∈ l ∨ t ∈ r:=by
  induction l with
  | nil=>simp [rOs]
  | cons x l ih=>simp [rOs,rO_mem,ih,or_assoc,eq_comm]
theorem rPs_mem {l:List (Nat × Operand)} {r:List Nat} {t:Nat}:t ∈ rPs l r ↔ (∃ i,(i,Operand.tmp t) ∈ l) ∨ t ∈ r:=by
  induction l with
  | nil=>simp [rPs]
  | cons x l ih =>
    obtain ⟨j,x⟩:=x
    simp only [rPs,rO_mem,ih,List.mem_cons,Prod.mk.injEq]
    constructor
    · rintro (h | ⟨i,h⟩ | h)
      · exact .inl ⟨j, .inl ⟨rfl,h.symm⟩⟩
      · exact .inl ⟨i, .inr h⟩
      · exact .inr h
    · rintro (⟨i,⟨_,h⟩ | h⟩ | h)
      · exact .inl h.symm
      · exact .inr (.inl ⟨i,h⟩)
      · exact .inr (.inr h)
theorem rOpt_mem {x:Option Operand} {l:List Nat} {t:Nat}:t ∈ rOpt x l ↔ x=some (.tmp t) ∨ t ∈ l:=by
  cases x <;> simp [rOpt,rO_mem]

theorem opReads_ok' {op:Op} {l:List Nat} (h:opReads op=some l) {t:Nat} (ht:Operand.tmp t ∈ op.operands.toList):t ∈ l:=by
  cases op
  case call c =>
    simp only [opReads] at h
    simp only [Op.operands,Call.operands] at ht
    cases hc:c.callee <;> simp only [hc] at h ht <;> cases h <;> simp [rO_mem,rOs_mem] at ht ⊢
    · rcases ht with ht | ht
      · exact .inl ht.symm
      · exact .inr ht
    · exact ht
  all_goals simp only [opReads] at h
  all_goals (first | cases h | skip)
  all_goals simp [Op.operands,rO_mem,rOs_mem,rPs_mem,rOpt_mem] at ht ⊢
  all_goals simp_all [eq_comm,or_assoc]

theorem opReads_ok {o:Oper} {l:List Nat} (h:opReads o.op=some l) {t:Nat} (ht:Reads o t):t ∈ l:=opReads_ok' h ht


structure LogE where
  rs:List Nat
  d:Option Nat
  sv:SV
  rd:List Nat
  wr:Heap
  news:List Nat

def LogE.nms (x:LogE):List Nat:=x.sv.nms ++ nmsH x.wr

def appE (p:Env × Heap) (x:LogE):Env × Heap:=(putO x.d x.sv p.1,x.wr ++ p.2)

def appL (p:Env × Heap):List LogE → Env × Heap
  | []=>p
  | x :: r=>appL (appE p x) r

def ovl:List (Nat × Bool) → Env → Env
  | [],e=>e
  | (d,t) :: r,e=>.put d (.c (.b t)) (ovl r e)

def lookB:List (Nat × Bool) → Nat → Option Bool
  | [],_=>none
  | (j,o) :: r,k=>bif Nat.beq k j then some o else lookB r k

def rmB (d:Nat):List (Nat × Bool) → List (Nat × Bool)
  | []=>[]
  | (j,o) :: r=>bif Nat.beq j d then rmB d r else (j,o) :: rmB d r

def rmO:Option Nat → List (Nat × Bool) → List (Nat × Bool)
  | none,g=>g
  | some d,g=>rmB d g

def forceG:List (Nat × Bool) → (List (Nat × Bool) → Prop) → Prop
  | [],K=>K []
  | p :: r,K=>forceG r fun r=>K (p :: r)

theorem forceG_eq {l:List (Nat × Bool)} {K:List (Nat × Bool) → Prop}:forceG l K=K l:=by
  induction l generalizing K with
  | nil=>rfl
  | cons c l ih=>simp [forceG,ih]

def runA (cx:Cx) (B:Tabs) (o:Oper) (gd:List Nat) (s:St) (gs:List (Nat × Bool)) (K:LogE → St → List (Nat × Bool) → Prop):Prop:=match s with
  | ⟨e,H,nx⟩=>match opReads o.op with
  | none=>False
  | some rs=>bif dstOK o.dst cx then opK cx B o (ovl gs e) H nx fun f =>
      forceSV f.sv fun sv=>forceH f.wr [] fun wr=>forceLs f.rd fun rd=>forceLs f.news fun news=>forceN (nx+lenN news) fun nx=>forceLs (gd ++ rs) fun rs=>forceP o.dst sv e fun e=>forceH wr H fun H=>forceG (rmO o.dst gs) fun gs =>
        K ⟨rs,o.dst,sv,rd,wr,news⟩ ⟨e,H,nx⟩ gs
    else False

def skipA (cx:Cx) (o:Oper) (gd:List Nat) (s:St) (gs:List (Nat × Bool)) (K:LogE → St → List (Nat × Bool) → Prop):Prop:=match s with
  | ⟨e,H,nx⟩=>bif dstOK o.dst cx then forceP o.dst (.tup []) e fun e=>forceG (rmO o.dst gs) fun gs=>K ⟨gd,o.dst, .tup [],[],[],[]⟩ ⟨e,H,nx⟩ gs else False

def vcAny (cx:Cx) (B:Tabs) (ops:Array Oper):List Oper → St → List (Nat × Bool) → List LogE → (List LogE → St → List (Nat × Bool) → Prop) → Prop
  | [],s,gs,log,K=>K log.reverse s gs
  | o :: r,s,gs,log,K=>match o.guard with
    | none=>runA cx B o [] s gs fun x s' gs'=>vcAny cx B ops r s' gs' (x :: log) K
    | some (j,want)=>match dstOf ops j with
      | none=>False
      | some d=>match lookB gs d with
        | some t => bif beqB t want then runA cx B o [d] s gs fun x s' gs' => vcAny cx B ops r s' gs' (x :: log) K
                    else skipA cx o [d] s gs fun x s' gs'=>vcAny cx B ops r s' gs' (x :: log) K
        | none=>match s.e.get d with
          | .c (.b t) => bif beqB t want then runA cx B o [d] s gs fun x s' gs' => vcAny cx B ops r s' gs' (x :: log) K
                    else skipA cx o [d] s gs fun x s' gs'=>vcAny cx B ops r s' gs' (x :: log) K
          | .c (.v (.bool t)) =>
            (t=true → bif want then runA cx B o [d] s ((d,true) :: gs) fun x s' gs'=>vcAny cx B ops r s' gs' (x :: log) K
              else skipA cx o [d] s ((d,true) :: gs) fun x s' gs'=>vcAny cx B ops r s' gs' (x :: log) K) ∧
            (t=false → bif want then skipA cx o [d] s ((d,false) :: gs) fun x s' gs'=>vcAny cx B ops r s' gs' (x :: log) K
              else runA cx B o [d] s ((d,false) :: gs) fun x s' gs'=>vcAny cx B ops r s' gs' (x :: log) K)
          | .tup []=>skipA cx o [d] s gs fun x s' gs'=>vcAny cx B ops r s' gs' (x :: log) K
          | _=>False

def isBool (sv:SV) (t:Bool):Prop:=sv=.c (.b t) ∨ sv=.c (.v (.bool t))

def skipG (sv:SV) (want:Bool):Prop:=isBool sv (!want) ∨ sv=.tup []

def gsOK (gs:List (Nat × Bool)) (e:Env):Prop:=∀ d t,(d,t) ∈ gs → isBool (e.get d) t

structure EntOK (cx:Cx) (ops:Array Oper) (p:Env × Heap) (o:Oper) (x:LogE):Prop where
  d:x.d=o.dst
  dst:dstOK o.dst cx=true
  news:∀ k ∈ x.news,cx.n0≤k
  act:((∃ gs f,gsOK gs p.1∧LocalOK cx o (ovl gs p.1) p.2 f∧f.sv=x.sv∧f.rd=x.rd∧f.wr=x.wr∧f.news=x.news∧(∀ t,Reads o t → t ∈ x.rs)) ∧
      (o.guard=none ∨ ∃ j want d,o.guard=some (j,want)∧dstOf ops j=some d∧d ∈ x.rs∧isBool (p.1.get d) want)) ∨
    ((x.sv=.tup []∧x.rd=[]∧x.wr=[]∧x.news=[])∧∃ j want d,o.guard=some (j,want)∧dstOf ops j=some d∧d ∈ x.rs∧skipG (p.1.get d) want)

inductive LogOK (cx:Cx) (ops:Array Oper):Env × Heap → List Oper → List LogE → Prop
  | nil {p}:LogOK cx ops p [] []
  | cons {p o r x l}:EntOK cx ops p o x → LogOK cx ops (appE p x) r l → LogOK cx ops p (o :: r) (x :: l)

theorem LogOK.get {cx:Cx} {ops:Array Oper}:∀ {p:Env × Heap} {l:List Oper} {log:List LogE},LogOK cx ops p l log →
    log.length=l.length∧∀ i o,l[i]? = some o → ∃ x,log[i]? = some x∧EntOK cx ops (appL p (log.take i)) o x
  | _,_,_, .nil=>⟨rfl,by simp⟩
  | _,_,_, .cons (x:=x) h hl=>by
    have ih:=hl.get
    refine⟨by simp [ih.1], ?_⟩
    intro i o ho
    cases i with
    | zero=>simp at ho; subst ho; exact⟨x,by simp,h⟩
    | succ i =>
      obtain ⟨y,hy,he⟩:=ih.2 i o (by simpa using ho)
      exact⟨y,by simpa using hy,by simpa [appL] using he⟩

theorem lookB_mem {gs:List (Nat × Bool)} {d:Nat} {t:Bool} (h:lookB gs d=some t):(d,t) ∈ gs:=by
  induction gs with
  | nil=>simp [lookB] at h
  | cons p r ih =>
    obtain ⟨j,o⟩:=p
    simp only [lookB] at h
    cases hb:Nat.beq d j with
    | true=>simp [hb] at h; subst h; rw [Nat.eq_of_beq_eq_true hb]; exact List.mem_cons_self ..
    | false=>simp [hb] at h; exact List.mem_cons_of_mem _ (ih h)

theorem rmB_mem {d:Nat} {gs:List (Nat × Bool)} {p:Nat × Bool} (h:p ∈ rmB d gs):p ∈ gs∧p.1 ≠ d:=by
  induction gs with
  | nil=>cases h
  | cons q r ih =>
    obtain ⟨j,o⟩:=q
    simp only [rmB] at h
    cases hb:Nat.beq j d with
    | true=>simp [hb] at h; exact⟨List.mem_cons_of_mem _ (ih h).1,(ih h).2⟩
    | false =>
      simp only [hb,cond_false] at h
      rcases List.mem_cons.1 h with rfl | h
      · exact⟨List.mem_cons_self ..,Nat.ne_of_beq_eq_false hb⟩
      · exact⟨List.mem_cons_of_mem _ (ih h).1,(ih h).2⟩

theorem gsOK_rm {gs:List (Nat × Bool)} {e:Env} (h:gsOK gs e) (d:Option Nat) (sv:SV):gsOK (rmO d gs) (putO d sv e):=by
  cases d with
  | none=>exact h
  | some d =>
    intro j t hm
    have:=rmB_mem hm
    simp only [putO]
    rw [get_put,if_neg this.2]
    exact h j t this.1

theorem runA_ok {cx:Cx} {B:Tabs} (hB:TabsOK cx.P B) {ops:Array Oper} {o:Oper} {gd:List Nat} {s:St} {gs:List (Nat × Bool)} {K:LogE → St → List (Nat × Bool) → Prop} (h:runA cx B o gd s gs K)
    (hgs:gsOK gs s.e) (hn:cx.n0≤s.nx) (hg:o.guard=none ∨ ∃ j want d,o.guard=some (j,want)∧dstOf ops j=some d∧d ∈ gd∧isBool (s.e.get d) want) :
    ∃ x s' gs',K x s' gs'∧EntOK cx ops (s.e,s.H) o x∧(s'.e,s'.H)=appE (s.e,s.H) x∧gsOK gs' s'.e∧s.nx≤s'.nx:=by
  obtain ⟨e0,H0,nx0⟩:=s
  simp only [runA] at h
  split at h
  · exact h.elim
  · rename_i rs hrs
    obtain ⟨hd,h⟩:=bif_and h
    obtain ⟨f,hK,hf,hnw⟩:=op_ok hB h
    simp only [forceSV_eq,forceH_eq,forceLs_eq,forceN_eq,forceP_eq,forceG_eq,List.append_nil] at hK
    refine⟨_,_,_,hK,⟨rfl,hd,fun k hk=>Nat.le_trans hn (hnw k hk).1, .inl ⟨⟨gs,f,hgs,hf,rfl,rfl,rfl,rfl,fun t ht=>List.mem_append_right _ (opReads_ok hrs ht)⟩, ?_⟩⟩,rfl,gsOK_rm hgs _ _,Nat.le_add_right _ _⟩
    rcases hg with hg | ⟨j,want,d,h1,h2,h3,h4⟩
    · exact .inl hg
    · exact .inr ⟨j,want,d,h1,h2,List.mem_append_left _ h3,h4⟩

theorem skipA_ok {cx:Cx} {ops:Array Oper} {o:Oper} {gd:List Nat} {s:St} {gs:List (Nat × Bool)} {K:LogE → St → List (Nat × Bool) → Prop} (h:skipA cx o gd s gs K)
    (hgs:gsOK gs s.e) (hg:∃ j want d,o.guard=some (j,want)∧dstOf ops j=some d∧d ∈ gd∧skipG (s.e.get d) want) :
    ∃ x s' gs',K x s' gs'∧EntOK cx ops (s.e,s.H) o x∧(s'.e,s'.H)=appE (s.e,s.H) x∧gsOK gs' s'.e∧s.nx≤s'.nx:=by
  obtain ⟨e0,H0,nx0⟩:=s
  simp only [skipA] at h
  obtain ⟨hd,h⟩:=bif_and h
  simp only [forceP_eq,forceG_eq] at h
  exact⟨_,_,_,h,⟨rfl,hd,by simp, .inr ⟨⟨rfl,rfl,rfl,rfl⟩,hg⟩⟩,rfl,gsOK_rm hgs _ _,Nat.le_refl _⟩

theorem vcAny_ok {cx:Cx} {B:Tabs} (hB:TabsOK cx.P B) {ops:Array Oper} {K:List LogE → St → List (Nat × Bool) → Prop}:∀ (l:List Oper) (s:St) (gs:List (Nat × Bool)) (log:List LogE),
    vcAny cx B ops l s gs log K → gsOK gs s.e → cx.n0≤s.nx → ∃ log' s' gs',K (log.reverse ++ log') s' gs'∧LogOK cx ops (s.e,s.H) l log'∧(s'.e,s'.H)=appL (s.e,s.H) log'∧gsOK gs' s'.e∧s.nx≤s'.nx
  | [],s,gs,log,h,hgs,hn=>⟨[],s,gs,by simpa [vcAny] using h, .nil,rfl,hgs,Nat.le_refl _⟩
  | o :: r,s,gs,log,h,hgs,hn=>by
    have fin:(∃ x s' gs',vcAny cx B ops r s' gs' (x :: log) K∧EntOK cx ops (s.e,s.H) o x∧(s'.e,s'.H)=appE (s.e,s.H) x∧gsOK gs' s'.e∧s.nx≤s'.nx) →
        ∃ log' s' gs',K (log.reverse ++ log') s' gs'∧LogOK cx ops (s.e,s.H) (o :: r) log'∧(s'.e,s'.H)=appL (s.e,s.H) log'∧gsOK gs' s'.e∧s.nx≤s'.nx:=by
      rintro ⟨x,s1,gs1,hK,hx,he,hg1,hle⟩
      obtain ⟨log',s2,gs2,hK2,hl2,he2,hg2,hle2⟩:=vcAny_ok hB r s1 gs1 (x :: log) hK hg1 (Nat.le_trans hn hle)
      refine⟨x :: log',s2,gs2,by simpa using hK2, .cons hx (by rw [← he]; exact hl2),by rw [he2,he]; rfl,hg2,Nat.le_trans hle hle2⟩
    simp only [vcAny] at h
    split at h
    · rename_i hg
      exact fin (runA_ok hB h hgs hn (.inl hg))
    · rename_i j want hg
      split at h
      · exact h.elim
      · rename_i d hd
        have hrun:∀ gs,gsOK gs s.e → isBool (s.e.get d) want → runA cx B o [d] s gs (fun x s' gs'=>vcAny cx B ops r s' gs' (x :: log) K) → _:=fun gs hgs hb h =>
          fin (runA_ok hB h hgs hn (.inr ⟨j,want,d,hg,hd,by simp,hb⟩))
        have hskip:∀ gs,gsOK gs s.e → isBool (s.e.get d) (!want) → skipA cx o [d] s gs (fun x s' gs'=>vcAny cx B ops r s' gs' (x :: log) K) → _:=fun gs hgs hb h =>
          fin (skipA_ok h hgs ⟨j,want,d,hg,hd,by simp, .inl hb⟩)
        have hadd:∀ t,isBool (s.e.get d) t → gsOK ((d,t) :: gs) s.e:=fun t ht j u hm=>by
          rcases List.mem_cons.1 hm with he | hm
          · simp at he; rw [he.1,he.2]; exact ht
          · exact hgs j u hm
        split at h
        · rename_i t ht
          have hb:=hgs d t (lookB_mem ht)
          cases t <;> cases want <;> simp only [beqB,cond_true,cond_false] at h
          · exact hrun gs hgs hb h
          · exact hskip gs hgs hb h
          · exact hskip gs hgs hb h
          · exact hrun gs hgs hb h
        · split at h
          · rename_i t he
            have hb:isBool (s.e.get d) t:=.inl he
            cases t <;> cases want <;> simp only [beqB,cond_true,cond_false] at h
            · exact hrun gs hgs hb h
            · exact hskip gs hgs hb h
            · exact hskip gs hgs hb h
            · exact hrun gs hgs hb h
          · rename_i t he
            have hb:isBool (s.e.get d) t:=.inr he
            cases t
            · have h2:=h.2 rfl
              cases want <;> simp only [cond_true,cond_false] at h2
              · exact hrun _ (hadd _ hb) hb h2
              · exact hskip _ (hadd _ hb) hb h2
            · have h1:=h.1 rfl
              cases want <;> simp only [cond_true,cond_false] at h1
              · exact hskip _ (hadd _ hb) hb h1
              · exact hrun _ (hadd _ hb) hb h1
          · rename_i he
            exact fin (skipA_ok h hgs ⟨j,want,d,hg,hd,by simp, .inr he⟩)
          · exact h.elim

end Sx
end Go

