/-
  A part of the proof that a law answers true: lemmas of a symbolic walk, plain functions, or contracts of the functions walked (Sx1, Sx2, Sx3, Sx4, Sx5). Conditions: none.
-/
import Derived.CallsIn
import Derived.OrdersIn
import Derived.RangeFuncRecord
set_option maxRecDepth 100000
set_option linter.unusedVariables false
set_option linter.unusedSimpArgs false
/-
  The symbolic walk,part 1: symbolic values,regions of memory,what it means that a frame and a world fit them.
  Conditions: none; everything here is a definition or a plain lemma over any program.
-/
namespace Go
namespace Sx

structure Rg where
  blk:Nat
  off:Nat
  cap:Nat
  ext:List Value

def sblk:Value → List Nat
  | .slice (some a) _ (_+1)=>[a.block]
  | _=>[]

def Rg.more (r:Rg):List Nat:=r.ext.flatMap sblk

abbrev Asg:=Nat → Rg

inductive SC where
  | v (x:Value)
  | b (x:Bool)
  | p (k i sz off:Nat)
  | s (k st len sz:Nat)
  | f (g:FuncId) (caps:List Nat)
  | m (k:Nat)
  | cut (k h sz:Nat)
  /-- the slice with a number that a region holds apart -/
  | ghost (k i:Nat)
  /-- the place where that slice begins -/
  | gp (k i:Nat)
  | any
  | junk

inductive SV where
  | c (x:SC)
  | agg (l:List SC)
  | tup (l:List (Sum SC (List SC)))
  /-- an aggregate: plain cells (any list of them) and some more -/
  | pk (vs:List Value) (l:List SC)

def SC.nms:SC → List Nat
  | .p k _ _ _=>[k]
  | .s k _ _ _=>[k]
  | .f _ caps=>caps
  | .m k=>[k]
  | .cut k _ _=>[k]
  | .ghost k _=>[k]
  | .gp k _=>[k]
  | _=>[]

structure Arr where
  α:Type
  sz:Nat
  enc:α → List SC
  nm:List Nat
  hl:∀ x,(enc x).length=sz
  hn:∀ x c,c ∈ enc x → ∀ k ∈ c.nms,k ∈ nm
  xs:List α
  /-- how many elements it has room for,if that is known (an array) -/
  fx:Option Nat
  /-- the type of the block's elements,if it is known -/
  ty:Option TypeId

structure Bx where
  Φ:Rg → World → Prop
  loc:∀ (r:Rg) (w w':World),(0 < r.cap → ∀ b,b=r.blk ∨ b ∈ r.more → w'.heap[b]? = w.heap[b]?) → Φ r w → Φ r w'

inductive SO where
  /-- cells; the type of the block,if it is known -/
  | cel (ty:Option TypeId) (l:List SC)
  | arr (a:Arr)
  | raw (Φ:Obj → Prop)
  | box (b:Bx)

abbrev SO.cells (l:List SC):SO:=.cel none l

abbrev Heap:=List (Nat × Bool × SO)

inductive Env where
  | nil
  | put (i:Nat) (v:SV) (e:Env)
  | mask (m:Nat) (e:Env)
  | mark (k:Nat) (e:Env)

def memN (k:Nat):List Nat → Bool
  | []=>false
  | x :: r=>bif Nat.beq k x then true else memN k r

def anyMem (ks:List Nat):List Nat → Bool
  | []=>false
  | x :: r=>bif memN x ks then true else anyMem ks r

def SC.uses (ks:List Nat) (c:SC):Bool:=anyMem ks c.nms

def usesL (ks:List Nat):List SC → Bool
  | []=>false
  | x :: r=>bif x.uses ks then true else usesL ks r

def usesT (ks:List Nat):List (Sum SC (List SC)) → Bool
  | []=>false
  | .inl x :: r=>bif x.uses ks then true else usesT ks r
  | .inr l :: r=>bif usesL ks l then true else usesT ks r

def SV.uses (ks:List Nat):SV → Bool
  | .c x=>x.uses ks
  | .agg l=>usesL ks l
  | .tup l=>usesT ks l
  | .pk _ l=>usesL ks l

def SO.uses (ks:List Nat):SO → Bool
  | .cel _ l=>usesL ks l
  | .arr a=>anyMem ks a.nm
  | .raw _=>false
  | .box _=>false

def bitAt (m i:Nat):Bool:=Nat.beq (Nat.land (Nat.shiftRight m i) 1) 1

def Env.get:Env → Nat → SV
  | .nil,_=>.c .junk
  | .put j v e,i=>bif Nat.beq i j then v else e.get i
  | .mask m e,i=>bif bitAt m i then .c .junk else e.get i
  | .mark _ e,i=>e.get i

def Env.marks:Env → List Nat
  | .nil=>[]
  | .put _ _ e=>e.marks
  | .mask _ e=>e.marks
  | .mark k e=>k :: e.marks

def look:Heap → Nat → Option (Bool × SO)
  | [],_=>none
  | (j,o) :: r,k=>bif Nat.beq k j then some o else look r k

def adr (ρ:Asg) (k n:Nat):Addr:=⟨(ρ k).blk,(ρ k).off+n,none⟩

def SC.rel (ρ:Asg):SC → Value → Prop
  | .v x,y=>y=x
  | .b x,y=>y=.bool x
  | .p k i sz off,y=>y=.pointer (some (adr ρ k (i * sz+off)))
  | .s k st len sz,y=>∃ a,y=.slice a len ((ρ k).cap - st)∧st+len≤(ρ k).cap∧(st < (ρ k).cap → a=some (adr ρ k (st * sz)))
  | .f g caps,y=>y=.func (.func g) #[] (caps.map fun k=>Value.pointer (some (adr ρ k 0))).toArray
  | .m k,y=>y=.map (some (ρ k).blk)
  | .cut k h sz,y=>∃ a,y=.slice a h h∧h≤(ρ k).cap∧(0 < (ρ k).cap → a=some (adr ρ k (0 * sz)))
  | .ghost k i,y=>∃ a l c,y=.slice a l c∧(ρ k).ext[i]? = some y
  | .gp k i,y=>∃ a l c,y=.pointer (some a)∧(ρ k).ext[i]? = some (.slice (some a) l c)
  | .any,y=>∃ t,y=.bool t
  | .junk,_=>True

def relL (ρ:Asg):List SC → List Value → Prop
  | [],[]=>True
  | c :: l,v :: vs=>c.rel ρ v∧relL ρ l vs
  | _,_=>False

def relT (ρ:Asg):List (Sum SC (List SC)) → List Value → Prop
  | [],[]=>True
  | .inl c :: l,v :: vs=>c.rel ρ v∧relT ρ l vs
  | .inr cs :: l,v :: vs=>(∃ xs:Array Value,v=.agg xs∧relL ρ cs xs.toList)∧relT ρ l vs
  | _,_=>False

def SV.rel (ρ:Asg):SV → Value → Prop
  | .c x,y=>x.rel ρ y
  | .agg l,y=>∃ xs:Array Value,y=.agg xs∧relL ρ l xs.toList
  | .tup l,y=>∃ xs:Array Value,y=.tuple xs∧relT ρ l xs.toList
  | .pk vs l,y=>∃ us:List Value,y=.agg (vs ++ us).toArray∧relL ρ l us

def SO.sz:SO → Nat
  | .arr a=>a.sz
  | _=>0

def SO.cell?:SO → Nat → Nat → Option SC
  | .cel _ l,i,j=>match i with
    | 0=>l[j]?
    | _+1=>none
  | .arr a,i,j=>match a.xs[i]? with
    | some x=>(a.enc x)[j]?
    | none=>none
  | .raw _,_,_=>none
  | .box _,_,_=>none

def SO.fx:SO → Option Nat
  | .arr a=>a.fx
  | _=>none

def SO.ty:SO → Option TypeId
  | .arr a=>a.ty
  | .cel ty _=>ty
  | _=>none

def SO.fp (r:Rg):SO → List Nat
  | .box _=>r.blk :: r.more
  | _=>[r.blk]

def SO.room (r:Rg):SO → Nat
  | .cel _ l=>l.length
  | .arr a=>r.cap * a.sz
  | .raw _=>1
  | .box _=>r.cap

def SO.wf (r:Rg):SO → Prop
  | .cel _ _=>True
  | .arr a=>a.xs.length≤r.cap
  | .raw _=>True
  | .box _=>True

structure SatO (ρ:Asg) (w:World) (k:Nat) (own:Bool) (o:SO):Prop where
  wf:o.wf (ρ k)
  at_:∀ i j c,o.cell? i j=some c → ∃ v,w.cell? (adr ρ k (i * o.sz+j))=some v∧c.rel ρ v
  room:own=true → (∀ keys,o ≠ .raw keys) → (∀ b,o ≠ .box b) → ∀ n,n < o.room (ρ k) → (∃ v,w.cell? (adr ρ k n)=some v)∧w.frozen? (adr ρ k n)=false
  off0:own=true → (ρ k).off=0
  keys:∀ Φ,o=.raw Φ → ∃ x,w.heap[(ρ k).blk]? = some x∧Φ x
  boxed:∀ b,o=.box b → b.Φ (ρ k) w
  fixd:∀ n,o.fx=some n → (ρ k).cap=n
  typd:∀ t,o.ty=some t → 0 < o.room (ρ k) → ∃ c fz,w.heap[(ρ k).blk]? = some (.cells c t fz)

structure Frm (w0 w:World) (M:List Nat):Prop where
  size:w0.heap.size≤w.heap.size
  same:∀ b,b < w0.heap.size → b ∉ M → w.heap[b]? = w0.heap[b]?
  io:w.os=w0.os∧w.output=w0.output
  quiet:w.tape=w0.tape∧w0.drawn≤w.drawn

structure SatH (w0:World) (M:List Nat) (ρ:Asg) (H:Heap) (w:World):Prop where
  frm:Frm w0 w M
  reg:∀ k own o,look H k=some (own,o) → SatO ρ w k own o
  apart:∀ k k' o own' o',k ≠ k' → look H k=some (true,o) → look H k'=some (own',o') → 0 < o.room (ρ k) → 0 < o'.room (ρ k') → ∀ b ∈ o.fp (ρ k),b ∉ o'.fp (ρ k')
  fresh:∀ k o,look H k=some (true,o) → 0 < o.room (ρ k) → ∀ b ∈ o.fp (ρ k),w0.heap.size≤b ∨ b ∈ M
  valid:∀ k own o,look H k=some (own,o) → 0 < o.room (ρ k) → ∀ b ∈ o.fp (ρ k),b < w.heap.size

structure Bnd (e:Env) (H:Heap) (n:Nat):Prop where
  env:∀ i,∀ k,(e.get i).uses [k]=true → k < n
  mks:∀ k ∈ e.marks,k < n
  heap:∀ k own o,look H k=some (own,o) → k < n∧∀ k',o.uses [k']=true → k' < n

structure St where
  e:Env
  H:Heap
  nx:Nat

def mkD (ρ:Asg) (k:Nat):Deferred:={ target:=.collected (ρ k).blk,args:=#[] }

structure Cx where
  P:Program
  w0:World
  M:List Nat
  nt:Nat
  rd:Option Nat
  ρ0:Asg
  n0:Nat
  /-- the slots that may be written (none: all),and what the others hold -/
  md:Option Nat
  t0:Array Value
  /-- calls of functions that were deferred before -/
  df:List Deferred

def inMd (m:Option Nat) (d:Nat):Bool:=match m with
  | none=>true
  | some m=>bitAt m d

structure Sat (cx:Cx) (ρ:Asg) (s:St) (a:Act) (w:World):Prop where
  size:a.tmps.size=cx.nt
  defers:a.defers=s.e.marks.map (mkD ρ) ++ cx.df
  env:∀ i,(s.e.get i).rel ρ (a.tmps.getD i undef)
  heap:SatH cx.w0 cx.M ρ s.H w
  bnd:Bnd s.e s.H s.nx
  base:∀ k,k < cx.n0 → ρ k=cx.ρ0 k
  keep:∀ i,inMd cx.md i=false → a.tmps.getD i undef=cx.t0.getD i undef
  n0:cx.n0≤s.nx

theorem sblk_of {a:Addr} {l c:Nat} (h:0 < c):sblk (.slice (some a) l c)=[a.block]:=by
  cases c with
  | zero=>cases h
  | succ c=>rfl

theorem sblk_mem {a:Option Addr} {l c b:Nat} (h:b ∈ sblk (.slice a l c)):∃ ad,a=some ad∧b=ad.block∧0 < c:=by
  cases a with
  | none=>cases h
  | some ad =>
    cases c with
    | zero=>cases h
    | succ c=>exact⟨ad,rfl,List.mem_singleton.1 h,Nat.succ_pos c⟩

end Sx
end Go

namespace Go
namespace Sx

def upd (ρ:Asg) (k:Nat) (r:Rg):Asg:=fun j=>if j=k then r else ρ j

theorem upd_ne {ρ:Asg} {k j:Nat} {r:Rg} (h:j ≠ k):upd ρ k r j=ρ j:=by simp [upd,h]
theorem upd_eq {ρ:Asg} {k:Nat} {r:Rg}:upd ρ k r k=r:=by simp [upd]

theorem memN_iff {k:Nat} {l:List Nat}:memN k l=true ↔ k ∈ l:=by
  induction l with
  | nil=>simp [memN]
  | cons x r ih =>
    simp only [memN,List.mem_cons]
    cases h:Nat.beq k x with
    | true=>simp [Nat.eq_of_beq_eq_true h]
    | false=>simp [ih,Nat.ne_of_beq_eq_false h]

theorem anyMem_iff {ks l:List Nat}:anyMem ks l=true ↔ ∃ k,k ∈ l∧k ∈ ks:=by
  induction l with
  | nil=>simp [anyMem]
  | cons x r ih =>
    simp only [anyMem]
    cases h:memN x ks with
    | true=>rw [memN_iff] at h; simp [h]
    | false =>
      have h':x ∉ ks:=by rw [← memN_iff,h]; simp
      simp [ih,h']

theorem SC.uses_iff {ks:List Nat} {c:SC}:c.uses ks=true ↔ ∃ k,k ∈ c.nms∧k ∈ ks:=anyMem_iff

theorem usesL_iff {ks:List Nat} {l:List SC}:usesL ks l=true ↔ ∃ c ∈ l,c.uses ks=true:=by
  induction l with
  | nil=>simp [usesL]
  | cons x r ih=>simp only [usesL]; cases h:x.uses ks <;> simp [ih,h]

theorem usesT_iff {ks:List Nat} {l:List (Sum SC (List SC))} :
    usesT ks l=true ↔ ∃ x ∈ l,(∃ c,x=.inl c∧c.uses ks=true) ∨ (∃ cs,x=.inr cs∧usesL ks cs=true):=by
  induction l with
  | nil=>simp [usesT]
  | cons x r ih =>
    cases x with
    | inl c=>simp only [usesT]; cases h:c.uses ks <;> simp [ih,h]
    | inr c=>simp only [usesT]; cases h:usesL ks c <;> simp [ih,h]

theorem SC.rel_agree {ρ ρ':Asg} {c:SC} {v:Value} (h:∀ k ∈ c.nms,ρ' k=ρ k) (hr:c.rel ρ v):c.rel ρ' v:=by
  cases c with
  | v x=>exact hr
  | b x=>exact hr
  | p k i sz off=>simp only [SC.rel,adr] at *; rw [h k (by simp [SC.nms])]; exact hr
  | s k st len sz=>simp only [SC.rel,adr] at *; rw [h k (by simp [SC.nms])]; exact hr
  | f g caps =>
    simp only [SC.rel,adr] at *
    rw [hr]
    congr 2
    apply List.map_congr_left
    intro k hk
    rw [h k (by simpa [SC.nms] using hk)]
  | m k=>simp only [SC.rel] at *; rw [h k (by simp [SC.nms])]; exact hr
  | cut k hh sz=>simp only [SC.rel,adr] at *; rw [h k (by simp [SC.nms])]; exact hr
  | ghost k i=>simp only [SC.rel] at *; rw [h k (by simp [SC.nms])]; exact hr
  | gp k i=>simp only [SC.rel] at *; rw [h k (by simp [SC.nms])]; exact hr
  | any=>exact hr
  | junk=>trivial

theorem relL_agree {ρ ρ':Asg}:∀ {l:List SC} {vs:List Value},(∀ c ∈ l,∀ k ∈ c.nms,ρ' k=ρ k) → relL ρ l vs → relL ρ' l vs
  | [],[],_,_=>trivial
  | [],_ :: _,_,h=>h.elim
  | _ :: _,[],_,h=>h.elim
  | c :: l,v :: vs,ha,h=>⟨SC.rel_agree (ha c (List.mem_cons_self ..)) h.1,relL_agree (fun d hd=>ha d (List.mem_cons_of_mem _ hd)) h.2⟩

theorem relT_agree {ρ ρ':Asg}:∀ {l:List (Sum SC (List SC))} {vs:List Value},
    (∀ k,usesT [k] l=true → ρ' k=ρ k) → relT ρ l vs → relT ρ' l vs
  | [],[],_,_=>trivial
  | [],_ :: _,_,h=>h.elim
  | .inl _ :: _,[],_,h=>h.elim
  | .inr _ :: _,[],_,h=>h.elim
  | .inl c :: l,v :: vs,ha,h =>
    ⟨SC.rel_agree (fun k hk=>ha k (usesT_iff.2 ⟨_,List.mem_cons_self .., .inl ⟨c,rfl,SC.uses_iff.2 ⟨k,hk,by simp⟩⟩⟩)) h.1,
     relT_agree (fun k hk=>ha k (by obtain ⟨x,hx,hu⟩:=usesT_iff.1 hk; exact usesT_iff.2 ⟨x,List.mem_cons_of_mem _ hx,hu⟩)) h.2⟩
  | .inr cs :: l,v :: vs,ha,h =>
    ⟨(by
      obtain ⟨xs,rfl,hx⟩:=h.1
      exact⟨xs,rfl,relL_agree (fun c hc k hk=>ha k (usesT_iff.2 ⟨_,List.mem_cons_self .., .inr ⟨cs,rfl,usesL_iff.2 ⟨c,hc,SC.uses_iff.2 ⟨k,hk,by simp⟩⟩⟩⟩)) hx⟩),
     relT_agree (fun k hk=>ha k (by obtain ⟨x,hx,hu⟩:=usesT_iff.1 hk; exact usesT_iff.2 ⟨x,List.mem_cons_of_mem _ hx,hu⟩)) h.2⟩

theorem SV.rel_agree {ρ ρ':Asg} {s:SV} {v:Value} (h:∀ k,s.uses [k]=true → ρ' k=ρ k) (hr:s.rel ρ v):s.rel ρ' v:=by
  cases s with
  | c x=>exact SC.rel_agree (fun k hk=>h k (SC.uses_iff.2 ⟨k,hk,by simp⟩)) hr
  | agg l =>
    obtain ⟨xs,rfl,hx⟩:=hr
    exact⟨xs,rfl,relL_agree (fun c hc k hk=>h k (usesL_iff.2 ⟨c,hc,SC.uses_iff.2 ⟨k,hk,by simp⟩⟩)) hx⟩
  | tup l =>
    obtain ⟨xs,rfl,hx⟩:=hr
    exact⟨xs,rfl,relT_agree h hx⟩
  | pk vs l =>
    obtain ⟨us,rfl,hx⟩:=hr
    exact⟨us,rfl,relL_agree (fun c hc k hk=>h k (usesL_iff.2 ⟨c,hc,SC.uses_iff.2 ⟨k,hk,by simp⟩⟩)) hx⟩

theorem cell_room {r:Rg} {o:SO} (hw:o.wf r) {i j:Nat} {c:SC} (h:o.cell? i j=some c):i * o.sz+j < o.room r:=by
  cases o with
  | cel ty l =>
    cases i with
    | zero=>simp only [SO.cell?] at h; obtain ⟨hj,_⟩:=List.getElem?_eq_some_iff.1 h; simpa [SO.sz,SO.room] using hj
    | succ i=>simp [SO.cell?] at h
  | arr a =>
    simp only [SO.cell?] at h
    cases hx:a.xs[i]? with
    | none=>simp [hx] at h
    | some x =>
      simp only [hx] at h
      obtain ⟨hi,he⟩:=List.getElem?_eq_some_iff.1 hx
      obtain ⟨hj,_⟩:=List.getElem?_eq_some_iff.1 h
      have hs:=a.hl x
      simp only [SO.sz,SO.room]
      have h1:i+1≤r.cap:=Nat.le_trans hi hw
      calc i * a.sz+j < i * a.sz+a.sz:=by omega
        _=(i+1) * a.sz:=by rw [Nat.add_mul]; omega
        _≤r.cap * a.sz:=Nat.mul_le_mul_right _ h1
  | raw l=>simp [SO.cell?] at h
  | box l=>simp [SO.cell?] at h

def SO.nb:SO → Bool
  | .box _=>false
  | _=>true

theorem fp_nb {o:SO} {r:Rg} (h:o.nb=true):o.fp r=[r.blk]:=by cases o <;> simp [SO.nb] at h <;> rfl

theorem blk_fp {o:SO} {r:Rg}:r.blk ∈ o.fp r:=by cases o <;> simp [SO.fp]

theorem cell?_congr {w w':World} {a:Addr} (h:w'.heap[a.block]? = w.heap[a.block]?):w'.cell? a=w.cell? a:=by
  simp only [World.cell?,h]
theorem frozen?_congr {w w':World} {a:Addr} (h:w'.heap[a.block]? = w.heap[a.block]?):w'.frozen? a=w.frozen? a:=by
  simp only [World.frozen?,h]

theorem SatO.world {ρ:Asg} {w w':World} {k:Nat} {own:Bool} {o:SO} (h:SatO ρ w k own o)
    (hbs:0 < o.room (ρ k) → ∀ b ∈ o.fp (ρ k),w'.heap[b]? = w.heap[b]?):SatO ρ w' k own o :=
  have hb:0 < o.room (ρ k) → w'.heap[(ρ k).blk]? = w.heap[(ρ k).blk]?:=fun hr=>hbs hr _ blk_fp
  { wf:=h.wf
    at_:=fun i j c hc=>by
      have hr:=cell_room h.wf hc
      obtain ⟨v,hv,hrel⟩:=h.at_ i j c hc
      exact⟨v,by rw [cell?_congr (a:=adr ρ k _) (hb (by omega))]; exact hv,hrel⟩
    room:=fun ho hm hx n hn=>by
      have:=h.room ho hm hx n hn
      rw [cell?_congr (a:=adr ρ k n) (hb (by omega)),frozen?_congr (a:=adr ρ k n) (hb (by omega))]
      exact this
    off0:=h.off0
    keys:=fun l hl=>by
      subst hl
      have:=h.keys l rfl
      rw [hb (by simp [SO.room])]
      exact this
    boxed:=fun b hb'=>by
      subst hb'
      exact b.loc _ _ _ (fun hc x hx=>hbs (by simpa [SO.room] using hc) x (by simpa [SO.fp] using hx)) (h.boxed b rfl)
    fixd:=h.fixd
    typd:=fun t ht hr=>by rw [hb hr]; exact h.typd t ht hr }

theorem SO.uses_cell {o:SO} {r:Rg} (hw:o.wf r) {i j:Nat} {c:SC} (h:o.cell? i j=some c) {k:Nat} (hk:k ∈ c.nms):o.uses [k]=true:=by
  cases o with
  | cel ty l =>
    cases i with
    | zero =>
      simp only [SO.cell?] at h
      exact usesL_iff.2 ⟨c,List.mem_of_getElem? h,SC.uses_iff.2 ⟨k,hk,by simp⟩⟩
    | succ i=>simp [SO.cell?] at h
  | arr a =>
    simp only [SO.cell?] at h
    cases hx:a.xs[i]? with
    | none=>simp [hx] at h
    | some x =>
      simp only [hx] at h
      exact anyMem_iff.2 ⟨k,a.hn x c (List.mem_of_getElem? h) k hk,by simp⟩
  | raw l=>simp [SO.cell?] at h
  | box l=>simp [SO.cell?] at h

theorem SatO.asg {ρ ρ':Asg} {w:World} {k:Nat} {own:Bool} {o:SO} (h:SatO ρ w k own o) (hk:ρ' k=ρ k)
    (ha:∀ j,o.uses [j]=true → ρ' j=ρ j):SatO ρ' w k own o where
  wf:=by rw [hk]; exact h.wf
  at_ i j c hc:=by
    obtain ⟨v,hv,hrel⟩:=h.at_ i j c hc
    refine⟨v, ?_,SC.rel_agree (fun n hn=>ha n (SO.uses_cell h.wf hc hn)) hrel⟩
    simp only [adr,hk] at *; exact hv
  room ho hm hx n hn:=by
    rw [hk] at hn
    have:=h.room ho hm hx n hn
    simp only [adr,hk] at *; exact this
  off0 ho:=by rw [hk]; exact h.off0 ho
  keys l hl:=by rw [hk]; exact h.keys l hl
  boxed l hl:=by rw [hk]; exact h.boxed l hl
  fixd n hn:=by rw [hk]; exact h.fixd n hn
  typd t ht hr:=by rw [hk] at hr ⊢; exact h.typd t ht hr

end Sx
end Go

namespace Go
namespace Sx

theorem look_cons {k j:Nat} {x:Bool × SO} {H:Heap}:look ((j,x) :: H) k=if k=j then some x else look H k:=by
  simp only [look]
  cases h:Nat.beq k j with
  | true=>simp [Nat.eq_of_beq_eq_true h]
  | false=>simp [Nat.ne_of_beq_eq_false h]

theorem get_put {i j:Nat} {v:SV} {e:Env}:(Env.put j v e).get i=if i=j then v else e.get i:=by
  simp only [Env.get]
  cases h:Nat.beq i j with
  | true=>simp [Nat.eq_of_beq_eq_true h]
  | false=>simp [Nat.ne_of_beq_eq_false h]

theorem Frm.refl (w:World) (M:List Nat):Frm w w M:=⟨Nat.le_refl _,fun _ _ _=>rfl,⟨rfl,rfl⟩,rfl,Nat.le_refl _⟩

theorem SatH.cons {w0:World} {M:List Nat} {ρ ρ':Asg} {H:Heap} {w w':World} {k:Nat} {own:Bool} {o:SO} (h:SatH w0 M ρ H w)
    (hag:∀ j own o',look H j=some (own,o') → j ≠ k → ρ' j=ρ j∧∀ n,o'.uses [n]=true → ρ' n=ρ n)
    (hsz:w.heap.size≤w'.heap.size) (hfrm:Frm w0 w' M)
    (hsame:∀ b,b < w.heap.size → b ≠ (ρ' k).blk → w'.heap[b]? = w.heap[b]?)
    (hnb:o.nb=true)
    (hdis:∀ j own' o',look H j=some (own',o') → j ≠ k → 0 < o'.room (ρ j) → 0 < o.room (ρ' k) → ∀ b ∈ o'.fp (ρ j),b ≠ (ρ' k).blk)
    (hdis':∀ j own' o',look H j=some (own',o') → j ≠ k → 0 < o'.room (ρ j) → ∀ b ∈ o'.fp (ρ j),w'.heap[b]? = w.heap[b]?)
    (hnew:SatO ρ' w' k own o)
    (hfresh:own=true → 0 < o.room (ρ' k) → w0.heap.size≤(ρ' k).blk ∨ (ρ' k).blk ∈ M)
    (hvalid:0 < o.room (ρ' k) → (ρ' k).blk < w'.heap.size):SatH w0 M ρ' ((k,own,o) :: H) w' where
  frm:=hfrm
  reg j own' o' hl:=by
    rw [look_cons] at hl
    by_cases hj:j=k
    · subst hj; simp at hl; obtain ⟨rfl,rfl⟩:=hl; exact hnew
    · rw [if_neg hj] at hl
      have ha:=hag j own' o' hl hj
      exact ((h.reg j own' o' hl).world (hdis' j own' o' hl hj)).asg ha.1 ha.2
  apart j j' o1 own' o2 hne hl hl' hr hr':=by
    rw [look_cons] at hl hl'
    by_cases hj:j=k
    · subst hj
      simp at hl; obtain ⟨rfl,rfl⟩:=hl
      rw [if_neg (Ne.symm hne)] at hl'
      have ha:=hag j' own' o2 hl' (Ne.symm hne)
      rw [ha.1] at hr' ⊢
      intro b hb hb'
      rw [fp_nb hnb] at hb
      exact hdis j' own' o2 hl' (Ne.symm hne) hr' hr b hb' (by simpa using hb)
    · rw [if_neg hj] at hl
      have ha:=hag j true o1 hl hj
      rw [ha.1] at hr ⊢
      by_cases hj':j'=k
      · subst hj'
        simp at hl'; obtain ⟨rfl,rfl⟩:=hl'
        intro b hb hb'
        rw [fp_nb hnb] at hb'
        exact hdis j true o1 hl hj hr hr' b hb (by simpa using hb')
      · rw [if_neg hj'] at hl'
        have ha':=hag j' own' o2 hl' hj'
        rw [ha'.1] at hr' ⊢
        exact h.apart j j' o1 own' o2 hne hl hl' hr hr'
  fresh j o1 hl hr:=by
    rw [look_cons] at hl
    by_cases hj:j=k
    · subst hj; simp at hl; obtain ⟨rfl,rfl⟩:=hl
      intro b hb
      rw [fp_nb hnb] at hb
      obtain rfl:b=_:=by simpa using hb
      exact hfresh rfl hr
    · rw [if_neg hj] at hl
      have ha:=hag j true o1 hl hj
      rw [ha.1] at hr ⊢
      exact h.fresh j o1 hl hr
  valid j own' o1 hl hr:=by
    rw [look_cons] at hl
    by_cases hj:j=k
    · subst hj; simp at hl; obtain ⟨rfl,rfl⟩:=hl
      intro b hb
      rw [fp_nb hnb] at hb
      obtain rfl:b=_:=by simpa using hb
      exact hvalid hr
    · rw [if_neg hj] at hl
      have ha:=hag j own' o1 hl hj
      rw [ha.1] at hr ⊢
      exact fun b hb=>Nat.lt_of_lt_of_le (h.valid j own' o1 hl hr b hb) hsz

theorem satO_dead (ρ:Asg) (w:World) (k:Nat):SatO ρ w k false (.cells []) where
  wf:=trivial
  at_ i j c h:=by cases i <;> simp [SO.cell?] at h
  room h:=by cases h
  off0 h:=by cases h
  keys l h:=by cases h
  boxed l h:=by cases h
  fixd n h:=by cases h
  typd n h:=by cases h

theorem SatH.drop {w0:World} {M:List Nat} {ρ:Asg} {H:Heap} {w:World} (h:SatH w0 M ρ H w) (k:Nat) :
    SatH w0 M ρ ((k,false, .cells []) :: H) w :=
  h.cons (fun j own o' _ _=>⟨rfl,fun _ _=>rfl⟩) (Nat.le_refl _) h.frm (fun _ _ _=>rfl)
    rfl (fun _ _ _ _ _ _ hr=>by simp [SO.room] at hr) (fun _ _ _ _ _ _ _ _=>rfl) (satO_dead ρ w k) (fun h=>by cases h) (fun hr=>by simp [SO.room] at hr)

def push (w:World) (o:Obj):World:={ w with heap:=w.heap.push o }

theorem push_size (w:World) (o:Obj):(push w o).heap.size=w.heap.size+1:=by simp [push]
theorem push_old (w:World) (o:Obj) {b:Nat} (h:b < w.heap.size):(push w o).heap[b]? = w.heap[b]?:=by
  simp only [push]; rw [Array.getElem?_push_lt h]; simp [h]
theorem push_new (w:World) (o:Obj):(push w o).heap[w.heap.size]? = some o:=by unfold push; exact Array.getElem?_push_size

theorem Frm.push {w0 w:World} {M:List Nat} (h:Frm w0 w M) (o:Obj):Frm w0 (push w o) M where
  io:=h.io
  quiet:=h.quiet
  size:=by rw [push_size]; exact Nat.le_succ_of_le h.size
  same b hb hM:=by rw [push_old w o (Nat.lt_of_lt_of_le hb h.size)]; exact h.same b hb hM

theorem SatH.new {w0:World} {M:List Nat} {ρ:Asg} {H:Heap} {w:World} {k cap:Nat} {o:SO} {ob:Obj} (h:SatH w0 M ρ H w)
    (hk:∀ j own o',look H j=some (own,o') → j ≠ k∧o'.uses [k]=false)
    (hnew:SatO (upd ρ k ⟨w.heap.size,0,cap,[]⟩) (push w ob) k true o) (hnb:o.nb=true:=by rfl) :
    SatH w0 M (upd ρ k ⟨w.heap.size,0,cap,[]⟩) ((k,true,o) :: H) (push w ob):=by
  refine h.cons (fun j own o' hl hj=>⟨upd_ne hj,fun n hn=>upd_ne ?_⟩) (by rw [push_size]; exact Nat.le_succ _) (h.frm.push ob)
    (fun b hb _=>push_old w ob hb) hnb ?_ ?_ hnew ?_ ?_
  · rintro rfl
    rw [(hk j own o' hl).2] at hn; cases hn
  · intro j own' o' hl _ hr _ b hb
    rw [upd_eq]
    exact Nat.ne_of_lt (h.valid j own' o' hl hr b hb)
  · intro j own' o' hl _ hr b hb
    exact push_old w ob (h.valid j own' o' hl hr b hb)
  · intro _ _
    rw [upd_eq]; exact .inl h.frm.size
  · intro _
    rw [upd_eq,push_size]; exact Nat.lt_succ_self _

theorem setCell_size (w:World) (a:Addr) (v:Value):(w.setCell a v).heap.size=w.heap.size:=by simp [World.setCell]
theorem setCell_other (w:World) (a:Addr) (v:Value) {b:Nat} (h:b ≠ a.block):(w.setCell a v).heap[b]? = w.heap[b]?:=by
  simp only [World.setCell,Array.getElem?_modify]
  rw [if_neg (Ne.symm h)]

theorem cell?_setCell {w:World} {b o:Nat} {x:Addr} {v y:Value} (hx:w.cell? ⟨b,o,none⟩=some y) :
    (w.setCell ⟨b,o,none⟩ v).cell? x=if x.block=b∧x.off=o∧x.spot=none then some v else w.cell? x:=by
  simp only [World.cell?,World.setCell,Array.getElem?_modify] at *
  cases hb:w.heap[b]? with
  | none=>simp [hb] at hx
  | some ob =>
    simp only [hb] at hx
    cases ob with
    | cells c e fz =>
      simp only at hx
      by_cases h1:x.block=b
      · subst h1
        simp only [hb]
        cases hs:x.spot with
        | none =>
          by_cases h2:x.off=o
          · subst h2
            have hlt:x.off < c.size:=by
              have:=hx
              simp at this
              exact (Array.getElem?_eq_some_iff.1 this).1
            simp [hlt]
          · have:¬ (o=x.off):=fun h=>h2 h.symm
            simp [h2,this]
        | some n=>simp
      · have:¬ (b=x.block):=fun h=>h1 h.symm
        simp [h1,this]
    | _=>simp at hx

theorem frozen?_setCell (w:World) (a x:Addr) (v:Value):(w.setCell a v).frozen? x=w.frozen? x:=by
  simp only [World.frozen?,World.setCell,Array.getElem?_modify]
  by_cases h:a.block=x.block
  · rw [if_pos h]
    cases hb:w.heap[x.block]? with
    | none=>simp
    | some ob=>cases ob <;> simp
  · simp [h]

def setCells (w:World) (b o:Nat):List Value → World
  | []=>w
  | v :: vs=>setCells (w.setCell ⟨b,o,none⟩ v) b (o+1) vs

theorem setCell_io (w:World) (a:Addr) (v:Value):(w.setCell a v).os=w.os∧(w.setCell a v).output=w.output:=by
  unfold World.setCell
  split <;> simp

theorem setCells_io (w:World) (b o:Nat) (vs:List Value):(setCells w b o vs).os=w.os∧(setCells w b o vs).output=w.output:=by
  induction vs generalizing w o with
  | nil=>exact⟨rfl,rfl⟩
  | cons v vs ih =>
    have:=ih (w.setCell ⟨b,o,none⟩ v) (o+1)
    have h2:=setCell_io w ⟨b,o,none⟩ v
    exact⟨this.1.trans h2.1,this.2.trans h2.2⟩

theorem setCells_quiet (w:World) (b o:Nat) (vs:List Value):(setCells w b o vs).tape=w.tape∧(setCells w b o vs).drawn=w.drawn:=by
  induction vs generalizing w o with
  | nil=>exact⟨rfl,rfl⟩
  | cons v vs ih =>
    have:=ih (w.setCell ⟨b,o,none⟩ v) (o+1)
    have h2:(w.setCell ⟨b,o,none⟩ v).tape=w.tape∧(w.setCell ⟨b,o,none⟩ v).drawn=w.drawn:=by unfold World.setCell; split <;> simp
    exact⟨this.1.trans h2.1,this.2.trans h2.2⟩

theorem setCells_size (w:World) (b o:Nat) (vs:List Value):(setCells w b o vs).heap.size=w.heap.size:=by
  induction vs generalizing w o with
  | nil=>rfl
  | cons v vs ih=>simp only [setCells]; rw [ih,setCell_size]

theorem setCells_other (w:World) (b o:Nat) (vs:List Value) {x:Nat} (h:x ≠ b):(setCells w b o vs).heap[x]? = w.heap[x]?:=by
  induction vs generalizing w o with
  | nil=>rfl
  | cons v vs ih=>simp only [setCells]; rw [ih,setCell_other]; exact h

theorem setCells_frozen (w:World) (b o:Nat) (vs:List Value) (x:Addr):(setCells w b o vs).frozen? x=w.frozen? x:=by
  induction vs generalizing w o with
  | nil=>rfl
  | cons v vs ih=>simp only [setCells]; rw [ih,frozen?_setCell]

theorem setCells_cell (w:World) (b o:Nat) (vs:List Value) (hx:∀ j,j < vs.length → ∃ y,w.cell? ⟨b,o+j,none⟩=some y) (n:Nat) :
    (setCells w b o vs).cell? ⟨b,n,none⟩=if o≤n∧n < o+vs.length then vs[n - o]? else w.cell? ⟨b,n,none⟩:=by
  induction vs generalizing w o with
  | nil=>simp only [setCells]; rw [if_neg]; simp
  | cons v vs ih =>
    obtain ⟨y0,hy0⟩:=hx 0 (by simp)
    simp only [Nat.add_zero] at hy0
    have key:=fun x=>cell?_setCell (v:=v) (x:=x) hy0
    simp only [setCells]
    rw [ih]
    · rw [key]
      by_cases h1:n=o
      · subst h1
        rw [if_neg (by omega),if_pos ⟨rfl,rfl,rfl⟩,if_pos (by simp)]
        simp
      · rw [if_neg (c:=(_∧_∧_)) (by simp [h1])]
        by_cases h2:o+1≤n∧n < o+1+vs.length
        · rw [if_pos h2,if_pos (by simp; omega)]
          have:n - o=(n - (o+1))+1:=by omega
          rw [this]; simp
        · rw [if_neg h2,if_neg (by simp; omega)]
    · intro j hj
      obtain ⟨y,hy⟩:=hx (j+1) (by simp; omega)
      rw [key]
      refine⟨y, ?_⟩
      rw [if_neg (by simp; omega),show o+1+j=o+(j+1) from by omega]
      exact hy

theorem setCell_typ {w:World} {b o:Nat} {v:Value} {t:TypeId} (h:∃ c fz,w.heap[b]? = some (.cells c t fz)):∃ c fz,(w.setCell ⟨b,o,none⟩ v).heap[b]? = some (.cells c t fz):=by
  obtain ⟨c,fz,hb⟩:=h
  simp only [World.setCell,Array.getElem?_modify,hb]
  exact⟨_,_,rfl⟩

theorem setCells_typ {t:TypeId} {b:Nat}:∀ (vs:List Value) (w:World) (o:Nat),(∃ c fz,w.heap[b]? = some (.cells c t fz)) → ∃ c fz,(setCells w b o vs).heap[b]? = some (.cells c t fz)
  | [],_,_,h=>h
  | _ :: vs,_,_,h=>setCells_typ vs _ _ (setCell_typ h)

theorem SatH.frmSet {w0:World} {M:List Nat} {ρ:Asg} {H:Heap} {w:World} (h:SatH w0 M ρ H w) {k:Nat} {o:SO} (hl:look H k=some (true,o)) (hr:0 < o.room (ρ k)) (n:Nat)
    (vs:List Value):Frm w0 (setCells w (ρ k).blk n vs) M where
  io:=by rw [(setCells_io w _ n vs).1,(setCells_io w _ n vs).2]; exact h.frm.io
  quiet:=by rw [(setCells_quiet w _ n vs).1,(setCells_quiet w _ n vs).2]; exact h.frm.quiet
  size:=by rw [setCells_size]; exact h.frm.size
  same b hb hM:=by
    have hne:b ≠ (ρ k).blk:=by
      rintro rfl
      rcases h.fresh k o hl hr _ blk_fp with h1 | h1
      · omega
      · exact hM h1
    rw [setCells_other _ _ _ _ hne]
    exact h.frm.same b hb hM

theorem SatH.store {w0:World} {M:List Nat} {ρ:Asg} {H:Heap} {w:World} {k n:Nat} {o o':SO} {vs:List Value} (h:SatH w0 M ρ H w)
    (hl:look H k=some (true,o)) (hr:0 < o.room (ρ k)) 
    (hnew:SatO ρ (setCells w (ρ k).blk n vs) k true o') (hnb:o'.nb=true:=by rfl) :
    SatH w0 M ρ ((k,true,o') :: H) (setCells w (ρ k).blk n vs):=by
  have hd:∀ j own' p,look H j=some (own',p) → j ≠ k → 0 < p.room (ρ j) → ∀ b ∈ p.fp (ρ j),b ≠ (ρ k).blk:=fun j own' p hj hjk hpr b hb he =>
    h.apart k j o own' p (Ne.symm hjk) hl hj hr hpr (ρ k).blk blk_fp (he ▸ hb)
  refine h.cons (fun j own o' hl hj=>⟨rfl,fun _ _=>rfl⟩) (by rw [setCells_size]; exact Nat.le_refl _) (h.frmSet hl hr n vs)
    (fun b _ hb=>setCells_other _ _ _ _ hb) hnb (fun j own' p hj hjk hpr _=>hd j own' p hj hjk hpr) (fun j own' p hj hjk hpr b hb=>setCells_other _ _ _ _ (hd j own' p hj hjk hpr b hb)) hnew ?_ ?_
  · intro _ _; exact h.fresh k o hl hr _ blk_fp
  · intro _; rw [setCells_size]; exact h.valid k true o hl hr _ blk_fp

end Sx
end Go

namespace Go
namespace Sx

inductive Kd where
  | bool
  | int (k:IntKind)
  | string
  | ptr (elem:TypeId)
  | slice (elem:TypeId)
  | array (len:Nat) (elem:TypeId)
  | map (key elem:TypeId)
  | struct (fields:List (Nat × TypeId))
  | func
  | other

structure TI where
  kd:Kd
  size:Nat
  bytes:Nat
  zero:List Value

def kdOf:TypeDesc → Kd
  | .bool=>.bool
  | .int k=>.int k
  | .string=>.string
  | .pointer e=>.ptr e
  | .slice e=>.slice e
  | .array n e=>.array n e
  | .map k e=>.map k e
  | .struct fs=>.struct (fs.toList.map fun f=>(f.offset,f.type))
  | .func _ _ _=>.func
  | _=>.other

def tiOf (P:Program) (t:TypeId):Option TI :=
  match P.info? t,P.underlying t with
  | some i,some d=>match i.zero with
    | some z=>some ⟨kdOf d,i.size,i.bytes,z.cells.toList⟩
    | none=>none
  | _,_=>none

def lookT:List (Nat × TI) → Nat → Option TI
  | [],_=>none
  | (j,o) :: r,k=>bif Nat.beq k j then some o else lookT r k

def TabOK (P:Program) (T:List (Nat × TI)):Prop:=∀ p ∈ T,tiOf P p.1=some p.2

theorem TabOK.get {P:Program} {T:List (Nat × TI)} (h:TabOK P T) {t:Nat} {ti:TI} (hl:lookT T t=some ti):tiOf P t=some ti:=by
  unfold TabOK at h
  induction T with
  | nil=>simp [lookT] at hl
  | cons p r ih =>
    obtain ⟨j,o⟩:=p
    simp only [lookT] at hl
    cases hb:Nat.beq t j with
    | true =>
      simp [hb] at hl
      have:=h (j,o) (List.mem_cons_self ..)
      rw [Nat.eq_of_beq_eq_true hb,this,hl]
    | false =>
      simp [hb] at hl
      exact ih (fun p hp=>h p (List.mem_cons_of_mem _ hp)) hl

theorem tiOf_parts {P:Program} {t:Nat} {ti:TI} (h:tiOf P t=some ti) :
    ∃ i d z,P.info? t=some i∧P.underlying t=some d∧i.zero=some z∧kdOf d=ti.kd∧i.size=ti.size∧i.bytes=ti.bytes∧z.cells.toList=ti.zero:=by
  unfold tiOf at h
  cases hi:P.info? t with
  | none=>simp [hi] at h
  | some i =>
    cases hd:P.underlying t with
    | none=>simp [hi,hd] at h
    | some d =>
      cases hz:i.zero with
      | none=>simp [hi,hd,hz] at h
      | some z =>
        simp [hi,hd,hz] at h
        subst h
        exact⟨i,d,z,rfl,rfl,hz,rfl,rfl,rfl,rfl⟩

section runs
variable {P:Program} {t:Nat} {ti:TI} (w:World)
theorem run_info (h:tiOf P t=some ti):∃ i z,(typeInfo t).run P w=.ok i w∧i.size=ti.size∧i.bytes=ti.bytes∧i.zero=some z∧z.cells.toList=ti.zero:=by
  obtain ⟨i,d,z,hi,hd,hz,hk,hs,hb,hzz⟩:=tiOf_parts h
  exact⟨i,z,by simp [typeInfo,hi],hs,hb,hz,hzz⟩
theorem run_size (h:tiOf P t=some ti):(sizeOf t).run P w=.ok ti.size w:=by
  obtain ⟨i,z,hi,hs,_⟩:=run_info w h
  simp [sizeOf,hi,hs]
theorem run_und (h:tiOf P t=some ti):∃ d,(underlying t).run P w=.ok d w∧kdOf d=ti.kd:=by
  obtain ⟨i,d,z,hi,hd,hz,hk,hs,hb,hzz⟩:=tiOf_parts h
  exact⟨d,by simp [underlying,hd],hk⟩
end runs

def Kd.isAgg:Kd → Bool
  | .struct _=>true
  | .array _ _=>true
  | _=>false

theorem run_isAgg {P:Program} {t:Nat} {ti:TI} (w:World) (h:tiOf P t=some ti):(isAgg t).run P w=.ok ti.kd.isAgg w:=by
  obtain ⟨d,hd,hk⟩:=run_und w h
  simp only [isAgg,Sem.run_bind,hd,Result.andThen]
  rw [← hk]
  cases d <;> simp [kdOf,Kd.isAgg]

theorem run_zero {P:Program} {t:Nat} {ti:TI} (w:World) (h:tiOf P t=some ti):∃ z,(zeroValue t).run P w=.ok z w∧z.cells.toList=ti.zero:=by
  obtain ⟨i,z,hi,hs,hb,hz,hzz⟩:=run_info w h
  exact⟨z,by simp [zeroValue,hi,hz],hzz⟩

def cC:Value → SC
  | .bool b=>.b b
  | v=>.v v

def evC:Value → SV
  | .bool b=>.c (.b b)
  | .agg cs=>.agg (cs.toList.map cC)
  | v=>.c (.v v)

def ev (e:Env):Operand → SV
  | .tmp t=>e.get t
  | .const v=>evC v
  | .global _=>.c .junk
  | .func f=>.c (.f f [])

theorem cC_rel (ρ:Asg) (v:Value):(cC v).rel ρ v:=by cases v <;> simp [cC,SC.rel]
theorem relL_map_cC (ρ:Asg):∀ l:List Value,relL ρ (l.map cC) l
  | []=>trivial
  | v :: l=>⟨cC_rel ρ v,relL_map_cC ρ l⟩
theorem evC_rel (ρ:Asg) (v:Value):(evC v).rel ρ v:=by
  cases v <;> simp [evC,SV.rel,SC.rel,relL_map_cC]

def Fit (ρ:Asg) (e:Env) (a:Act) (x:Operand):Prop:=∀ t,x=.tmp t → (e.get t).rel ρ (a.tmps.getD t undef)

theorem ev_rel {ρ:Asg} {e:Env} {a:Act} {x:Operand} (h:Fit ρ e a x):(ev e x).rel ρ (a.eval x):=by
  cases x with
  | tmp t=>exact h t rfl
  | const v=>exact evC_rel ρ v
  | global g=>trivial
  | func f=>simp [ev,SV.rel,SC.rel,Act.eval]

theorem SV.below_cC (v:Value):(cC v).nms=[]:=by cases v <;> rfl
theorem evC_uses (v:Value) (ks:List Nat):(evC v).uses ks=false:=by
  cases v <;> simp [evC,SV.uses,SC.uses,SC.nms,anyMem]
  rename_i cs
  rw [← Bool.not_eq_true,usesL_iff]
  rintro ⟨c,hc,hu⟩
  simp only [List.mem_map] at hc
  obtain ⟨v,_,rfl⟩:=hc
  rw [SC.uses,SV.below_cC] at hu
  simp [anyMem] at hu

def SV.below (s:SV) (n:Nat):Prop:=∀ k,s.uses [k]=true → k < n
def SC.below (s:SC) (n:Nat):Prop:=∀ k ∈ s.nms,k < n
def SO.below (s:SO) (n:Nat):Prop:=∀ k,s.uses [k]=true → k < n

theorem SV.below_c {c:SC} {n:Nat}:(SV.c c).below n ↔ c.below n:=by
  simp only [SV.below,SC.below,SV.uses]
  exact⟨fun h k hk=>h k (SC.uses_iff.2 ⟨k,hk,by simp⟩),fun h k hk=>by obtain ⟨j,hj,hm⟩:=SC.uses_iff.1 hk; simp at hm; subst hm; exact h _ hj⟩

theorem ev_below {e:Env} {x:Operand} {n:Nat} (h:∀ t,x=.tmp t → (e.get t).below n):(ev e x).below n:=by
  cases x with
  | tmp t=>exact h t rfl
  | const v=>intro k hk; simp only [ev] at hk; rw [evC_uses] at hk; cases hk
  | global g=>intro k hk; simp [ev,SV.uses,SC.uses,SC.nms,anyMem] at hk
  | func f=>intro k hk; simp [ev,SV.uses,SC.uses,SC.nms,anyMem] at hk

end Sx
end Go

namespace Go
namespace Sx

def Reads (o:Oper) (t:Nat):Prop:=Operand.tmp t ∈ o.op.operands.toList

structure PureOK (P:Program) (o:Oper) (e:Env) (H:Heap) (sv:SV) (rd:List Nat):Prop where
  below:∀ n,(∀ t,Reads o t → (e.get t).below n) → (∀ k ∈ rd,∀ own q,look H k=some (own,q) → k < n∧q.below n) → sv.below n
  run:∀ (ρ:Asg) (a:Act) (w:World),(∀ t,Reads o t → (e.get t).rel ρ (a.tmps.getD t undef)) →
    (∀ k ∈ rd,∀ own q,look H k=some (own,q) → SatO ρ w k own q) → ∃ v,(execOp a.eval o).run P w=.ok (.value v) w∧sv.rel ρ v

theorem reads_fit {ρ:Asg} {e:Env} {a:Act} {o:Oper} {x:Operand} (hx:x ∈ o.op.operands.toList)
    (h:∀ t,Reads o t → (e.get t).rel ρ (a.tmps.getD t undef)):(ev e x).rel ρ (a.eval x) :=
  ev_rel fun t ht=>h t (by subst ht; exact hx)

theorem reads_below {e:Env} {o:Oper} {x:Operand} {n:Nat} (hx:x ∈ o.op.operands.toList)
    (h:∀ t,Reads o t → (e.get t).below n):(ev e x).below n :=
  ev_below fun t ht=>h t (by subst ht; exact hx)

abbrev PK:=SV → List Nat → Prop

def pickK (e:Env) (c x y:Operand) (K:PK):Prop :=
  match ev e c with
  | .c (.b true)=>K (ev e x) []
  | .c (.b false)=>K (ev e y) []
  | .c (.v (.bool t))=>(t=true → K (ev e x) [])∧(t=false → K (ev e y) [])
  | _=>False

theorem below_lit (n:Nat) (x:Value):(SV.c (.v x)).below n:=by intro k hk; simp [SV.uses,SC.uses,SC.nms,anyMem] at hk
theorem below_b (n:Nat) (x:Bool):(SV.c (.b x)).below n:=by intro k hk; simp [SV.uses,SC.uses,SC.nms,anyMem] at hk

theorem move_ok {P:Program} {o:Oper} {e:Env} {H:Heap} {x:Operand} (ho:o.op=.move x ∨ o.op=.assign x):PureOK P o e H (ev e x) [] where
  below n h _:=reads_below (by rcases ho with ho | ho <;> simp [ho,Op.operands]) h
  run ρ a w h _:=⟨a.eval x,by rcases ho with ho | ho <;> simp [execOp,ho],reads_fit (by rcases ho with ho | ho <;> simp [ho,Op.operands]) h⟩

theorem pick_ok {P:Program} {o:Oper} {e:Env} {H:Heap} {c x y:Operand} {K:PK} (ho:o.op=.pick c x y) (h:pickK e c x y K) :
    ∃ sv rd,K sv rd∧PureOK P o e H sv rd:=by
  have key:∀ t:Bool,(∀ (ρ:Asg) (a:Act) (w:World),(∀ t,Reads o t → (e.get t).rel ρ (a.tmps.getD t undef)) → a.eval c=.bool t) → K (if t then ev e x else ev e y) [] →
      ∃ sv rd,K sv rd∧PureOK P o e H sv rd:=by
    intro t ht hK
    refine⟨_,_,hK, ?_, ?_⟩
    · intro n hn _
      cases t
      · exact reads_below (by simp [ho,Op.operands]) hn
      · exact reads_below (by simp [ho,Op.operands]) hn
    · intro ρ a w hr _
      have hc:=ht ρ a w hr
      cases t
      · exact⟨a.eval y,by simp [execOp,ho,hc,asBool],reads_fit (by simp [ho,Op.operands]) hr⟩
      · exact⟨a.eval x,by simp [execOp,ho,hc,asBool],reads_fit (by simp [ho,Op.operands]) hr⟩
  have hcr:∀ (ρ:Asg) (a:Act),(∀ t,Reads o t → (e.get t).rel ρ (a.tmps.getD t undef)) → (ev e c).rel ρ (a.eval c):=fun ρ a hr=>reads_fit (by simp [ho,Op.operands]) hr
  unfold pickK at h
  split at h
  · rename_i he
    exact key true (fun ρ a w hr=>by have:=hcr ρ a hr; rw [he] at this; exact this) h
  · rename_i he
    exact key false (fun ρ a w hr=>by have:=hcr ρ a hr; rw [he] at this; exact this) h
  · rename_i t he
    refine key t (fun ρ a w hr=>by have:=hcr ρ a hr; rw [he] at this; exact this) ?_
    cases t
    · exact h.2 rfl
    · exact h.1 rfl
  · exact h.elim

def nilK (e:Env) (x:Operand) (K:PK):Prop :=
  match ev e x with
  | .c (.p k i sz off)=>K (.c (.p k i sz off)) []
  | _=>False

theorem nil_ok {P:Program} {o:Oper} {e:Env} {H:Heap} {x:Operand} {K:PK} (ho:o.op=.nilCheck x) (h:nilK e x K) :
    ∃ sv rd,K sv rd∧PureOK P o e H sv rd:=by
  have hx:x ∈ o.op.operands.toList:=by simp [ho,Op.operands]
  unfold nilK at h
  split at h
  · rename_i k i sz off he
    refine⟨_,_,h,fun n hn _=>by rw [← he]; exact reads_below hx hn,fun ρ a w hr _=>?_⟩
    have:=reads_fit hx hr
    rw [he] at this
    exact⟨a.eval x,by simp only [SV.rel,SC.rel] at this; simp [execOp,ho,this],this⟩
  · exact h.elim

def extK (e:Env) (x:Operand) (i:Nat) (K:PK):Prop :=
  match ev e x with
  | .tup l=>match l[i]? with
    | some (.inl c)=>K (.c c) []
    | some (.inr l)=>K (.agg l) []
    | none=>False
  | _=>False

theorem relT_get {ρ:Asg}:∀ {l:List (Sum SC (List SC))} {vs:List Value} {i:Nat} {x:Sum SC (List SC)},relT ρ l vs → l[i]? = some x →
    ∃ v,vs[i]? = some v∧(match x with | .inl c=>SV.c c | .inr l=>SV.agg l).rel ρ v
  | [],_,_,_,_,h=>by simp at h
  | .inl c :: l,v :: vs,0,x,hr,h=>by simp at h; subst h; exact⟨v,by simp,hr.1⟩
  | .inr c :: l,v :: vs,0,x,hr,h=>by simp at h; subst h; exact⟨v,by simp,hr.1⟩
  | .inl c :: l,v :: vs,i+1,x,hr,h=>by
    obtain ⟨u,hu,hx⟩:=relT_get (i:=i) hr.2 (by simpa using h); exact⟨u,by simpa using hu,hx⟩
  | .inr c :: l,v :: vs,i+1,x,hr,h=>by
    obtain ⟨u,hu,hx⟩:=relT_get (i:=i) hr.2 (by simpa using h); exact⟨u,by simpa using hu,hx⟩
  | .inl c :: l,[],_,_,hr,_=>hr.elim
  | .inr c :: l,[],_,_,hr,_=>hr.elim

theorem ext_ok {P:Program} {o:Oper} {e:Env} {H:Heap} {x:Operand} {i:Nat} {K:PK} (ho:o.op=.extract x i) (h:extK e x i K) :
    ∃ sv rd,K sv rd∧PureOK P o e H sv rd:=by
  have hx:x ∈ o.op.operands.toList:=by simp [ho,Op.operands]
  unfold extK at h
  split at h
  · rename_i l he
    have run:∀ y,l[i]? = some y → ∀ (ρ:Asg) (a:Act) (w:World),(∀ t,Reads o t → (e.get t).rel ρ (a.tmps.getD t undef)) →
        ∃ v,(execOp a.eval o).run P w=.ok (.value v) w∧(match y with | .inl c=>SV.c c | .inr l=>SV.agg l).rel ρ v:=by
      intro y hy ρ a w hr
      have:=reads_fit hx hr
      rw [he] at this
      obtain ⟨xs,hv,hrel⟩:=this
      obtain ⟨v,hv',hx'⟩:=relT_get hrel hy
      have hv'':xs[i]? = some v:=by simpa using hv'
      exact⟨v,by simp [execOp,ho,hv,Instr.extract,hv''],hx'⟩
    have bel:∀ y,l[i]? = some y → ∀ n,(∀ t,Reads o t → (e.get t).below n) → (match y with | .inl c=>SV.c c | .inr l=>SV.agg l).below n:=by
      intro y hy n hn k hk
      have hb:=reads_below hx hn
      rw [he] at hb
      refine hb k (usesT_iff.2 ⟨y,List.mem_of_getElem? hy, ?_⟩)
      cases y with
      | inl c=>exact .inl ⟨c,rfl,hk⟩
      | inr c=>exact .inr ⟨c,rfl,hk⟩
    split at h
    · rename_i c hc
      exact⟨_,_,h,fun n hn _=>bel _ hc n hn,fun ρ a w hr _=>run _ hc ρ a w hr⟩
    · rename_i c hc
      exact⟨_,_,h,fun n hn _=>bel _ hc n hn,fun ρ a w hr _=>run _ hc ρ a w hr⟩
    · exact h.elim
  · exact h.elim

def ikEq:IntKind → IntKind → Bool
  | .i8, .i8 | .i16, .i16 | .i32, .i32 | .i64, .i64 | .u8, .u8 | .u16, .u16 | .u32, .u32 | .u64, .u64=>true
  | _,_=>false

theorem ikEq_eq {a b:IntKind} (h:ikEq a b=true):a=b:=by cases a <;> cases b <;> simp [ikEq] at h <;> rfl

abbrev iv (k:IntKind) (z:Int):SV:=.c (.v (.int k z))
abbrev bv (t:Bool):SV:=.c (.v (.bool t))

def bitsV (op:BinOp) (k:IntKind) (x y:Int):Option Int :=
  let a:=BitVec.ofInt k.bits x
  let b:=BitVec.ofInt k.bits y
  match op with
  | .and=>some (k.wrap (a &&& b).toNat)
  | .or=>some (k.wrap (a ||| b).toNat)
  | .xor=>some (k.wrap (a ^^^ b).toNat)
  | .andNot=>some (k.wrap (a &&& ~~~b).toNat)
  | _=>none

def arithK (op:BinOp) (k:IntKind) (x y:Int) (K:PK):Prop :=
  match op with
  | .add=>∃ z,k.wrap (x+y)=z∧K (iv k z) []
  | .sub=>∃ z,k.wrap (x - y)=z∧K (iv k z) []
  | .mul=>∃ z,k.wrap (x * y)=z∧K (iv k z) []
  | .quo=>y ≠ 0∧∃ z,k.wrap (x.tdiv y)=z∧K (iv k z) []
  | .rem=>y ≠ 0∧∃ z,x.tmod y=z∧K (iv k z) []
  | .eql=>K (bv (x == y)) []
  | .neq=>K (bv (x != y)) []
  | .lss=>K (bv (decide (x < y))) []
  | .leq=>K (bv (decide (x≤y))) []
  | .gtr=>K (bv (decide (y < x))) []
  | .geq=>K (bv (decide (y≤x))) []
  | .and=>∃ z,bitsV .and k x y=some z∧K (iv k z) []
  | .or=>∃ z,bitsV .or k x y=some z∧K (iv k z) []
  | .xor=>∃ z,bitsV .xor k x y=some z∧K (iv k z) []
  | .andNot=>∃ z,bitsV .andNot k x y=some z∧K (iv k z) []
  | _=>False

def shiftK (op:BinOp) (k:IntKind) (x y:Int) (K:PK):Prop :=
  match op with
  | .shl=>0≤y∧∃ z,k.wrap (x * 2 ^ (min y.toNat k.bits))=z∧K (iv k z) []
  | .shr=>0≤y∧∃ z,x.fdiv (2 ^ (min y.toNat k.bits))=z∧K (iv k z) []
  | _=>False

def isShift:BinOp → Bool
  | .shl | .shr=>true
  | _=>false

def intOfC:SC → Option Int
  | .v (.int .i64 z)=>some z
  | _=>none

def intsOf:List SC → Option (List Int)
  | []=>some []
  | c :: l=>match intOfC c,intsOf l with
    | some z,some zs=>some (z :: zs)
    | _,_=>none

def lookN:List (Nat × Nat) → Nat → Option Nat
  | [],_=>none
  | (j,o) :: r,k=>bif Nat.beq k j then some o else lookN r k

theorem lookN_mem {L:List (Nat × Nat)} {k n:Nat} (h:lookN L k=some n):(k,n) ∈ L:=by
  induction L with
  | nil=>simp [lookN] at h
  | cons p r ih =>
    obtain ⟨j,o⟩:=p
    simp only [lookN] at h
    cases hb:Nat.beq k j with
    | true=>simp [hb] at h; subst h; rw [Nat.eq_of_beq_eq_true hb]; exact List.mem_cons_self ..
    | false=>simp [hb] at h; exact List.mem_cons_of_mem _ (ih h)

def aggI (l:List Int):Value:=.agg (l.map (Value.int .i64)).toArray

def EqOK (P:Program) (L:List (Nat × Nat)):Prop:=∀ t n,(t,n) ∈ L → ∀ (xs ys:List Int),xs.length=n → ys.length=n → ∀ (w:World) (x y:Operand),
  (eqGuard .eql t x y (aggI xs) (aggI ys)).run P w=.ok () w∧(eqGuard .neq t x y (aggI xs) (aggI ys)).run P w=.ok () w ∧
  (Op.equal t (aggI xs) (aggI ys)).run P w=.ok (xs == ys) w

def sameK:Kd → Value → Bool
  | .bool, .bool _=>true
  | .int k, .int k' _=>ikEq k k'
  | .string, .string _=>true
  | _,_=>false

def allK (k:Kd):List Value → Bool
  | []=>true
  | v :: r=>bif sameK k v then allK k r else false

def beqV:Value → Value → Bool
  | .bool a, .bool b=>a == b
  | .int _ a, .int _ b=>a == b
  | .string a, .string b=>a.toList == b.toList
  | _,_=>false

def beqVs:List Value → List Value → Bool
  | [],[]=>true
  | a :: l,b :: l'=>beqV a b && beqVs l l'
  | _,_=>false

def litOf:SC → Option Value
  | .v x=>some x
  | .b x=>some (.bool x)
  | _=>none

def litsOf:List SC → Option (List Value)
  | []=>some []
  | c :: l=>match litOf c,litsOf l with
    | some z,some zs=>some (z :: zs)
    | _,_=>none

def lookD:List (Nat × Nat × Kd) → Nat → Option (Nat × Kd)
  | [],_=>none
  | (j,o) :: r,k=>bif Nat.beq k j then some o else lookD r k

theorem lookD_mem {L:List (Nat × Nat × Kd)} {k:Nat} {o:Nat × Kd} (h:lookD L k=some o):(k,o) ∈ L:=by
  induction L with
  | nil=>simp [lookD] at h
  | cons p r ih =>
    obtain ⟨j,q⟩:=p
    simp only [lookD] at h
    cases hb:Nat.beq k j with
    | true=>simp [hb] at h; subst h; rw [Nat.eq_of_beq_eq_true hb]; exact List.mem_cons_self ..
    | false=>simp [hb] at h; exact List.mem_cons_of_mem _ (ih h)

def EqVOK (P:Program) (L:List (Nat × Nat × Kd)):Prop:=∀ t n k,(t,n,k) ∈ L → ∀ (xs ys:List Value),xs.length=n → ys.length=n → allK k xs=true → allK k ys=true → ∀ (w:World) (x y:Operand),
  (eqGuard .eql t x y (.agg xs.toArray) (.agg ys.toArray)).run P w=.ok () w∧(eqGuard .neq t x y (.agg xs.toArray) (.agg ys.toArray)).run P w=.ok () w ∧
  (Op.equal t (.agg xs.toArray) (.agg ys.toArray)).run P w=.ok (beqVs xs ys) w

theorem eqVOK_nil {P:Program}:EqVOK P []:=by intro t n k h; cases h

structure Tabs where
  T:List (Nat × TI)
  E:List (Nat × Nat)
  D:List (Nat × Nat × Kd)

def fieldsIn (B:Tabs):List (Nat × TypeId) → Bool
  | []=>true
  | (_,t) :: r=>match lookT B.T t with
    | some _=>fieldsIn B r
    | none=>false

def allFields (B:Tabs):List (Nat × TI) → Bool
  | []=>true
  | (_,⟨.struct fs,_,_,_⟩) :: r=>bif fieldsIn B fs then allFields B r else false
  | (_,_) :: r=>allFields B r

def zszB:List (Nat × TI) → Bool
  | []=>true
  | (_,ti) :: r=>bif Nat.beq ti.zero.length ti.size then zszB r else false

structure TabsOK (P:Program) (B:Tabs):Prop where
  T:TabOK P B.T
  Z:zszB B.T=true
  F:allFields B B.T=true
  E:EqOK P B.E
  D:EqVOK P B.D
  mixed:P.follows .mixedOrders=true

def eqAggK (B:Tabs) (op:BinOp) (t:TypeId) (l l':List SC) (K:PK):Prop :=
  match lookN B.E t,intsOf l,intsOf l' with
  | some n,some xs,some ys=>bif Nat.beq xs.length n && Nat.beq ys.length n then (match op with
      | .eql=>K (bv (xs == ys)) []
      | .neq=>K (bv (xs != ys)) []
      | _=>False) else False
  | _,_,_=>False

def eqVK (op:BinOp) (n:Nat) (k:Kd) (l l':List SC) (K:PK):Prop :=
  match litsOf l,litsOf l' with
  | some xs,some ys=>bif (Nat.beq xs.length n && Nat.beq ys.length n) && (allK k xs && allK k ys) then (match op with
      | .eql=>K (bv (beqVs xs ys)) []
      | .neq=>K (bv (!beqVs xs ys)) []
      | _=>False) else False
  | _,_=>False

def binK (B:Tabs) (op:BinOp) (t:TypeId) (x y:SV) (K:PK):Prop :=
  match x,y with
  | .c (.v (.int k a)), .c (.v (.int k' b))=>bif isShift op then shiftK op k a b K else bif ikEq k k' then arithK op k a b K else False
  | .c (.p _ _ _ _), .c (.v (.pointer none))=>(match op,lookT B.T t with
      | .eql,some ⟨.ptr _,_,_,_⟩=>K (.c (.b false)) []
      | .neq,some ⟨.ptr _,_,_,_⟩=>K (.c (.b true)) []
      | _,_=>False)
  | .c (.v (.pointer none)), .c (.v (.pointer none))=>(match op,lookT B.T t with
      | .eql,some ⟨.ptr _,_,_,_⟩=>K (.c (.b true)) []
      | .neq,some ⟨.ptr _,_,_,_⟩=>K (.c (.b false)) []
      | _,_=>False)
  | .c (.s _ _ len _), .c (.v (.slice none 0 0))=>(match op,lookT B.T t with
      | .eql,some ⟨.slice _,_,_,_⟩=>(len=0 → K (.c .any) [])∧(0 < len → K (.c (.b false)) [])
      | .neq,some ⟨.slice _,_,_,_⟩=>(len=0 → K (.c .any) [])∧(0 < len → K (.c (.b true)) [])
      | _,_=>False)
  | .c (.v (.bool a)), .c (.v (.bool b))=>boolK op t a b K
  | .c (.v (.bool a)), .c (.b b)=>boolK op t a b K
  | .c (.b a), .c (.v (.bool b))=>boolK op t a b K
  | .c (.b a), .c (.b b)=>boolK op t a b K
  | .agg l, .agg l'=>(match lookD B.D t with
      | some (n,k)=>eqVK op n k l l' K
      | none=>eqAggK B op t l l' K)
  | _,_=>False
where
  boolK (op:BinOp) (t:TypeId) (a b:Bool) (K:PK):Prop :=
    match op,lookT B.T t with
      | .eql,some ⟨.bool,_,_,_⟩=>K (bv (a == b)) []
      | .neq,some ⟨.bool,_,_,_⟩=>K (bv (a != b)) []
      | _,_=>False

theorem zszB_get:∀ {T:List (Nat × TI)} {t:Nat} {ti:TI},zszB T=true → lookT T t=some ti → ti.zero.length=ti.size
  | [],_,_,_,h=>by simp [lookT] at h
  | (j,o) :: r,t,ti,hz,h=>by
    simp only [zszB] at hz
    cases hb:Nat.beq o.zero.length o.size with
    | false=>simp [hb] at hz
    | true =>
      simp only [hb,cond_true] at hz
      simp only [lookT] at h
      cases hc:Nat.beq t j with
      | true=>simp [hc] at h; subst h; exact Nat.eq_of_beq_eq_true hb
      | false=>simp [hc] at h; exact zszB_get hz h

theorem TabsOK.zsz {P:Program} {B:Tabs} (hB:TabsOK P B) (t:Nat) (ti:TI) (h:lookT B.T t=some ti):ti.zero.length=ti.size:=zszB_get hB.Z h

end Sx
end Go

