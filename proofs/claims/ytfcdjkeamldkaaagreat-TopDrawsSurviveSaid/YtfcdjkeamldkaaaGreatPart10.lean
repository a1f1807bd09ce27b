/-
  A part of the proof that a law answers true: lemmas of a symbolic walk, plain functions, or contracts of the functions walked (Sx52, Sx42, Pm1, Pm2, Tz, Pm31, U1, Sx30, Sx53). Conditions: none.
-/
import Derived.Test.YtfcdjkeamldkaaaGreatPart09
import Derived.Test.YtfcdjkeamldkaaaGreatProg
import Derived.KernelRfl
import Derived.Test.YtfcdjkeamldkaaaGreatPart07
set_option maxRecDepth 100000
set_option linter.unusedVariables false
set_option linter.unusedSimpArgs false
namespace Go
namespace Sx

def bytesV (l:List UInt8):List Value:=l.map fun b=>Value.int .u8 b.toNat
def arrV (l:List UInt8):Value:=.agg (bytesV l).toArray
abbrev arrS (l:List UInt8):SV:=.c (.v (arrV l))
def bytesC (l:List UInt8):List SC:=l.map fun b=>SC.v (Value.int .u8 b.toNat)

theorem bytesC_length (l:List UInt8):(bytesC l).length=l.length:=List.length_map _
theorem bytesV_length (l:List UInt8):(bytesV l).length=l.length:=List.length_map _
theorem bytesC_rel (ρ:Asg):∀ l,relL ρ (bytesC l) (bytesV l)
  | []=>trivial
  | _ :: l=>⟨rfl,bytesC_rel ρ l⟩
theorem bytesV_one {l:List UInt8}:∀ u ∈ bytesV l,(∀ xs,u ≠ .agg xs)∧(∀ xs,u ≠ .tuple xs):=by
  intro u hu
  obtain ⟨b,_,rfl⟩:=List.mem_map.1 hu
  simp
theorem bytesV_replicate (n:Nat):bytesV (List.replicate n 0)=List.replicate n (.int .u8 0):=by
  simp [bytesV]

theorem aU8_cell {fx:Option Nat} {l:List UInt8} {i j:Nat} {c:SC}:(SO.arr (aU8 fx l)).cell? i j=some c ↔ ∃ h:i < l.length,j=0∧c=.v (.int .u8 (l[i]'h).toNat):=by
  rw [arr_cell?]
  show (l[i]?).bind (fun x=>[SC.v (.int .u8 x.toNat)][j]?)=some c ↔ _
  constructor
  · intro h
    cases hx:l[i]? with
    | none=>rw [hx] at h; cases h
    | some x =>
      rw [hx] at h
      obtain ⟨hi,rfl⟩:=List.getElem?_eq_some_iff.1 hx
      cases j with
      | zero=>simp at h; exact⟨hi,rfl,h.symm⟩
      | succ j=>simp at h
  · rintro ⟨h,rfl,rfl⟩
    rw [List.getElem?_eq_getElem h]; rfl

theorem bytesV_get {l:List UInt8} {i:Nat} (h:i < l.length):(bytesV l)[i]? = some (.int .u8 (l[i]'h).toNat):=by
  simp [bytesV,h]

theorem satO_newU8 {ρ:Asg} {w:World} {k:Nat} {l:List UInt8} {t:TypeId} :
    SatO (upd ρ k ⟨w.heap.size,0,l.length,[]⟩) (push w (.cells (bytesV l).toArray t (0,0))) k true (.arr (aU8 (some l.length) l)):=by
  refine satO_new_arr (Nat.le_refl _) (by simp [bytesV_length,aU8]) ?_ (by intro n h; exact Option.some.inj h)
  intro i x hx j d hd
  have hx:l[i]? = some x:=hx
  obtain ⟨hi,rfl⟩:=List.getElem?_eq_some_iff.1 hx
  have hd:[SC.v (.int .u8 (l[i]).toNat)][j]? = some d:=hd
  cases j with
  | succ j=>simp at hd
  | zero =>
    simp at hd; subst hd
    refine⟨_, ?_,rfl⟩
    show (bytesV l).toArray[i * 1+0]? = _
    rw [Nat.mul_one,Nat.add_zero,List.getElem?_toArray,bytesV_get hi]

section
variable {cx:Cx} {B:Tabs} {o:Oper} {e:Env} {H:Heap} {nx:Nat} {K:Eff → Prop}

theorem new_step {so:SO} {sv:SV} (hl:LocalOK cx o e H ⟨sv,[],[(nx,true,so)],[nx]⟩) (hK:K ⟨sv,[],[(nx,true,so)],[nx]⟩):∃ f,CallOK cx o e H nx f∧K f :=
  ⟨_,⟨hl,fun k hk=>by simp at hk; subst hk; simp⟩,hK⟩

theorem aU8_below (fx:Option Nat) (l:List UInt8) (n:Nat):(SO.arr (aU8 fx l)).below n:=fun j hj=>by
  simp [SO.uses,aU8,anyMem] at hj

theorem allocA_step (hB:TabsOK cx.P B) {t:TypeId} {ti:TI} (n:Nat) (ho:o.op=.alloc t) (ht:lookT B.T t=some ti) (hz:ti.zero=List.replicate n (.int .u8 0))
    (hK:K ⟨.c (.p nx 0 1 0),[],[(nx,true, .arr (aU8 (some n) (List.replicate n 0)))],[nx]⟩):∃ f,CallOK cx o e H nx f∧K f:=by
  refine new_step (loc_new (by simp [ho]) below_p (fun m _=>aU8_below _ _ m) ?_) hK
  intro ρ a w _ _
  obtain ⟨z,hzr,hzz⟩:=run_zero w (hB.T.get ht)
  have hzc:z.cells=(bytesV (List.replicate n 0)).toArray:=by
    rw [bytesV_replicate,← hz,← hzz]
  refine⟨.pointer (some (adr (upd ρ nx ⟨w.heap.size,0,n,[]⟩) nx 0)), .cells z.cells t (0,0),n, ?_, ?_, ?_⟩
  · simp [execOp,ho,Instr.alloc,hzr,newVar,newRow,newObj,Sem.run,adr,upd_eq,push]
  · simp [SV.rel,SC.rel]
  · have:=satO_newU8 (ρ:=ρ) (w:=w) (k:=nx) (l:=List.replicate n 0) (t:=t)
    rw [List.length_replicate] at this
    rw [hzc]; exact this

theorem boxA_step {t:TypeId} {x:Operand} {l:List UInt8} (ho:o.op=.box t x) (hx:ev e x=arrS l)
    (hK:K ⟨.c (.p nx 0 1 0),[],[(nx,true, .arr (aU8 (some l.length) l))],[nx]⟩):∃ f,CallOK cx o e H nx f∧K f:=by
  refine new_step (loc_new (by simp [ho]) below_p (fun m _=>aU8_below _ _ m) ?_) hK
  intro ρ a w hr _
  have h1:=lit_of (x:=x) (by simp [ho,Op.operands]) hx hr
  refine⟨.pointer (some (adr (upd ρ nx ⟨w.heap.size,0,l.length,[]⟩) nx 0)), .cells (bytesV l).toArray t (0,0),l.length, ?_, ?_,satO_newU8⟩
  · simp [execOp,ho,h1,arrV,Value.cells,Instr.box,newVar,newRow,newObj,Sem.run,adr,upd_eq,push]
  · simp [SV.rel,SC.rel]

theorem loadA_gen (hB:TabsOK cx.P B) {t:TypeId} {ti:TI} {x:Operand} {k i sz off:Nat} {own:Bool} {so:SO} (l:List UInt8) (ho:o.op=.load t x) (ht:lookT B.T t=some ti)
    (hag:ti.kd.isAgg=true) (hx:ev e x=.c (.p k i sz off)) (hl:look H k=some (own,so)) (hn:ti.size=l.length) (hsz:so.sz=sz ∨ i=0)
    (hc:∀ j (h:j < l.length),∃ i' j',i' * so.sz+j'=i * so.sz+off+j∧so.cell? i' j'=some (.v (.int .u8 (l[j]'h).toNat)))
    (hK:K ⟨arrS l,[k],[],[]⟩):∃ f,CallOK cx o e H nx f∧K f:=by
  refine pure_step (by simp [ho]) ⟨fun n _ _=>below_lit n _, ?_⟩ hK
  intro ρ a w hr hreg
  have hso:=hreg k (by simp) own so hl
  have h1:=reads_fit (x:=x) (by simp [ho,Op.operands]) hr
  rw [hx] at h1; simp only [SV.rel,SC.rel] at h1
  have hoff:i * sz+off=i * so.sz+off:=by rcases hsz with h | h <;> simp [h]
  refine⟨arrV l, ?_,rfl⟩
  have hcells:∀ (j:Nat) v,(bytesV l)[j]? = some v → w.cell? ((adr ρ k (i * sz+off)).add j)=some v:=by
    intro j v hv
    obtain ⟨hj,rfl⟩:=List.getElem?_eq_some_iff.1 hv
    have hj':j < l.length:=by rw [bytesV_length] at hj; exact hj
    obtain ⟨i',j',he,hcc⟩:=hc j hj'
    obtain ⟨v',hv',hrel⟩:=hso.at_ i' j' _ hcc
    have hrel:v'=.int .u8 (l[j]).toNat:=hrel
    rw [adr_add,hoff,← he,hv',hrel]
    simp [bytesV]
  have hload:=run_loadCells (P:=cx.P) hcells
  have hsize:=run_sizeOf hB ht w
  have hagg:=run_isAgg w (hB.T.get ht)
  rw [hag] at hagg
  have hln:(bytesV l).length=ti.size:=by rw [bytesV_length,hn]
  rw [hln] at hload
  simp [execOp,ho,h1,Instr.loadAt,Instr.sureAddr,loadVar,hagg,hsize,hload,arrV]

theorem loadA_step (hB:TabsOK cx.P B) {t:TypeId} {ti:TI} {x:Operand} {k:Nat} {own:Bool} {fx:Option Nat} {l:List UInt8} (ho:o.op=.load t x) (ht:lookT B.T t=some ti)
    (hag:ti.kd.isAgg=true) (hx:ev e x=.c (.p k 0 1 0)) (hl:look H k=some (own, .arr (aU8 fx l))) (hn:ti.size=l.length)
    (hK:K ⟨arrS l,[k],[],[]⟩):∃ f,CallOK cx o e H nx f∧K f :=
  loadA_gen hB l ho ht hag hx hl hn (.inr rfl) (fun j h=>⟨j,0,by show j * 1+0=0 * 1+0+j; omega,aU8_cell.2 ⟨h,rfl,rfl⟩⟩) hK

theorem arrS_cells {ρ:Asg} {l:List UInt8} {v:Value} (h:(arrS l).rel ρ v):relL ρ (bytesC l) v.cells.toList∧∀ u ∈ v.cells.toList,(∀ xs,u ≠ .agg xs)∧(∀ xs,u ≠ .tuple xs):=by
  have h:v=arrV l:=h
  subst h
  exact⟨bytesC_rel ρ l,bytesV_one⟩

theorem bytesC_get {l:List UInt8} {i:Nat} {c:SC}:(bytesC l)[i]? = some c ↔ ∃ h:i < l.length,c=.v (.int .u8 (l[i]'h).toNat):=by
  constructor
  · intro h
    obtain ⟨hi,rfl⟩:=List.getElem?_eq_some_iff.1 h
    have hi':i < l.length:=by rw [bytesC_length] at hi; exact hi
    exact⟨hi',by simp [bytesC]⟩
  · rintro ⟨h,rfl⟩
    simp [bytesC,h]

theorem storeA_step (hB:TabsOK cx.P B) {t:TypeId} {ti:TI} {x y:Operand} {k:Nat} {fx:Option Nat} {l l':List UInt8} (ho:o.op=.store t x y) (ht:lookT B.T t=some ti)
    (hx:ev e x=.c (.p k 0 1 0)) (hy:ev e y=arrS l') (hl:look H k=some (true, .arr (aU8 fx l))) (hn:ti.size=l.length) (hn':l'.length=l.length) (hp:1≤ti.size)
    (hK:K ⟨.c .junk,[k],[(k,true, .arr (aU8 fx l'))],[]⟩):∃ f,CallOK cx o e H nx f∧K f:=by
  have hloc:=store_key (cx:=cx) (e:=e) (H:=H) (i:=0) (off:=0) (sz:=1) (new:=bytesC l') hB ho hx ht (by rw [bytesC_length,hn',hn]) hp (fun ρ v hv=>by rw [hy] at hv; exact arrS_cells hv)
    (.arr (aU8 fx l)) (.arr (aU8 fx l')) (bytesC l') (fun _ _ h=>h) hl (by simp) rfl ?_ ?_ rfl rfl rfl (.inr rfl) ?_ (by simp) rfl ?_ ?_
  · exact⟨_,⟨hloc,fun k hk=>by cases hk⟩,hK⟩
  · intro ρ hw
    have hw:l.length≤(ρ k).cap:=hw
    rw [bytesC_length]
    show 0 * 1+0+l'.length≤(ρ k).cap * 1
    omega
  · intro r; rfl
  · intro r hw
    have hw:l.length≤r.cap:=hw
    show l'.length≤r.cap
    omega
  · intro r _ i' j c hc
    obtain ⟨hi,rfl,rfl⟩:=aU8_cell.1 hc
    refine .inr ⟨Nat.zero_le _, ?_, ?_⟩
    · rw [bytesC_length]; show i' * 1+0 < 0 * 1+0+l'.length; omega
    · show (bytesC l')[i' * 1+0 - (0 * 1+0)]? = _
      rw [show i' * 1+0 - (0 * 1+0)=i' from by omega]
      exact bytesC_get.2 ⟨hi,rfl⟩
  · intro n _ _; exact aU8_below _ _ _

theorem arrT_und {P:Program} (hB:TabsOK P B) {t el:TypeId} {n s b:Nat} {z:List Value} (h:lookT B.T t=some ⟨.array n el,s,b,z⟩) (w:World):(underlying t).run P w=.ok (.array n el) w:=by
  obtain ⟨d,hd,hk⟩:=run_und_kd hB.T h w
  rw [hd,kd_array hk]

theorem iaA_step (hB:TabsOK cx.P B) {t el:TypeId} {x y:Operand} {k n:Nat} {ik:IntKind} {i:Int} {s0 b0:Nat} {z0:List Value} {ti:TI} (ho:o.op=.indexAddr t x y) (ht:lookT B.T t=some ⟨.array n el,s0,b0,z0⟩)
    (hel:lookT B.T el=some ti) (h1:ti.size=1) (hx:ev e x=.c (.p k 0 1 0)) (hy:ev e y=iv ik i) (j:Nat) (hj:i=(j:Int)) (hlt:j < n) (hK:K ⟨.c (.p k j 1 0),[],[],[]⟩):∃ f,CallOK cx o e H nx f∧K f:=by
  refine pure_step (by simp [ho]) ⟨fun m hm _=>?_,fun ρ a w hr _=>⟨.pointer (some (adr ρ k (j * 1+0))), ?_, ?_⟩⟩ hK
  rotate_right
  · rfl
  · have:=reads_below (x:=x) (by simp [ho,Op.operands]) hm
    rw [hx,SV.below_c] at this
    rw [SV.below_c]; exact this
  · have e1:=reads_fit (x:=x) (by simp [ho,Op.operands]) hr
    rw [hx] at e1; simp only [SV.rel,SC.rel] at e1
    have e2:=lit_of (x:=y) (by simp [ho,Op.operands]) hy hr
    have hu:=arrT_und hB ht w
    have hsz:=run_sizeOf hB hel w
    subst hj
    simp [execOp,ho,e1,e2,Instr.indexAt,asIntOf,hu,hlt,hsz,Instr.sureAddr,adr_add,h1]

theorem idxA_step (hB:TabsOK cx.P B) {t el:TypeId} {x y:Operand} {l:List UInt8} {n:Nat} {ik:IntKind} {i:Int} {s0 b0:Nat} {z0:List Value} {ti:TI} (ho:o.op=.index t x y) (ht:lookT B.T t=some ⟨.array n el,s0,b0,z0⟩)
    (hel:lookT B.T el=some ti) (h1:ti.size=1) (hag:ti.kd.isAgg=false) (hx:ev e x=arrS l) (hy:ev e y=iv ik i) (j:Nat) (hj:i=(j:Int)) (hn:l.length=n) (hlt:j < l.length) (hK:K ⟨iv .u8 ((l[j]'hlt).toNat:Nat),[],[],[]⟩):∃ f,CallOK cx o e H nx f∧K f:=by
  refine pure_step (by simp [ho]) (pureLit (fun n=>below_iv n _ _) fun ρ a w hr=>⟨_, ?_,rfl⟩) hK
  have e1:=lit_of (x:=x) (by simp [ho,Op.operands]) hx hr
  have e2:=lit_of (x:=y) (by simp [ho,Op.operands]) hy hr
  have hu:=arrT_und hB ht w
  have hsz:=run_sizeOf hB hel w
  have hagg:=run_isAgg w (hB.T.get hel)
  rw [hag] at hagg
  subst hj
  have hlt':j < n:=by omega
  have hg:=bytesV_get hlt
  simp [execOp,ho,e1,e2,arrV,Instr.index,asIntOf,hu,hsz,h1,hlt',part,hagg,hg]

theorem slA_step (hB:TabsOK cx.P B) {t el:TypeId} {x:Operand} {lo hi:Option Operand} {k n:Nat} {own:Bool} {l:List UInt8} {s0 b0:Nat} {z0:List Value} {ti:TI} (ho:o.op=.slice t x lo hi none) (ht:lookT B.T t=some ⟨.array n el,s0,b0,z0⟩)
    (hel:lookT B.T el=some ti) (h1:ti.size=1) (hx:ev e x=.c (.p k 0 1 0)) (hl:look H k=some (own, .arr (aU8 (some n) l)))
    (h:bndK e hi n fun j=>j≤n∧bndK e lo 0 fun i=>i≤j∧K ⟨.c (.s k i (subN j i) 1),[k],[],[]⟩):∃ f,CallOK cx o e H nx f∧K f:=by
  have hlo:∀ y,lo=some y → y ∈ o.op.operands.toList:=fun y hy=>by simp [ho,Op.operands,hy]
  have hhi:∀ y,hi=some y → y ∈ o.op.operands.toList:=fun y hy=>by simp [ho,Op.operands,hy]
  obtain ⟨j,⟨hj,h⟩,jd,jy⟩:=bnd_ok (P:=cx.P) (lim:=0) hhi h
  obtain ⟨i,⟨hi',hK⟩,id,iy⟩:=bnd_ok (P:=cx.P) (lim:=0) hlo h
  refine pure_step (by simp [ho]) ⟨fun m hm _=>?_,fun ρ a w hr hreg=>?_⟩ hK
  · have:=reads_below (x:=x) (by simp [ho,Op.operands]) hm
    rw [hx,SV.below_c] at this
    rw [SV.below_c]; exact this
  · have e1:=reads_fit (x:=x) (by simp [ho,Op.operands]) hr
    rw [hx] at e1; simp only [SV.rel,SC.rel] at e1
    have hu:=arrT_und hB ht w
    have hsz:=run_sizeOf hB hel w
    have hcap:(ρ k).cap=n:=(hreg k (by simp) own _ hl).fixd n rfl
    have hb:(Instr.sliceBounds false n n (lo.map a.eval) (hi.map a.eval) none).run cx.P w=.ok (i,j,n) w:=by
      cases lo with
      | none =>
        have:=id rfl; subst this
        cases hi with
        | none=>have:=jd rfl; subst this; simp [Instr.sliceBounds]
        | some y=>obtain ⟨k,hk⟩:=jy y rfl ρ a hr; simp [Instr.sliceBounds,Instr.sliceBound,hk,asIntOf,hj]
      | some u =>
        obtain ⟨k',hk'⟩:=iy u rfl ρ a hr
        cases hi with
        | none=>have:=jd rfl; subst this; simp [Instr.sliceBounds,Instr.sliceBound,hk',asIntOf,hi']
        | some y=>obtain ⟨k,hk⟩:=jy y rfl ρ a hr; simp [Instr.sliceBounds,Instr.sliceBound,hk,hk',asIntOf,hj,hi']
    refine⟨.slice (some (if n=i then adr ρ k 0 else (adr ρ k 0).add (i * 1))) (j - i) (n - i), ?_, ?_⟩
    · simp [execOp,ho,e1,Instr.sliceAt,hu,Instr.sureAddr,hb,hsz,h1]
    · simp only [SV.rel,SC.rel,subN_eq]
      refine⟨_,by rw [hcap],by omega,fun hlt=>?_⟩
      rw [if_neg (by omega),adr_add,Nat.zero_add]

theorem buildA_step (hB:TabsOK cx.P B) {t el:TypeId} {n s0 b0:Nat} {z0:List Value} {ti:TI} (ho:o.op=.build t #[]) (ht:lookT B.T t=some ⟨.array n el,s0,b0,z0⟩) (hel:lookT B.T el=some ti) (hz:z0=List.replicate n (.int .u8 0))
    (hK:K ⟨arrS (List.replicate n 0),[],[],[]⟩):∃ f,CallOK cx o e H nx f∧K f:=by
  refine pure_step (by simp [ho]) (pureLit (fun n=>below_lit n _) fun ρ a w hr=>⟨_, ?_,rfl⟩) hK
  obtain ⟨z,hzr,hzz⟩:=run_zero w (hB.T.get ht)
  have hu:=arrT_und hB ht w
  have hsz:=run_sizeOf hB hel w
  have hzc:z.cells=(bytesV (List.replicate n 0)).toArray:=by
    rw [bytesV_replicate,← hz,show z0=z.cells.toList from hzz.symm]
  simp [execOp,ho,Instr.build,hzr,hu,hsz,Instr.fill,arrV,hzc]

theorem b2s_step (hB:TabsOK cx.P B) {s d el:TypeId} {x:Operand} {k st m:Nat} {own:Bool} {fx:Option Nat} {l:List UInt8} {s0 b0 s1 b1 s2 b2:Nat} {z0 z1 z2:List Value} (ho:o.op=.convert s d x)
    (hs:lookT B.T s=some ⟨.slice el,s0,b0,z0⟩) (hd:lookT B.T d=some ⟨.string,s1,b1,z1⟩) (hel:lookT B.T el=some ⟨.int .u8,s2,b2,z2⟩)
    (hx:ev e x=.c (.s k st m 1)) (hl:look H k=some (own, .arr (aU8 fx l))) (hle:st+m≤l.length)
    (hK:K ⟨strV ((l.drop st).take m),[k],[],[]⟩):∃ f,CallOK cx o e H nx f∧K f:=by
  refine pure_step (by simp [ho]) ⟨fun n _ _=>below_lit n _,fun ρ a w hr hreg=>⟨_, ?_,rfl⟩⟩ hK
  have e1:=reads_fit (x:=x) (by simp [ho,Op.operands]) hr
  rw [hx] at e1
  obtain ⟨ad,hv,hcap,had⟩:=e1
  have hso:=hreg k (by simp) own _ hl
  obtain ⟨ds,hds,hks⟩:=run_und_kd hB.T hs w
  have:=kd_slice hks; subst this
  obtain ⟨de,hde,hke⟩:=run_und_kd hB.T hel w
  have:=kd_int hke; subst this
  have hdu:=strT_und hB hd w
  have hconv:(convert s d (.slice ad m ((ρ k).cap - st))).run cx.P w=(Conv.bytesToString (.slice ad m ((ρ k).cap - st))).run cx.P w:=by
    simp [convert,hds,hdu,hde]
  have hrun:(Conv.bytesToString (.slice ad m ((ρ k).cap - st))).run cx.P w=.ok (.string (S ((l.drop st).take m))) w:=by
    cases ad with
    | none =>
      have hm:m=0:=by
        refine Nat.eq_zero_of_not_pos fun hp=>?_
        have:=had (by omega)
        cases this
      subst hm
      simp [Conv.bytesToString,S]
      rfl
    | some a0 =>
      have hfold:∀ (ns:List UInt8) (r:ByteArray),(ns.map fun b=>(b.toNat:Int)).foldl (fun r n=>r.push (UInt8.ofNat n.toNat)) r=⟨r.data ++ ns.toArray⟩:=by
        intro ns
        induction ns with
        | nil=>intro r; simp
        | cons b ns ih =>
          intro r
          simp only [List.map_cons,List.foldl_cons]
          rw [ih]
          simp [ByteArray.push]
      have hload:(loadCells a0 m).run cx.P w=.ok ((((l.drop st).take m).map fun b=>(b.toNat:Int)).map (Value.int .u8)).toArray w:=by
        have hlen:(bytesV ((l.drop st).take m)).length=m:=by rw [bytesV_length,List.length_take,List.length_drop]; omega
        have:=run_loadCells (P:=cx.P) (w:=w) (a:=a0) (vs:=bytesV ((l.drop st).take m)) (fun j v hv=>by
          obtain ⟨hj,rfl⟩:=List.getElem?_eq_some_iff.1 hv
          have hj':j < m:=by rw [hlen] at hj; exact hj
          have hc:st < (ρ k).cap:=by
            have hw:l.length≤(ρ k).cap:=hso.wf
            omega
          have:=had hc
          cases this
          obtain ⟨v',hv',hrel⟩:=hso.at_ (st+j) 0 _ (aU8_cell.2 ⟨by omega,rfl,rfl⟩)
          have hrel:v'=.int .u8 (l[st+j]).toNat:=hrel
          rw [adr_add]
          have hv2:w.cell? (adr ρ k ((st+j) * 1+0))=some v':=hv'
          rw [show st * 1+j=(st+j) * 1+0 from by omega,hv2,hrel]
          simp [bytesV])
        rw [hlen] at this
        rw [this]
        simp [bytesV,Function.comp_def]
      rw [run_bytesToString w a0 m _ _ hload,hfold]
      simp [S]
  simp only [execOp,ho,hv,Sem.run_bind,hconv,hrun,Result.andThen_ok,Sem.run_pure]

end

end Sx
end Go

namespace Go
namespace Sx

end Sx
end Go

/-
  The plain functions that the program's functions of chapter 3 compute,part 1: links,places,relaxing arcs. Conditions: none; definitions and plain lemmas.
-/
namespace Go
namespace Proofs

def withinF (n lo hi:Int):Bool:=decide (lo≤n) && decide (n≤hi)

end Proofs
end Go

/-
  Plain lemmas,part 2: what slices.IndexFunc and slices.DeleteFunc compute. Conditions: none.
-/
namespace Go
namespace Proofs

theorem take_snoc {α:Type} {xs:List α} {i:Nat} (h:i < xs.length):xs.take (i+1)=xs.take i ++ [xs[i]]:=by
  rw [List.take_succ_eq_append_getElem h]

theorem app1 {α:Type} {xs:List α} {x:α}:List.take xs.length xs ++ List.take 1 (List.drop 0 [x])=xs ++ [x]:=by rw [List.take_length]; rfl
end Proofs
end Go

namespace Go.Proofs
open Go.Sx

def tT:List (Nat × TI):=[
 (3,⟨.int .i64,1,8,[.int .i64 0]⟩),
 (4,⟨.bool,1,1,[.bool false]⟩),
 (5,⟨.int .u8,1,1,[.int .u8 0]⟩),
 (9,⟨.string,1,16,[.string (ByteArray.mk #[])]⟩),
 (22,⟨.slice 74,1,24,[.slice none 0 0]⟩),
 (24,⟨.struct [(0,3),(1,9),(2,22)],3,48,[.int .i64 0, .string (ByteArray.mk #[]), .slice none 0 0]⟩),
 (26,⟨.struct [(0,24),(3,3)],4,56,[.int .i64 0, .string (ByteArray.mk #[]), .slice none 0 0, .int .i64 0]⟩),
 (28,⟨.struct [(0,9),(1,9)],2,32,[.string (ByteArray.mk #[]), .string (ByteArray.mk #[])]⟩),
 (29,⟨.slice 3,1,24,[.slice none 0 0]⟩),
 (30,⟨.int .i64,1,8,[.int .i64 0]⟩),
 (33,⟨.slice 9,1,24,[.slice none 0 0]⟩),
 (35,⟨.array 16 5,16,16,[.int .u8 0, .int .u8 0, .int .u8 0, .int .u8 0, .int .u8 0, .int .u8 0, .int .u8 0, .int .u8 0, .int .u8 0, .int .u8 0, .int .u8 0, .int .u8 0, .int .u8 0, .int .u8 0, .int .u8 0, .int .u8 0]⟩),
 (45,⟨.slice 47,1,24,[.slice none 0 0]⟩),
 (47,⟨.struct [(0,3),(1,3),(2,3)],3,24,[.int .i64 0, .int .i64 0, .int .i64 0]⟩),
 (52,⟨.slice 29,1,24,[.slice none 0 0]⟩),
 (53,⟨.slice 64,1,24,[.slice none 0 0]⟩),
 (57,⟨.ptr 124,1,8,[.pointer none]⟩),
 (62,⟨.struct [(0,3),(1,3)],2,16,[.int .i64 0, .int .i64 0]⟩),
 (64,⟨.struct [(0,3),(1,3),(2,3),(3,62),(5,3)],6,48,[.int .i64 0, .int .i64 0, .int .i64 0, .int .i64 0, .int .i64 0, .int .i64 0]⟩),
 (65,⟨.slice 62,1,24,[.slice none 0 0]⟩),
 (68,⟨.struct [(0,3),(1,3),(2,3),(3,3),(4,3)],5,40,[.int .i64 0, .int .i64 0, .int .i64 0, .int .i64 0, .int .i64 0]⟩),
 (74,⟨.struct [(0,3),(1,3)],2,16,[.int .i64 0, .int .i64 0]⟩),
 (79,⟨.func,1,8,[.nilFunc]⟩),
 (84,⟨.ptr 151,1,8,[.pointer none]⟩),
 (88,⟨.ptr 164,1,8,[.pointer none]⟩),
 (91,⟨.ptr 98,1,8,[.pointer none]⟩),
 (94,⟨.ptr 234,1,8,[.pointer none]⟩),
 (95,⟨.ptr 243,1,8,[.pointer none]⟩),
 (96,⟨.map 9 9,1,8,[.map none]⟩),
 (98,⟨.struct [(0,94),(1,95),(2,3),(3,96),(4,96),(5,4)],6,48,[.pointer none, .pointer none, .int .i64 0, .map none, .map none, .bool false]⟩),
 (104,⟨.int .u64,1,8,[.int .u64 0]⟩),
 (105,⟨.ptr 189,1,8,[.pointer none]⟩),
 (117,⟨.ptr 200,1,8,[.pointer none]⟩),
 (120,⟨.map 62 3,1,8,[.map none]⟩),
 (121,⟨.slice 125,1,24,[.slice none 0 0]⟩),
 (122,⟨.slice 130,1,24,[.slice none 0 0]⟩),
 (124,⟨.struct [(0,117),(1,121),(2,3),(3,122),(4,3),(5,120)],6,80,[.pointer none, .slice none 0 0, .int .i64 0, .slice none 0 0, .int .i64 0, .map none]⟩),
 (125,⟨.ptr 210,1,8,[.pointer none]⟩),
 (130,⟨.struct [(0,3),(1,3),(2,3),(3,62),(5,3),(6,3)],7,56,[.int .i64 0, .int .i64 0, .int .i64 0, .int .i64 0, .int .i64 0, .int .i64 0, .int .i64 0]⟩),
 (140,⟨.ptr 143,1,8,[.pointer none]⟩),
 (141,⟨.slice 5,1,24,[.slice none 0 0]⟩),
 (143,⟨.struct [(0,140),(1,141)],2,32,[.pointer none, .slice none 0 0]⟩),
 (149,⟨.slice 187,1,24,[.slice none 0 0]⟩),
 (151,⟨.struct [(0,149),(1,3),(2,4)],3,40,[.slice none 0 0, .int .i64 0, .bool false]⟩),
 (153,⟨.struct [(0,84),(1,3),(2,3)],3,24,[.pointer none, .int .i64 0, .int .i64 0]⟩),
 (156,⟨.int .u64,1,8,[.int .u64 0]⟩),
 (158,⟨.struct [(0,156),(1,156),(2,156),(3,156),(4,9)],5,48,[.int .u64 0, .int .u64 0, .int .u64 0, .int .u64 0, .string (ByteArray.mk #[])]⟩),
 (162,⟨.slice 171,1,24,[.slice none 0 0]⟩),
 (164,⟨.struct [(0,153),(3,158),(8,156),(9,162)],10,104,[.pointer none, .int .i64 0, .int .i64 0, .int .u64 0, .int .u64 0, .int .u64 0, .int .u64 0, .string (ByteArray.mk #[]), .int .u64 0, .slice none 0 0]⟩),
 (165,⟨.ptr 181,1,8,[.pointer none]⟩),
 (171,⟨.struct [(0,9),(1,156),(2,9)],3,40,[.string (ByteArray.mk #[]), .int .u64 0, .string (ByteArray.mk #[])]⟩),
 (181,⟨.array 128 5,128,128,List.replicate 128 (.int .u8 0)⟩),
 (185,⟨.slice 181,1,24,[.slice none 0 0]⟩),
 (187,⟨.struct [(0,181),(128,185)],129,152,List.replicate 128 (.int .u8 0) ++ [.slice none 0 0]⟩),
 (189,⟨.struct [(0,9),(1,3)],2,24,[.string (ByteArray.mk #[]), .int .i64 0]⟩),
 (192,⟨.func,1,8,[.nilFunc]⟩),
 (194,⟨.func,1,8,[.nilFunc]⟩),
 (198,⟨.map 62 68,1,8,[.map none]⟩),
 (200,⟨.struct [(0,3),(1,3),(2,3),(3,198)],4,32,[.int .i64 0, .int .i64 0, .int .i64 0, .map none]⟩),
 (203,⟨.func,1,8,[.nilFunc]⟩),
 (205,⟨.slice 65,1,24,[.slice none 0 0]⟩),
 (206,⟨.map 62 218,1,8,[.map none]⟩),
 (208,⟨.struct [(0,29),(1,205),(2,206)],3,56,[.slice none 0 0, .slice none 0 0, .map none]⟩),
 (210,⟨.struct [(0,208),(3,3),(4,120),(5,120)],6,80,[.slice none 0 0, .slice none 0 0, .map none, .int .i64 0, .map none, .map none]⟩),
 (214,⟨.func,1,8,[.nilFunc]⟩),
 (218,⟨.struct [(0,3),(1,3),(2,3)],3,24,[.int .i64 0, .int .i64 0, .int .i64 0]⟩),
 (232,⟨.slice 245,1,24,[.slice none 0 0]⟩),
 (234,⟨.struct [(0,232),(1,3),(2,4)],3,40,[.slice none 0 0, .int .i64 0, .bool false]⟩),
 (241,⟨.slice 252,1,24,[.slice none 0 0]⟩),
 (243,⟨.struct [(0,94),(1,3),(2,3),(3,3),(4,3),(5,3),(6,3),(7,9),(8,241)],9,96,[.pointer none, .int .i64 0, .int .i64 0, .int .i64 0, .int .i64 0, .int .i64 0, .int .i64 0, .string (ByteArray.mk #[]), .slice none 0 0]⟩),
 (245,⟨.struct [(0,181),(128,185)],129,152,List.replicate 128 (.int .u8 0) ++ [.slice none 0 0]⟩),
 (252,⟨.struct [(0,9),(1,3),(2,9)],3,40,[.string (ByteArray.mk #[]), .int .i64 0, .string (ByteArray.mk #[])]⟩),
 (254,⟨.ptr 187,1,8,[.pointer none]⟩),
 (261,⟨.func,1,8,[.nilFunc]⟩),
 (262,⟨.ptr 293,1,8,[.pointer none]⟩),
 (264,⟨.func,1,8,[.nilFunc]⟩),
 (273,⟨.int .i64,1,8,[.int .i64 0]⟩),
 (280,⟨.int .u32,1,4,[.int .u32 0]⟩),
 (285,⟨.struct [(0,156),(1,156),(2,156),(3,156)],4,32,[.int .u64 0, .int .u64 0, .int .u64 0, .int .u64 0]⟩),
 (293,⟨.struct [(0,9),(1,3)],2,24,[.string (ByteArray.mk #[]), .int .i64 0]⟩),
 (299,⟨.int .u64,1,8,[.int .u64 0]⟩),
 (306,⟨.ptr 299,1,8,[.pointer none]⟩)]

theorem tabOK_nil (P:Program):TabOK P []:=by intro p hp; cases hp
theorem tabOK_cons {P:Program} {t:Nat} {ti:TI} {T:List (Nat × TI)} (h:tiOf P t=some ti) (hT:TabOK P T):TabOK P ((t,ti) :: T):=by
 intro p hp
 rcases List.mem_cons.1 hp with rfl | hp
 ·exact h
 ·exact hT p hp

theorem tT_ok:TabOK Tryz.prog tT:=by
 unfold tT
 repeat (refine tabOK_cons (by kernel_rfl) ?_)
 exact tabOK_nil _

def tB:Tabs:=⟨tT,[(47,3),(62,2)],[(35,16, .int .u8),(181,128, .int .u8)]⟩

theorem eq_ok:EqOK Tryz.prog [(47,3),(62,2)] :=
 eqOK_cons (by kernel_rfl) (by kernel_rfl) (by kernel_rfl) (by kernel_rfl) (by kernel_rfl) (eqOK_cons (by kernel_rfl) (by kernel_rfl) (by kernel_rfl) (by kernel_rfl) (by kernel_rfl) eqOK_nil)

theorem eqD_ok:EqVOK Tryz.prog [(35,16, .int .u8),(181,128, .int .u8)] :=
 eqVOK_arr (e:=5) (d:=.int .u8) (i:=(Tryz.prog.info? 5).get!) (by kernel_rfl) (by kernel_rfl) rfl (by kernel_rfl) (by kernel_rfl) (by kernel_rfl)
  (eqVOK_arr (e:=5) (d:=.int .u8) (i:=(Tryz.prog.info? 5).get!) (by kernel_rfl) (by kernel_rfl) rfl (by kernel_rfl) (by kernel_rfl) (by kernel_rfl) eqVOK_nil)
theorem tB_ok:TabsOK Tryz.prog tB:=⟨tT_ok,by kernel_rfl,by kernel_rfl,eq_ok,eqD_ok,by kernel_rfl⟩

end Go.Proofs

namespace Go
namespace Sx

theorem wrap_u64 (z:Int):IntKind.u64.wrap z=z % 18446744073709551616:=by
  simp [IntKind.wrap,IntKind.bits,IntKind.signed]

theorem wrap_u8 (z:Int):IntKind.u8.wrap z=z % 256:=by
  simp [IntKind.wrap,IntKind.bits,IntKind.signed]

abbrev uv (x:UInt64):SV:=iv .u64 (x.toNat:Int)
abbrev bt (x:UInt8):SV:=iv .u8 (x.toNat:Int)

theorem u64_lt (x:UInt64):x.toNat < 18446744073709551616:=x.toNat_lt
theorem u8_lt (x:UInt8):x.toNat < 256:=x.toNat_lt

theorem u64_add (x y:UInt64):IntKind.u64.wrap ((x.toNat:Int)+(y.toNat:Int))=((x+y).toNat:Int):=by
  rw [wrap_u64,UInt64.toNat_add]; omega

theorem bv_u64 (x:UInt64):BitVec.ofInt 64 (x.toNat:Int)=x.toBitVec:=by
  rw [BitVec.ofInt_natCast]; exact BitVec.ofNat_toNat ..

theorem u64_back (b:BitVec 64):IntKind.u64.wrap (b.toNat:Int)=(b.toNat:Int):=by
  rw [wrap_u64]; have:=b.isLt; omega

theorem u64_xor (x y:UInt64):bitsV .xor .u64 (x.toNat:Int) (y.toNat:Int)=some ((x ^^^ y).toNat:Int):=by
  show some (IntKind.u64.wrap ((BitVec.ofInt 64 (x.toNat:Int) ^^^ BitVec.ofInt 64 (y.toNat:Int)).toNat:Int))=_
  rw [bv_u64,bv_u64,u64_back]; rfl

theorem u64_or (x y:UInt64):bitsV .or .u64 (x.toNat:Int) (y.toNat:Int)=some ((x ||| y).toNat:Int):=by
  show some (IntKind.u64.wrap ((BitVec.ofInt 64 (x.toNat:Int) ||| BitVec.ofInt 64 (y.toNat:Int)).toNat:Int))=_
  rw [bv_u64,bv_u64,u64_back]; rfl

theorem u64_and (x y:UInt64):bitsV .and .u64 (x.toNat:Int) (y.toNat:Int)=some ((x &&& y).toNat:Int):=by
  show some (IntKind.u64.wrap ((BitVec.ofInt 64 (x.toNat:Int) &&& BitVec.ofInt 64 (y.toNat:Int)).toNat:Int))=_
  rw [bv_u64,bv_u64,u64_back]; rfl

theorem u64_shl (x:UInt64) (k:Nat) (h:k < 64):IntKind.u64.wrap ((x.toNat:Int) * 2 ^ (min k 64))=((x <<< UInt64.ofNat k).toNat:Int):=by
  rw [wrap_u64,Nat.min_eq_left (by omega),UInt64.toNat_shiftLeft]
  have e:(UInt64.ofNat k).toNat % 64=k:=by
    rw [UInt64.toNat_ofNat']; omega
  rw [e,Nat.shiftLeft_eq]
  simp

theorem u64_shr (x:UInt64) (k:Nat) (h:k < 64):(x.toNat:Int).fdiv (2 ^ (min k 64))=((x >>> UInt64.ofNat k).toNat:Int):=by
  rw [Nat.min_eq_left (by omega),UInt64.toNat_shiftRight]
  have e:(UInt64.ofNat k).toNat % 64=k:=by
    rw [UInt64.toNat_ofNat']; omega
  rw [e,Nat.shiftRight_eq_div_pow,Int.fdiv_eq_ediv_of_nonneg _ (Int.le_of_lt (Int.pow_pos (by decide)))]
  simp

theorem u64_to8 (x:UInt64):IntKind.u8.wrap (x.toNat:Int)=(x.toUInt8.toNat:Int):=by
  rw [wrap_u8,UInt64.toNat_toUInt8]; omega

theorem u8_to64 (x:UInt8):IntKind.u64.wrap (x.toNat:Int)=(x.toUInt64.toNat:Int):=by
  rw [wrap_u64,UInt8.toNat_toUInt64]; have:=u8_lt x; omega

end Sx
end Go

namespace Go.Proofs
open Go.Sx

theorem wrapId {z:Int} (h:-9223372036854775808≤z∧z≤9223372036854775807):IntKind.i64.wrap z=z:=by
 rw [IntKind.wrap_i64]; omega

theorem sWithin_t (n lo hi:Int):Triple Tryz.prog 22 [iv .i64 n,iv .i64 lo,iv .i64 hi] [] 0 (bv (withinF n lo hi)) []:=by
 refine triple_of tB_ok Tryz.func22 rfl Tryz.call22 rfl ?_
 intro ρ w hH
 conv=>whnf
 refine⟨fun h=>?_,fun h=>?_⟩
 ·conv=>whnf
  exact⟨(by simp [withinF,h]:decide (n≤hi)=withinF n lo hi),trivial⟩
 ·conv=>whnf
  exact⟨(by simp [withinF,h]:false=withinF n lo hi),trivial⟩

def getF (l:List UInt8):UInt64:=l.foldl (fun n b=>n <<< UInt64.ofNat 8 ||| b.toUInt64) 0

theorem getF_snoc (l:List UInt8) (b:UInt8):getF (l ++ [b])=getF l <<< UInt64.ofNat 8 ||| b.toUInt64:=by simp [getF]

theorem get_t (fx:Option Nat) (L:List UInt8) (st n:Nat) (h:st+n≤L.length) (hn:n≤1000000):Triple Tryz.prog 71 [.c (.s 0 st n 1)] [(0,false, .arr (aU8 fx L))] 1 (uv (getF ((L.drop st).take n))) []:=by
 refine triple_of tB_ok Tryz.func71 rfl Tryz.call71 rfl ?_
 intro ρ w hH
 conv=>whnf
 refine loop_step tB_ok (G:=Nat) 0 [] (fun i=>[(3,uv (getF ((L.drop st).take i))),(8,iv .i64 i)]) (fun _=>[]) (fun i=>i≤n) (fun i=>n - i) ?_
 conv=>whnf
 refine⟨⟨0,Nat.zero_le _, ?_⟩, ?_⟩
 ·conv=>whnf
  repeat'(first|exact trivial|exact rfl|refine And.intro ?_ ?_|((conv=>whnf);first|exact trivial|exact rfl|refine And.intro ?_ ?_|omega))
 rintro i hi ρ1 t1 hρ1
 conv=>whnf
 refine⟨fun hc=>?_,fun hc=>?_⟩
 ·have hlt:i < n:=by simpa using hc
  conv=>whnf
  refine⟨i,rfl,hlt, ?_⟩
  conv=>whnf
  refine⟨by rw [addN_eq]; show st+i < L.length; omega, ?_⟩
  conv=>whnf
  refine⟨by decide,_,u64_shl _ 8 (by omega), ?_⟩
  conv=>whnf
  refine⟨_,u8_to64 _, ?_⟩
  conv=>whnf
  refine⟨_,u64_or _ _, ?_⟩
  conv=>whnf
  refine⟨_,wrapId ⟨by omega,by omega⟩, ?_⟩
  refine⟨i+1,hlt,by show n - (i+1) < n - i; omega, ?_⟩
  have key:∀ hz,getF ((L.drop st).take i) <<< UInt64.ofNat 8 ||| (L[addN st i]'hz).toUInt64=getF ((L.drop st).take (i+1)):=by
   intro hz
   have h1:i < (L.drop st).length:=by rw [List.length_drop]; omega
   rw [take_snoc h1,getF_snoc,List.getElem_drop]
   simp only [addN_eq]
  conv=>whnf
  refine⟨rfl, ?_⟩
  conv=>whnf
  repeat' (first | exact congrArg (fun z:UInt64=>(z.toNat:Int)) (key _) | exact trivial | exact rfl | refine And.intro ?_ ?_ | ((conv=>whnf); first | exact congrArg (fun z:UInt64=>(z.toNat:Int)) (key _) | exact trivial | exact rfl | refine And.intro ?_ ?_ | omega))
 ·have hie:i=n:=by simp at hc; omega
  subst hie
  conv=>whnf
  repeat'(first|exact trivial|exact rfl|refine And.intro ?_ ?_|((conv=>whnf);first|exact trivial|exact rfl|refine And.intro ?_ ?_|omega))

def setF:Nat → UInt64 → List UInt8
 | 0,_=>[]
 | n+1,x=>setF n (x >>> UInt64.ofNat 8) ++ [x.toUInt8]

theorem setF_length (n:Nat) (x:UInt64):(setF n x).length=n:=by
 induction n generalizing x with
 | zero=>rfl
 | succ n ih=>simp [setF,ih]

theorem set_t (fx:Option Nat) (L:List UInt8) (st n:Nat) (x:UInt64) (h:st+n≤L.length) (hn:n≤1000000) :
  Triple Tryz.prog 94 [.c (.s 0 st n 1),uv x] [(0,true, .arr (aU8 fx L))] 1 (.tup []) [(0,true, .arr (aU8 fx (L.take st ++ setF n x ++ L.drop (st+n))))]:=by
 generalize hR:L.take st ++ setF n x ++ L.drop (st+n)=R
 refine triple_of tB_ok Tryz.func94 rfl Tryz.call94 rfl ?_
 intro ρ w hH
 conv=>whnf
 refine⟨_,wrapId ⟨by omega,by omega⟩, ?_⟩
 refine loop_step tB_ok (G:=Nat × UInt64 × List UInt8) 0 [] (fun g=>[(1,uv g.2.1),(4,iv .i64 ((g.1:Int) - 1))]) (fun g=>[(0,true, .arr (aU8 fx g.2.2))])
  (fun g=>g.1≤n∧g.2.2.length=L.length∧g.2.2.take (st+g.1)=L.take (st+g.1)∧L.take st ++ setF g.1 g.2.1 ++ g.2.2.drop (st+g.1)=R) (fun g=>g.1) ?_
 conv=>whnf
 refine⟨⟨(n,x,L),⟨Nat.le_refl _,rfl,rfl,hR⟩, ?_⟩, ?_⟩
 ·conv=>whnf
  repeat'(first|exact trivial|exact rfl|refine And.intro ?_ ?_|((conv=>whnf);first|exact trivial|exact rfl|refine And.intro ?_ ?_|omega))
 rintro ⟨m,y,M⟩ ⟨hm,hl,ht,hg⟩ ρ1 t1 hρ1
 dsimp only at hm hl ht hg
 conv=>whnf
 refine⟨fun hc=>?_,fun hc=>?_⟩
 ·have hpos:1≤m:=by simp at hc; omega
  obtain ⟨m,rfl⟩:∃ j,m=j+1:=⟨m - 1,by omega⟩
  conv=>whnf
  refine⟨_,u64_to8 _, ?_⟩
  conv=>whnf
  refine⟨m,by omega,by omega, ?_⟩
  conv=>whnf
  refine⟨by rw [addN_eq]; show st+m < M.length; omega,y.toUInt8,rfl, ?_⟩
  conv=>whnf
  refine⟨by decide,_,u64_shr _ 8 (by omega), ?_⟩
  conv=>whnf
  refine⟨(m:Int) - 1,by rw [wrapId ⟨by omega,by omega⟩]; omega, ?_⟩
  have e1:(M.set (addN st m) y.toUInt8).drop (st+m)=y.toUInt8 :: M.drop (st+m+1):=by
   rw [addN_eq,List.drop_set,if_neg (by omega),Nat.sub_self,List.drop_eq_getElem_cons (by omega)]; rfl
  refine⟨(m,y >>> UInt64.ofNat 8,M.set (addN st m) y.toUInt8),⟨by omega,by simpa using hl, ?_, ?_⟩,by show m < m+1; omega, ?_⟩
  ·show (M.set (addN st m) y.toUInt8).take (st+m)=_
   rw [addN_eq,List.take_set_of_le (by omega)]
   have:=congrArg (List.take (st+m)) ht
   rwa [List.take_take,List.take_take,Nat.min_eq_left (by omega)] at this
  ·show L.take st ++ setF m (y >>> UInt64.ofNat 8) ++ (M.set (addN st m) y.toUInt8).drop (st+m)=R
   rw [e1,← hg]
   simp [setF,Nat.add_assoc]
  conv=>whnf
  refine⟨rfl, ?_⟩
  conv=>whnf
  repeat'(first|exact trivial|exact rfl|refine And.intro ?_ ?_|((conv=>whnf);first|exact trivial|exact rfl|refine And.intro ?_ ?_|omega))
 ·have hm0:m=0:=by simp at hc; omega
  subst hm0
  have e2:M=R:=by
   rw [← hg]
   have:=List.take_append_drop st M
   rw [Nat.add_zero] at ht ⊢
   rw [← ht]; simp [setF]
  subst e2
  conv=>whnf
  repeat'(first|exact trivial|exact rfl|refine And.intro ?_ ?_|((conv=>whnf);first|exact trivial|exact rfl|refine And.intro ?_ ?_|omega))

theorem secret_t (a b:List UInt8):Triple Tryz.prog 46 [.agg [strC a,strC b]] [] 0 (bv (withinF a.length 1 64 && withinF b.length 1 64)) []:=by
 refine triple_of tB_ok Tryz.func46 rfl Tryz.call46 rfl ?_
 intro ρ w hH
 conv=>whnf
 refine call_step (sWithin_t a.length 1 64) rfl rfl ?_
 conv=>whnf
 refine⟨?_, ?_, ?_⟩
 iterate 2 · repeat'(first|exact trivial|exact rfl|refine And.intro ?_ ?_|((conv=>whnf);first|exact trivial|exact rfl|refine And.intro ?_ ?_|omega))
 conv=>whnf
 refine⟨fun hc=>?_,fun hc=>?_⟩
 ·conv=>whnf
  refine call_step (sWithin_t b.length 1 64) rfl rfl ?_
  conv=>whnf
  refine⟨?_, ?_, ?_⟩
  iterate 2 · repeat'(first|exact trivial|exact rfl|refine And.intro ?_ ?_|((conv=>whnf);first|exact trivial|exact rfl|refine And.intro ?_ ?_|omega))
  conv=>whnf
  exact⟨(by rw [hc]; rfl:withinF b.length 1 64=(withinF a.length 1 64 && withinF b.length 1 64)),trivial⟩
 ·conv=>whnf
  exact⟨(by rw [hc]; rfl:false=(withinF a.length 1 64 && withinF b.length 1 64)),trivial⟩

def rotF (x:UInt64) (k:Nat):UInt64:=x <<< UInt64.ofNat k ||| x >>> UInt64.ofNat (64 - k)

theorem rot_t (x:UInt64) (k:Nat) (h0:0 < k) (hk:k < 64) (hb:bitsV .and .u64 (k:Int) 63=some (k:Int)):Triple Tryz.prog 92 [uv x,iv .i64 (k:Int)] [] 0 (uv (rotF x k)) []:=by
 refine triple_of tB_ok Tryz.func92 rfl Tryz.call92 rfl ?_
 intro ρ w hH
 conv=>whnf
 refine⟨(k:Int),by rw [wrap_u64]; omega, ?_⟩
 conv=>whnf
 refine⟨_,hb, ?_⟩
 conv=>whnf
 refine⟨by omega,_,u64_shl _ k hk, ?_⟩
 conv=>whnf
 refine⟨((64 - k:Nat):Int),by rw [wrap_u64]; omega, ?_⟩
 conv=>whnf
 refine⟨by omega,_,u64_shr _ (64 - k) (by omega), ?_⟩
 conv=>whnf
 refine⟨_,u64_or _ _, ?_⟩
 conv=>whnf
 repeat'(first|exact trivial|exact rfl|refine And.intro ?_ ?_|((conv=>whnf);first|exact trivial|exact rfl|refine And.intro ?_ ?_|omega))

structure Mix where
 a:UInt64
 b:UInt64
 c:UInt64
 d:UInt64

def halfF (m:Mix) (k l:Nat):Mix :=
 let a:=m.a+m.b
 let d:=rotF (m.d ^^^ a) k
 let c:=m.c+d
 ⟨a,rotF (m.b ^^^ c) l,c,d⟩

abbrev mixH (m:Mix):Heap:=[(0,true, .cells [.v (.int .u64 (m.a.toNat:Int))]),(1,true, .cells [.v (.int .u64 (m.b.toNat:Int))]),(2,true, .cells [.v (.int .u64 (m.d.toNat:Int))]),(3,true, .cells [.v (.int .u64 (m.c.toNat:Int))])]

theorem half_t (m:Mix) (k l:Nat) (hk:0 < k∧k < 64) (hl:0 < l∧l < 64) (hb:bitsV .and .u64 (k:Int) 63=some (k:Int)) (hb2:bitsV .and .u64 (l:Int) 63=some (l:Int)) :
  Triple Tryz.prog 91 [iv .i64 (k:Int),iv .i64 (l:Int), .c (.p 0 0 0 0), .c (.p 1 0 0 0), .c (.p 2 0 0 0), .c (.p 3 0 0 0)] (mixH m) 4 (.tup []) (mixH (halfF m k l)):=by
 obtain ⟨a,b,c,d⟩:=m
 refine triple_of tB_ok Tryz.func91 rfl Tryz.call91 rfl ?_
 intro ρ w hH
 conv=>whnf
 refine⟨_,u64_add _ _, ?_⟩
 conv=>whnf
 refine⟨_,u64_xor _ _, ?_⟩
 conv=>whnf
 refine call_step (rot_t (d ^^^ (a+b)) k hk.1 hk.2 hb) rfl rfl ?_
 conv=>whnf
 refine⟨?_, ?_, ?_⟩
 iterate 2 · repeat'(first|exact trivial|exact rfl|refine And.intro ?_ ?_|((conv=>whnf);first|exact trivial|exact rfl|refine And.intro ?_ ?_|omega))
 conv=>whnf
 refine⟨_,u64_add _ _, ?_⟩
 conv=>whnf
 refine⟨_,u64_xor _ _, ?_⟩
 conv=>whnf
 refine call_step (rot_t (b ^^^ (c+rotF (d ^^^ (a+b)) k)) l hl.1 hl.2 hb2) rfl rfl ?_
 conv=>whnf
 refine⟨?_, ?_, ?_⟩
 iterate 2 · repeat'(first|exact trivial|exact rfl|refine And.intro ?_ ?_|((conv=>whnf);first|exact trivial|exact rfl|refine And.intro ?_ ?_|omega))
 conv=>whnf
 repeat'(first|exact trivial|exact rfl|refine And.intro ?_ ?_|((conv=>whnf);first|exact trivial|exact rfl|refine And.intro ?_ ?_|omega))

end Go.Proofs

namespace Go
namespace Sx

theorem Sat.lookEq {cx:Cx} {ρ:Asg} {e:Env} {H H':Heap} {n:Nat} {a:Act} {w:World} (h:Sat cx ρ ⟨e,H,n⟩ a w) (hl:∀ k,look H' k=look H k):Sat cx ρ ⟨e,H',n⟩ a w where
  size:=h.size
  defers:=h.defers
  env:=h.env
  heap:=⟨h.heap.frm,fun k own o hk=>h.heap.reg k own o (by rw [← hl k]; exact hk),fun k k' o own' o' hne hk hk'=>h.heap.apart k k' o own' o' hne (by rw [← hl k]; exact hk) (by rw [← hl k']; exact hk'),
    fun k o hk=>h.heap.fresh k o (by rw [← hl k]; exact hk),fun k own o hk=>h.heap.valid k own o (by rw [← hl k]; exact hk)⟩
  bnd:=⟨h.bnd.env,h.bnd.mks,fun k own o hk=>h.bnd.heap k own o (by rw [← hl k]; exact hk)⟩
  base:=h.base
  keep:=h.keep
  n0:=h.n0

theorem Sat.addNil {cx:Cx} {ρ:Asg} {s:St} {a:Act} {w:World} (h:Sat cx ρ s a w) {k:Nat} (hf:Fresh k s) (hlt:k < s.nx) (hn:cx.n0≤k) {A:Arr} (hA:A.xs=[]) (hfx:(SO.arr A).fx=none) (hb:(SO.arr A).below s.nx) :
    Sat cx (upd ρ k ⟨0,0,0,[]⟩) { s with H:=(k,true, .arr A) :: s.H } a w where
  size:=h.size
  defers:=by rw [h.defers]; exact (marks_agree' fun j hj=>upd_ne (by rintro rfl; exact hf.mks hj)).symm
  env i:=SV.rel_agree (fun j hj=>upd_ne (by rintro rfl; have:=hf.env i; rw [hj] at this; cases this)) (h.env i)
  heap:=by
    refine h.heap.cons (fun j own o hl hj=>⟨upd_ne hj,fun n hnn=>upd_ne (fun hkk=>by have:=(hf.heap j own o hl).2; rw [← hkk,hnn] at this; cases this)⟩) (Nat.le_refl _) h.heap.frm (fun _ _ _=>rfl)
      rfl (fun j own' o' hl hj hp hr=>?_) (fun _ _ _ _ _ _ _ _=>rfl) ?_ ?_ ?_
    · simp only [SO.room,upd_eq,Nat.zero_mul] at hr; cases hr
    · refine⟨by simp only [SO.wf,hA]; exact Nat.zero_le _,fun i j c hc=>?_,fun _ _ _ n hn=>?_,fun _=>by rw [upd_eq],(fun Φ hΦ=>by cases hΦ),(fun Φ hΦ=>by cases hΦ),(fun n hn=>by rw [hfx] at hn; cases hn),(fun t ht hr=>by rw [upd_eq] at hr; simp [SO.room] at hr)⟩
      · simp only [SO.cell?,hA] at hc; cases hc
      · simp only [SO.room,upd_eq,Nat.zero_mul] at hn; cases hn
    · intro _ hr; simp only [SO.room,upd_eq,Nat.zero_mul] at hr; cases hr
    · intro hr; simp only [SO.room,upd_eq,Nat.zero_mul] at hr; cases hr
  bnd:=h.bnd.cons hlt hb
  base j hj:=by rw [upd_ne (by omega)]; exact h.base j hj
  keep:=h.keep
  n0:=h.n0

def appNilK (B:Tabs) (A:Arr) (zs:List A.α) (t t':TypeId) (x y:SV) (H:Heap) (nx:Nat) (K:Eff → Prop):Prop :=
  match lookT B.T t,lookT B.T t',x,y with
  | some ⟨.slice el,_,_,_⟩,some ⟨.slice _,_,_,_⟩, .c (.v (.slice none 0 0)), .c (.s k' st m sz)=>(match lookT B.T el with
    | some ti=>bif Nat.beq ti.size sz && (Nat.ble 1 sz && Nat.beq sz A.sz) then (match look H k' with
      | some (_, .arr X)=>(X=A.setXs zs∧A.nm=[]∧st+m≤zs.length∧m * (ti.bytes+1)≤140737488355328) ∧
          K ⟨.c (.s (nx+1) 0 m sz),[k'],[(nx+1,true, .arr (A.setXs ((zs.drop st).take m))),(nx,false, .cells [])],[nx,nx+1]⟩
      | _=>False) else False
    | none=>False)
  | _,_,_,_=>False

theorem appNil_step {cx:Cx} {B:Tabs} (hB:TabsOK cx.P B) {o:Oper} {e:Env} {H:Heap} {nx:Nat} {K:Eff → Prop} {c:Call} {x y:Operand} {t t':TypeId} (A:Arr) (zs:List A.α)
    (hone:∀ x,allOne (A.enc x)=true) (ho:o.op=.call c) (hc:c.callee=.builtin .append) (hca:c.args=#[x,y]) (hct:c.argTypes=#[t,t'])
    (h:appNilK B A zs t t' (ev e x) (ev e y) H nx K) (hfx:A.fx=none:=by rfl) (hty:∀ el s b z t',lookT B.T t=some ⟨.slice el,s,b,z⟩ → A.ty=some t' → el=t':=by intro _ _ _ _ _ _ h; cases h):∃ F,CallOK cx o e H nx F∧K F:=by
  have hx:x ∈ o.op.operands.toList:=by simp [ho,Op.operands,Call.operands,hc,hca]
  have hy:y ∈ o.op.operands.toList:=by simp [ho,Op.operands,Call.operands,hc,hca]
  unfold appNilK at h
  split at h
  · rename_i el s0 b0 z0 el' s1 b1 z1 k' st m sz ht ht' hex hey
    split at h
    · rename_i ti hti
      obtain ⟨hb,h⟩:=bif_and h
      simp only [Bool.and_eq_true] at hb
      obtain ⟨hb1,hb3,hb4⟩:=hb
      have hb1:=Nat.eq_of_beq_eq_true hb1
      have hb3:=Nat.le_of_ble_eq_true hb3
      have hb4:=Nat.eq_of_beq_eq_true hb4
      split at h
      · rename_i ow X hlk'
        obtain ⟨⟨rfl,hnm,h2,h3⟩,hK⟩:=h
        refine⟨_,⟨?_, ?_⟩,hK⟩
        rotate_left
        · intro j hj; simp at hj; rcases hj with rfl | rfl <;> simp
        intro ρ s a w hs hr hk hnew hdst KK Q hKK
        obtain ⟨hfr,hlt,hn0⟩:=hnew nx (by simp)
        obtain ⟨hfr1,hlt1,hn1⟩:=hnew (nx+1) (by simp)
        have hl2:look s.H k'=some (ow, .arr (A.setXs zs)):=by rw [hk k' (by simp)]; exact hlk'
        have hfit:∀ z,z ∈ o.op.operands.toList → (ev e z).rel ρ (a.eval z):=fun z hz=>reads_fit hz (fun t ht=>by rw [← hr t ht]; exact hs.env t)
        have hx1:=hfit x hx
        have hy1:=hfit y hy
        rw [hex] at hx1; rw [hey] at hy1
        have hkn:k' ≠ nx:=(hfr.heap k' ow _ hl2).1
        have hkn1:k' ≠ nx+1:=(hfr1.heap k' ow _ hl2).1
        have hx1:a.eval x=.slice none 0 0:=hx1
        have hs2:=hs.addNil hfr hlt hn0 (A:=A.setXs []) rfl hfx (fun (j:Nat) (hj:anyMem [j] A.nm=true)=>by rw [hnm] at hj; cases hj)
        have hfr2:Fresh (nx+1) { s with H:=(nx,true, .arr (A.setXs [])) :: s.H }:=⟨hfr1.env,hfr1.mks,fun j own o hl=>by
          rw [look_cons] at hl
          by_cases hj:j=nx
          · rw [if_pos hj] at hl
            simp at hl
            obtain ⟨_,rfl⟩:=hl
            refine⟨by omega, ?_⟩
            show anyMem [nx+1] A.nm=false
            rw [hnm]; rfl
          · rw [if_neg hj] at hl; exact hfr1.heap j own o hl⟩
        refine app_core (A0:=A.setXs []) (k:=nx) (k':=k') (len:=0) (st:=st) (m:=m) (sz:=sz) (sz':=sz) (ow:=ow) (nx:=nx+1) hB zs hone hfx (fun t' h=>hty _ _ _ _ t' ht h) ho hc hca hct ht ht' hti hb1 rfl hb3 hb4 hs2 ?_ ?_ (Nat.le_refl _) h2 (by rw [Nat.zero_add]; exact h3) ?_ ?_ hfr2 hlt1 hn1 hdst ?_
        · show look ((nx,true,SO.arr (A.setXs [])) :: s.H) nx=_
          rw [look_cons,if_pos rfl]
        · refine hs2.heap.reg k' ow _ ?_
          show look ((nx,true,SO.arr (A.setXs [])) :: s.H) k'=_
          rw [look_cons,if_neg hkn]; exact hl2
        · exact⟨none,by rw [hx1,upd_eq]; rfl,by rw [upd_eq]; exact Nat.le_refl _,fun h=>by rw [upd_eq] at h; cases h⟩
        · exact SC.rel_agree (fun j hj=>upd_ne (by simp [SC.nms] at hj; subst hj; exact hkn)) hy1
        · intro ρ' a' w' hsat hag
          rw [Nat.zero_add] at hsat
          refine hKK ρ' a' w' (hsat.lookEq fun j=>?_) fun j hj=>?_
          · simp only [List.cons_append,List.nil_append,look_cons]
            by_cases h1:j=nx+1
            · rw [if_pos h1,if_pos h1]; rfl
            · rw [if_neg h1,if_neg h1]
              by_cases h0:j=nx
              · rw [if_pos h0,if_pos h0]
              · rw [if_neg h0,if_neg h0,if_neg h0]
          · have h1:j ≠ nx∧j ≠ nx+1:=by simpa using hj
            rw [hag j (by simp; exact h1.2),upd_ne h1.1]
      · exact h.elim
    · exact h.elim
  · exact h.elim

end Sx
end Go

namespace Go
namespace Sx

set_option maxHeartbeats 1000000 in
theorem app_src {cx:Cx} {B:Tabs} (hB:TabsOK cx.P B) {o:Oper} {c:Call} {x y:Operand} {t t' el s0 b0:Nat} {z0:List Value} {ti:TI} (A0:Arr) (Z:List A0.α) (news:List Value)
    (hone:∀ x,allOne (A0.enc x)=true) (hfx:A0.fx=none) (hty:∀ t',A0.ty=some t' → el=t') (ho:o.op=.call c) (hc:c.callee=.builtin .append) (hca:c.args=#[x,y]) (hct:c.argTypes=#[t,t'])
    (ht:lookT B.T t=some ⟨.slice el,s0,b0,z0⟩) (hti:lookT B.T el=some ti) {k len m sz:Nat}
    (hb1:ti.size=sz) (hb3:1≤sz) (hb4:sz=A0.sz) {ρ:Asg} {s:St} {a:Act} {w:World} (hs:Sat cx ρ s a w)
    (hl1:look s.H k=some (true, .arr A0)) (hsrc:Src cx.P A0.sz t' (a.eval y) m news w) (h1:len≤A0.xs.length) (hZ:Z.length=m) (hnl:news.length=m * A0.sz)
    (hflat:∀ j,j < m * A0.sz → ∃ v xx cc,Z[j / A0.sz]? = some xx∧(A0.enc xx)[j % A0.sz]? = some cc∧news[j]? = some v∧cc.rel ρ v) (h3:(len+m) * (ti.bytes+1)≤140737488355328)
    (hx1:(SC.s k 0 len sz).rel ρ (a.eval x)) {nx:Nat} (hfr:Fresh nx s) (hlt:nx < s.nx) (hn0:cx.n0≤nx) (hdst:∀ d,o.dst=some d → d < cx.nt∧inMd cx.md d=true)
    {KK:Act → World → Prop} {Q:Exit → Act → World → Prop}
    (hKK:∀ ρ' a' w',Sat cx ρ' { s with e:=putO o.dst (.c (.s nx 0 (len+m) sz)) s.e,H:=[(nx,true, .arr (A0.setXs (A0.xs.take len ++ Z))),(k,false, .cells [])] ++ s.H } a' w' → (∀ j,j ∉ [nx] → ρ' j=ρ j) → KK a' w') :
    o.wpIn (fen cx.rd) 0 cx.P a w KK Q:=by
  simp only [SC.rel,Nat.sub_zero,Nat.zero_mul,Nat.zero_add] at hx1
  obtain ⟨ad,hxv,hcap,had⟩:=hx1
  have hs1:=hs.heap.reg k true _ hl1
  obtain ⟨i,z,hi,hz,hisz,hiby,hzz⟩:=ti_parts hB hti
  have hisz':i.size=A0.sz:=by omega
  have hoff:=hs1.off0 rfl
  have hwf:=hs1.wf
  simp only [SO.wf] at hwf
  have hroom:=fun n hn=>hs1.room rfl (by simp) (by simp) n hn
  simp only [SO.room] at hroom
  have hrun0:=run_builtin (P:=cx.P) ho hc a w
  rw [hca,hct] at hrun0
  have hbelow:(SO.arr (A0.setXs (A0.xs.take len ++ Z))).below s.nx:=fun j hj=>(hs.bnd.heap k true _ hl1).2 j hj
  have hnmf:∀ {r:Rg} {j:Nat},(SO.arr A0).uses [j]=true → upd ρ nx r j=ρ j:=fun hj=>upd_ne (by rintro rfl; have:=(hfr.heap k true _ hl1).2; rw [hj] at this; cases this)
  have hrelf:∀ {r:Rg} {xx:A0.α} {j:Nat} {cc:SC} {v:Value},(A0.enc xx)[j]? = some cc → cc.rel ρ v → cc.rel (upd ρ nx r) v:=fun hj hcc =>
    SC.rel_agree (fun n hn=>hnmf (anyMem_iff.2 ⟨n,A0.hn _ _ (List.mem_of_getElem? hj) n hn,by simp⟩)) hcc
  have hlenM:(A0.xs.take len ++ Z).length=len+m:=by simp; omega
  have hapg:∀ {i':Nat},i' < len+m → (A0.xs.take len ++ Z)[i']? = if i' < len then A0.xs[i']? else Z[i' - len]?:=by
    intro i' hi'
    have hlt:(A0.xs.take len).length=len:=by rw [List.length_take]; omega
    by_cases hil:i' < len
    · rw [if_pos hil,List.getElem?_append_left (by omega),List.getElem?_take,if_pos hil]
    · rw [if_neg hil,List.getElem?_append_right (by omega),hlt]
  by_cases hfits:len+m≤(ρ k).cap
  ·
    have hle3:(len+m) * A0.sz≤(ρ k).cap * A0.sz:=Nat.mul_le_mul_right _ hfits
    rw [Nat.add_mul] at hle3
    have hrun:(execOp a.eval o).run cx.P w=.ok (.value (.slice ad (len+m) (ρ k).cap)) (setCells w (ρ k).blk (len * A0.sz) (news)):=by
      rw [hrun0]
      rcases Nat.eq_zero_or_pos (ρ k).cap with hc0 | hc0
      · have hl0:len=0:=by omega
        have hm0:m=0:=by omega
        subst hl0; subst hm0
        have hn00:news=[]:=List.length_eq_zero_iff.1 (by rw [hnl,Nat.zero_mul])
        subst hn00
        simp only [setCells]
        have hcells:=hsrc.cells
        have hlen:=hsrc.len
        rw [← hisz'] at hcells
        rcases hsrc.kind with ⟨e',hk⟩ | hk <;> cases ad <;> simp [builtin,Builtin.append_,run_underlying (und_slice hB ht),run_underlying hk,sizeOf,typeInfo,hi,hxv,hlen,hcells,storeCells,hc0]
      · have hsrc':=hsrc
        rw [← hisz'] at hsrc'
        have:=run_append_room_src (P:=cx.P) w t t' o.type el i (und_slice hB ht) hi (ρ k).blk 0 len (ρ k).cap _ m _ hsrc' hfits (fun j hj=>by
          have:=(hroom (len * A0.sz+j) (by rw [hnl] at hj; omega)).1
          obtain ⟨v,hv⟩:=this
          simp only [adr,hoff,Nat.zero_add] at hv
          simp [hisz',hv]) (fun j hj=>by
          have:=(hroom (len * A0.sz+j) (by rw [hnl] at hj; omega)).2
          simpa [adr,hoff,hisz'] using this)
        have had0:ad=some ⟨(ρ k).blk,0,none⟩:=by rw [had hc0]; simp [adr,hoff]
        simp only [List.map_toArray,List.map_cons,List.map_nil,builtin,hxv,had0,Sem.run_bind,this,Result.andThen_ok,Sem.run_pure,Nat.zero_add,setCells_kit,hisz']
    refine wpIn_of_value (by simp [ho]) hrun (hKK (upd ρ nx ⟨(ρ k).blk,(ρ k).off,(ρ k).cap,[]⟩) _ _ ?_ (fun j hj=>upd_ne (by simpa using hj)))
    have hsat:=hs.retake (n:=len * A0.sz) (cap:=(ρ k).cap) (vs:=news) (o':=.arr (A0.setXs (A0.xs.take len ++ Z))) hl1 hfr hlt hn0
      (by simp [SO.room,Arr.setXs]) (fun h0=>by
        simp only [SO.room] at h0
        have:m * A0.sz=0:=by omega
        exact List.length_eq_zero_iff.1 (by rw [hnl,this])) hbelow ?_
    · refine hsat.putO hdst ?_ (by rw [SV.below_c]; intro j hj; simp [SC.nms] at hj; subst hj; exact hlt)
      simp only [SV.rel,SC.rel,upd_eq,Nat.sub_zero,Nat.zero_mul,Nat.zero_add]
      exact⟨ad,rfl,hfits,fun hpos=>by rw [had hpos]; simp [adr,upd_eq]⟩
    · have hcellS:=setCells_cell w (ρ k).blk (len * A0.sz) (news) (fun j hj=>by
        rw [hnl] at hj
        have:=(hroom (len * A0.sz+j) (by omega)).1
        simpa [adr,hoff] using this)
      refine⟨by simp only [SO.wf,Arr.setXs,upd_eq]; rw [hlenM]; exact hfits, ?_, ?_,fun _=>by rw [upd_eq]; exact hoff,(fun _ h=>by cases h),(fun _ h=>by cases h),(fun n h=>by rw [upd_eq]; exact hs1.fixd n h),(fun t h hr=>by rw [upd_eq] at hr ⊢; exact setCells_typ _ _ _ (hs1.typd t h hr))⟩
      · intro i' j cc hcc
        rw [setXs_cell] at hcc
        cases hxx:(A0.xs.take len ++ Z)[i']? with
        | none=>simp [hxx] at hcc
        | some xx =>
          simp only [hxx,Option.bind_some] at hcc
          have hi':i' < len+m:=by have:=(List.getElem?_eq_some_iff.1 hxx).1; omega
          have hj:j < A0.sz:=by have:=(List.getElem?_eq_some_iff.1 hcc).1; rw [A0.hl] at this; exact this
          rw [hapg hi'] at hxx
          simp only [adr,upd_eq,hoff,Nat.zero_add,SO.sz,Arr.setXs,hcellS,hnl]
          by_cases hil:i' < len
          · rw [if_pos hil] at hxx
            have hle2:i' * A0.sz+j < len * A0.sz:=by
              have:=Nat.mul_le_mul_right A0.sz (show i'+1≤len from hil)
              rw [Nat.add_mul] at this; omega
            rw [if_neg (by omega)]
            obtain ⟨v,hv,hvr⟩:=hs1.at_ i' j cc (by simp only [SO.cell?,hxx]; exact hcc)
            exact⟨v,by simpa [adr,hoff,SO.sz] using hv,hrelf hcc hvr⟩
          · rw [if_neg hil] at hxx
            have hge:len * A0.sz≤i' * A0.sz:=Nat.mul_le_mul_right _ (by omega)
            have hle2:i' * A0.sz+j < len * A0.sz+m * A0.sz:=by
              have:=Nat.mul_le_mul_right A0.sz (show i'+1≤len+m from hi')
              rw [Nat.add_mul,Nat.add_mul] at this; omega
            rw [if_pos ⟨by omega,hle2⟩]
            have hsub:i' * A0.sz+j - len * A0.sz=(i' - len) * A0.sz+j:=by
              rw [Nat.sub_mul]; omega
            obtain ⟨v,x2,c2,q1,q2,q3,q4⟩:=hflat ((i' - len) * A0.sz+j) (by omega)
            have e1:((i' - len) * A0.sz+j) / A0.sz=i' - len:=by rw [Nat.mul_comm,Nat.mul_add_div (by omega),Nat.div_eq_of_lt hj]; simp
            have e2:((i' - len) * A0.sz+j) % A0.sz=j:=by rw [Nat.mul_comm,Nat.mul_add_mod,Nat.mod_eq_of_lt hj]
            rw [e1,hxx] at q1; rw [e2] at q2
            simp at q1; subst q1
            rw [hcc] at q2; simp at q2; subst q2
            exact⟨v,by rw [hsub]; exact q3,hrelf hcc q4⟩
      · intro _ _ _ n hn
        simp only [SO.room,Arr.setXs,upd_eq] at hn
        simp only [adr,upd_eq,hoff,Nat.zero_add]
        have:=hroom n hn
        simp only [adr,hoff,Nat.zero_add] at this
        refine⟨?_,by rw [setCells_frozen]; exact this.2⟩
        rw [hcellS]
        by_cases hin:len * A0.sz≤n∧n < len * A0.sz+(news).length
        · rw [if_pos hin]
          exact⟨(news)[n - len * A0.sz]'(by omega),by rw [List.getElem?_eq_getElem]⟩
        · rw [if_neg hin]; exact this.1
  ·
    have hsrc':=hsrc
    rw [← hisz'] at hsrc'
    have hsrc1:SatO ρ w k true (.arr A0):=hs1
    have hold:=src_of hB ht hs1 (st:=0) (m:=len) (c:=(ρ k).cap) (by omega) hone (a:=ad) (fun hpos=>by rw [had (by omega)]; simp)
    have hrunA:=run_append_grow_src (P:=cx.P) w t t' o.type el i z (und_slice hB ht) hi hz ad len (ρ k).cap (flat w ρ k (0 * A0.sz) (len * A0.sz)) (by rw [hisz']; exact hold.cellsD) _ m _ hsrc' (by omega)
      (by
        have:(len+m) * 1≤(len+m) * (ti.bytes+1):=Nat.mul_le_mul_left _ (by omega)
        omega) (growslice_fits (by omega) (by
        have:(len+m) * i.bytes≤(len+m) * (ti.bytes+1):=Nat.mul_le_mul_left _ (by omega)
        omega))
    have hge:=grownCap_ge w (len+m) (ρ k).cap el
    generalize hgc:grownCap w (len+m) (ρ k).cap el=gc at hrunA hge
    have hrun:(execOp a.eval o).run cx.P w=.ok (.value (.slice (some ⟨w.heap.size,0,none⟩) (len+m) gc))
        (w.drew.alloc (.cells ((flat w ρ k (0 * A0.sz) (len * A0.sz) ++ news).toArray ++ Builtin.zeroCells z.cells (gc - (len+m))) el)):=by
      rw [hrun0]
      simp only [List.map_toArray,List.map_cons,List.map_nil,builtin,hxv,Sem.run_bind,hrunA,Result.andThen_ok,Sem.run_pure,hisz']
    refine wpIn_of_value (by simp [ho]) hrun (hKK (upd ρ nx ⟨w.heap.size,0,gc,[]⟩) _ _ ?_ (fun j hj=>upd_ne (by simpa using hj)))
    have hzsz:z.cells.size=A0.sz:=by
      have:=congrArg List.length hzz
      rw [← hb4,← hb1]
      have hz2:=hB.zsz el ti hti
      simpa [hz2] using this
    have hdr:=hs.drop (hs.bnd.heap k true _ hl1).1
    have hfr':Fresh nx { s with H:=(k,false,SO.cells []) :: s.H }:=⟨hfr.env,hfr.mks,fun j own q hj=>by
      rw [look_cons] at hj
      by_cases hjk:j=k
      · rw [if_pos hjk] at hj; simp at hj; obtain ⟨_,rfl⟩:=hj
        exact⟨by rw [hjk]; exact (hfr.heap k true _ hl1).1,by simp [SO.uses,usesL]⟩
      · rw [if_neg hjk] at hj; exact hfr.heap j own q hj⟩
    have hsat:=hdr.newAt (k:=nx) (cap:=gc) (o:=.arr (A0.setXs (A0.xs.take len ++ Z)))
      (ob:=.cells ((flat w ρ k (0 * A0.sz) (len * A0.sz) ++ news).toArray ++ Builtin.zeroCells z.cells (gc - (len+m))) el (0,0)) hfr' hlt hn0 hbelow ?_
    · refine (hsat.eqHeap (w':=w.drew.alloc _) rfl).putO hdst ?_ (by rw [SV.below_c]; intro j hj; simp [SC.nms] at hj; subst hj; exact hlt)
      simp only [SV.rel,SC.rel,upd_eq,Nat.sub_zero,Nat.zero_mul,Nat.zero_add]
      exact⟨_,rfl,hge,fun _=>by simp [adr,upd_eq]⟩
    · refine satO_new_arr ?_ ?_ ?_ (fun n h=>by rw [show (A0.setXs (A0.xs.take len ++ Z)).fx=A0.fx from rfl,hfx] at h; cases h) hty
      · simp only [Arr.setXs]; rw [hlenM]; exact hge
      · simp only [Arr.setXs,Array.size_append,List.size_toArray,List.length_append,flat_length,hnl,size_zeroCells,hzsz]
        rw [← Nat.add_mul,← Nat.add_mul]; congr 1; omega
      · intro i' xx hxx j cc hcc
        replace hxx:(A0.xs.take len ++ Z)[i']? = some xx:=hxx
        replace hcc:(A0.enc xx)[j]? = some cc:=hcc
        show ∃ v,_=some v∧_
        have hsz9:(A0.setXs (A0.xs.take len ++ Z)).sz=A0.sz:=rfl
        rw [hsz9]
        have hi':i' < len+m:=by have:=(List.getElem?_eq_some_iff.1 hxx).1; omega
        have hj:j < A0.sz:=by
          have h8:j < (A0.enc xx).length:=(List.getElem?_eq_some_iff.1 hcc).1
          have h9:=A0.hl xx
          omega
        rw [hapg hi'] at hxx
        have hle2:i' * A0.sz+j < (len+m) * A0.sz:=by
          have:=Nat.mul_le_mul_right A0.sz (show i'+1≤len+m from hi')
          rw [Nat.add_mul] at this; omega
        rw [Nat.add_mul] at hle2
        rw [Array.getElem?_append_left (by simp [flat_length]; omega)]
        simp only [List.getElem?_toArray]
        by_cases hil:i' < len
        · rw [if_pos hil] at hxx
          have hle3:i' * A0.sz+j < len * A0.sz:=by
            have:=Nat.mul_le_mul_right A0.sz (show i'+1≤len from hil)
            rw [Nat.add_mul] at this; omega
          rw [List.getElem?_append_left (by rw [flat_length]; exact hle3),flat_get hle3]
          obtain ⟨v,hv,hvr⟩:=hs1.at_ i' j cc (by simp only [SO.cell?,hxx]; exact hcc)
          refine⟨v, ?_,hrelf hcc hvr⟩
          simp only [SO.sz] at hv
          simp [hv]
        · rw [if_neg hil] at hxx
          have hge2:len * A0.sz≤i' * A0.sz:=Nat.mul_le_mul_right _ (by omega)
          rw [List.getElem?_append_right (by rw [flat_length]; omega),flat_length]
          have hsub:i' * A0.sz+j - len * A0.sz=(i' - len) * A0.sz+j:=by
            rw [Nat.sub_mul]; omega
          obtain ⟨v,x2,c2,q1,q2,q3,q4⟩:=hflat ((i' - len) * A0.sz+j) (by omega)
          have e1:((i' - len) * A0.sz+j) / A0.sz=i' - len:=by rw [Nat.mul_comm,Nat.mul_add_div (by omega),Nat.div_eq_of_lt hj]; simp
          have e2:((i' - len) * A0.sz+j) % A0.sz=j:=by rw [Nat.mul_comm,Nat.mul_add_mod,Nat.mod_eq_of_lt hj]
          rw [e1,hxx] at q1; rw [e2] at q2
          have q1:=Option.some.inj q1; subst q1
          rw [hcc] at q2; simp at q2; subst q2
          exact⟨v,by rw [hsub]; exact q3,hrelf hcc q4⟩


def aBy (ty:Option TypeId) (l:List UInt8):Arr:=⟨UInt8,1,fun x=>[.v (.int .u8 x.toNat)],[],fun _=>rfl,(by intro x c hc k hk; simp at hc; subst hc; cases hk),l,none,ty⟩

theorem byteCells_S (l:List UInt8):byteCells (S l)=bytesV l:=by simp [byteCells,S,bytesV]

theorem flatS {ρ:Asg} {ty:Option TypeId} {l l':List UInt8}:∀ j,j < l'.length * (aBy ty l).sz → ∃ v xx cc,l'[j / (aBy ty l).sz]? = some xx∧((aBy ty l).enc xx)[j % (aBy ty l).sz]? = some cc∧(bytesV l')[j]? = some v∧cc.rel ρ v:=by
  intro j hj
  have hj:j < l'.length:=by rw [show (aBy ty l).sz=1 from rfl,Nat.mul_one] at hj; exact hj
  refine⟨_,l'[j], .v (.int .u8 (l'[j]).toNat), ?_, ?_,bytesV_get hj,rfl⟩
  · rw [show (aBy ty l).sz=1 from rfl,Nat.div_one,List.getElem?_eq_getElem hj]
  · rw [show (aBy ty l).sz=1 from rfl,Nat.mod_one]; rfl

theorem P_und_string {P:Program} {B:Tabs} (hB:TabsOK P B) {t:TypeId} {s b:Nat} {z:List Value} (h:lookT B.T t=some ⟨.string,s,b,z⟩):P.underlying t=some .string:=by
  have:=hB.T.get h
  unfold tiOf at this
  split at this
  · rename_i i d hi hd
    split at this
    · rename_i zz hz
      simp only [Option.some.injEq,TI.mk.injEq] at this
      have hk:=this.1
      cases d <;> simp [kdOf] at hk
      exact hd
    · cases this
  · cases this

section
variable {cx:Cx} {B:Tabs} {o:Oper} {e:Env} {H:Heap} {nx:Nat} {K:Eff → Prop}

theorem appS_step (hB:TabsOK cx.P B) {c:Call} {x y:Operand} {t t' el:TypeId} {s0 b0 s1 b1:Nat} {z0 z1:List Value} {ti:TI} {k:Nat} {ty:Option TypeId} {l l':List UInt8} (ho:o.op=.call c) (hc:c.callee=.builtin .append)
    (hca:c.args=#[x,y]) (hct:c.argTypes=#[t,t']) (ht:lookT B.T t=some ⟨.slice el,s0,b0,z0⟩) (ht':lookT B.T t'=some ⟨.string,s1,b1,z1⟩) (hti:lookT B.T el=some ti) (h1:ti.size=1) (hby:ti.bytes=1)
    (hx:ev e x=.c (.s k 0 l.length 1)) (hy:ev e y=strV l') (hl:look H k=some (true, .arr (aBy ty l))) (hty:ty=none ∨ ty=some el) (hle:l.length+l'.length≤70368744177664)
    (hK:K ⟨.c (.s nx 0 (l.length+l'.length) 1),[k],[(nx,true, .arr (aBy ty (l ++ l'))),(k,false, .cells [])],[nx]⟩):∃ f,CallOK cx o e H nx f∧K f:=by
  have hmx:x ∈ o.op.operands.toList:=by simp [ho,Op.operands,Call.operands,hc,hca]
  have hmy:y ∈ o.op.operands.toList:=by simp [ho,Op.operands,Call.operands,hc,hca]
  refine⟨_,⟨?_,fun j hj=>by simp at hj; subst hj; simp⟩,hK⟩
  intro ρ s a w hs hr hk hnew hdst KK Q hKK
  obtain ⟨hfr,hlt,hn0⟩:=hnew nx (by simp)
  have hl1:look s.H k=some (true, .arr (aBy ty l)):=by rw [hk k (by simp)]; exact hl
  have hx1:=reads_fit hmx (fun t ht=>by rw [← hr t ht]; exact hs.env t)
  have hy1:=lit_of hmy hy (fun t ht=>by rw [← hr t ht]; exact hs.env t)
  rw [hx] at hx1
  have hu:=P_und_string hB ht'
  have hsrc:Src cx.P (aBy ty l).sz t' (a.eval y) l'.length (bytesV l') w:=by
    rw [hy1,← byteCells_S]; exact Src.ofString w hu (S l')
  refine app_src (A0:=aBy ty l) (Z:=l') (news:=bytesV l') (m:=l'.length) (len:=l.length) (sz:=1) hB (fun _=>rfl) rfl ?_ ho hc hca hct ht hti h1 (Nat.le_refl _) rfl hs hl1 hsrc (Nat.le_refl _) rfl
    (by rw [bytesV_length]; exact (Nat.mul_one _).symm) flatS ?_ hx1 hfr hlt hn0 hdst ?_
  · intro t'' h
    rcases hty with h2 | h2
    · subst h2; cases h
    · subst h2; exact (Option.some.inj h)
  · rw [hby]; omega
  · intro ρ' a' w' hsat hag
    refine hKK ρ' a' w' ?_ hag
    have e1:l.take l.length ++ l'=l ++ l':=by rw [List.take_length]
    have hsat:Sat cx ρ' { s with e:=putO o.dst (.c (.s nx 0 (l.length+l'.length) 1)) s.e,H:=[(nx,true, .arr (aBy ty (l.take l.length ++ l'))),(k,false, .cells [])] ++ s.H } a' w':=hsat
    rw [e1] at hsat; exact hsat

end

end Sx
end Go

