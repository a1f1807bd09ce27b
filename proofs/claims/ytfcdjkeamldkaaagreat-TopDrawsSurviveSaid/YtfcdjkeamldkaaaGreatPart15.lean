/-
  A part of the proof that a law answers true: lemmas of a symbolic walk, plain functions, or contracts of the functions walked (Sx64, Sx65, Sx66, Sx67, V1). Conditions: none.
-/
import Derived.Test.YtfcdjkeamldkaaaGreatPart14
set_option maxRecDepth 100000
set_option linter.unusedVariables false
set_option linter.unusedSimpArgs false
namespace Go
namespace Sx

theorem Sat.peek {cx:Cx} {ρ:Asg} {s:St} {a:Act} {w:World} (h:Sat cx ρ s a w) {k kp:Nat} {r:Rg} {o q:SO} (hf:Fresh k s) (hlt:k < s.nx) (hn0:cx.n0≤k) (hl:look s.H kp=some (false,q))
    (hq:0 < q.room (ρ kp)) (hin:r.blk ∈ q.fp (ρ kp)) (hnb:o.nb=true) (hbo:o.below s.nx) (hnew:SatO (upd ρ k r) w k false o):Sat cx (upd ρ k r) { s with H:=(k,false,o) :: s.H } a w where
  size:=h.size
  defers:=by rw [h.defers]; exact (marks_agree' fun j hj=>upd_ne (by rintro rfl; exact hf.mks hj)).symm
  env i:=SV.rel_upd' (h.env i) (hf.env i)
  heap :=
    { frm:=h.heap.frm
      reg:=fun j own o' hj=>by
        rw [look_cons] at hj
        by_cases hjk:j=k
        · rw [if_pos hjk] at hj; simp at hj; obtain ⟨rfl,rfl⟩:=hj; subst hjk; exact hnew
        · rw [if_neg hjk] at hj
          exact (h.heap.reg j own o' hj).asg (upd_ne hjk) (fun n hn=>upd_ne (by rintro rfl; have:=(hf.heap j own o' hj).2; rw [hn] at this; cases this))
      apart:=fun j j' o1 own' o2 hne hj hj' hr hr' b hb hb'=>by
        rw [look_cons] at hj hj'
        by_cases hjk:j=k
        · rw [if_pos hjk] at hj; simp at hj
        · rw [if_neg hjk] at hj
          rw [upd_ne hjk] at hr hb
          by_cases hjk':j'=k
          · rw [if_pos hjk'] at hj'; simp at hj'; obtain ⟨rfl,rfl⟩:=hj'
            subst hjk'
            rw [fp_nb hnb,upd_eq] at hb'
            simp at hb'; subst hb'
            have hjp:j ≠ kp:=by rintro rfl; rw [hl] at hj; cases hj
            exact h.heap.apart j kp o1 false q hjp hj hl hr hq _ hb hin
          · rw [if_neg hjk'] at hj'
            rw [upd_ne hjk'] at hr' hb'
            exact h.heap.apart j j' o1 own' o2 hne hj hj' hr hr' b hb hb'
      fresh:=fun j o' hj hr b hb=>by
        rw [look_cons] at hj
        by_cases hjk:j=k
        · rw [if_pos hjk] at hj; simp at hj
        · rw [if_neg hjk] at hj
          rw [upd_ne hjk] at hr hb
          exact h.heap.fresh j o' hj hr b hb
      valid:=fun j own o' hj hr b hb=>by
        rw [look_cons] at hj
        by_cases hjk:j=k
        · rw [if_pos hjk] at hj; simp at hj; obtain ⟨rfl,rfl⟩:=hj; subst hjk
          rw [fp_nb hnb,upd_eq] at hb
          simp at hb; subst hb
          exact h.heap.valid kp false q hl hq _ hin
        · rw [if_neg hjk] at hj
          rw [upd_ne hjk] at hr hb
          exact h.heap.valid j own o' hj hr b hb }
  bnd:=h.bnd.cons hlt hbo
  base j hj:=by rw [upd_ne (by omega)]; exact h.base j hj
  keep:=h.keep
  n0:=h.n0

section
variable {cx:Cx} {B:Tabs} {o:Oper} {e:Env} {H:Heap} {nx:Nat} {K:Eff → Prop}

theorem alias_step {sv:SV} {so q:SO} {kp:Nat} {rd:List Nat} (hd:∀ c,o.op ≠ .defer c) (hl:look H kp=some (false,q)) (hkp:kp ∈ rd) (hnb:so.nb=true) (hbs:sv.below (nx+1)) (hbo:∀ n,so.below n)
    (h:∀ (ρ:Asg) (a:Act) (w:World),(∀ t,Reads o t → (e.get t).rel ρ (a.tmps.getD t undef)) → (∀ j ∈ rd,∀ own p,look H j=some (own,p) → SatO ρ w j own p) →
      ∃ v r,(execOp a.eval o).run cx.P w=.ok (.value v) w∧sv.rel (upd ρ nx r) v∧SatO (upd ρ nx r) w nx false so∧0 < q.room (ρ kp)∧r.blk ∈ q.fp (ρ kp))
    (hK:K ⟨sv,rd,[(nx,false,so)],[nx]⟩):∃ f,CallOK cx o e H nx f∧K f:=by
  refine⟨_,⟨?_,fun k hk=>by simp at hk; subst hk; simp⟩,hK⟩
  intro ρ s a w hs hr hk hnew hdst KK Q hKK
  obtain ⟨hf,hlt,hn0⟩:=hnew nx (by simp)
  obtain ⟨v,r,hrun,hrel,hso,hq,hin⟩:=h ρ a w (fun t ht=>by rw [← hr t ht]; exact hs.env t) (fun j hj own p hp=>hs.heap.reg j own p (by rw [hk j hj]; exact hp))
  refine wpIn_of_value hd hrun (hKK (upd ρ nx r) _ _ ?_ (fun j hj=>upd_ne (by simpa using hj)))
  have h1:=hs.peek hf hlt hn0 (by rw [hk kp hkp]; exact hl) hq hin hnb (hbo s.nx) hso
  exact h1.putO hdst hrel (fun j hj=>Nat.lt_of_lt_of_le (hbs j hj) hlt)

theorem satO_sec {ρ:Asg} {w:World} {k b off c:Nat} {s:Sct} (h1:1≤c) (h:∀ j (h:j < s.l.length),w.cell? ⟨b,off+j,none⟩=some (.int .u8 (s.l[j]'h).toNat)) :
    SatO (upd ρ k ⟨b,off,c,[]⟩) w k false (.arr (aSec [s])) where
  wf:=by simp only [SO.wf,upd_eq]; exact h1
  at_ i j d hd:=by
    rw [arr_cell?] at hd
    cases i with
    | succ i =>
      have hd:([s][i+1]?).bind (fun x=>(bytesC x.l)[j]?)=some d:=hd
      simp at hd
    | zero =>
      have hd:(bytesC s.l)[j]? = some d:=hd
      obtain ⟨hj,rfl⟩:=bytesC_get.1 hd
      refine⟨_, ?_,rfl⟩
      simp only [adr,upd_eq]
      rw [show off+(0 * (SO.arr (aSec [s])).sz+j)=off+j from by omega]
      exact h j hj
  room ho:=by cases ho
  off0 ho:=by cases ho
  keys Φ hΦ:=by cases hΦ
  boxed b hb:=by cases hb
  fixd n hn:=by cases hn
  typd t ht:=by cases ht

theorem loadPend_step (hB:TabsOK cx.P B) {t:TypeId} {ti:TI} {x:Operand} {k i kp j:Nat} {own:Bool} {A:Arr} {P:List (Option Sct)} (s q:Sct) (ho:o.op=.load t x) (ht:lookT B.T t=some ti) (hag:ti.kd.isAgg=false)
    (hx:ev e x=.c (.p k i 129 128)) (hl:look H k=some (own, .arr A)) (hA:A.sz=129) (hi:∃ x,A.xs[i]? = some x∧A.enc x=bytesC s.l ++ [.ghost kp j]) (hb:look H kp=some (false, .box (pendB P))) (hP:P[j]? = some (some q))
    (hK:K ⟨.c (.s nx 0 1 128),[k,kp],[(nx,false, .arr (aSec [q]))],[nx]⟩):∃ f,CallOK cx o e H nx f∧K f:=by
  refine alias_step (by simp [ho]) hb (by simp) rfl below_s (fun n=>below_aSec _ n) ?_ hK
  intro ρ a w hr hreg
  obtain ⟨z,hz,he⟩:=hi
  have hso:=hreg k (by simp) own _ hl
  have hbx:=(hreg kp (by simp) false _ hb).boxed _ rfl
  have h1:=reads_fit (x:=x) (by simp [ho,Op.operands]) hr
  rw [hx] at h1; simp only [SV.rel,SC.rel] at h1
  obtain ⟨v,hv,hrel⟩:=hso.at_ i 128 _ (by rw [arr_cell?,hz]; show (A.enc z)[128]? = _; rw [he]; exact row_last s.h)
  have e1:(SO.arr A).sz=129:=hA
  rw [e1] at hv
  obtain ⟨a0,l0,c0,hv0,hext⟩:=hrel
  obtain ⟨hcap,b,off,c,hext2,hc1,hcell⟩:=hbx j q hP
  rw [hext2] at hext
  have hvv:v=.slice (some ⟨b,off,none⟩) 1 c:=(Option.some.inj hext).symm
  have hagg:=run_isAgg w (hB.T.get ht)
  rw [hag] at hagg
  refine⟨v,⟨b,off,c,[]⟩,by simp [execOp,ho,h1,Instr.loadAt,Instr.sureAddr,loadVar,hagg,hv], ?_,satO_sec hc1 hcell,hcap, ?_⟩
  · rw [hvv]
    simp only [SV.rel,SC.rel,upd_eq,Nat.sub_zero,Nat.zero_mul]
    exact⟨_,rfl,hc1,fun _=>by simp [adr,upd_eq]⟩
  · show b ∈ (ρ kp).blk :: (ρ kp).more
    exact List.mem_cons_of_mem _ (List.mem_flatMap.2 ⟨_,List.mem_of_getElem? hext2,by rw [sblk_of hc1]; simp⟩)

theorem satO_bytes {ρ:Asg} {w:World} {k k':Nat} {s:Sct} (h:SatO ρ w k false (.arr (aSec [s]))):SatO (upd ρ k' ⟨(ρ k).blk,(ρ k).off,128,[]⟩) w k' false (.arr (aU8 (some 128) s.l)) where
  wf:=by simp only [SO.wf,upd_eq]; show s.l.length≤128; rw [s.h]; exact Nat.le_refl _
  at_ i j d hd:=by
    obtain ⟨hi,rfl,rfl⟩:=aU8_cell.1 hd
    obtain ⟨v,hv,hrel⟩:=h.at_ 0 i _ (by rw [arr_cell?]; show (bytesC s.l)[i]? = _; exact bytesC_get.2 ⟨hi,rfl⟩)
    refine⟨v, ?_,hrel⟩
    rw [← hv]
    simp only [adr,upd_eq]
    show w.cell? ⟨_,_+(i * 1+0),none⟩=w.cell? ⟨_,_+(0 * 128+i),none⟩
    rw [show i * 1+0=0 * 128+i from by omega]
  room ho:=by cases ho
  off0 ho:=by cases ho
  keys Φ hΦ:=by cases hΦ
  boxed b hb:=by cases hb
  fixd n hn:=by simp only [upd_eq]; exact Option.some.inj hn
  typd t ht:=by cases ht

theorem slAlias_step (hB:TabsOK cx.P B) {t el:TypeId} {x:Operand} {lo hi:Option Operand} {k:Nat} {s:Sct} {s0 b0:Nat} {z0:List Value} {ti:TI} (ho:o.op=.slice t x lo hi none) (ht:lookT B.T t=some ⟨.array 128 el,s0,b0,z0⟩)
    (hel:lookT B.T el=some ti) (h1:ti.size=1) (hx:ev e x=.c (.p k 0 128 0)) (hl:look H k=some (false, .arr (aSec [s])))
    (h:bndK e hi 128 fun j=>j≤128∧bndK e lo 0 fun i=>i≤j∧K ⟨.c (.s nx i (subN j i) 1),[k],[(nx,false, .arr (aU8 (some 128) s.l))],[nx]⟩):∃ f,CallOK cx o e H nx f∧K f:=by
  have hlo:∀ y,lo=some y → y ∈ o.op.operands.toList:=fun y hy=>by simp [ho,Op.operands,hy]
  have hhi:∀ y,hi=some y → y ∈ o.op.operands.toList:=fun y hy=>by simp [ho,Op.operands,hy]
  obtain ⟨j,⟨hj,h⟩,jd,jy⟩:=bnd_ok (P:=cx.P) (lim:=0) hhi h
  obtain ⟨i,⟨hi',hK⟩,id,iy⟩:=bnd_ok (P:=cx.P) (lim:=0) hlo h
  refine alias_step (by simp [ho]) hl (by simp) rfl below_s (fun n=>aU8_below _ _ n) ?_ hK
  intro ρ a w hr hreg
  have hso:=hreg k (by simp) false _ hl
  have e1:=reads_fit (x:=x) (by simp [ho,Op.operands]) hr
  rw [hx] at e1; simp only [SV.rel,SC.rel] at e1
  have hu:=arrT_und hB ht w
  have hsz:=run_sizeOf hB hel w
  have hb:(Instr.sliceBounds false 128 128 (lo.map a.eval) (hi.map a.eval) none).run cx.P w=.ok (i,j,128) w:=by
    cases lo with
    | none =>
      have:=id rfl; subst this
      cases hi with
      | none=>have:=jd rfl; subst this; simp [Instr.sliceBounds]
      | some y=>obtain ⟨k,hk⟩:=jy y rfl ρ a hr; simp [Instr.sliceBounds,Instr.sliceBound,hk,asIntOf,hj]
    | some u =>
      obtain ⟨k',hk'⟩:=iy u rfl ρ a hr
      cases hi with
      | none=>have:=jd rfl; subst this; simp [Instr.sliceBounds,Instr.sliceBound,hk',asIntOf,hi']
      | some y=>obtain ⟨k,hk⟩:=jy y rfl ρ a hr; simp [Instr.sliceBounds,Instr.sliceBound,hk,hk',asIntOf,hj,hi']
  refine⟨.slice (some (if 128=i then adr ρ k 0 else (adr ρ k 0).add (i * 1))) (j - i) (128 - i),⟨(ρ k).blk,(ρ k).off,128,[]⟩, ?_, ?_,satO_bytes hso, ?_, ?_⟩
  · simp [execOp,ho,e1,Instr.sliceAt,hu,Instr.sureAddr,hb,hsz,h1]
  · simp only [SV.rel,SC.rel,subN_eq,upd_eq]
    refine⟨_,rfl,by omega,fun hlt=>?_⟩
    rw [if_neg (by omega),adr_add,Nat.zero_add]
    simp [adr,upd_eq]
  · have hw:1≤(ρ k).cap:=hso.wf
    show 0 < (ρ k).cap * 128
    omega
  · show (ρ k).blk ∈ [(ρ k).blk]; simp

theorem iaAlias_step (hB:TabsOK cx.P B) {t el:TypeId} {x y:Operand} {k:Nat} {ik:IntKind} {i:Int} {s:Sct} {s0 b0:Nat} {z0:List Value} {ti:TI} (ho:o.op=.indexAddr t x y) (ht:lookT B.T t=some ⟨.array 128 el,s0,b0,z0⟩)
    (hel:lookT B.T el=some ti) (h1:ti.size=1) (hx:ev e x=.c (.p k 0 128 0)) (hl:look H k=some (false, .arr (aSec [s]))) (hy:ev e y=iv ik i) (j:Nat) (hj:i=(j:Int)) (hlt:j < 128)
    (hK:K ⟨.c (.p nx j 1 0),[k],[(nx,false, .arr (aU8 (some 128) s.l))],[nx]⟩):∃ f,CallOK cx o e H nx f∧K f:=by
  refine alias_step (by simp [ho]) hl (by simp) rfl below_p (fun n=>aU8_below _ _ n) ?_ hK
  intro ρ a w hr hreg
  have hso:=hreg k (by simp) false _ hl
  have e1:=reads_fit (x:=x) (by simp [ho,Op.operands]) hr
  rw [hx] at e1; simp only [SV.rel,SC.rel] at e1
  have e2:=lit_of (x:=y) (by simp [ho,Op.operands]) hy hr
  have hu:=arrT_und hB ht w
  have hsz:=run_sizeOf hB hel w
  subst hj
  refine⟨.pointer (some (adr ρ k j)),⟨(ρ k).blk,(ρ k).off,128,[]⟩, ?_, ?_,satO_bytes hso, ?_, ?_⟩
  · simp [execOp,ho,e1,e2,Instr.indexAt,asIntOf,hu,hlt,hsz,Instr.sureAddr,adr_add,h1]
  · simp only [SV.rel,SC.rel]
    simp [adr,upd_eq]
  · have hw:1≤(ρ k).cap:=hso.wf
    show 0 < (ρ k).cap * 128
    omega
  · show (ρ k).blk ∈ [(ρ k).blk]; simp

end
end Sx
end Go

namespace Go
namespace Sx

abbrev Dk:=List (Sct × Option Sct)

def rowsF (D:Dk):List (Sct × Option Nat):=D.mapIdx fun i r=>(r.1,r.2.map fun _=>i)
def pndF (D:Dk):List (Option Sct):=D.map (·.2)

theorem rowsF_length (D:Dk):(rowsF D).length=D.length:=by simp [rowsF]
theorem rowsF_get {D:Dk} {i:Nat}:(rowsF D)[i]? = (D[i]?).map fun r=>(r.1,r.2.map fun _=>i):=by simp [rowsF]

def pdX (kp k':Nat):Option Nat ⊕ Unit → SC
  | .inl b=>pnd kp b
  | .inr _=>.s k' 0 1 128

def aRowX (kp k':Nat) (xs:List (Sct × (Option Nat ⊕ Unit))):Arr:=aRowG [kp,k'] (pdX kp k') (by
  intro b k hk
  cases b with
  | inl b=>cases b <;> simp [pdX,pnd,SC.nms] at hk ⊢; exact .inl hk
  | inr u=>simp [pdX,SC.nms] at hk ⊢; exact .inr hk) xs

def rowsX (D:Dk) (i:Nat):List (Sct × (Option Nat ⊕ Unit)):=D.mapIdx fun j r=>(r.1,if j=i then .inr () else .inl (r.2.map fun _=>j))

theorem rowsX_get {D:Dk} {i j:Nat}:(rowsX D i)[j]? = (D[j]?).map fun r=>(r.1,if j=i then .inr () else .inl (r.2.map fun _=>j)):=by simp [rowsX]

theorem aRowX_cell {kp k':Nat} {xs:List (Sct × (Option Nat ⊕ Unit))} {i j:Nat}:(SO.arr (aRowX kp k' xs)).cell? i j=(xs[i]?).bind fun x=>(bytesC x.1.l ++ [pdX kp k' x.2])[j]?:=arr_cell? _ i j

theorem row_cases {l:List UInt8} {c d:SC} {j:Nat} (hl:l.length=128) (h:(bytesC l ++ [c])[j]? = some d):(j < 128∧∀ c',(bytesC l ++ [c'])[j]? = some d) ∨ (j=128∧d=c):=by
  by_cases hj:j < 128
  · refine .inl ⟨hj,fun c'=>?_⟩
    rw [List.getElem?_append_left (by rw [bytesC_length,hl]; exact hj)] at h ⊢; exact h
  · have hlt:=(List.getElem?_eq_some_iff.1 h).1
    rw [List.length_append,bytesC_length,hl] at hlt
    have hj2:j=128:=by simp at hlt; omega
    subst hj2
    rw [row_last hl] at h
    exact .inr ⟨rfl,(Option.some.inj h).symm⟩

def setD (D:Dk) (i:Nat) (q:Sct):Dk:=D.mapIdx fun j r=>if j=i then (r.1,some q) else r

theorem setD_length (D:Dk) (i:Nat) (q:Sct):(setD D i q).length=D.length:=by simp [setD]
theorem setD_get {D:Dk} {i j:Nat} {q:Sct}:(setD D i q)[j]? = (D[j]?).map fun r=>if j=i then (r.1,some q) else r:=by simp [setD]

theorem Sat.close {cx:Cx} {ρ:Asg} {s:St} {a:Act} {w:World} (h:Sat cx ρ s a w) {kc kp k' nx i:Nat} {D:Dk} {q d:Sct} (hi:D[i]? = some (d,none))
    (hc:look s.H kc=some (true, .arr (aRowX kp k' (rowsX D i)))) (hp:look s.H kp=some (true, .box (pendB (pndF D)))) (hq:look s.H k'=some (true, .arr (aSec [q])))
    (n1:kc ≠ kp) (n2:kc ≠ k') (hf:Fresh nx s) (hlt:nx < s.nx) (hn0:cx.n0≤nx) :
    ∃ r,Sat cx (upd ρ nx r) { s with H:=[(nx,true, .box (pendB (pndF (setD D i q)))),(kc,true, .arr (aRow nx (rowsF (setD D i q)))),(kp,false, .cells []),(k',false, .cells [])] ++ s.H } a w:=by
  have hxc:=h.heap.reg kc true _ hc
  have hxp:=h.heap.reg kp true _ hp
  have hxq:=h.heap.reg k' true _ hq
  have hbx:=hxp.boxed _ rfl
  have hfc:=(hf.heap kc true _ hc).1
  have hfp:=(hf.heap kp true _ hp).1
  have hfq:=(hf.heap k' true _ hq).1
  have hcapq:1≤(ρ k').cap:=hxq.wf
  have hoffq:(ρ k').off=0:=hxq.off0 rfl
  obtain ⟨vq,hvq,hrq⟩:=hxc.at_ i 128 (.s k' 0 1 128) (by rw [aRowX_cell,rowsX_get,hi]; simp only [Option.map_some,Option.bind_some,if_true]; exact row_last d.h)
  obtain ⟨aq,hvq2,_,haq⟩:=hrq
  have haq:=haq (by omega)
  have hvq3:vq=.slice (some ⟨(ρ k').blk,0,none⟩) 1 (ρ k').cap:=by
    rw [hvq2,haq]; simp [adr,hoffq]
  let ext':List Value:=(List.range D.length).map fun j=>if j=i then vq else if (((pndF D)[j]?).getD none).isSome then ((ρ kp).ext[j]?).getD undef else undef
  have hext:∀ j,j < D.length → ext'[j]? = some (if j=i then vq else if (((pndF D)[j]?).getD none).isSome then ((ρ kp).ext[j]?).getD undef else undef):=by
    intro j hj; simp [ext',hj]
  have hilt:i < D.length:=(List.getElem?_eq_some_iff.1 hi).1
  refine⟨⟨(ρ k').blk,0,1,ext'⟩, ?_⟩
  generalize hr:(⟨(ρ k').blk,0,1,ext'⟩:Rg)=r
  have hrext:r.ext=ext':=by rw [← hr]
  have hrblk:r.blk=(ρ k').blk:=by rw [← hr]
  have hrcap:r.cap=1:=by rw [← hr]
  have hfoot:∀ b ∈ (SO.box (pendB (pndF (setD D i q)))).fp r,b=(ρ k').blk ∨ (0 < (ρ kp).cap∧b ∈ (SO.box (pendB (pndF D))).fp (ρ kp)):=by
    intro b hb
    have hb:b ∈ r.blk :: r.more:=hb
    rcases List.mem_cons.1 hb with hb | hb
    · exact .inl (by rw [hb,hrblk])
    · obtain ⟨v,hv,hbv⟩:=List.mem_flatMap.1 hb
      rw [hrext] at hv
      obtain ⟨j,hj,hjv⟩:=List.mem_map.1 hv
      have hj:=List.mem_range.1 hj
      by_cases hji:j=i
      · rw [if_pos hji] at hjv
        subst hjv
        rw [hvq3] at hbv
        obtain ⟨ad,ha,hbb,_⟩:=sblk_mem hbv
        rw [← Option.some.inj ha] at hbb
        exact .inl hbb
      · rw [if_neg hji] at hjv
        by_cases hs:(((pndF D)[j]?).getD none).isSome=true
        · rw [if_pos hs] at hjv
          obtain ⟨s0,hs0⟩:∃ s0,(pndF D)[j]? = some (some s0):=by
            cases hz:(pndF D)[j]? with
            | none=>rw [hz] at hs; simp at hs
            | some z=>cases z with
              | none=>rw [hz] at hs; simp at hs
              | some s0=>exact⟨s0,rfl⟩
          obtain ⟨hcap,b0,off,c,he,_⟩:=hbx j s0 hs0
          refine .inr ⟨hcap, ?_⟩
          show b ∈ (ρ kp).blk :: (ρ kp).more
          rw [he] at hjv
          have hjv:v=.slice (some ⟨b0,off,none⟩) 1 c:=hjv.symm
          exact List.mem_cons_of_mem _ (List.mem_flatMap.2 ⟨v,by rw [hjv]; exact List.mem_of_getElem? he,hbv⟩)
        · rw [if_neg hs] at hjv
          subst hjv
          simp [sblk,undef] at hbv
  have hnewB:(pendB (pndF (setD D i q))).Φ r w:=by
    intro j s0 hj
    have hj:((setD D i q).map (·.2))[j]? = some (some s0):=hj
    rw [List.getElem?_map,setD_get] at hj
    cases hD:D[j]? with
    | none=>rw [hD] at hj; simp at hj
    | some rj =>
      rw [hD] at hj
      simp only [Option.map_some] at hj
      have hjlt:j < D.length:=(List.getElem?_eq_some_iff.1 hD).1
      refine⟨by rw [hrcap]; exact Nat.zero_lt_one, ?_⟩
      rw [hrext,hext j hjlt]
      by_cases hji:j=i
      · rw [if_pos hji] at hj ⊢
        have hj:q=s0:=by simpa using hj
        subst hj
        refine⟨_,_,_,by rw [hvq3],hcapq,fun m hm=>?_⟩
        obtain ⟨v,hv,hrel⟩:=hxq.at_ 0 m _ (by rw [arr_cell?]; show (bytesC q.l)[m]? = _; exact bytesC_get.2 ⟨hm,rfl⟩)
        have hv:w.cell? ⟨(ρ k').blk,(ρ k').off+(0 * 128+m),none⟩=some v:=hv
        rw [hoffq,Nat.zero_mul,Nat.zero_add,Nat.zero_add] at hv
        rw [Nat.zero_add,hv]; exact congrArg some hrel
      · rw [if_neg hji] at hj ⊢
        have hPj:(pndF D)[j]? = some (some s0):=by
          show (D.map (·.2))[j]? = _
          rw [List.getElem?_map,hD]; exact hj
        obtain ⟨hcap,b0,off,c,he,hc1,hcell⟩:=hbx j s0 hPj
        rw [if_pos (by rw [hPj]; rfl),he]
        exact⟨b0,off,c,rfl,hc1,hcell⟩
  have hnewR:SatO (upd ρ nx r) w kc true (.arr (aRow nx (rowsF (setD D i q)))) :=
    { wf:=by
        have h1:(rowsX D i).length≤(ρ kc).cap:=hxc.wf
        show (rowsF (setD D i q)).length≤(upd ρ nx r kc).cap
        rw [upd_ne hfc,rowsF_length,setD_length]
        simpa [rowsX] using h1
      at_:=fun i' j c hcc=>by
        rw [aRow_cell,rowsF_get,setD_get] at hcc
        cases hD:D[i']? with
        | none=>rw [hD] at hcc; simp at hcc
        | some rj =>
          rw [hD] at hcc
          simp only [Option.map_some,Option.bind_some] at hcc
          have hilt':i' < D.length:=(List.getElem?_eq_some_iff.1 hD).1
          have hadr:∀ n,adr (upd ρ nx r) kc n=adr ρ kc n:=fun n=>by simp [adr,upd_ne hfc]
          have hold:∀ j' c',(bytesC rj.1.l ++ [pdX kp k' (if i'=i then .inr () else .inl (rj.2.map fun _=>i'))])[j']? = some c' → ∃ v,w.cell? (adr ρ kc (i' * 129+j'))=some v∧c'.rel ρ v:=by
            intro j' c' hc'
            exact hxc.at_ i' j' c' (by rw [aRowX_cell,rowsX_get,hD]; exact hc')
          show ∃ v,w.cell? (adr (upd ρ nx r) kc (i' * 129+j))=some v∧_
          rw [hadr]
          by_cases hii:i'=i
          · rw [if_pos hii] at hcc
            rcases row_cases rj.1.h hcc with ⟨hj,hall⟩ | ⟨hj,rfl⟩
            · obtain ⟨v,hv,hrel⟩:=hold j c (hall _)
              refine⟨v,hv, ?_⟩
              have hb:∃ x,c=.v x:=by
                have:=hall .junk
                rw [List.getElem?_append_left (by rw [bytesC_length,rj.1.h]; exact hj)] at this
                obtain ⟨_,rfl⟩:=bytesC_get.1 this
                exact⟨_,rfl⟩
              obtain ⟨x,rfl⟩:=hb
              exact hrel
            · subst hj; subst hii
              obtain ⟨v,hv,hrel⟩:=hold 128 _ (row_last rj.1.h)
              rw [if_pos rfl] at hrel
              have hvv:v=vq:=by
                have:w.cell? (adr ρ kc (i' * 129+128))=some vq:=hvq
                rw [hv] at this; exact Option.some.inj this
              refine⟨v,hv,_,_,_,by rw [hvv]; exact hvq3, ?_⟩
              rw [upd_eq,hrext,hext i' hilt',if_pos rfl,hvv]
          · rw [if_neg hii] at hcc
            rcases row_cases rj.1.h hcc with ⟨hj,hall⟩ | ⟨hj,rfl⟩
            · obtain ⟨v,hv,hrel⟩:=hold j c (hall _)
              refine⟨v,hv, ?_⟩
              have hb:∃ x,c=.v x:=by
                have:=hall .junk
                rw [List.getElem?_append_left (by rw [bytesC_length,rj.1.h]; exact hj)] at this
                obtain ⟨_,rfl⟩:=bytesC_get.1 this
                exact⟨_,rfl⟩
              obtain ⟨x,rfl⟩:=hb
              exact hrel
            · subst hj
              obtain ⟨v,hv,hrel⟩:=hold 128 _ (row_last rj.1.h)
              rw [if_neg hii] at hrel
              refine⟨v,hv, ?_⟩
              cases hz:rj.2 with
              | none=>rw [hz] at hrel; exact hrel
              | some s0 =>
                rw [hz] at hrel
                have hrel:(SC.ghost kp i').rel ρ v:=hrel
                obtain ⟨a0,l0,c0,hv0,he⟩:=hrel
                have hPj:(pndF D)[i']? = some (some s0):=by
                  show (D.map (·.2))[i']? = _
                  rw [List.getElem?_map,hD,← hz]; rfl
                refine⟨a0,l0,c0,hv0, ?_⟩
                rw [upd_eq,hrext,hext i' hilt',if_neg hii,if_pos (by rw [hPj]; rfl),he]; rfl
      room:=fun ho hm hb n hn=>hxc.room rfl (fun _ hh=>by cases hh) (fun _ hh=>by cases hh) n (by
        have hn:n < (upd ρ nx r kc).cap * 129:=hn
        rw [upd_ne hfc] at hn; exact hn) |> fun hh=>by
          have hadr:adr (upd ρ nx r) kc n=adr ρ kc n:=by simp [adr,upd_ne hfc]
          rw [hadr]; exact hh
      off0:=fun _=>by rw [upd_ne hfc]; exact hxc.off0 rfl
      keys:=fun Φ hΦ=>by cases hΦ
      boxed:=fun b hb=>by cases hb
      fixd:=fun n hn=>by cases hn
      typd:=fun t ht=>by cases ht }
  have hlook:∀ j own o,look ([(nx,true,SO.box (pendB (pndF (setD D i q)))),(kc,true, .arr (aRow nx (rowsF (setD D i q)))),(kp,false, .cells []),(k',false, .cells [])] ++ s.H) j=some (own,o) →
      (j=nx∧own=true∧o=.box (pendB (pndF (setD D i q)))) ∨ (j ≠ nx∧j=kc∧own=true∧o=.arr (aRow nx (rowsF (setD D i q)))) ∨ (own=false∧o=.cells []) ∨
      (j ≠ nx∧j ≠ kc∧j ≠ kp∧j ≠ k'∧look s.H j=some (own,o)):=by
    intro j own o hj
    simp only [List.cons_append,List.nil_append] at hj
    rw [look_cons] at hj
    by_cases j1:j=nx
    · rw [if_pos j1] at hj; simp at hj; exact .inl ⟨j1,hj.1,hj.2.symm⟩
    · rw [if_neg j1,look_cons] at hj
      by_cases j2:j=kc
      · rw [if_pos j2] at hj; simp at hj; exact .inr (.inl ⟨j1,j2,hj.1,hj.2.symm⟩)
      · rw [if_neg j2,look_cons] at hj
        by_cases j3:j=kp
        · rw [if_pos j3] at hj; simp at hj; exact .inr (.inr (.inl ⟨hj.1,hj.2.symm⟩))
        · rw [if_neg j3,look_cons] at hj
          by_cases j4:j=k'
          · rw [if_pos j4] at hj; simp at hj; exact .inr (.inr (.inl ⟨hj.1,hj.2.symm⟩))
          · rw [if_neg j4] at hj
            exact .inr (.inr (.inr ⟨j1,j2,j3,j4,hj⟩))
  have hroomq:0 < (SO.arr (aSec [q])).room (ρ k'):=by show 0 < (ρ k').cap * 128; omega
  have hroomp:0 < (ρ kp).cap → 0 < (SO.box (pendB (pndF D))).room (ρ kp):=fun h=>h
  have hfpq:(SO.arr (aSec [q])).fp (ρ k')=[(ρ k').blk]:=rfl
  have hsep:∀ j own o,look s.H j=some (own,o) → j ≠ kp → j ≠ k' → 0 < o.room (ρ j) → ∀ b ∈ (SO.box (pendB (pndF (setD D i q)))).fp r,b ∉ o.fp (ρ j):=by
    intro j own o hj hjp hjq hrj b hb
    rcases hfoot b hb with rfl | ⟨hcap,hb⟩
    · exact h.heap.apart k' j _ own o (Ne.symm hjq) hq hj hroomq hrj _ (by rw [hfpq]; simp)
    · exact h.heap.apart kp j _ own o (Ne.symm hjp) hp hj (hroomp hcap) hrj b hb
  refine { size:=h.size,defers:=by rw [h.defers]; exact (marks_agree' fun j hj=>upd_ne (by rintro rfl; exact hf.mks hj)).symm,env:=fun i=>SV.rel_upd' (h.env i) (hf.env i),heap:=?_,bnd:=?_,base:=fun j hj=>by rw [upd_ne (by omega)]; exact h.base j hj,keep:=h.keep,n0:=h.n0 }
  · refine { frm:=h.heap.frm,reg:=?_,apart:=?_,fresh:=?_,valid:=?_ }
    · intro j own o hj
      rcases hlook j own o hj with ⟨rfl,rfl,rfl⟩ | ⟨_,rfl,rfl,rfl⟩ | ⟨rfl,rfl⟩ | ⟨j1,j2,j3,j4,hjo⟩
      · exact { wf := trivial, at_ := fun i j c hc => by simp [SO.cell?] at hc, room := fun _ _ hb => absurd rfl (hb _), off0 := fun _ => by rw [upd_eq, ← hr], keys := fun Φ hΦ => (by cases hΦ),
                boxed:=fun b hb=>(by cases hb; rw [upd_eq]; exact hnewB),fixd:=fun n hn=>(by cases hn),typd:=fun t ht=>(by cases ht) }
      · exact hnewR
      · exact satO_dead _ _ _
      · exact (h.heap.reg j own o hjo).asg (upd_ne j1) (fun n hn=>upd_ne (by rintro rfl; have:=(hf.heap j own o hjo).2; rw [hn] at this; cases this))
    · intro j j' o1 own' o2 hne hj hj' hr1 hr2 b hb hb'
      rcases hlook j true o1 hj with ⟨rfl,_,rfl⟩ | ⟨jn,rfl,_,rfl⟩ | ⟨hh,_⟩ | ⟨j1,j2,j3,j4,hjo⟩
      · rw [upd_eq] at hb
        rcases hlook j' own' o2 hj' with ⟨rfl,_,_⟩ | ⟨jn',rfl,rfl,rfl⟩ | ⟨_,rfl⟩ | ⟨j1',j2',j3',j4',hjo'⟩
        · exact hne rfl
        · rw [upd_ne jn'] at hb' hr2
          exact hsep j' true _ hc n1 n2 (show 0 < (ρ j').cap * 129 from hr2) b hb hb'
        · simp [SO.room] at hr2
        · rw [upd_ne j1'] at hb' hr2
          exact hsep j' own' o2 hjo' j3' j4' hr2 b hb hb'
      · rw [upd_ne jn] at hb hr1
        rcases hlook j' own' o2 hj' with ⟨rfl,_,rfl⟩ | ⟨jn',rfl,rfl,rfl⟩ | ⟨_,rfl⟩ | ⟨j1',j2',j3',j4',hjo'⟩
        · rw [upd_eq] at hb'
          exact hsep j true _ hc n1 n2 (show 0 < (ρ j).cap * 129 from hr1) b hb' hb
        · exact hne rfl
        · simp [SO.room] at hr2
        · rw [upd_ne j1'] at hb' hr2
          exact h.heap.apart j j' _ own' o2 hne hc hjo' (show 0 < (ρ j).cap * 129 from hr1) hr2 b hb hb'
      · cases hh
      · rw [upd_ne j1] at hb hr1
        rcases hlook j' own' o2 hj' with ⟨rfl,_,rfl⟩ | ⟨jn',rfl,rfl,rfl⟩ | ⟨_,rfl⟩ | ⟨j1',j2',j3',j4',hjo'⟩
        · rw [upd_eq] at hb'
          exact hsep j true o1 hjo j3 j4 hr1 b hb' hb
        · rw [upd_ne jn'] at hb' hr2
          exact h.heap.apart j j' _ true _ hne hjo hc hr1 (show 0 < (ρ j').cap * 129 from hr2) b hb hb'
        · simp [SO.room] at hr2
        · rw [upd_ne j1'] at hb' hr2
          exact h.heap.apart j j' _ own' o2 hne hjo hjo' hr1 hr2 b hb hb'
    · intro j o hj hr1 b hb
      rcases hlook j true o hj with ⟨rfl,_,rfl⟩ | ⟨jn,rfl,_,rfl⟩ | ⟨hh,_⟩ | ⟨j1,j2,j3,j4,hjo⟩
      · rw [upd_eq] at hb
        rcases hfoot b hb with rfl | ⟨hcap,hb⟩
        · exact h.heap.fresh k' _ hq hroomq _ (by rw [hfpq]; simp)
        · exact h.heap.fresh kp _ hp (hroomp hcap) b hb
      · rw [upd_ne jn] at hb hr1
        exact h.heap.fresh j _ hc (show 0 < (ρ j).cap * 129 from hr1) b hb
      · cases hh
      · rw [upd_ne j1] at hb hr1
        exact h.heap.fresh j o hjo hr1 b hb
    · intro j own o hj hr1 b hb
      rcases hlook j own o hj with ⟨rfl,_,rfl⟩ | ⟨jn,rfl,_,rfl⟩ | ⟨_,rfl⟩ | ⟨j1,j2,j3,j4,hjo⟩
      · rw [upd_eq] at hb
        rcases hfoot b hb with rfl | ⟨hcap,hb⟩
        · exact h.heap.valid k' true _ hq hroomq _ (by rw [hfpq]; simp)
        · exact h.heap.valid kp true _ hp (hroomp hcap) b hb
      · rw [upd_ne jn] at hb hr1
        exact h.heap.valid j true _ hc (show 0 < (ρ j).cap * 129 from hr1) b hb
      · simp [SO.room] at hr1
      · rw [upd_ne j1] at hb hr1
        exact h.heap.valid j own o hjo hr1 b hb
  · have hkc:=(h.bnd.heap kc true _ hc).1
    have hkp:=(h.bnd.heap kp true _ hp).1
    have hkq:=(h.bnd.heap k' true _ hq).1
    have b1:=h.bnd.cons (own:=false) (o:=.cells []) hkq (by intro j hj; simp [SO.uses,usesL] at hj)
    have b2:=b1.cons (own:=false) (o:=.cells []) hkp (by intro j hj; simp [SO.uses,usesL] at hj)
    have b3:=b2.cons (own:=true) (o:=.arr (aRow nx (rowsF (setD D i q)))) hkc (by
      intro j hj
      have hj:j ∈ [nx]:=by obtain ⟨z,h1,h2⟩:=anyMem_iff.1 hj; simp at h2; subst h2; exact h1
      simp at hj; subst hj; exact hlt)
    exact b3.cons (own:=true) (o:=.box (pendB (pndF (setD D i q)))) hlt (by intro j hj; simp [SO.uses] at hj)

end Sx
end Go

namespace Go
namespace Sx
section
variable {cx:Cx} {B:Tabs} {o:Oper} {e:Env} {H:Heap} {nx:Nat} {K:Eff → Prop}

theorem storeClose_step (hB:TabsOK cx.P B) {t:TypeId} {ti:TI} {x y:Operand} {kc kp k' i:Nat} {D:Dk} (d q:Sct) (ho:o.op=.store t x y) (ht:lookT B.T t=some ti) (hn:ti.size=1)
    (hx:ev e x=.c (.p kc i 129 128)) (hy:ev e y=.c (.s k' 0 1 128)) (hc:look H kc=some (true, .arr (aRow kp (rowsF D)))) (hp:look H kp=some (true, .box (pendB (pndF D)))) (hq:look H k'=some (true, .arr (aSec [q])))
    (hi:D[i]? = some (d,none)) (n1:kc ≠ kp) (n2:kc ≠ k')
    (hK:K ⟨.c .junk,[kc,kp,k'],[(nx,true, .box (pendB (pndF (setD D i q)))),(kc,true, .arr (aRow nx (rowsF (setD D i q)))),(kp,false, .cells []),(k',false, .cells [])],[nx]⟩):∃ f,CallOK cx o e H nx f∧K f:=by
  have hrows:(rowsF D)[i]? = some (d,none):=by rw [rowsF_get,hi]; rfl
  have hloc:=store_key (cx:=cx) (e:=e) (H:=H) (i:=i) (off:=128) (sz:=129) (new:=[.s k' 0 1 128]) hB ho hx ht (by rw [hn]; rfl) (by omega) (fun ρ v hv=>by
      rw [hy] at hv
      obtain ⟨ad,rfl,h⟩:=hv
      exact⟨⟨⟨ad,rfl,h⟩,trivial⟩,fun z hz=>by simp [Value.cells] at hz; subst hz; exact⟨fun _=>by simp,fun _=>by simp⟩⟩)
    (.arr (aRow kp (rowsF D))) (.arr (aRowX kp k' (rowsX D i))) [.s k' 0 1 128] (fun _ _ h=>h) hc (by simp) rfl ?_ (fun _=>rfl) rfl rfl rfl (.inl rfl) ?_ (by simp) rfl ?_ ?_
  · refine⟨_,⟨?_,fun k hk=>by simp at hk; subst hk; simp⟩,hK⟩
    intro ρ s a w hs hr hk hnew hdst KK Q hKK
    obtain ⟨hf,hlt,hn0⟩:=hnew nx (by simp)
    have lc:=hk kc (by simp)
    have lp:=hk kp (by simp)
    have lq:=hk k' (by simp)
    rw [hc] at lc; rw [hp] at lp; rw [hq] at lq
    have fc:=(hf.heap kc true _ lc).1
    have fp:=(hf.heap kp true _ lp).1
    have fq:=(hf.heap k' true _ lq).1
    refine hloc ρ s a w hs hr (fun k hk'=>hk k (by simp at hk'; subst hk'; simp)) (fun k hk'=>by simp at hk') hdst KK Q (fun ρ' a' w' hs' hold=>?_)
    have hf':Fresh nx { s with e:=putO o.dst (.c .junk) s.e,H:=[(kc,true, .arr (aRowX kp k' (rowsX D i)))] ++ s.H } :=
      { env:=fun i=>by
          cases hd:o.dst with
          | none=>exact hf.env i
          | some dd =>
            simp only [putO]
            rw [get_put]
            by_cases hi':i=dd
            · rw [if_pos hi']; rfl
            · rw [if_neg hi']; exact hf.env i
        mks:=by rw [putO_marks]; exact hf.mks
        heap:=fun j own p hj=>by
          simp only [List.cons_append,List.nil_append] at hj
          rw [look_cons] at hj
          by_cases hjc:j=kc
          · rw [if_pos hjc] at hj
            simp at hj; obtain ⟨_,rfl⟩:=hj
            refine⟨by rw [hjc]; exact fc, ?_⟩
            cases hu:(SO.arr (aRowX kp k' (rowsX D i))).uses [nx] with
            | false=>rfl
            | true =>
              obtain ⟨z,h1,h2⟩:=anyMem_iff.1 hu
              simp at h2; subst h2
              have h1:z ∈ [kp,k']:=h1
              simp at h1
              rcases h1 with h1 | h1
              · exact absurd h1.symm fp
              · exact absurd h1.symm fq
          · rw [if_neg hjc] at hj; exact hf.heap j own p hj }
    obtain ⟨r,hs''⟩:=hs'.close (kc:=kc) (kp:=kp) (k':=k') (i:=i) (D:=D) (q:=q) hi (by show look ((kc,true,_) :: s.H) kc=_; rw [look_cons,if_pos rfl])
      (by show look ((kc,true,_) :: s.H) kp=_; rw [look_cons,if_neg (Ne.symm n1)]; exact lp) (by show look ((kc,true,_) :: s.H) k'=_; rw [look_cons,if_neg (Ne.symm n2)]; exact lq) n1 n2 hf' hlt hn0
    refine hKK (upd ρ' nx r) a' w' (hs''.congr (fun _=>.inl rfl) (fun j=>?_) rfl rfl) (fun j hj=>?_)
    · simp only [List.cons_append,List.nil_append]
      rw [look_cons,look_cons,look_cons,look_cons,look_cons,look_cons,look_cons,look_cons,look_cons]
      by_cases j1:j=nx
      · rw [if_pos j1,if_pos j1]
      · rw [if_neg j1,if_neg j1]
        by_cases j2:j=kc
        · rw [if_pos j2,if_pos j2]
        · rw [if_neg j2,if_neg j2,if_neg j2]
    · rw [upd_ne (by simpa using hj)]; exact hold j (by simp)
  · intro ρ hw
    have hw:(rowsF D).length≤(ρ kc).cap:=hw
    have hlt:i < (rowsF D).length:=(List.getElem?_eq_some_iff.1 hrows).1
    show i * 129+128+1≤(ρ kc).cap * 129
    have:=Nat.mul_le_mul_right 129 (show i+1≤(ρ kc).cap by omega)
    omega
  · intro r hw
    have hw:(rowsF D).length≤r.cap:=hw
    show (rowsX D i).length≤r.cap
    rw [rowsF_length] at hw
    simpa [rowsX] using hw
  · intro r _ i' j c hcc
    rw [aRowX_cell,rowsX_get] at hcc
    cases hD:D[i']? with
    | none=>rw [hD] at hcc; simp at hcc
    | some rj =>
      rw [hD] at hcc
      simp only [Option.map_some,Option.bind_some] at hcc
      have hjlt:j < 129:=by
        have:=(List.getElem?_eq_some_iff.1 hcc).1
        rw [List.length_append,bytesC_length,rj.1.h] at this; simpa using this
      show (i' * 129+j < i * 129+128 ∨ i * 129+128+1≤i' * 129+j)∧_ ∨ (i * 129+128≤i' * 129+j∧i' * 129+j < i * 129+128+1∧[SC.s k' 0 1 128][i' * 129+j - (i * 129+128)]? = some c)
      by_cases hii:i'=i
      · subst hii
        rw [if_pos rfl] at hcc
        rcases row_cases rj.1.h hcc with ⟨hj,hall⟩ | ⟨rfl,rfl⟩
        · refine .inl ⟨.inl (by omega), ?_⟩
          rw [aRow_cell,hrows]
          have:=hall (pnd kp none)
          rw [hi] at hD; cases hD
          exact this
        · refine .inr ⟨Nat.le_refl _,by omega, ?_⟩
          rw [Nat.sub_self]; rfl
      · rw [if_neg hii] at hcc
        refine .inl ⟨?_, ?_⟩
        · rcases Nat.lt_or_gt_of_ne hii with hlt | hgt
          · have:=Nat.mul_le_mul_right 129 (show i'+1≤i from hlt)
            left; omega
          · have:=Nat.mul_le_mul_right 129 (show i+1≤i' from hgt)
            right; omega
        · rw [aRow_cell,rowsF_get,hD]; exact hcc
  · intro n h1 h2 j hj
    have hj:j ∈ [kp,k']:=by obtain ⟨z,h1,h2⟩:=anyMem_iff.1 hj; simp at h2; subst h2; exact h1
    simp at hj
    rcases hj with rfl | rfl
    · exact h1 j (anyMem_iff.2 ⟨j,List.mem_singleton.2 rfl,List.mem_singleton.2 rfl⟩)
    · rw [hy,SV.below_c] at h2
      exact h2 j (by simp [SC.nms])

end
end Sx
end Go

namespace Go
namespace Sx

theorem Triple.addBox {P:Program} {f:FuncId} {args:List SV} {pre:Heap} {np:Nat} {r:SV} {post:Heap} {k kb:Nat} {xs:List Sct} (T:Triple P f args pre np r ((k,true, .arr (aRowN xs)) :: post))
    (hkb:np≤kb) (hkk:k ≠ kb) (hpost:∀ j own o,look post j=some (own,o) → j ≠ kb∧o.uses [kb]=false) (hr:r.uses [kb]=false) :
    Triple P f args pre np r ((k,true, .arr (aRow kb (xs.map fun x=>(x,none)))) :: (kb,true, .box (pendB (xs.map fun _=>none))) :: post) where
  enter:=T.enter
  h ρ w vals hv hH:=by
    intro cs
    obtain ⟨e,w',fr,⟨ρ',v,hb,he,hrel,hS⟩,hrest⟩:=T.h ρ w vals hv hH cs
    refine⟨e,w',fr,⟨upd ρ' kb ⟨0,0,0,[]⟩,v,fun j hj=>by rw [upd_ne (by omega)]; exact hb j hj,he,SV.rel_upd' hrel hr, ?_⟩,hrest⟩
    have hk:=hS.reg k true (.arr (aRowN xs)) (by rw [look_cons,if_pos rfl])
    have hlook:∀ j own o,look ((k,true,SO.arr (aRow kb (xs.map fun x=>(x,none)))) :: (kb,true, .box (pendB (xs.map fun _=>none))) :: post) j=some (own,o) →
        (j=k∧own=true∧o=.arr (aRow kb (xs.map fun x=>(x,none)))) ∨ (j=kb∧own=true∧o=.box (pendB (xs.map fun _=>none))) ∨ (j ≠ k∧j ≠ kb∧look ((k,true,SO.arr (aRowN xs)) :: post) j=some (own,o)):=by
      intro j own o hj
      rw [look_cons] at hj
      by_cases j1:j=k
      · rw [if_pos j1] at hj; simp at hj; exact .inl ⟨j1,hj.1,hj.2.symm⟩
      · rw [if_neg j1,look_cons] at hj
        by_cases j2:j=kb
        · rw [if_pos j2] at hj; simp at hj; exact .inr (.inl ⟨j2,hj.1,hj.2.symm⟩)
        · rw [if_neg j2] at hj
          refine .inr (.inr ⟨j1,j2, ?_⟩)
          rw [look_cons,if_neg j1]; exact hj
    have hkl:look ((k,true,SO.arr (aRowN xs)) :: post) k=some (true, .arr (aRowN xs)):=by rw [look_cons,if_pos rfl]
    refine { frm:=hS.frm,reg:=?_,apart:=?_,fresh:=?_,valid:=?_ }
    · intro j own o hj
      rcases hlook j own o hj with ⟨rfl,rfl,rfl⟩ | ⟨rfl,rfl,rfl⟩ | ⟨j1,j2,hjo⟩
      · have hadr:∀ n,adr (upd ρ' kb ⟨0,0,0,[]⟩) j n=adr ρ' j n:=fun n=>by simp [adr,upd_ne hkk]
        exact
          { wf:=by
              have h1:xs.length≤(ρ' j).cap:=hk.wf
              show (xs.map fun x=>(x,none)).length≤_
              rw [upd_ne hkk,List.length_map]; exact h1
            at_:=fun i' m c hc=>by
              rw [aRow_cell,List.getElem?_map] at hc
              cases hx:xs[i']? with
              | none=>rw [hx] at hc; simp at hc
              | some x =>
                rw [hx] at hc
                have hc:(bytesC x.l ++ [SC.v nilV])[m]? = some c:=hc
                obtain ⟨u,hu,hrel⟩:=hk.at_ i' m c (by rw [arr_cell?]; show (xs[i']?).bind _=_; rw [hx]; exact hc)
                refine⟨u,by show w'.cell? (adr _ j (i' * 129+m))=_; rw [hadr]; exact hu, ?_⟩
                have hnm:c.nms=[]:=by
                  rcases List.mem_append.1 (List.mem_of_getElem? hc) with h1 | h1
                  · exact bytesC_nms h1
                  · simp at h1; subst h1; rfl
                exact SC.rel_agree (fun k hk=>by rw [hnm] at hk; cases hk) hrel
            room:=fun ho hm hb n hn=>by
              rw [hadr]
              refine hk.room rfl (fun _ hh=>by cases hh) (fun _ hh=>by cases hh) n ?_
              have hn:n < (upd ρ' kb ⟨0,0,0,[]⟩ j).cap * 129:=hn
              rw [upd_ne hkk] at hn; exact hn
            off0:=fun _=>by rw [upd_ne hkk]; exact hk.off0 rfl
            keys:=fun Φ hΦ=>(by cases hΦ),boxed:=fun b hb=>(by cases hb),fixd:=fun n hn=>(by cases hn),typd:=fun t ht=>(by cases ht) }
      · exact { wf := trivial, at_ := fun i j c hc => by simp [SO.cell?] at hc, room := fun _ _ hb => absurd rfl (hb _), off0 := fun _ => by rw [upd_eq], keys := fun Φ hΦ => (by cases hΦ),
                boxed:=fun b hb=>(by
                  cases hb
                  intro i s hi
                  rw [List.getElem?_map] at hi
                  cases hx:xs[i]? <;> rw [hx] at hi <;> simp at hi),fixd:=fun n hn=>(by cases hn),typd:=fun t ht=>(by cases ht) }
      · have hju:o.uses [kb]=false:=by
          rw [look_cons,if_neg j1] at hjo
          exact (hpost j own o hjo).2
        exact (hS.reg j own o hjo).asg (upd_ne j2) (fun n hn=>upd_ne (by rintro rfl; rw [hju] at hn; cases hn))
    · intro j j' o1 own' o2 hne hj hj' hr1 hr2 b hb hb'
      rcases hlook j true o1 hj with ⟨rfl,_,rfl⟩ | ⟨rfl,_,rfl⟩ | ⟨j1,j2,hjo⟩
      · rw [upd_ne hkk] at hr1 hb
        rcases hlook j' own' o2 hj' with ⟨rfl,_,_⟩ | ⟨rfl,rfl,rfl⟩ | ⟨j1',j2',hjo'⟩
        · exact hne rfl
        · rw [upd_eq] at hr2; simp [SO.room] at hr2
        · rw [upd_ne j2'] at hr2 hb'
          exact hS.apart j j' _ own' o2 hne hkl hjo' (show 0 < (ρ' j).cap * 129 from hr1) hr2 b hb hb'
      · rw [upd_eq] at hr1; simp [SO.room] at hr1
      · rw [upd_ne j2] at hr1 hb
        rcases hlook j' own' o2 hj' with ⟨rfl,rfl,rfl⟩ | ⟨rfl,rfl,rfl⟩ | ⟨j1',j2',hjo'⟩
        · rw [upd_ne hkk] at hr2 hb'
          exact hS.apart j j' _ true _ hne hjo hkl hr1 (show 0 < (ρ' j').cap * 129 from hr2) b hb hb'
        · rw [upd_eq] at hr2; simp [SO.room] at hr2
        · rw [upd_ne j2'] at hr2 hb'
          exact hS.apart j j' o1 own' o2 hne hjo hjo' hr1 hr2 b hb hb'
    · intro j o hj hr1 b hb
      rcases hlook j true o hj with ⟨rfl,_,rfl⟩ | ⟨rfl,_,rfl⟩ | ⟨j1,j2,hjo⟩
      · rw [upd_ne hkk] at hr1 hb
        exact hS.fresh j _ hkl (show 0 < (ρ' j).cap * 129 from hr1) b hb
      · rw [upd_eq] at hr1; simp [SO.room] at hr1
      · rw [upd_ne j2] at hr1 hb
        exact hS.fresh j o hjo hr1 b hb
    · intro j own o hj hr1 b hb
      rcases hlook j own o hj with ⟨rfl,_,rfl⟩ | ⟨rfl,_,rfl⟩ | ⟨j1,j2,hjo⟩
      · rw [upd_ne hkk] at hr1 hb
        exact hS.valid j true _ hkl (show 0 < (ρ' j).cap * 129 from hr1) b hb
      · rw [upd_eq] at hr1; simp [SO.room] at hr1
      · rw [upd_ne j2] at hr1 hb
        exact hS.valid j own o hjo hr1 b hb

theorem look_last {A:Heap} {k j:Nat} {x:Bool × SO} (hA:k ∉ keys A):look (A ++ [(k,x)]) j=if j=k then some x else look A j:=by
  rw [look_append]
  by_cases hj:j=k
  · rw [if_pos hj]
    have:look A j=none:=by
      cases h:look A j with
      | none=>rfl
      | some y=>rw [hj] at h; exact absurd (look_keys h) hA
    rw [this,hj]
    simp [look]
  · rw [if_neg hj]
    have:look [(k,x)] j=none:=by rw [look_cons,if_neg hj]; rfl
    rw [this]
    cases look A j <;> rfl

theorem Triple.carry {P:Program} {f:FuncId} {args:List SV} {A:Heap} {np:Nat} {r:SV} {post:Heap} {k:Nat} {b b':Bx} (T:Triple P f args (A ++ [(k,false, .box b)]) np r post)
    (hA:k ∉ keys A) (hnd:nodupB (mapN id (keys A))=true) (hkn:k < np) (hp:k ∉ keys post) (hown:∀ x ∈ post,x.2.1=true) (himp:∀ r w,b.Φ r w → b'.Φ r w) :
    Triple P f args (A ++ [(k,true, .box b)]) np r (post ++ [(k,true, .box b')]) where
  enter:=T.enter
  h ρ w vals hv hH:=by
    have hu:uniq A:=uniq_of_nodup hnd
    have hH':SatH w (ownB ρ (A ++ [(k,false, .box b)])) ρ (A ++ [(k,false, .box b)]) w :=
      { frm:=⟨Nat.le_refl _,fun _ _ _=>rfl,⟨rfl,rfl⟩,rfl,Nat.le_refl _⟩
        reg:=fun j own o hj=>by
          rw [look_last hA] at hj
          by_cases hjk:j=k
          · rw [if_pos hjk] at hj; cases hj; subst hjk
            exact (hH.reg j true (.box b) (by rw [look_last hA,if_pos rfl])).less false
          · rw [if_neg hjk] at hj
            exact hH.reg j own o (by rw [look_last hA,if_neg hjk]; exact hj)
        apart:=fun j j' o1 own' o2 hne hj hj' hr1 hr2=>by
          rw [look_last hA] at hj hj'
          by_cases hjk:j=k
          · rw [if_pos hjk] at hj; cases hj
          · rw [if_neg hjk] at hj
            by_cases hjk':j'=k
            · rw [if_pos hjk'] at hj'; cases hj'; subst hjk'
              exact hH.apart j j' o1 true _ hne (by rw [look_last hA,if_neg hjk]; exact hj) (by rw [look_last hA,if_pos rfl]) hr1 hr2
            · rw [if_neg hjk'] at hj'
              exact hH.apart j j' o1 own' o2 hne (by rw [look_last hA,if_neg hjk]; exact hj) (by rw [look_last hA,if_neg hjk']; exact hj') hr1 hr2
        fresh:=fun j o hj hr1 c hc=>.inr (mem_ownB.2 ⟨j,o,look_mem hj,hr1,hc⟩)
        valid:=fun j own o hj hr1=>by
          rw [look_last hA] at hj
          by_cases hjk:j=k
          · rw [if_pos hjk] at hj; cases hj; subst hjk
            exact hH.valid j true _ (by rw [look_last hA,if_pos rfl]) hr1
          · rw [if_neg hjk] at hj
            exact hH.valid j own o (by rw [look_last hA,if_neg hjk]; exact hj) hr1 }
    have hkl:look (A ++ [(k,true,SO.box b)]) k=some (true, .box b):=by rw [look_last hA,if_pos rfl]
    have hsub:∀ c,c ∈ ownB ρ (A ++ [(k,false, .box b)]) → ∃ j o,look (A ++ [(k,true,SO.box b)]) j=some (true,o)∧j ≠ k∧0 < o.room (ρ j)∧c ∈ o.fp (ρ j):=by
      intro c hc
      obtain ⟨j,o,hm,hr1,hcf⟩:=mem_ownB.1 hc
      rcases List.mem_append.1 hm with hma | hma
      · have hjk:j ≠ k:=by
          rintro rfl
          exact hA (look_keys (hu j true o hma))
        exact⟨j,o,by rw [look_last hA,if_neg hjk]; exact hu j true o hma,hjk,hr1,hcf⟩
      · simp at hma
    have hmem:∀ c,c ∈ ownB ρ (A ++ [(k,false, .box b)]) → c ∈ ownB ρ (A ++ [(k,true, .box b)]):=by
      intro c hc
      obtain ⟨j,o,hl,_,hr1,hcf⟩:=hsub c hc
      exact mem_ownB.2 ⟨j,o,look_mem hl,hr1,hcf⟩
    intro cs
    obtain ⟨e,w',fr,⟨ρ',v,hb,he,hrel,hS⟩,hrest⟩:=T.h ρ w vals hv hH' cs
    refine⟨e,w',fr,⟨ρ',v,hb,he,hrel, ?_⟩,hrest⟩
    have hbk:=hH.reg k true _ hkl
    have hdis:0 < (SO.box b).room (ρ k) → ∀ c ∈ (SO.box b).fp (ρ k),c < w.heap.size∧c ∉ ownB ρ (A ++ [(k,false, .box b)]):=by
      intro hrk c hc
      refine⟨hH.valid k true _ hkl hrk c hc,fun hcm=>?_⟩
      obtain ⟨j,o,hl,hjk,hr1,hcf⟩:=hsub c hcm
      exact hH.apart j k o true _ hjk hl hkl hr1 hrk c hcf hc
    have hbk':=hbk.world (w':=w') (fun hrk c hc=>hS.frm.same c (hdis hrk c hc).1 (hdis hrk c hc).2)
    have hρk:ρ' k=ρ k:=hb k hkn
    have hlook:∀ j own o,look (post ++ [(k,true,SO.box b')]) j=some (own,o) → (j=k∧own=true∧o=.box b') ∨ (j ≠ k∧own=true∧look post j=some (true,o)):=by
      intro j own o hj
      rw [look_last hp] at hj
      by_cases hjk:j=k
      · rw [if_pos hjk] at hj; cases hj; exact .inl ⟨hjk,rfl,rfl⟩
      · rw [if_neg hjk] at hj
        have:own=true:=hown _ (look_mem hj)
        subst this
        exact .inr ⟨hjk,rfl,hj⟩
    have hsep:∀ j o,look post j=some (true,o) → 0 < o.room (ρ' j) → 0 < (SO.box b).room (ρ k) → ∀ c ∈ o.fp (ρ' j),c ∉ (SO.box b).fp (ρ k):=by
      intro j o hj hr1 hr2 c hc hc'
      have hd:=hdis hr2 c hc'
      rcases hS.fresh j o hj hr1 c hc with h1 | h1
      · omega
      · exact hd.2 h1
    refine { frm:=⟨hS.frm.size,fun c hc hM=>hS.frm.same c hc (fun h=>hM (hmem c h)),hS.frm.io,hS.frm.quiet⟩,reg:=?_,apart:=?_,fresh:=?_,valid:=?_ }
    · intro j own o hj
      rcases hlook j own o hj with ⟨rfl,rfl,rfl⟩ | ⟨hjk,rfl,hjo⟩
      · exact { wf := trivial, at_ := fun i j c hc => by simp [SO.cell?] at hc, room := fun _ _ hb => absurd rfl (hb _), off0 := fun _ => by rw [hρk]; exact hbk.off0 rfl, keys := fun Φ hΦ => (by cases hΦ),
                boxed:=fun b0 hb0=>(by cases hb0; rw [hρk]; exact himp _ _ (hbk'.boxed b rfl)),fixd:=fun n hn=>(by cases hn),typd:=fun t ht=>(by cases ht) }
      · exact hS.reg j true o hjo
    · intro j j' o1 own' o2 hne hj hj' hr1 hr2 c hc hc'
      rcases hlook j true o1 hj with ⟨rfl,_,rfl⟩ | ⟨hjk,_,hjo⟩
      · rcases hlook j' own' o2 hj' with ⟨rfl,_,_⟩ | ⟨hjk',_,hjo'⟩
        · exact hne rfl
        · rw [hρk] at hr1 hc
          exact hsep j' o2 hjo' hr2 hr1 c hc' hc
      · rcases hlook j' own' o2 hj' with ⟨rfl,_,rfl⟩ | ⟨hjk',rfl,hjo'⟩
        · rw [hρk] at hr2 hc'
          exact hsep j o1 hjo hr1 hr2 c hc hc'
        · exact hS.apart j j' o1 true o2 hne hjo hjo' hr1 hr2 c hc hc'
    · intro j o hj hr1 c hc
      rcases hlook j true o hj with ⟨rfl,_,rfl⟩ | ⟨hjk,_,hjo⟩
      · rw [hρk] at hr1 hc
        exact .inr (mem_ownB.2 ⟨j,_,look_mem hkl,hr1,hc⟩)
      · rcases hS.fresh j o hjo hr1 c hc with h1 | h1
        · exact .inl h1
        · exact .inr (hmem c h1)
    · intro j own o hj hr1 c hc
      rcases hlook j own o hj with ⟨rfl,_,rfl⟩ | ⟨hjk,_,hjo⟩
      · rw [hρk] at hr1 hc
        exact Nat.lt_of_lt_of_le (hH.valid j true _ hkl hr1 c hc) hS.frm.size
      · exact hS.valid j true o hjo hr1 c hc

theorem arr_mk_congr {α:Type} {sz:Nat} {enc enc':α → List SC} {nm nm':List Nat} {hl:∀ x,(enc x).length=sz} {hl':∀ x,(enc' x).length=sz} {hn:∀ x c,c ∈ enc x → ∀ k ∈ c.nms,k ∈ nm} {hn':∀ x c,c ∈ enc' x → ∀ k ∈ c.nms,k ∈ nm'}
    {xs:List α} {fx:Option Nat} {ty:Option TypeId} (h1:enc=enc') (h2:nm=nm'):(⟨α,sz,enc,nm,hl,hn,xs,fx,ty⟩:Arr)=⟨α,sz,enc',nm',hl',hn',xs,fx,ty⟩:=by
  subst h1; subst h2; rfl

theorem renL_bytes {σ:Nat → Nat} (l:List UInt8):renL σ (bytesC l)=bytesC l:=by
  induction l with
  | nil=>rfl
  | cons b l ih=>show SC.ren σ _ :: renL σ (bytesC l)=_; rw [ih]; rfl

theorem aRow_ren {σ:Nat → Nat} {k kp:Nat} {xs:List (Sct × Option Nat)} (h:σ k=kp):aRow kp xs=(aRow k xs).ren σ:=by
  subst h
  refine arr_mk_congr (funext fun x=>?_) rfl
  show _=renL σ (bytesC x.1.l ++ [pnd k x.2])
  rw [renL_eq,List.map_append,← renL_eq,renL_bytes]
  cases x.2 <;> rfl

end Sx
end Go

namespace Go.Proofs
open Go.Sx

abbrev dskC (kc n:Nat):SO:=.cells [.s kc 0 n 129, .v (.int .i64 (-1)), .v (.bool false)]
abbrev dkR (kp:Nat) (D:Dk):SO:=.arr (aRow kp (rowsF D))
abbrev dkB (D:Dk):SO:=.box (pendB (pndF D))
abbrev dkH (D:Dk):Heap:=[(0,false,dskC 1 D.length),(1,false,dkR 2 D),(2,false,dkB D)]

theorem rows_at {D:Dk} {kp i:Nat} (h:i < D.length):∃ x,(aRow kp (rowsF D)).xs[i]? = some x∧(aRow kp (rowsF D)).enc x=bytesC (D[i].1).l ++ [pnd kp (D[i].2.map fun _=>i)]:=by
 refine⟨(D[i].1,D[i].2.map fun _=>i), ?_,rfl⟩
 show (rowsF D)[i]? = _
 rw [rowsF_get,List.getElem?_eq_getElem h]; rfl

theorem rows_some {D:Dk} {kp i:Nat} {q:Sct} (h:i < D.length) (hq:D[i].2=some q):∃ x,(aRow kp (rowsF D)).xs[i]? = some x∧(aRow kp (rowsF D)).enc x=bytesC (D[i].1).l ++ [.ghost kp i]:=by
 obtain ⟨x,h1,h2⟩:=rows_at (kp:=kp) h
 exact⟨x,h1,by rw [h2,hq]; rfl⟩

theorem rows_none {D:Dk} {kp i:Nat} (h:i < D.length) (hq:D[i].2=none):∃ x,(aRow kp (rowsF D)).xs[i]? = some x∧(aRow kp (rowsF D)).enc x=bytesC (D[i].1).l ++ [.v nilV]:=by
 obtain ⟨x,h1,h2⟩:=rows_at (kp:=kp) h
 exact⟨x,h1,by rw [h2,hq]; rfl⟩

theorem pnd_some {D:Dk} {i:Nat} {q:Sct} (h:i < D.length) (hq:D[i].2=some q):(pndF D)[i]? = some (some q):=by
 show (D.map (·.2))[i]? = _
 rw [List.getElem?_map,List.getElem?_eq_getElem h]; exact congrArg some hq

theorem at_t (D:Dk) (i:Nat) (h:i < D.length):Triple Tryz.prog 140 [.c (.p 0 0 0 0),iv .i64 i] (dkH D) 3 (.tup [.inl (.p 1 i 129 0), .inl (.v (.int .i64 0))]) []:=by
 have hrl:=rowsF_length D
 refine triple_of tB_ok Tryz.func140 rfl Tryz.call140 rfl ?_
 intro ρ w hH
 conv=>whnf
 refine⟨fun hc=>absurd hc (by simp),fun hc=>?_⟩
 conv=>whnf
 refine⟨fun hc=>absurd hc (by simp),fun hc=>?_⟩
 conv=>whnf
 refine⟨fun hc=>?_,fun hc=>?_⟩
 ·simp at hc; omega
 conv=>whnf
 refine⟨i,rfl,h, ?_⟩
 conv=>whnf
 repeat'(first|exact trivial|exact rfl|refine And.intro ?_ ?_|((conv=>whnf);first|exact trivial|exact rfl|refine And.intro ?_ ?_|omega))

theorem step_t (D:Dk):Triple Tryz.prog 141 [.c (.p 0 0 0 0)] [(0,true,dskC 1 D.length),(1,false,dkR 2 D),(2,false,dkB D)] 3 (iv .i64 0) [(0,true,dskC 1 D.length)]:=by
 refine triple_of tB_ok Tryz.func141 rfl Tryz.call141 rfl ?_
 intro ρ w hH
 conv=>whnf
 refine⟨fun hc=>absurd hc (by simp),fun hc=>?_⟩
 conv=>whnf
 refine⟨fun hc=>absurd hc (by simp),fun hc=>?_⟩
 conv=>whnf
 refine⟨_,wrapId ⟨by omega,by omega⟩, ?_⟩
 conv=>whnf
 repeat'(first|exact trivial|exact rfl|refine And.intro ?_ ?_|((conv=>whnf);first|exact trivial|exact rfl|refine And.intro ?_ ?_|omega))

def seenF (r:Sct × Option Sct):Sct:=r.2.getD r.1

theorem read_t (D:Dk) (i:Nat) (h:i < D.length):Triple Tryz.prog 118 [.c (.p 0 0 0 0),iv .i64 i] (dkH D) 3 (.tup [.inl (.v (arrV (seenF D[i]).l)), .inl (.v (.int .i64 0))]) []:=by
 have hrl:=rowsF_length D
 refine triple_of tB_ok Tryz.func118 rfl Tryz.call118 rfl ?_
 intro ρ w hH
 conv=>whnf
 refine allocA_step tB_ok 128 rfl rfl rfl ?_
 conv=>whnf
 refine call_step (at_t D i h) rfl rfl ?_
 conv=>whnf
 refine⟨(by repeat' (first | exact (aRow_ren rfl) | exact trivial | exact rfl | refine And.intro ?_ ?_ | ((conv=>whnf); first | exact (aRow_ren rfl) | exact trivial | exact rfl | refine And.intro ?_ ?_ | omega))),(by repeat' (first | exact (aRow_ren rfl) | exact trivial | exact rfl | refine And.intro ?_ ?_ | ((conv=>whnf); first | exact (aRow_ren rfl) | exact trivial | exact rfl | refine And.intro ?_ ?_ | omega))), ?_⟩
 conv=>whnf
 refine⟨fun hc=>absurd hc (by simp),fun hc=>?_⟩
 conv=>whnf
 cases hq:D[i].2 with
 | none =>
  rw [show seenF D[i]=D[i].1 from by simp [seenF,hq]]
  refine loadNil_step (s:=D[i].1) (u:=nilV) tB_ok rfl rfl rfl rfl rfl rfl (rows_none h hq) ?_
  conv=>whnf
  refine⟨fun hc=>absurd hc (by simp),fun hc=>?_⟩
  conv=>whnf
  refine loadSec_step (s:=D[i].1) (c:=.v nilV) tB_ok rfl rfl rfl rfl rfl rfl rfl (rows_none h hq) ?_
  conv=>whnf
  refine storeA_step (l':=D[i].1.l) tB_ok rfl rfl rfl rfl rfl (by simp) (by rw [D[i].1.h]; simp) (by decide) ?_
  conv=>whnf
  refine⟨bytesV D[i].1.l,⟨(res_bytes D[i].1.h).1,(by rw [bytesV_length,D[i].1.h]),rfl⟩, ?_⟩
  conv=>whnf
  repeat'(first|exact trivial|exact rfl|refine And.intro ?_ ?_|((conv=>whnf);first|exact trivial|exact rfl|refine And.intro ?_ ?_|omega))
 | some q =>
  rw [show seenF D[i]=q from by simp [seenF,hq]]
  refine loadPend_step (s:=D[i].1) (q:=q) tB_ok rfl rfl rfl rfl rfl rfl (rows_some h hq) rfl (pnd_some h hq) ?_
  conv=>whnf
  refine⟨fun hc=>?_,fun hc=>absurd hc (by simp)⟩
  conv=>whnf
  refine loadPend_step (s:=D[i].1) (q:=q) tB_ok rfl rfl rfl rfl rfl rfl (rows_some h hq) rfl (pnd_some h hq) ?_
  conv=>whnf
  refine⟨0,by decide, ?_⟩
  conv=>whnf
  refine⟨0,rfl,by decide, ?_⟩
  conv=>whnf
  refine loadS_step (s:=q) tB_ok rfl rfl rfl rfl rfl rfl rfl ?_
  conv=>whnf
  refine storeA_step (l':=q.l) tB_ok rfl rfl rfl rfl rfl (by simp) (by rw [q.h]; simp) (by decide) ?_
  conv=>whnf
  refine⟨bytesV q.l,⟨(res_bytes q.h).1,(by rw [bytesV_length,q.h]),rfl⟩, ?_⟩
  conv=>whnf
  repeat'(first|exact trivial|exact rfl|refine And.intro ?_ ?_|((conv=>whnf);first|exact trivial|exact rfl|refine And.intro ?_ ?_|omega))

theorem write_t (D:Dk) (i:Nat) (h:i < D.length) (hn:D[i].2=none) (q:Sct):Triple Tryz.prog 81 [.c (.p 0 0 0 0),iv .i64 i,arrS q.l]
  [(0,true,dskC 1 D.length),(1,true,dkR 2 D),(2,true,dkB D)] 3 (iv .i64 0) [(0,true,dskC 1 D.length),(1,true,dkR 3 (setD D i q)),(3,true,dkB (setD D i q))]:=by
 have hrl:=rowsF_length D
 refine triple_of tB_ok Tryz.func81 rfl Tryz.call81 rfl ?_
 intro ρ w hH
 conv=>whnf
 refine boxA_step (l:=q.l) rfl rfl ?_
 rw [q.h]
 conv=>whnf
 refine call_step (at_t D i h) rfl rfl ?_
 conv=>whnf
 refine⟨(by repeat' (first | exact (aRow_ren rfl) | exact trivial | exact rfl | refine And.intro ?_ ?_ | ((conv=>whnf); first | exact (aRow_ren rfl) | exact trivial | exact rfl | refine And.intro ?_ ?_ | omega))),(by repeat' (first | exact (aRow_ren rfl) | exact trivial | exact rfl | refine And.intro ?_ ?_ | ((conv=>whnf); first | exact (aRow_ren rfl) | exact trivial | exact rfl | refine And.intro ?_ ?_ | omega))), ?_⟩
 conv=>whnf
 refine⟨fun hc=>absurd hc (by simp),fun hc=>?_⟩
 conv=>whnf
 refine call_step (step_t D) rfl rfl ?_
 conv=>whnf
 refine⟨(by repeat' (first | exact (aRow_ren rfl) | exact trivial | exact rfl | refine And.intro ?_ ?_ | ((conv=>whnf); first | exact (aRow_ren rfl) | exact trivial | exact rfl | refine And.intro ?_ ?_ | omega))),(by repeat' (first | exact (aRow_ren rfl) | exact trivial | exact rfl | refine And.intro ?_ ?_ | ((conv=>whnf); first | exact (aRow_ren rfl) | exact trivial | exact rfl | refine And.intro ?_ ?_ | omega))), ?_⟩
 conv=>whnf
 refine⟨fun hc=>absurd hc (by simp),fun hc=>?_⟩
 conv=>whnf
 refine loadNil_step (s:=D[i].1) (u:=nilV) tB_ok rfl rfl rfl rfl rfl rfl (rows_none h hn) ?_
 conv=>whnf
 refine loadA_step (l:=q.l) tB_ok rfl rfl rfl rfl rfl q.h.symm ?_
 conv=>whnf
 refine bsSec_step (s:=q) tB_ok rfl rfl rfl rfl rfl ?_
 conv=>whnf
 refine appNil_step tB_ok (aSec []) [q] (fun x=>allOne_aSec x _) rfl rfl rfl rfl ?_
 conv=>whnf
 refine⟨⟨rfl,rfl,Nat.le_refl _,by decide⟩, ?_⟩
 conv=>whnf
 refine storeClose_step (D:=D) (d:=D[i].1) (q:=q) (i:=i) (k':=6) tB_ok rfl rfl rfl rfl rfl rfl rfl rfl (by rw [List.getElem?_eq_getElem h,← hn]) (by decide) (by decide) ?_
 conv=>whnf
 repeat' (first | exact (aRow_ren rfl) | exact trivial | exact rfl | refine And.intro ?_ ?_ | ((conv=>whnf); first | exact (aRow_ren rfl) | exact trivial | exact rfl | refine And.intro ?_ ?_ | omega))

def syncF (D:Dk):Dk:=D.map fun r=>(seenF r,none)

theorem syncF_length (D:Dk):(syncF D).length=D.length:=by simp [syncF]

def syncN (D:Dk) (i:Nat):Dk:=(syncF D).take i ++ D.drop i

theorem syncN_length (D:Dk) (i:Nat):(syncN D i).length=D.length:=by
 simp only [syncN,List.length_append,List.length_take,List.length_drop,syncF_length]; omega

theorem syncN_get (D:Dk) {i:Nat} (h:i < D.length) (hz:i < (syncN D i).length):(syncN D i)[i]'hz=D[i]:=by
 have e:(syncN D i)[i]? = some D[i]:=by
  unfold syncN
  rw [List.getElem?_append_right (by rw [List.length_take,syncF_length]; omega),List.getElem?_drop,← List.getElem?_eq_getElem h]
  congr 1
  rw [List.length_take,syncF_length]; omega
 rw [List.getElem?_eq_getElem hz] at e
 exact Option.some.inj e

theorem syncN_succ (D:Dk) {i:Nat} (h:i < D.length):syncN D (i+1)=(syncN D i).set i (seenF D[i],none):=by
 unfold syncN
 rw [take_snoc (show i < (syncF D).length by rw [syncF_length]; exact h),List.drop_eq_getElem_cons h,List.set_append_right _ _ (by rw [List.length_take,syncF_length]; omega)]
 rw [show i - ((syncF D).take i).length=0 from by rw [List.length_take,syncF_length]; omega,List.set_cons_zero,List.append_assoc]
 simp [syncF]

theorem rowsF_set (D:Dk) (i:Nat) (x:Sct):rowsF (D.set i (x,none))=(rowsF D).set i (x,none):=by
 apply List.ext_getElem?
 intro j
 rw [rowsF_get,List.getElem?_set,List.getElem?_set,rowsF_length,rowsF_get]
 by_cases hj:i=j
 ·subst hj
  by_cases hl:i < D.length
  ·simp [hl]
  ·simp [hl]
 ·simp [hj]

theorem sync0_t (D:Dk) (hl:D.length≤100000):Triple Tryz.prog 83 [.c (.p 0 0 0 0)]
  ([(0,true,dskC 1 D.length),(1,true,dkR 2 D)] ++ [(2,false,dkB D)]) 3 (iv .i64 0) [(0,true,dskC 1 D.length),(1,true,dkR 2 (syncF D))]:=by
 have hrl:=rowsF_length D
 refine triple_of tB_ok Tryz.func83 rfl Tryz.call83 rfl ?_
 intro ρ w hH
 conv=>whnf
 refine call_step (step_t D) rfl rfl ?_
 conv=>whnf
 refine⟨(by repeat' (first | exact (aRow_ren rfl) | exact trivial | exact rfl | refine And.intro ?_ ?_ | ((conv=>whnf); first | exact (aRow_ren rfl) | exact trivial | exact rfl | refine And.intro ?_ ?_ | omega))),(by repeat' (first | exact (aRow_ren rfl) | exact trivial | exact rfl | refine And.intro ?_ ?_ | ((conv=>whnf); first | exact (aRow_ren rfl) | exact trivial | exact rfl | refine And.intro ?_ ?_ | omega))), ?_⟩
 conv=>whnf
 refine⟨fun hc=>absurd hc (by simp),fun hc=>?_⟩
 conv=>whnf
 refine loop_step tB_ok (G:=Nat) 0 [] (fun i=>[(17,iv .i64 i)]) (fun i=>[(1,true,dkR 2 (syncN D i))]) (fun i=>i≤D.length) (fun i=>D.length - i) ?_
 conv=>whnf
 refine⟨⟨0,Nat.zero_le _, ?_⟩, ?_⟩
 ·dsimp only
  rw [show syncN D 0=D from by simp [syncN]]
  conv=>whnf
  repeat' (first | exact (aRow_ren rfl) | exact trivial | exact rfl | refine And.intro ?_ ?_ | ((conv=>whnf); first | exact (aRow_ren rfl) | exact trivial | exact rfl | refine And.intro ?_ ?_ | omega))
 intro i hi ρ1 t1 hρ1
 have hsl:=syncN_length D i
 have hsr:=rowsF_length (syncN D i)
 conv=>whnf
 refine⟨fun hc=>?_,fun hc=>?_⟩
 ·have h:i < D.length:=by simp at hc; omega
  have h2:i < (syncN D i).length:=by omega
  have hg:=syncN_get D h h2
  have hst:=rowsF_set (syncN D i) i (seenF D[i])
  rw [← syncN_succ D h] at hst
  conv=>whnf
  refine⟨i,rfl,h, ?_⟩
  conv=>whnf
  cases hq:D[i].2 with
  | none =>
   refine loadNil_step (s:=(syncN D i)[i].1) (u:=nilV) tB_ok rfl rfl rfl rfl rfl rfl (rows_none h2 (by rw [hg]; exact hq)) ?_
   conv=>whnf
   refine⟨fun hc=>absurd hc (by simp),fun hc=>?_⟩
   conv=>whnf
   refine⟨_,wrapId ⟨by omega,by omega⟩, ?_⟩
   refine⟨i+1,h,by show D.length - (i+1) < D.length - i; omega, ?_⟩
   have e:syncN D (i+1)=syncN D i:=by
    rw [syncN_succ D h,show (seenF D[i],none)=(syncN D i)[i] from by rw [hg]; exact Prod.ext (by simp [seenF,hq]) (by simp [hq]),List.set_getElem_self]
   dsimp only
   rw [e]
   conv=>whnf
   refine⟨rfl, ?_⟩
   conv=>whnf
   repeat' (first | exact (aRow_ren rfl) | exact trivial | exact rfl | refine And.intro ?_ ?_ | ((conv=>whnf); first | exact (aRow_ren rfl) | exact trivial | exact rfl | refine And.intro ?_ ?_ | omega))
  | some q =>
   refine loadPend_step (s:=(syncN D i)[i].1) (q:=q) tB_ok rfl rfl rfl rfl rfl rfl (rows_some h2 (by rw [hg]; exact hq)) rfl (pnd_some h hq) ?_
   conv=>whnf
   refine⟨fun hc=>?_,fun hc=>absurd hc (by simp)⟩
   conv=>whnf
   refine loadPend_step (s:=(syncN D i)[i].1) (q:=q) tB_ok rfl rfl rfl rfl rfl rfl (rows_some h2 (by rw [hg]; exact hq)) rfl (pnd_some h hq) ?_
   conv=>whnf
   refine⟨0,by decide, ?_⟩
   conv=>whnf
   refine⟨0,rfl,by decide, ?_⟩
   conv=>whnf
   refine loadS_step (s:=q) tB_ok rfl rfl rfl rfl rfl rfl rfl ?_
   conv=>whnf
   have hri:i < (rowsF (syncN D i)).length:=by omega
   have hrx:(rowsF (syncN D i))[i]'hri=(D[i].1,some i):=by
    have:=@rowsF_get (syncN D i) i
    rw [List.getElem?_eq_getElem hri,List.getElem?_eq_getElem h2,hg] at this
    rw [Option.some.inj this]
    show (D[i].1,D[i].2.map fun _=>i)=_
    rw [hq]; rfl
   refine storeSec_step tB_ok (aRow 2 (rowsF (syncN D i))) (D[i].1) q (.ghost 2 i) rfl rfl rfl rfl rfl rfl rfl hri (by show bytesC ((rowsF (syncN D i))[i]'hri).1.l ++ [pnd 2 ((rowsF (syncN D i))[i]'hri).2]=_; rw [hrx]; rfl) (q,some i) rfl ?_
   conv=>whnf
   have hri2:i < ((rowsF (syncN D i)).set i (q,some i)).length:=by rw [List.length_set]; exact hri
   have hrx2:((rowsF (syncN D i)).set i (q,some i))[i]'hri2=(q,some i):=List.getElem_set_self _
   refine storePnd_step tB_ok (aRow 2 ((rowsF (syncN D i)).set i (q,some i))) q (.ghost 2 i) nilV rfl rfl rfl rfl rfl ⟨fun _=>by simp,fun _=>by simp⟩ rfl rfl hri2
    (by show bytesC (((rowsF (syncN D i)).set i (q,some i))[i]'hri2).1.l ++ [pnd 2 (((rowsF (syncN D i)).set i (q,some i))[i]'hri2).2]=_; rw [hrx2]; rfl) (q,none) rfl ?_
   have e2:(aRow 2 ((rowsF (syncN D i)).set i (q,some i))).setXs (((rowsF (syncN D i)).set i (q,some i)).set i (q,none))=aRow 2 (rowsF (syncN D (i+1))):=by
    show aRow 2 (((rowsF (syncN D i)).set i (q,some i)).set i (q,none))=_
    rw [List.set_set,hst,show seenF D[i]=q from by simp [seenF,hq]]
   have e2':=congrArg SO.arr e2
   conv=>whnf
   refine⟨_,wrapId ⟨by omega,by omega⟩, ?_⟩
   refine⟨i+1,h,by show D.length - (i+1) < D.length - i; omega, ?_⟩
   dsimp only
   conv=>whnf
   refine⟨rfl, ?_⟩
   conv=>whnf
   repeat' (first | exact (e2.trans (aRow_ren rfl)) | exact trivial | exact rfl | refine And.intro ?_ ?_ | ((conv=>whnf); first | exact (e2.trans (aRow_ren rfl)) | exact trivial | exact rfl | refine And.intro ?_ ?_ | omega))
 ·have hie:i=D.length:=by simp at hc; omega
  subst hie
  rw [show syncN D D.length=syncF D from by simp only [syncN,List.drop_length,List.append_nil]; exact List.take_of_length_le (by rw [syncF_length]; exact Nat.le_refl _)]
  conv=>whnf
  repeat' (first | exact (aRow_ren rfl) | exact trivial | exact rfl | refine And.intro ?_ ?_ | ((conv=>whnf); first | exact (aRow_ren rfl) | exact trivial | exact rfl | refine And.intro ?_ ?_ | omega))

theorem sync_t (D:Dk) (hl:D.length≤100000):Triple Tryz.prog 83 [.c (.p 0 0 0 0)] [(0,true,dskC 1 D.length),(1,true,dkR 2 D),(2,true,dkB D)] 3 (iv .i64 0)
  [(0,true,dskC 1 D.length),(1,true,dkR 2 (syncF D)),(2,true,dkB (syncF D))] :=
 Triple.carry (b':=pendB (pndF (syncF D))) (sync0_t D hl) (by simp [keys]) rfl (by decide) (by simp [keys]) (by simp) (fun r w _ i s hi=>by
  have hi:((syncF D).map (·.2))[i]? = some (some s):=hi
  rw [List.getElem?_map] at hi
  simp only [syncF,List.getElem?_map] at hi
  cases h:D[i]? <;> rw [h] at hi <;> simp at hi)

def newDk (n:Nat):Dk:=List.replicate n (zSct,none)

theorem newDk_length (n:Nat):(newDk n).length=n:=by simp [newDk]

theorem newDk_rows (n:Nat):rowsF (newDk n)=(List.replicate n zSct).map fun x=>(x,none):=by
 apply List.ext_getElem?
 intro j
 rw [rowsF_get,List.getElem?_map]
 simp only [newDk,List.getElem?_replicate]
 split <;> rfl

theorem newDk_pnd (n:Nat):pndF (newDk n)=(List.replicate n zSct).map fun _=>none:=by
 simp [pndF,newDk]

theorem newDisk0_t (n:Nat) (hn:1≤n∧n≤65536):Triple Tryz.prog 29 [iv .i64 n] [] 0 (.tup [.inl (.p 1 0 0 0), .inl (.v (.int .i64 0))]) [(0,true, .arr (aRowN (List.replicate n zSct))),(1,true,dskC 0 n)]:=by
 refine triple_of tB_ok Tryz.func29 rfl Tryz.call29 rfl ?_
 intro ρ w hH
 conv=>whnf
 refine⟨fun hc=>?_,fun hc=>?_⟩
 ·simp at hc; omega
 conv=>whnf
 refine⟨fun hc=>?_,fun hc=>?_⟩
 ·simp at hc; omega
 conv=>whnf
 refine mkRows_step tB_ok n rfl rfl rfl rfl rfl (by decide) rfl rfl (by omega) ?_
 conv=>whnf
 repeat'(first|exact trivial|exact rfl|refine And.intro ?_ ?_|((conv=>whnf);first|exact trivial|exact rfl|refine And.intro ?_ ?_|omega))

theorem newDisk_t (n:Nat) (hn:1≤n∧n≤65536):Triple Tryz.prog 29 [iv .i64 n] [] 0 (.tup [.inl (.p 1 0 0 0), .inl (.v (.int .i64 0))]) [(0,true,dkR 2 (newDk n)),(2,true,dkB (newDk n)),(1,true,dskC 0 (newDk n).length)]:=by
 have:=Triple.addBox (kb:=2) (newDisk0_t n hn) (by decide) (by decide) (fun j own o hj=>by
  rw [look_cons] at hj
  by_cases h:j=1
  ·rw [if_pos h] at hj; simp at hj; obtain ⟨_,rfl⟩:=hj; subst h; exact⟨by decide,rfl⟩
  ·rw [if_neg h] at hj; cases hj) rfl
 rw [← newDk_rows,← newDk_pnd] at this
 rw [newDk_length]; exact this

end Go.Proofs

