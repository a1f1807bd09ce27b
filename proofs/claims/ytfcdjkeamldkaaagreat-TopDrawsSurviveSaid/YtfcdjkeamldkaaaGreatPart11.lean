/-
  A part of the proof that a law answers true: lemmas of a symbolic walk, plain functions, or contracts of the functions walked (Sx54, Sx55, Sx56, U2, U3, U4, U5, U6, Sx57). Conditions: none.
-/
import Derived.Test.YtfcdjkeamldkaaaGreatPart10
import Derived.Lib.Builder
import Derived.Lib.UnsafeStr
import Derived.Laws.Externs
import Derived.Test.YtfcdjkeamldkaaaGreatPart09
import Derived.Test.YtfcdjkeamldkaaaGreatPart07
import Derived.RecoverIn
import Derived.RangeFuncLeaves
set_option maxRecDepth 100000
set_option linter.unusedVariables false
set_option linter.unusedSimpArgs false
namespace Go
namespace Sx

section
variable {cx:Cx} {B:Tabs} {o:Oper} {e:Env} {H:Heap} {nx:Nat} {K:Eff → Prop}

theorem appSNil_step (hB:TabsOK cx.P B) {c:Call} {x y:Operand} {t t' el:TypeId} {s0 b0 s1 b1:Nat} {z0 z1:List Value} {ti:TI} {l':List UInt8} (ty:Option TypeId) (ho:o.op=.call c) (hc:c.callee=.builtin .append)
    (hca:c.args=#[x,y]) (hct:c.argTypes=#[t,t']) (ht:lookT B.T t=some ⟨.slice el,s0,b0,z0⟩) (ht':lookT B.T t'=some ⟨.string,s1,b1,z1⟩) (hti:lookT B.T el=some ti) (h1:ti.size=1) (hby:ti.bytes=1)
    (hx:ev e x=.c (.v (.slice none 0 0))) (hy:ev e y=strV l') (hty:ty=none ∨ ty=some el) (hle:l'.length≤70368744177664)
    (hK:K ⟨.c (.s (nx+1) 0 l'.length 1),[],[(nx+1,true, .arr (aBy ty l')),(nx,false, .cells [])],[nx,nx+1]⟩):∃ f,CallOK cx o e H nx f∧K f:=by
  have hmx:x ∈ o.op.operands.toList:=by simp [ho,Op.operands,Call.operands,hc,hca]
  have hmy:y ∈ o.op.operands.toList:=by simp [ho,Op.operands,Call.operands,hc,hca]
  refine⟨_,⟨?_,fun j hj=>by simp at hj; rcases hj with rfl | rfl <;> simp⟩,hK⟩
  intro ρ s a w hs hr hk hnew hdst KK Q hKK
  obtain ⟨hfr,hlt,hn0⟩:=hnew nx (by simp)
  obtain ⟨hfr1,hlt1,hn1⟩:=hnew (nx+1) (by simp)
  have hx1:=lit_of hmx hx (fun t ht=>by rw [← hr t ht]; exact hs.env t)
  have hy1:=lit_of hmy hy (fun t ht=>by rw [← hr t ht]; exact hs.env t)
  have hs2:=hs.addNil hfr hlt hn0 (A:=aBy ty []) rfl rfl (fun (j:Nat) (hj:anyMem [j] (aBy ty []).nm=true)=>by cases hj)
  have hfr2:Fresh (nx+1) { s with H:=(nx,true, .arr (aBy ty [])) :: s.H }:=⟨hfr1.env,hfr1.mks,fun j own o hl=>by
    rw [look_cons] at hl
    by_cases hj:j=nx
    · rw [if_pos hj] at hl
      simp at hl
      obtain ⟨_,rfl⟩:=hl
      exact⟨by omega,rfl⟩
    · rw [if_neg hj] at hl; exact hfr1.heap j own o hl⟩
  have hu:=P_und_string hB ht'
  have hsrc:Src cx.P (aBy ty []).sz t' (a.eval y) l'.length (bytesV l') w:=by
    rw [hy1,← byteCells_S]; exact Src.ofString w hu (S l')
  refine app_src (A0:=aBy ty []) (Z:=l') (news:=bytesV l') (m:=l'.length) (len:=0) (sz:=1) (k:=nx) (nx:=nx+1) hB (fun _=>rfl) rfl ?_ ho hc hca hct ht hti h1 (Nat.le_refl _) rfl hs2 ?_ hsrc (Nat.le_refl _) rfl
    (by rw [bytesV_length]; exact (Nat.mul_one _).symm) flatS ?_ ?_ hfr2 hlt1 hn1 hdst ?_
  · intro t'' h
    rcases hty with h2 | h2
    · subst h2; cases h
    · subst h2; exact (Option.some.inj h)
  · show look ((nx,true,SO.arr (aBy ty [])) :: s.H) nx=_
    rw [look_cons,if_pos rfl]
  · rw [hby]; omega
  · exact⟨none,by rw [hx1,upd_eq]; rfl,by rw [upd_eq]; exact Nat.le_refl _,fun h=>by rw [upd_eq] at h; cases h⟩
  · intro ρ' a' w' hsat hag
    have hsat:Sat cx ρ' { s with e:=putO o.dst (.c (.s (nx+1) 0 (0+l'.length) 1)) s.e,H:=[(nx+1,true, .arr (aBy ty (([]:List UInt8).take 0 ++ l'))),(nx,false, .cells [])] ++ ((nx,true, .arr (aBy ty [])) :: s.H) } a' w':=hsat
    rw [Nat.zero_add] at hsat
    refine hKK ρ' a' w' (hsat.lookEq fun j=>?_) fun j hj=>?_
    · simp only [List.cons_append,List.nil_append,look_cons]
      by_cases h1:j=nx+1
      · rw [if_pos h1,if_pos h1]; rfl
      · rw [if_neg h1,if_neg h1]
        by_cases h0:j=nx
        · rw [if_pos h0,if_pos h0]
        · rw [if_neg h0,if_neg h0,if_neg h0]
    · have h1:j ≠ nx∧j ≠ nx+1:=by simpa using hj
      rw [hag j (by simp; exact h1.2),upd_ne h1.1]

end

end Sx
end Go

namespace Go
namespace Sx

theorem shape_of {w:World} {b:Nat} {c:Array Value} {t:TypeId} {fz:Nat × Nat} (h:w.heap[b]? = some (.cells c t fz)):w.shape? b=some (t,c.size):=by
  simp [World.shape?,h]

theorem lies_self {P:Program} {t n d:Nat} (hd:P.depth=d+1) (hc:P.cellsOf t=n) (hn:0 < n) (hs:sameLayout P P.depth t t=true):∀ cells,n≤cells → liesAt P P.depth t (cells / P.cellsOf t) 0 t 1=true:=by
  intro cells hle
  have h1:1≤cells / P.cellsOf t:=by rw [hc]; exact (Nat.le_div_iff_mul_le hn).2 (by omega)
  generalize cells / P.cellsOf t=q at h1
  have hrow:rowAt P (sameLayout P P.depth · t) P.depth t q 0 1=true:=by
    rw [hd] at hs ⊢
    simp only [rowAt,hc]
    rw [if_neg (by omega)]
    simp [hs,h1]
  rw [hd] at hrow ⊢
  simp only [liesAt]
  rw [hd,hrow]; rfl

section
variable {cx:Cx} {B:Tabs} {o:Oper} {e:Env} {H:Heap} {nx:Nat} {K:Eff → Prop}

theorem allocT_step (hB:TabsOK cx.P B) {t:TypeId} {ti:TI} (ho:o.op=.alloc t) (ht:lookT B.T t=some ti)
    (hK:K ⟨.c (.p nx 0 0 0),[],[(nx,true, .cel (some t) (ti.zero.map cC))],[nx]⟩):∃ f,CallOK cx o e H nx f∧K f:=by
  refine new_step (loc_new (by simp [ho]) below_p ?_ ?_) hK
  · intro n _ j hj
    obtain ⟨c,hc,hu⟩:=usesL_iff.1 hj
    obtain ⟨i,hi,_⟩:=SC.uses_iff.1 hu
    rw [cC_nms_map hc] at hi; cases hi
  · intro ρ a w _ _
    obtain ⟨z,hz,hzz⟩:=run_zero w (hB.T.get ht)
    refine⟨.pointer (some (adr (upd ρ nx ⟨w.heap.size,0,0,[]⟩) nx 0)), .cells z.cells t (0,0),0, ?_, ?_, ?_⟩
    · simp [execOp,ho,Instr.alloc,hz,newVar,newRow,newObj,Sem.run,adr,upd_eq,push]
    · simp [SV.rel,SC.rel]
    · have h:=satO_new_cells (ρ:=ρ) (w:=w) (k:=nx) (cap:=0) (l:=ti.zero.map cC) (c:=z.cells) (t:=t) (by rw [hzz]; exact relL_map_cC _ _)
      exact { wf := trivial, at_ := h.at_, room := fun h1 _ _ => h.room h1 (by simp) (by simp), off0 := h.off0, keys := (fun _ h => by cases h), boxed := (fun _ h => by cases h), fixd := (fun _ h => by cases h),
              typd:=fun t' ht' _=>by
                have:t=t':=Option.some.inj ht'
                subst this
                rw [upd_eq]; exact⟨_,_,push_new w _⟩ }

theorem toU_step {s d t u:TypeId} {x:Operand} {k sz:Nat} {own:Bool} {l:List SC} {j:TypeInfo} (ho:o.op=.convert s d x) (hs:cx.P.underlying s=some (.pointer u)) (hd:cx.P.underlying d=some .unsafePointer)
    (hu:cx.P.info? u=some j) (hj:j.size ≠ 0) (hx:ev e x=.c (.p k 0 sz 0)) (hl:look H k=some (own, .cel (some t) l)) (hown:own=true) (hpos:0 < l.length)
    (hK:K ⟨.c (.p k 0 sz 0),[k],[],[]⟩):∃ f,CallOK cx o e H nx f∧K f:=by
  subst hown
  refine pure_step (by simp [ho]) ⟨fun m hm _=>?_,fun ρ a w hr hreg=>⟨.pointer (some (adr ρ k (0 * sz+0))), ?_, ?_⟩⟩ hK
  rotate_right
  · rfl
  · have:=reads_below (x:=x) (by simp [ho,Op.operands]) hm
    rw [hx] at this; exact this
  · have e1:=reads_fit (x:=x) (by simp [ho,Op.operands]) hr
    rw [hx] at e1; simp only [SV.rel,SC.rel] at e1
    have hso:=hreg k (by simp) true _ hl
    obtain ⟨c,fz,hb⟩:=hso.typd t rfl hpos
    have hoff:=hso.off0 rfl
    obtain ⟨⟨v,hv⟩,_⟩:=hso.room rfl (by simp) (by simp) 0 hpos
    have hc0:0 < c.size:=by
      simp only [adr,hoff,World.cell?,hb] at hv
      exact (Array.getElem?_eq_some_iff.1 (by simpa using hv)).1
    have:=Lib.run_to_unsafe (P:=cx.P) (w:=w) (adr ρ k (0 * sz+0)) hs hd hu hj (shape_of hb) (by show (ρ k).off+(0 * sz+0) < c.size; rw [hoff]; simpa using hc0)
    simp only [execOp,ho,e1,Sem.run_bind,this,Result.andThen_ok,Sem.run_pure]

theorem fromU_step {s d t u:TypeId} {x:Operand} {k sz:Nat} {l:List SC} {j:TypeInfo} (ho:o.op=.convert s d x) (hs:cx.P.underlying s=some .unsafePointer) (hd:cx.P.underlying d=some (.pointer u))
    (hu:cx.P.info? u=some j) (hlies:∀ cells,l.length≤cells → liesAt cx.P cx.P.depth t (cells / cx.P.cellsOf t) 0 u 1=true) (hx:ev e x=.c (.p k 0 sz 0)) (hl:look H k=some (true, .cel (some t) l)) (hpos:0 < l.length)
    (hK:K ⟨.c (.p k 0 sz 0),[k],[],[]⟩):∃ f,CallOK cx o e H nx f∧K f:=by
  refine pure_step (by simp [ho]) ⟨fun m hm _=>?_,fun ρ a w hr hreg=>⟨.pointer (some (adr ρ k (0 * sz+0))), ?_, ?_⟩⟩ hK
  rotate_right
  · rfl
  · have:=reads_below (x:=x) (by simp [ho,Op.operands]) hm
    rw [hx] at this; exact this
  · have e1:=reads_fit (x:=x) (by simp [ho,Op.operands]) hr
    rw [hx] at e1; simp only [SV.rel,SC.rel] at e1
    have hso:=hreg k (by simp) true _ hl
    obtain ⟨c,fz,hb⟩:=hso.typd t rfl hpos
    have hoff:=hso.off0 rfl
    have hcs:l.length≤c.size:=by
      obtain ⟨⟨v,hv⟩,_⟩:=hso.room rfl (by simp) (by simp) (l.length - 1) (by show l.length - 1 < l.length; omega)
      simp only [adr,hoff,World.cell?,hb] at hv
      have:=(Array.getElem?_eq_some_iff.1 (by simpa using hv)).1
      omega
    have hl0:=hlies c.size hcs
    have e0:(adr ρ k (0 * sz+0)).off=0:=by show (ρ k).off+(0 * sz+0)=0; rw [hoff]; simp
    have:=Lib.run_from_unsafe (P:=cx.P) (w:=w) (adr ρ k (0 * sz+0)) hs hd hu (shape_of hb) (by rw [e0]; exact hl0)
    simp only [execOp,ho,e1,Sem.run_bind,this,Result.andThen_ok,Sem.run_pure]

theorem noEsc_step {c : Call} {x : Operand} {f : FuncId} {fn : Func} {v : SV} (ho : o.op = .call c) (hc : c.callee = .value (.func f)) (hca : c.args = #[x]) (hf : cx.P.funcs[f]? = some fn) (hname : (fn.name == "runtime.NumGoroutine") = false)
    (hb:fn.body.isNone=true) (hn:Extern.findNext fn=none) (he:Extern.find fn=some Extern.AbiNoEscape.same) (hx:ev e x=v) (hK:K ⟨v,[],[],[]⟩):∃ f,CallOK cx o e H nx f∧K f:=by
  have hmx:x ∈ o.op.operands.toList:=by simp [ho,Op.operands,Call.operands,hc,hca]
  refine pure_step (by simp [ho]) ⟨fun m hm _=>?_,fun ρ a w hr _=>⟨a.eval x, ?_, ?_⟩⟩ hK
  · have:=reads_below hmx hm
    rw [hx] at this; exact this
  · have h1:=run_callFunc_extern (P:=cx.P) hf hname hb hn he #[a.eval x] w
    rw [Lib.run_noEscape] at h1
    simp only [Result.andThen_ok] at h1
    have hfv:a.eval (.func f)=.func (.func f) #[] #[]:=rfl
    simp [execOp,ho,resolve,hc,hca,hfv,Deferred.ofValue,invoke,h1]
  · have:=reads_fit hmx hr
    rw [hx] at this; exact this

theorem ptrT_und {P:Program} (hB:TabsOK P B) {t el:TypeId} {s b:Nat} {z:List Value} (h:lookT B.T t=some ⟨.ptr el,s,b,z⟩) (w:World):(underlying t).run P w=.ok (.pointer el) w:=by
  obtain ⟨d,hd,hk⟩:=run_und_kd hB.T h w
  rw [hd,kd_ptr hk]

theorem peqNil_step (hB:TabsOK cx.P B) {t el yt:TypeId} {s0 b0:Nat} {z0:List Value} {x y:Operand} {k i sz off:Nat} (ho:o.op=.binOp .eql t x y yt) (ht:lookT B.T t=some ⟨.ptr el,s0,b0,z0⟩)
    (hx:ev e x=.c (.p k i sz off)) (hy:ev e y=.c (.v (.pointer none))) (hK:K ⟨.c (.b false),[],[],[]⟩):∃ f,CallOK cx o e H nx f∧K f:=by
  refine pure_step (by simp [ho]) (pureLit (fun n=>below_b n _) fun ρ a w hr=>⟨.bool false, ?_,rfl⟩) hK
  have h1:=reads_fit (x:=x) (by simp [ho,Op.operands]) hr
  rw [hx] at h1; simp only [SV.rel,SC.rel] at h1
  have h2:=lit_of (x:=y) (by simp [ho,Op.operands]) hy hr
  simp [execOp,ho,h1,h2,eqGuard,binOp,eq_ptr1 _ (ptrT_und hB ht w)]

theorem peqNil0_step (hB:TabsOK cx.P B) {t el yt:TypeId} {s0 b0:Nat} {z0:List Value} {x y:Operand} (ho:o.op=.binOp .eql t x y yt) (ht:lookT B.T t=some ⟨.ptr el,s0,b0,z0⟩)
    (hx:ev e x=.c (.v (.pointer none))) (hy:ev e y=.c (.v (.pointer none))) (hK:K ⟨.c (.b true),[],[],[]⟩):∃ f,CallOK cx o e H nx f∧K f:=by
  refine pure_step (by simp [ho]) (pureLit (fun n=>below_b n _) fun ρ a w hr=>⟨.bool true, ?_,rfl⟩) hK
  have h1:=lit_of (x:=x) (by simp [ho,Op.operands]) hx hr
  have h2:=lit_of (x:=y) (by simp [ho,Op.operands]) hy hr
  simp [execOp,ho,h1,h2,eqGuard,binOp,eq_ptr0 (ptrT_und hB ht w)]

theorem pne_step {t u yt:TypeId} {j:TypeInfo} {x y:Operand} {k i sz off:Nat} (ho:o.op=.binOp .neq t x y yt) (ht:cx.P.underlying t=some (.pointer u)) (hu:cx.P.info? u=some j)
    (hx:ev e x=.c (.p k i sz off)) (hy:ev e y=.c (.p k i sz off)) (hK:K ⟨.c (.b false),[],[],[]⟩):∃ f,CallOK cx o e H nx f∧K f:=by
  refine pure_step (by simp [ho]) (pureLit (fun n=>below_b n _) fun ρ a w hr=>⟨.bool false, ?_,rfl⟩) hK
  have h1:=reads_fit (x:=x) (by simp [ho,Op.operands]) hr
  rw [hx] at h1; simp only [SV.rel,SC.rel] at h1
  have h2:=reads_fit (x:=y) (by simp [ho,Op.operands]) hr
  rw [hy] at h2; simp only [SV.rel,SC.rel] at h2
  have:=Lib.run_neq_ptr_same (P:=cx.P) w (adr ρ k (i * sz+off)) ht hu
  simp [execOp,ho,h1,h2,eqGuard,this]

end

end Sx
end Go

namespace Go
namespace Sx

theorem freeze_size (w:World) (a:Addr) (n:Nat):(w.freeze a n).heap.size=w.heap.size:=by
  unfold World.freeze
  split <;> simp
theorem freeze_other (w:World) (a:Addr) (n:Nat) {b:Nat} (h:b ≠ a.block):(w.freeze a n).heap[b]? = w.heap[b]?:=by
  unfold World.freeze
  split
  · rfl
  · simp only [Array.getElem?_modify]
    rw [if_neg (Ne.symm h)]
theorem freeze_quiet (w:World) (a:Addr) (n:Nat):(w.freeze a n).os=w.os∧(w.freeze a n).output=w.output∧(w.freeze a n).tape=w.tape∧(w.freeze a n).drawn=w.drawn:=by
  unfold World.freeze
  split <;> simp

theorem Sat.dropTo {cx:Cx} {ρ:Asg} {s:St} {a:Act} {w w':World} (h:Sat cx ρ s a w) {k:Nat} {o:SO} (hl:look s.H k=some (true,o)) (hr:0 < o.room (ρ k)) (hsz:w'.heap.size=w.heap.size)
    (hsame:∀ b,b ≠ (ρ k).blk → w'.heap[b]? = w.heap[b]?) (hq:w'.os=w.os∧w'.output=w.output∧w'.tape=w.tape∧w'.drawn=w.drawn):Sat cx ρ { s with H:=(k,false, .cells []) :: s.H } a w' where
  size:=h.size
  defers:=h.defers
  env:=h.env
  heap:=by
    have hd:∀ j own' p,look s.H j=some (own',p) → j ≠ k → 0 < p.room (ρ j) → ∀ b ∈ p.fp (ρ j),b ≠ (ρ k).blk:=fun j own' p hj hjk hpr b hb he =>
      h.heap.apart k j o own' p (Ne.symm hjk) hl hj hr hpr (ρ k).blk blk_fp (he ▸ hb)
    refine h.heap.cons (fun j own o' _ _=>⟨rfl,fun _ _=>rfl⟩) (by rw [hsz]; exact Nat.le_refl _) ⟨by rw [hsz]; exact h.heap.frm.size,fun b hb hM=>?_,⟨hq.1.trans h.heap.frm.io.1,hq.2.1.trans h.heap.frm.io.2⟩,hq.2.2.1.trans h.heap.frm.quiet.1,by rw [hq.2.2.2]; exact h.heap.frm.quiet.2⟩
      (fun b _ hb=>hsame b hb) rfl (fun _ _ _ _ _ _ hr=>by simp [SO.room] at hr) (fun j own' p hj hjk hpr b hb=>hsame b (hd j own' p hj hjk hpr b hb)) (satO_dead ρ w' k) (fun h=>by cases h) (fun hr=>by simp [SO.room] at hr)
    rw [hsame b (by
      rintro rfl
      rcases h.heap.fresh k o hl hr _ blk_fp with h1 | h1
      · omega
      · exact hM h1)]
    exact h.heap.frm.same b hb hM
  bnd:=h.bnd.cons (h.bnd.heap k true o hl).1 (by intro j hj; simp [SO.uses,usesL] at hj)
  base:=h.base
  keep:=h.keep
  n0:=h.n0

section
variable {cx:Cx} {B:Tabs} {o:Oper} {e:Env} {H:Heap} {nx:Nat} {K:Eff → Prop}

theorem sdata_step {c:Call} {x:Operand} {k n:Nat} (ho:o.op=.call c) (hc:c.callee=.builtin .unsafeSliceData) (hca:c.args=#[x]) (hx:ev e x=.c (.s k 0 n 1)) (hn:0 < n)
    (hK:K ⟨.c (.p k 0 1 0),[],[],[]⟩):∃ f,CallOK cx o e H nx f∧K f:=by
  have hmx:x ∈ o.op.operands.toList:=by simp [ho,Op.operands,Call.operands,hc,hca]
  refine pure_step (by simp [ho]) ⟨fun m hm _=>?_,fun ρ a w hr _=>⟨.pointer (some (adr ρ k (0 * 1+0))), ?_, ?_⟩⟩ hK
  rotate_right
  · rfl
  · have:=reads_below hmx hm
    rw [hx,SV.below_c] at this
    rw [SV.below_c]; exact this
  · have e1:=reads_fit hmx hr
    rw [hx] at e1
    obtain ⟨ad,hv,hcap,had⟩:=e1
    have hp:0 < (ρ k).cap:=by omega
    have:=had hp
    subst this
    have hne:(ρ k).cap - 0 ≠ 0:=by omega
    have hrun:(Builtin.unsafeSliceData_ c.argTypes o.type #[.slice (some (adr ρ k (0 * 1))) n ((ρ k).cap - 0)]).run cx.P w=.ok (.pointer (some (adr ρ k (0 * 1)))) w:=by
      have hdef:Builtin.unsafeSliceData_ c.argTypes o.type #[.slice (some (adr ρ k (0 * 1))) n ((ρ k).cap - 0)] =
        (do
          if (ρ k).cap - 0 ≠ 0 then pure (.pointer (some (adr ρ k (0 * 1))))
          else if (← viewAt (adr ρ k (0 * 1)).block).isSome then pure (.pointer (some (adr ρ k (0 * 1))))
          else pure (.pointer (some ⟨← newObj (.view (adr ρ k (0 * 1)) (← elemOf o.type)),0,none⟩))):=rfl
      rw [hdef,if_pos hne]; rfl
    rw [run_builtin ho hc,hca]
    simp only [List.map_toArray,List.map_cons,List.map_nil,builtin,hv,Sem.run_bind,hrun,Result.andThen_ok,Sem.run_pure]

theorem ustr_step (hB:TabsOK cx.P B) {c:Call} {x y:Operand} {pt it el:TypeId} {k n:Nat} {l:List UInt8} (ho:o.op=.call c) (hc:c.callee=.builtin .unsafeString) (hca:c.args=#[x,y]) (hct:c.argTypes=#[pt,it])
    (hp:cx.P.underlying pt=some (.pointer el)) (hcl:cx.P.cellsOf el=1) (hx:ev e x=.c (.p k 0 1 0)) (hy:ev e y=iv .i64 (n:Int)) (hl:look H k=some (true, .arr (aBy (some el) l))) (hn:n=l.length) (hpos:0 < l.length)
    (h63:l.length≤9223372036854775807) (hK:K ⟨strV l,[k],[(k,false, .cells [])],[]⟩):∃ f,CallOK cx o e H nx f∧K f:=by
  have hmx:x ∈ o.op.operands.toList:=by simp [ho,Op.operands,Call.operands,hc,hca]
  have hmy:y ∈ o.op.operands.toList:=by simp [ho,Op.operands,Call.operands,hc,hca]
  refine⟨_,⟨?_,fun j hj=>by cases hj⟩,hK⟩
  intro ρ s a w hs hr hk hnew hdst KK Q hKK
  have hl1:look s.H k=some (true, .arr (aBy (some el) l)):=by rw [hk k (by simp)]; exact hl
  have e1:=reads_fit hmx (fun t ht=>by rw [← hr t ht]; exact hs.env t)
  have e2:=lit_of hmy hy (fun t ht=>by rw [← hr t ht]; exact hs.env t)
  rw [hx] at e1; simp only [SV.rel,SC.rel] at e1
  have hso:=hs.heap.reg k true _ hl1
  have hoff:=hso.off0 rfl
  have hwf:l.length≤(ρ k).cap:=hso.wf
  have hroom:(SO.arr (aBy (some el) l)).room (ρ k)=(ρ k).cap:=Nat.mul_one _
  obtain ⟨cc,fz,hb⟩:=hso.typd el rfl (by rw [hroom]; omega)
  have hsize:l.length≤cc.size:=by
    obtain ⟨⟨v,hv⟩,_⟩:=hso.room rfl (by simp) (by simp) (l.length - 1) (by rw [hroom]; omega)
    simp only [adr,hoff,World.cell?,hb] at hv
    have:=(Array.getElem?_eq_some_iff.1 (by simpa using hv)).1
    omega
  have hadr:adr ρ k (0 * 1+0)=⟨(ρ k).blk,0,none⟩:=by simp [adr,hoff]
  have hrun:=Lib.run_unsafeString_row (P:=cx.P) (w:=w) pt it o.type el hp hcl (ρ k).blk cc.size (shape_of hb) l (by intro h0; rw [h0] at hpos; cases hpos) hsize h63 (fun j xx hj=>by
    obtain ⟨hjl,rfl⟩:=List.getElem?_eq_some_iff.1 hj
    obtain ⟨v',hv',hrel⟩:=hso.at_ j 0 (.v (.int .u8 (l[j]).toNat)) (by rw [arr_cell?]; show (l[j]?).bind _=_; rw [List.getElem?_eq_getElem hjl]; rfl)
    have hrel:v'=.int .u8 (l[j]).toNat:=hrel
    rw [← hrel,← hv']
    show _=w.cell? (adr ρ k (j * 1+0))
    simp [adr,hoff,Addr.add]
    by_cases h0:j=0 <;> simp [h0])
  refine wpIn_of_value (w':=w.freeze ⟨(ρ k).blk,0,none⟩ l.length) (v:=.string (S l)) (by simp [ho]) ?_ (hKK ρ _ _ ?_ (fun _ _=>rfl))
  · rw [run_builtin ho hc,hca,hct]
    simp only [List.map_toArray,List.map_cons,List.map_nil,builtin,e1,e2,hadr,hn,Sem.run_bind,hrun,Result.andThen_ok,Sem.run_pure]
    rfl
  · have h2:=hs.dropTo (w':=w.freeze ⟨(ρ k).blk,0,none⟩ l.length) hl1 (by rw [hroom]; omega) (freeze_size _ _ _) (fun b hbb=>freeze_other _ _ _ hbb) (freeze_quiet _ _ _)
    exact h2.putO hdst rfl (below_lit _ _)

end

end Sx
end Go

namespace Go.Proofs
open Go.Sx

abbrev bld0:SO:=.cel (some 143) [.v (.pointer none), .v (.slice none 0 0)]
abbrev bldN (k n:Nat):SO:=.cel (some 143) [.p 0 0 0 0, .s k 0 n 1]

theorem lies_bld:∀ cells,2≤cells → liesAt Tryz.prog Tryz.prog.depth 143 (cells / Tryz.prog.cellsOf 143) 0 143 1=true :=
 lies_self (d:=Tryz.prog.depth - 1) (by kernel_rfl) (by kernel_rfl) (by decide) (by kernel_rfl)

theorem copy0_t:Triple Tryz.prog 115 [.c (.p 0 0 0 0)] [(0,true,bld0)] 1 (.tup []) [(0,true, .cel (some 143) [.p 0 0 0 0, .v (.slice none 0 0)])]:=by
 refine triple_of tB_ok Tryz.func115 rfl Tryz.call115 rfl ?_
 intro ρ w hH
 conv=>whnf
 refine peqNil0_step tB_ok rfl rfl rfl rfl ?_
 conv=>whnf
 refine toU_step (u:=143) (j:=(Tryz.prog.info? 143).get!) rfl (by kernel_rfl) (by kernel_rfl) (by kernel_rfl) (by decide +kernel) rfl rfl rfl (by decide) ?_
 conv=>whnf
 refine noEsc_step (fn:=Tryz.f167) rfl rfl rfl (by kernel_rfl) (by kernel_rfl) (by kernel_rfl) (by kernel_rfl) (by kernel_rfl) rfl ?_
 conv=>whnf
 refine fromU_step (t:=143) (l:=[.v (.pointer none), .v (.slice none 0 0)]) (u:=143) (j:=(Tryz.prog.info? 143).get!) rfl (by kernel_rfl) (by kernel_rfl) (by kernel_rfl) lies_bld rfl rfl (by decide) ?_
 conv=>whnf
 repeat'(first|exact trivial|exact rfl|refine And.intro ?_ ?_|((conv=>whnf);first|exact trivial|exact rfl|refine And.intro ?_ ?_|omega))

theorem copyN_t (ty:Option TypeId) (l:List UInt8):Triple Tryz.prog 115 [.c (.p 0 0 0 0)] [(0,true,bldN 1 l.length),(1,true, .arr (aBy ty l))] 2 (.tup []) [(0,true,bldN 1 l.length),(1,true, .arr (aBy ty l))]:=by
 refine triple_of tB_ok Tryz.func115 rfl Tryz.call115 rfl ?_
 intro ρ w hH
 conv=>whnf
 refine peqNil_step tB_ok rfl rfl rfl rfl ?_
 conv=>whnf
 refine pne_step (u:=143) (j:=(Tryz.prog.info? 143).get!) rfl (by kernel_rfl) (by kernel_rfl) rfl rfl ?_
 conv=>whnf
 repeat'(first|exact trivial|exact rfl|refine And.intro ?_ ?_|((conv=>whnf);first|exact trivial|exact rfl|refine And.intro ?_ ?_|omega))

abbrev aBuf (l:List UInt8):Arr:=aBy (some 5) l

theorem writeS0_t (l':List UInt8) (hl:l'.length≤70368744177664):Triple Tryz.prog 145 [.c (.p 0 0 0 0),strV l'] [(0,true,bld0)] 1
  (.tup [.inl (.v (.int .i64 (l'.length:Int))), .inl (.v .nilIface)]) [(0,true,bldN 2 l'.length),(2,true, .arr (aBuf l'))]:=by
 refine triple_of tB_ok Tryz.func145 rfl Tryz.call145 rfl ?_
 intro ρ w hH
 conv=>whnf
 refine call_step copy0_t rfl rfl ?_
 conv=>whnf
 refine⟨?_, ?_, ?_⟩
 iterate 2 · repeat'(first|exact trivial|exact rfl|refine And.intro ?_ ?_|((conv=>whnf);first|exact trivial|exact rfl|refine And.intro ?_ ?_|omega))
 conv=>whnf
 refine appSNil_step tB_ok (some 5) rfl rfl rfl rfl rfl rfl rfl rfl rfl rfl rfl (.inr rfl) hl ?_
 conv=>whnf
 repeat'(first|exact trivial|exact rfl|refine And.intro ?_ ?_|((conv=>whnf);first|exact trivial|exact rfl|refine And.intro ?_ ?_|omega))

theorem writeSN_t (l l':List UInt8) (hl:l.length+l'.length≤70368744177664):Triple Tryz.prog 145 [.c (.p 0 0 0 0),strV l'] [(0,true,bldN 1 l.length),(1,true, .arr (aBuf l))] 2
  (.tup [.inl (.v (.int .i64 (l'.length:Int))), .inl (.v .nilIface)]) [(0,true,bldN 2 (l.length+l'.length)),(2,true, .arr (aBuf (l ++ l')))]:=by
 refine triple_of tB_ok Tryz.func145 rfl Tryz.call145 rfl ?_
 intro ρ w hH
 conv=>whnf
 refine call_step (copyN_t (some 5) l) rfl rfl ?_
 conv=>whnf
 refine⟨?_, ?_, ?_⟩
 iterate 2 · repeat'(first|exact trivial|exact rfl|refine And.intro ?_ ?_|((conv=>whnf);first|exact trivial|exact rfl|refine And.intro ?_ ?_|omega))
 conv=>whnf
 refine appS_step tB_ok rfl rfl rfl rfl rfl rfl rfl rfl rfl rfl rfl rfl (.inr rfl) hl ?_
 conv=>whnf
 repeat'(first|exact trivial|exact rfl|refine And.intro ?_ ?_|((conv=>whnf);first|exact trivial|exact rfl|refine And.intro ?_ ?_|omega))

theorem tyB {el s b:Nat} {z:List Value} {t':TypeId} (h1:lookT tB.T 141=some ⟨.slice el,s,b,z⟩) (h2:(some 5:Option TypeId)=some t'):el=t':=by
 have h0:lookT tB.T 141=some ⟨.slice 5,1,24,[.slice none 0 0]⟩:=rfl
 rw [h0] at h1; cases h1; cases h2; rfl

theorem wbyteN_t (l:List UInt8) (c:UInt8) (hl:l.length≤1000000):Triple Tryz.prog 63 [.c (.p 0 0 0 0),bt c] [(0,true,bldN 1 l.length),(1,true, .arr (aBuf l))] 2
  (.c (.v .nilIface)) [(0,true,bldN 3 (l.length+1)),(3,true, .arr (aBuf (l ++ [c])))]:=by
 have e:aBuf (l.take l.length ++ (([c]:List UInt8).drop 0).take 1)=aBuf (l ++ [c]):=congrArg aBuf app1
 rw [← e]
 refine triple_of tB_ok Tryz.func63 rfl Tryz.call63 rfl ?_
 intro ρ w hH
 conv=>whnf
 refine call_step (copyN_t (some 5) l) rfl rfl ?_
 conv=>whnf
 refine⟨?_, ?_, ?_⟩
 iterate 2 · repeat'(first|exact trivial|exact rfl|refine And.intro ?_ ?_|((conv=>whnf);first|exact trivial|exact rfl|refine And.intro ?_ ?_|omega))
 conv=>whnf
 refine bs_step tB_ok (aBuf [c]) rfl rfl ?_ rfl (fun _ _ _ _ _ h1 h2=>tyB h1 h2)
 conv=>whnf
 refine⟨⟨rfl,(by repeat'(first|exact trivial|exact rfl|refine And.intro ?_ ?_|((conv=>whnf);first|exact trivial|exact rfl|refine And.intro ?_ ?_|omega)))⟩, ?_⟩
 conv=>whnf
 refine app_step tB_ok (aBuf l) [c] (fun _=>rfl) rfl rfl rfl rfl ?_ rfl (fun _ _ _ _ _ h1 h2=>tyB h1 h2)
 conv=>whnf
 refine⟨⟨rfl,rfl,Nat.le_refl _,Nat.le_refl _,by show (l.length+1) * 2≤_; omega⟩, ?_⟩
 conv=>whnf
 repeat'(first|exact trivial|exact rfl|refine And.intro ?_ ?_|((conv=>whnf);first|exact trivial|exact rfl|refine And.intro ?_ ?_|omega))

theorem wbyte0_t (c:UInt8):Triple Tryz.prog 63 [.c (.p 0 0 0 0),bt c] [(0,true,bld0)] 1
  (.c (.v .nilIface)) [(0,true,bldN 3 1),(3,true, .arr (aBuf [c]))]:=by
 refine triple_of tB_ok Tryz.func63 rfl Tryz.call63 rfl ?_
 intro ρ w hH
 conv=>whnf
 refine call_step copy0_t rfl rfl ?_
 conv=>whnf
 refine⟨?_, ?_, ?_⟩
 iterate 2 · repeat'(first|exact trivial|exact rfl|refine And.intro ?_ ?_|((conv=>whnf);first|exact trivial|exact rfl|refine And.intro ?_ ?_|omega))
 conv=>whnf
 refine bs_step tB_ok (aBuf [c]) rfl rfl ?_ rfl (fun _ _ _ _ _ h1 h2=>tyB h1 h2)
 conv=>whnf
 refine⟨⟨rfl,(by repeat'(first|exact trivial|exact rfl|refine And.intro ?_ ?_|((conv=>whnf);first|exact trivial|exact rfl|refine And.intro ?_ ?_|omega)))⟩, ?_⟩
 conv=>whnf
 refine appNil_step tB_ok (aBuf []) [c] (fun _=>rfl) rfl rfl rfl rfl ?_ rfl (fun _ _ _ _ _ h1 h2=>tyB h1 h2)
 conv=>whnf
 refine⟨⟨rfl,rfl,Nat.le_refl _,by decide⟩, ?_⟩
 conv=>whnf
 repeat'(first|exact trivial|exact rfl|refine And.intro ?_ ?_|((conv=>whnf);first|exact trivial|exact rfl|refine And.intro ?_ ?_|omega))

theorem bstr_t (l:List UInt8) (hp:0 < l.length) (hl:l.length≤70368744177664):Triple Tryz.prog 64 [.c (.p 0 0 0 0)] [(0,true,bldN 1 l.length),(1,true, .arr (aBuf l))] 2 (strV l) []:=by
 refine triple_of tB_ok Tryz.func64 rfl Tryz.call64 rfl ?_
 intro ρ w hH
 conv=>whnf
 refine sdata_step rfl rfl rfl rfl hp ?_
 conv=>whnf
 refine ustr_step (n:=l.length) tB_ok rfl rfl rfl rfl (by kernel_rfl) (by kernel_rfl) rfl rfl rfl rfl hp (by omega) ?_
 conv=>whnf
 repeat'(first|exact trivial|exact rfl|refine And.intro ?_ ?_|((conv=>whnf);first|exact trivial|exact rfl|refine And.intro ?_ ?_|omega))

end Go.Proofs

namespace Go.Proofs
open Go.Sx

def u64i (n:Int):UInt64:=UInt64.ofNat (n % 18446744073709551616).toNat

theorem u64i_wrap (n:Int):IntKind.u64.wrap n=((u64i n).toNat:Int):=by
 rw [wrap_u64,u64i,UInt64.toNat_ofNat']; omega

def varF:Nat → UInt64 → List UInt8
 | 0,z=>[z.toUInt8]
 | f+1,z=>if 128≤z.toNat then (z.toUInt8 ||| 128) :: varF f (z >>> UInt64.ofNat 7) else [z.toUInt8]

def intF (n:Int):List UInt8:=varF 10 ((u64i n <<< UInt64.ofNat 1) ^^^ u64i (n.fdiv 9223372036854775808))

theorem u8_or (x y:UInt8):bitsV .or .u8 (x.toNat:Int) (y.toNat:Int)=some ((x ||| y).toNat:Int):=by
 show some (IntKind.u8.wrap ((BitVec.ofInt 8 (x.toNat:Int) ||| BitVec.ofInt 8 (y.toNat:Int)).toNat:Int))=_
 have e:∀ x:UInt8,BitVec.ofInt 8 (x.toNat:Int)=x.toBitVec:=fun x=>by rw [BitVec.ofInt_natCast]; exact BitVec.ofNat_toNat ..
 rw [e,e,wrap_u8]
 have:=(x ||| y).toNat_lt
 show some (((x ||| y).toNat:Int) % 256)=_
 rw [Int.emod_eq_of_lt (by omega) (by omega)]

theorem varF_last (z:UInt64) (h:¬ 128≤z.toNat):∀ f,varF f z=[z.toUInt8]
 | 0=>rfl
 | f+1=>by simp only [varF]; rw [if_neg h]

theorem int_t (n:Int) (hn:-9223372036854775808≤n∧n≤9223372036854775807):Triple Tryz.prog 48 [iv .i64 n] [] 0 (strV (intF n)) []:=by
 refine triple_of tB_ok Tryz.func48 rfl Tryz.call48 rfl ?_
 intro ρ w hH
 conv=>whnf
 refine⟨_,u64i_wrap n, ?_⟩
 conv=>whnf
 refine⟨by decide,_,u64_shl _ 1 (by omega), ?_⟩
 conv=>whnf
 refine⟨by decide,_,rfl, ?_⟩
 conv=>whnf
 refine⟨_,u64i_wrap _, ?_⟩
 conv=>whnf
 refine⟨_,u64_xor _ _, ?_⟩
 conv=>whnf
 show Sound _ _ _ _
 refine loop_step tB_ok (G:=Nat × UInt64 × List UInt8) 1 [] (fun g=>[(3,uv g.2.1),(4, .c (.s 0 0 g.2.2.length 1))]) (fun g=>[(0,true, .arr (aU8 none g.2.2))])
  (fun g=>g.1+g.2.2.length≤10∧g.2.1.toNat < 128 ^ (g.1+1)∧g.2.2 ++ varF g.1 g.2.1=intF n) (fun g=>g.1) ?_
 conv=>whnf
 refine⟨⟨(10,_,[]),⟨Nat.le_refl _, ?_,rfl⟩, ?_⟩, ?_⟩
 ·exact Nat.lt_of_lt_of_le (u64_lt _) (by show 18446744073709551616≤128 ^ (10+1); decide)
 ·conv=>whnf
  repeat'(first|exact trivial|exact rfl|refine And.intro ?_ ?_|((conv=>whnf);first|exact trivial|exact rfl|refine And.intro ?_ ?_|omega))
 rintro ⟨f,z,acc⟩ ⟨hf,hz,hR⟩ ρ1 t1 hρ1
 dsimp only at hf hz hR
 conv=>whnf
 refine⟨fun hc=>?_,fun hc=>?_⟩
 ·have hge:128≤z.toNat:=by simp at hc; omega
  conv=>whnf
  refine⟨_,u64_to8 _, ?_⟩
  conv=>whnf
  refine⟨_,u8_or _ 128, ?_⟩
  conv=>whnf
  refine bs_step tB_ok (aU8 none [z.toUInt8 ||| 128]) rfl rfl ?_
  conv=>whnf
  refine⟨⟨rfl,(by repeat'(first|exact trivial|exact rfl|refine And.intro ?_ ?_|((conv=>whnf);first|exact trivial|exact rfl|refine And.intro ?_ ?_|omega)))⟩, ?_⟩
  conv=>whnf
  refine app_step tB_ok (aU8 none acc) [z.toUInt8 ||| 128] (fun _=>rfl) rfl rfl rfl rfl ?_
  conv=>whnf
  refine⟨⟨rfl,rfl,Nat.le_refl _,Nat.le_refl _,by show (acc.length+1) * 2≤_; omega⟩, ?_⟩
  conv=>whnf
  refine⟨by decide,_,u64_shr _ 7 (by omega), ?_⟩
  obtain ⟨f,rfl⟩:∃ j,f=j+1:=by
   cases f with
   | zero=>omega
   | succ j=>exact⟨j,rfl⟩
  have e1:(z >>> UInt64.ofNat 7).toNat=z.toNat / 128:=by
   rw [UInt64.toNat_shiftRight]; show z.toNat >>> 7=_; rw [Nat.shiftRight_eq_div_pow]
  refine⟨(f,z >>> UInt64.ofNat 7,acc ++ [z.toUInt8 ||| 128]),⟨by simp; omega, ?_, ?_⟩,by show f < f+1; omega, ?_⟩
  ·show (z >>> UInt64.ofNat 7).toNat < 128 ^ (f+1)
   rw [e1]; rw [Nat.pow_succ] at hz; omega
  ·show (acc ++ [z.toUInt8 ||| 128]) ++ varF f (z >>> UInt64.ofNat 7)=intF n
   rw [← hR]; simp only [varF]; rw [if_pos hge]; simp
  have e2:aU8 none (acc.take acc.length ++ (([z.toUInt8 ||| 128]:List UInt8).drop 0).take 1)=aU8 none (acc ++ [z.toUInt8 ||| 128]):=congrArg (aU8 none) app1
  have e3:(acc ++ [z.toUInt8 ||| 128]).length=acc.length+1:=by simp
  dsimp only
  rw [← e2,e3]
  conv=>whnf
  refine⟨rfl, ?_⟩
  conv=>whnf
  repeat'(first|exact trivial|exact rfl|refine And.intro ?_ ?_|((conv=>whnf);first|exact trivial|exact rfl|refine And.intro ?_ ?_|omega))
 ·have hlt:¬ 128≤z.toNat:=by simp at hc; omega
  rw [varF_last z hlt f] at hR
  conv=>whnf
  refine⟨_,u64_to8 _, ?_⟩
  conv=>whnf
  refine bs_step tB_ok (aU8 none [z.toUInt8]) rfl rfl ?_
  conv=>whnf
  refine⟨⟨rfl,(by repeat'(first|exact trivial|exact rfl|refine And.intro ?_ ?_|((conv=>whnf);first|exact trivial|exact rfl|refine And.intro ?_ ?_|omega)))⟩, ?_⟩
  conv=>whnf
  refine app_step tB_ok (aU8 none acc) [z.toUInt8] (fun _=>rfl) rfl rfl rfl rfl ?_
  conv=>whnf
  refine⟨⟨rfl,rfl,Nat.le_refl _,Nat.le_refl _,by show (acc.length+1) * 2≤_; omega⟩, ?_⟩
  have e4:(((acc.take acc.length ++ (([z.toUInt8]:List UInt8).drop 0).take 1)).drop 0).take (acc.length+1)=intF n:=by
   have a1:acc.take acc.length ++ (([z.toUInt8]:List UInt8).drop 0).take 1=acc ++ [z.toUInt8]:=app1
   rw [List.drop_zero,a1,← hR]
   exact List.take_of_length_le (by rw [List.length_append]; exact Nat.le_refl _)
  rw [← e4]
  conv=>whnf
  refine b2s_step (fx:=none) (l:=acc.take acc.length ++ (([z.toUInt8]:List UInt8).drop 0).take 1) tB_ok rfl rfl rfl rfl rfl rfl (by rw [app1]; show 0+(acc.length+1)≤(acc ++ [z.toUInt8]).length; simp) ?_
  conv=>whnf
  repeat'(first|exact trivial|exact rfl|refine And.intro ?_ ?_|((conv=>whnf);first|exact trivial|exact rfl|refine And.intro ?_ ?_|omega))

theorem varF_length:∀ (f:Nat) (z:UInt64),(varF f z).length≤f+1
 | 0,_=>Nat.le_refl _
 | f+1,z=>by
  simp only [varF]
  split
  ·simp only [List.length_cons]; have:=varF_length f (z >>> UInt64.ofNat 7); omega
  ·simp

theorem intF_length (n:Int):(intF n).length≤11:=varF_length 10 _

def textF (s:List UInt8):List UInt8:=intF (s.length:Int) ++ s

theorem text_t (s:List UInt8) (hl:s.length≤140737488355328):Triple Tryz.prog 65 [strV s] [] 0 (strV (textF s)) []:=by
 refine triple_of tB_ok Tryz.func65 rfl Tryz.call65 rfl ?_
 intro ρ w hH
 conv=>whnf
 refine call_step (int_t (s.length:Int) ⟨by omega,by omega⟩) rfl rfl ?_
 conv=>whnf
 refine⟨?_, ?_, ?_⟩
 iterate 2 · repeat'(first|exact trivial|exact rfl|refine And.intro ?_ ?_|((conv=>whnf);first|exact trivial|exact rfl|refine And.intro ?_ ?_|omega))
 conv=>whnf
 refine cat_step (l:=intF (s.length:Int)) (l':=s) rfl rfl rfl (by have:=intF_length (s.length:Int); omega) ?_
 conv=>whnf
 repeat'(first|exact trivial|exact rfl|refine And.intro ?_ ?_|((conv=>whnf);first|exact trivial|exact rfl|refine And.intro ?_ ?_|omega))

end Go.Proofs

namespace Go.Proofs
open Go.Sx

def aStr (l:List (List UInt8)):Arr:=⟨List UInt8,1,fun x=>[strC x],[],fun _=>rfl,(by intro x c hc k hk; simp at hc; subst hc; cases hk),l,none,none⟩

abbrev bldS (j k n:Nat):SO:=.cel (some 143) [.p j 0 0 0, .s k 0 n 1]

def bytesF (tag:Int) (ps:List (List UInt8)):List UInt8:=intF tag ++ intF (ps.length:Int) ++ (ps.map textF).flatten

def Short (ps:List (List UInt8)):Prop:=ps.length≤1000∧∀ p ∈ ps,p.length≤1000000

theorem textF_length (p:List UInt8):(textF p).length≤p.length+11:=by
 unfold textF; rw [List.length_append]; have:=intF_length (p.length:Int); omega

theorem flat_len:∀ (ps:List (List UInt8)),(∀ p ∈ ps,p.length≤1000000) → ((ps.map textF).flatten).length≤ps.length * 1000011
 | [],_=>by simp
 | p :: ps,h=>by
  simp only [List.map_cons,List.flatten_cons,List.length_append,List.length_cons]
  have h1:=textF_length p
  have h2:=h p (List.mem_cons_self ..)
  have h3:=flat_len ps (fun q hq=>h q (List.mem_cons_of_mem _ hq))
  omega

theorem flat_take {ps:List (List UInt8)} {i:Nat} (h:i < ps.length):((ps.take (i+1)).map textF).flatten=((ps.take i).map textF).flatten ++ textF ps[i]:=by
 rw [take_snoc h,List.map_append,List.flatten_append]; simp

theorem varF_pos (f:Nat) (z:UInt64):0 < (varF f z).length:=by
 cases f with
 | zero=>simp [varF]
 | succ f=>simp only [varF]; split <;> simp

theorem intF_pos (n:Int):0 < (intF n).length:=varF_pos _ _

theorem bytesF_len {tag:Int} {ps:List (List UInt8)} (h:Short ps):(bytesF tag ps).length≤1001000000:=by
 have h1:=flat_len ps h.2
 have h2:=intF_length tag
 have h3:=intF_length (ps.length:Int)
 have h4:=h.1
 simp only [bytesF,List.length_append]
 omega

theorem words_t (tag:Int) (ht:-9223372036854775808≤tag∧tag≤9223372036854775807) (ps:List (List UInt8)) (hp:Short ps) :
  Triple Tryz.prog 93 [iv .i64 tag, .c (.s 0 0 ps.length 1)] [(0,false, .arr (aStr ps))] 1 (.c (.f 146 [1])) [(1,true, .cells [strC (bytesF tag ps)])]:=by
 have hp1:=hp.1
 refine triple_of tB_ok Tryz.func93 rfl Tryz.call93 rfl ?_
 intro ρ w hH
 conv=>whnf
 refine allocT_step tB_ok rfl rfl ?_
 conv=>whnf
 refine call_step (int_t tag ht) rfl rfl ?_
 conv=>whnf
 refine⟨?_, ?_, ?_⟩
 iterate 2 · repeat'(first|exact trivial|exact rfl|refine And.intro ?_ ?_|((conv=>whnf);first|exact trivial|exact rfl|refine And.intro ?_ ?_|omega))
 conv=>whnf
 refine call_step (writeS0_t (intF tag) (by have:=intF_length tag; omega)) rfl rfl ?_
 conv=>whnf
 refine⟨?_, ?_, ?_⟩
 iterate 2 · repeat'(first|exact trivial|exact rfl|refine And.intro ?_ ?_|((conv=>whnf);first|exact trivial|exact rfl|refine And.intro ?_ ?_|omega))
 conv=>whnf
 refine call_step (int_t (ps.length:Int) ⟨by omega,by omega⟩) rfl rfl ?_
 conv=>whnf
 refine⟨?_, ?_, ?_⟩
 iterate 2 · repeat'(first|exact trivial|exact rfl|refine And.intro ?_ ?_|((conv=>whnf);first|exact trivial|exact rfl|refine And.intro ?_ ?_|omega))
 conv=>whnf
 refine call_step (writeSN_t (intF tag) (intF (ps.length:Int)) (by have:=intF_length tag; have:=intF_length (ps.length:Int); omega)) rfl rfl ?_
 conv=>whnf
 refine⟨?_, ?_, ?_⟩
 iterate 2 · repeat'(first|exact trivial|exact rfl|refine And.intro ?_ ?_|((conv=>whnf);first|exact trivial|exact rfl|refine And.intro ?_ ?_|omega))
 conv=>whnf
 let B:Nat → List UInt8:=fun i=>intF tag ++ intF (ps.length:Int) ++ ((ps.take i).map textF).flatten
 have hB:∀ i,(B i).length≤1001000000:=by
  intro i
  have h1:=flat_len (ps.take i) (fun p hq=>hp.2 p (List.mem_of_mem_take hq))
  have h2:=intF_length tag
  have h3:=intF_length (ps.length:Int)
  have h4:(ps.take i).length≤ps.length:=by rw [List.length_take]; omega
  simp only [B,List.length_append]; omega
 have hB0:∀ i,0 < (B i).length:=by
  intro i
  have h2:=intF_pos tag
  simp only [B,List.length_append]; omega
 have hBs:∀ i (h:i < ps.length),B (i+1)=B i ++ textF ps[i]:=by
  intro i h
  simp only [B]; rw [flat_take h,← List.append_assoc]
 have hBe:B ps.length=bytesF tag ps:=by simp only [B,bytesF,List.take_length]
 refine loop_step tB_ok (G:=Nat) 1 [4] (fun i=>[(18,iv .i64 i)]) (fun i=>[(1,true,bldS 1 5 (B i).length),(5,true, .arr (aBuf (B i)))]) (fun i=>i≤ps.length) (fun i=>ps.length - i) ?_
 conv=>whnf
 refine⟨⟨0,Nat.zero_le _, ?_⟩, ?_⟩
 ·have e0:B 0=intF tag ++ intF (ps.length:Int):=by simp [B]
  dsimp only
  rw [e0,List.length_append]
  conv=>whnf
  repeat'(first|exact trivial|exact rfl|refine And.intro ?_ ?_|((conv=>whnf);first|exact trivial|exact rfl|refine And.intro ?_ ?_|omega))
 intro i hi ρ1 t1 hρ1
 conv=>whnf
 refine⟨fun hc=>?_,fun hc=>?_⟩
 ·conv=>whnf
  have h:i < ps.length:=by simpa using hc
  refine⟨i,rfl,h,h, ?_⟩
  conv=>whnf
  refine call_step (text_t ps[i] (by have:=hp.2 ps[i] (List.getElem_mem h); omega)) rfl rfl ?_
  conv=>whnf
  refine⟨?_, ?_, ?_⟩
  iterate 2 · repeat'(first|exact trivial|exact rfl|refine And.intro ?_ ?_|((conv=>whnf);first|exact trivial|exact rfl|refine And.intro ?_ ?_|omega))
  conv=>whnf
  refine call_step (writeSN_t (B i) (textF ps[i]) (by have:=hB i; have:=textF_length ps[i]; have:=hp.2 ps[i] (List.getElem_mem h); omega)) rfl rfl ?_
  conv=>whnf
  refine⟨?_, ?_, ?_⟩
  iterate 2 · repeat'(first|exact trivial|exact rfl|refine And.intro ?_ ?_|((conv=>whnf);first|exact trivial|exact rfl|refine And.intro ?_ ?_|omega))
  conv=>whnf
  refine⟨_,wrapId ⟨by omega,by omega⟩, ?_⟩
  refine⟨i+1,h,by show ps.length - (i+1) < ps.length - i; omega, ?_⟩
  dsimp only
  rw [hBs i h,List.length_append]
  conv=>whnf
  refine⟨rfl, ?_⟩
  conv=>whnf
  repeat'(first|exact trivial|exact rfl|refine And.intro ?_ ?_|((conv=>whnf);first|exact trivial|exact rfl|refine And.intro ?_ ?_|omega))
 ·have hie:i=ps.length:=by simp at hc; omega
  subst hie
  dsimp only
  conv=>whnf
  refine call_step (bstr_t (B ps.length) (hB0 _) (by have:=hB ps.length; omega)) rfl rfl ?_
  conv=>whnf
  refine⟨?_, ?_, ?_⟩
  iterate 2 · repeat'(first|exact trivial|exact rfl|refine And.intro ?_ ?_|((conv=>whnf);first|exact trivial|exact rfl|refine And.intro ?_ ?_|omega))
  conv=>whnf
  rw [hBe]
  repeat'(first|exact trivial|exact rfl|refine And.intro ?_ ?_|((conv=>whnf);first|exact trivial|exact rfl|refine And.intro ?_ ?_|omega))

end Go.Proofs

namespace Go.Proofs
open Go.Sx

def rfOf5:Code → Option (Code × Code)
 | .rangeFunc _ _ a b=>some (a,b)
 | .seq x y=>(rfOf5 x).or (rfOf5 y)
 | .block _ b=>rfOf5 b
 | .scope b=>rfOf5 b
 | .cond _ x y=>(rfOf5 x).or (rfOf5 y)
 | .loop b=>rfOf5 b
 | _=>none
def rfA5 (f:Func):Code:=match f.body with
 | some c=>(match rfOf5 c with
  | some p=>p.1
  | none=>.skip)
 | none=>.skip
def rfB5 (f:Func):Code:=match f.body with
 | some c=>(match rfOf5 c with
  | some p=>p.2
  | none=>.skip)
 | none=>.skip

def orF (l:List UInt8):UInt64:=(l.zipIdx).foldl (fun w p=>w ||| p.1.toUInt64 <<< UInt64.ofNat (8 * p.2)) 0

theorem orF_snoc (l:List UInt8) (b:UInt8):orF (l ++ [b])=orF l ||| b.toUInt64 <<< UInt64.ofNat (8 * l.length):=by
 simp [orF,List.zipIdx_append]

def wordF (s:List UInt8) (j:Nat):UInt64:=orF ((s.drop (8 * j)).take 8)

def mixF (m:Mix):Mix:=halfF (halfF m 32 40) 48 1
def absorbF (m:Mix) (w:UInt64):Mix:=mixF (mixF { m with a:=m.a ^^^ w })

def mix0:Mix:=⟨6,28,496,8128⟩

def mixN (s:List UInt8) (j:Nat):Mix:=(List.range j).foldl (fun m j=>absorbF m (wordF s j)) mix0

theorem mixN_succ (s:List UInt8) (j:Nat):mixN s (j+1)=absorbF (mixN s j) (wordF s j):=by
 simp [mixN,List.range_succ]

def endF (s:List UInt8):Mix:=absorbF (absorbF (absorbF (absorbF (mixN s ((s.length+7) / 8)) (UInt64.ofNat s.length)) 0) 0) 0

def sumF (tag:Int) (ps:List (List UInt8)):List UInt8:=setF 8 (endF (bytesF tag ps)).b ++ setF 8 (endF (bytesF tag ps)).d

theorem sumF_length (tag:Int) (ps:List (List UInt8)):(sumF tag ps).length=16:=by simp [sumF,setF_length]

abbrev mixHs (m:Mix):Heap:=[(1,true, .cells [.v (.int .u64 (m.a.toNat:Int))]),(2,true, .cells [.v (.int .u64 (m.b.toNat:Int))]),(3,true, .cells [.v (.int .u64 (m.d.toNat:Int))]),(4,true, .cells [.v (.int .u64 (m.c.toNat:Int))])]

theorem sumRound (m:Mix) (x:UInt64):RoundT Tryz.prog Tryz.f47.ntmps [(5, .c (.p 1 0 0 0)),(9, .c (.p 5 0 0 0))] #[16]
  (rfA5 Tryz.f47) (rfB5 Tryz.f47) [uv x]
  (mixHs m ++ [(5,false, .cells [.f 91 [1,2,3,4]])]) 6 (mixHs (absorbF m x)):=by
 refine round_of tB_ok rfl ?_
 intro Φ Φ' ρ w
 conv=>whnf
 refine⟨rfl, ?_⟩
 conv=>whnf
 refine⟨_,u64_xor _ _, ?_⟩
 conv=>whnf
 refine loop_step tB_ok (G:=Nat × Mix) 0 [] (fun g=>[(20,iv .i64 g.1)]) (fun g=>mixHs g.2) (fun g=>g.1≤2∧(match g.1 with | 0=>mixF (mixF g.2) | 1=>mixF g.2 | _=>g.2)=absorbF m x) (fun g=>2 - g.1) ?_
 conv=>whnf
 refine⟨⟨(0,{ m with a:=m.a ^^^ x }),⟨Nat.zero_le _,rfl⟩, ?_⟩, ?_⟩
 ·conv=>whnf
  repeat'(first|exact trivial|exact rfl|refine And.intro ?_ ?_|((conv=>whnf);first|exact trivial|exact rfl|refine And.intro ?_ ?_|omega))
 rintro ⟨i,g⟩ ⟨hi,hg⟩ ρ1 t1 hρ1
 dsimp only at hi hg
 conv=>whnf
 refine⟨fun hc=>?_,fun hc=>?_⟩
 ·have hlt:i < 2:=by simp at hc; omega
  conv=>whnf
  refine call_step (half_t g 32 40 (by decide) (by decide) (by decide) (by decide)) rfl rfl ?_
  conv=>whnf
  refine⟨?_, ?_, ?_⟩
  iterate 2 · repeat'(first|exact trivial|exact rfl|refine And.intro ?_ ?_|((conv=>whnf);first|exact trivial|exact rfl|refine And.intro ?_ ?_|omega))
  conv=>whnf
  refine call_step (half_t (halfF g 32 40) 48 1 (by decide) (by decide) (by decide) (by decide)) rfl rfl ?_
  conv=>whnf
  refine⟨?_, ?_, ?_⟩
  iterate 2 · repeat'(first|exact trivial|exact rfl|refine And.intro ?_ ?_|((conv=>whnf);first|exact trivial|exact rfl|refine And.intro ?_ ?_|omega))
  conv=>whnf
  refine⟨_,wrapId ⟨by omega,by omega⟩, ?_⟩
  refine⟨(i+1,mixF g),⟨hlt, ?_⟩,by show 2 - (i+1) < 2 - i; omega, ?_⟩
  ·match i,hlt,hg with
   | 0,_,hg=>exact hg
   | 1,_,hg=>exact hg
  conv=>whnf
  refine⟨rfl, ?_⟩
  conv=>whnf
  repeat'(first|exact trivial|exact rfl|refine And.intro ?_ ?_|((conv=>whnf);first|exact trivial|exact rfl|refine And.intro ?_ ?_|omega))
 ·have hie:i=2:=by simp at hc; omega
  subst hie
  have hg:g=absorbF m x:=hg
  subst hg
  conv=>whnf
  refine⟨rfl, ?_⟩
  conv=>whnf
  repeat'(first|exact trivial|exact rfl|refine And.intro ?_ ?_|((conv=>whnf);first|exact trivial|exact rfl|refine And.intro ?_ ?_|omega))

end Go.Proofs

namespace Go.Proofs
open Go.Sx

theorem wordF_step {s:List UInt8} {i j:Nat} (h:8 * j+i < s.length) (hi:i < 8) :
  orF ((s.drop (8 * j)).take i) ||| (s[8 * j+i]'h).toUInt64 <<< UInt64.ofNat (8 * i)=orF ((s.drop (8 * j)).take (i+1)):=by
 have h1:i < (s.drop (8 * j)).length:=by rw [List.length_drop]; omega
 rw [take_snoc h1,orF_snoc,List.getElem_drop,List.length_take,Nat.min_eq_left (by omega)]

theorem wordF_end {s:List UInt8} {i j:Nat} (h:i=min 8 (s.length - 8 * j)):orF ((s.drop (8 * j)).take i)=wordF s j:=by
 unfold wordF
 subst h
 rw [← List.length_drop,← List.take_take,List.take_length]

abbrev mixHd (m:Mix):Heap:=[(2,true, .cells [.v (.int .u64 (m.a.toNat:Int))]),(3,true, .cells [.v (.int .u64 (m.b.toNat:Int))]),(5,true, .cells [.v (.int .u64 (m.d.toNat:Int))]),(4,true, .cells [.v (.int .u64 (m.c.toNat:Int))])]

theorem sum_t (tag:Int) (ht:-9223372036854775808≤tag∧tag≤9223372036854775807) (ps:List (List UInt8)) (hp:Short ps) :
  Triple Tryz.prog 47 [iv .i64 tag, .c (.s 0 0 ps.length 1)] [(0,false, .arr (aStr ps))] 1 (arrS (sumF tag ps)) []:=by
 have hlen:=bytesF_len (tag:=tag) hp
 refine triple_of tB_ok Tryz.func47 rfl Tryz.call47 rfl ?_
 intro ρ w hH
 conv=>whnf
 refine allocA_step tB_ok 16 rfl rfl rfl ?_
 conv=>whnf
 refine call_step (words_t tag ht ps hp) rfl rfl ?_
 conv=>whnf
 refine⟨?_, ?_, ?_⟩
 iterate 2 · repeat'(first|exact trivial|exact rfl|refine And.intro ?_ ?_|((conv=>whnf);first|exact trivial|exact rfl|refine And.intro ?_ ?_|omega))
 conv=>whnf
 refine range_step (asg:=rfA5 Tryz.f47) (body:=rfB5 Tryz.f47) tB_ok rfl Tryz.func146 rfl Tryz.call146 rfl ?_
 conv=>whnf
 intro fo d l T0 ρ1 hT hE hl1
 have hA:∀ i sv,(i,sv) ∈ [(5,SV.c (.p 2 0 0 0)),(9,SV.c (.p 6 0 0 0))] → sv.rel ρ1 (T0.getD i undef):=by
  intro i sv hm
  rcases List.mem_cons.1 hm with he | hm
  ·cases he; exact hE 5
  ·rcases List.mem_cons.1 hm with he | hm
   ·cases he; exact hE 9
   ·cases hm
 clear hE
 conv=>whnf
 generalize hs:bytesF tag ps=s at hlen ⊢
 have hsum:setF 8 (endF s).b ++ setF 8 (endF s).d=sumF tag ps:=by rw [← hs]; rfl
 refine loop_step tB_ok (G:=Nat) 0 [] (fun j=>[(3,iv .i64 (8 * (j:Int)))]) (fun j=>mixHd (mixN s j) ++ [(9,true,recO fo T0 #[16] (rfA5 Tryz.f47) (rfB5 Tryz.f47) d)])
  (fun j=>j≤(s.length+7) / 8) (fun j=>(s.length+7) / 8 - j) ?_
 conv=>whnf
 refine⟨⟨0,Nat.zero_le _, ?_⟩, ?_⟩
 ·conv=>whnf
  repeat'(first|exact trivial|exact rfl|refine And.intro ?_ ?_|((conv=>whnf);first|exact trivial|exact rfl|refine And.intro ?_ ?_|omega))
 intro j hj ρ2 t2 hρ2
 have hρ2:∀ k,k < 10 → ρ2 k=ρ1 k:=hρ2
 conv=>whnf
 refine⟨fun hc=>?_,fun hc=>?_⟩
 ·have hlt:8 * j < s.length:=by
   have hc:decide (8 * (j:Int) < (s.length:Int))=true:=hc
   simp at hc; omega
  conv=>whnf
  refine loop_step tB_ok (G:=Nat) 0 [] (fun i=>[(5,iv .i64 (8 * (j:Int)+i)),(4,uv (orF ((s.drop (8 * j)).take i)))]) (fun _=>[]) (fun i=>i≤8∧8 * j+i≤s.length) (fun i=>8 - i) ?_
  conv=>whnf
  refine⟨⟨0,⟨by omega,by omega⟩, ?_⟩, ?_⟩
  ·conv=>whnf
   repeat'(first|exact trivial|exact rfl|refine And.intro ?_ ?_|((conv=>whnf);first|exact trivial|exact rfl|refine And.intro ?_ ?_|omega))
  rintro i ⟨hi,hil⟩ ρ3 t3 hρ3
  have hρ3:∀ k,k < 10 → ρ3 k=ρ1 k:=fun k hk=>(hρ3 k hk).trans (hρ2 k hk)
  conv=>whnf
  refine⟨_,wrapId ⟨by omega,by omega⟩, ?_⟩
  conv=>whnf
  refine⟨fun hc=>?_,fun hc=>?_⟩
  ·have hc:decide (8 * (j:Int)+i < min (8 * (j:Int)+8) (s.length:Int))=true:=hc
   have h1:8 * j+i < s.length∧i < 8:=by simp at hc; omega
   conv=>whnf
   refine sidx_step (l:=s) tB_ok rfl rfl rfl rfl (8 * j+i) (by push_cast; rfl) h1.1 ?_
   conv=>whnf
   refine⟨_,u8_to64 _, ?_⟩
   conv=>whnf
   refine⟨(i:Int),by rw [wrapId ⟨by omega,by omega⟩]; omega, ?_⟩
   conv=>whnf
   refine⟨((8 * i:Nat):Int),by rw [wrapId ⟨by omega,by omega⟩]; push_cast; rfl, ?_⟩
   conv=>whnf
   refine⟨by omega,_,u64_shl _ (8 * i) (by omega), ?_⟩
   conv=>whnf
   refine⟨_,u64_or _ _, ?_⟩
   conv=>whnf
   refine⟨_,wrapId ⟨by omega,by omega⟩, ?_⟩
   refine⟨i+1,⟨by omega,by omega⟩,by show 8 - (i+1) < 8 - i; omega, ?_⟩
   dsimp only
   rw [← wordF_step h1.1 h1.2]
   conv=>whnf
   refine⟨rfl, ?_⟩
   conv=>whnf
   repeat'(first|exact trivial|exact rfl|refine And.intro ?_ ?_|((conv=>whnf);first|exact trivial|exact rfl|refine And.intro ?_ ?_|omega))
  ·have hc:decide (8 * (j:Int)+i < min (8 * (j:Int)+8) (s.length:Int))=false:=hc
   have hie:i=min 8 (s.length - 8 * j):=by simp at hc; omega
   rw [wordF_end hie]
   conv=>whnf
   refine yield_step (fn:=fo) (d:=d) [(5, .c (.p 2 0 0 0)),(9, .c (.p 6 0 0 0))] 9 (sumRound (mixN s j) (wordF s j)) hT (relSt_agree hA rfl hρ2) ((congrArg Rg.blk (hρ2 9 (by omega))).trans hl1) rfl rfl rfl rfl ?_
   conv=>whnf
   refine⟨?_, ?_, ?_⟩
   iterate 2 · repeat'(first|exact trivial|exact rfl|refine And.intro ?_ ?_|((conv=>whnf);first|exact trivial|exact rfl|refine And.intro ?_ ?_|omega))
   conv=>whnf
   refine⟨_,wrapId ⟨by omega,by omega⟩, ?_⟩
   refine⟨j+1,by omega,by show (s.length+7) / 8 - (j+1) < (s.length+7) / 8 - j; omega, ?_⟩
   dsimp only
   rw [mixN_succ]
   conv=>whnf
   refine⟨rfl, ?_⟩
   conv=>whnf
   repeat'(first|exact trivial|exact rfl|refine And.intro ?_ ?_|((conv=>whnf);first|exact trivial|exact rfl|refine And.intro ?_ ?_|omega))
 ·have hc:decide (8 * (j:Int) < (s.length:Int))=false:=hc
  have hje:j=(s.length+7) / 8:=by simp at hc; omega
  subst hje
  conv=>whnf
  refine⟨((UInt64.ofNat s.length).toNat:Int),by rw [wrap_u64,UInt64.toNat_ofNat']; show (s.length:Int) % _=_; omega, ?_⟩
  conv=>whnf
  refine yield_step (fn:=fo) (d:=d) [(5, .c (.p 2 0 0 0)),(9, .c (.p 6 0 0 0))] 9 (sumRound (mixN s ((s.length+7) / 8)) (UInt64.ofNat s.length)) hT hA hl1 rfl rfl rfl rfl ?_
  conv=>whnf
  refine⟨?_, ?_, ?_⟩
  iterate 2 · repeat'(first|exact trivial|exact rfl|refine And.intro ?_ ?_|((conv=>whnf);first|exact trivial|exact rfl|refine And.intro ?_ ?_|omega))
  conv=>whnf
  refine yield_step (fn:=fo) (d:=d) [(5, .c (.p 2 0 0 0)),(9, .c (.p 6 0 0 0))] 9 (sumRound (absorbF (mixN s ((s.length+7) / 8)) (UInt64.ofNat s.length)) (0)) hT hA hl1 rfl rfl rfl rfl ?_
  conv=>whnf
  refine⟨?_, ?_, ?_⟩
  iterate 2 · repeat'(first|exact trivial|exact rfl|refine And.intro ?_ ?_|((conv=>whnf);first|exact trivial|exact rfl|refine And.intro ?_ ?_|omega))
  conv=>whnf
  refine yield_step (fn:=fo) (d:=d) [(5, .c (.p 2 0 0 0)),(9, .c (.p 6 0 0 0))] 9 (sumRound (absorbF (absorbF (mixN s ((s.length+7) / 8)) (UInt64.ofNat s.length)) (0)) (0)) hT hA hl1 rfl rfl rfl rfl ?_
  conv=>whnf
  refine⟨?_, ?_, ?_⟩
  iterate 2 · repeat'(first|exact trivial|exact rfl|refine And.intro ?_ ?_|((conv=>whnf);first|exact trivial|exact rfl|refine And.intro ?_ ?_|omega))
  conv=>whnf
  refine yield_step (fn:=fo) (d:=d) [(5, .c (.p 2 0 0 0)),(9, .c (.p 6 0 0 0))] 9 (sumRound (absorbF (absorbF (absorbF (mixN s ((s.length+7) / 8)) (UInt64.ofNat s.length)) (0)) (0)) (0)) hT hA hl1 rfl rfl rfl rfl ?_
  conv=>whnf
  refine⟨?_, ?_, ?_⟩
  iterate 2 · repeat'(first|exact trivial|exact rfl|refine And.intro ?_ ?_|((conv=>whnf);first|exact trivial|exact rfl|refine And.intro ?_ ?_|omega))
  conv=>whnf
  refine⟨rfl, ?_⟩
  conv=>whnf
  refine allocA_step tB_ok 16 rfl rfl rfl ?_
  conv=>whnf
  refine slA_step (n:=16) tB_ok rfl rfl rfl rfl rfl rfl ⟨8,rfl, ?_⟩
  conv=>whnf
  refine⟨by decide,Nat.zero_le _, ?_⟩
  conv=>whnf
  refine call_step (set_t (some 16) (List.replicate 16 0) 0 8 (endF s).b (by decide) (by decide)) rfl rfl ?_
  conv=>whnf
  refine⟨?_, ?_, ?_⟩
  iterate 2 · repeat'(first|exact trivial|exact rfl|refine And.intro ?_ ?_|((conv=>whnf);first|exact trivial|exact rfl|refine And.intro ?_ ?_|omega))
  conv=>whnf
  refine slA_step (n:=16) tB_ok rfl rfl rfl rfl rfl rfl ?_
  conv=>whnf
  refine⟨by decide,8,rfl,by decide, ?_⟩
  conv=>whnf
  have hL:((List.replicate 16 (0:UInt8)).take 0 ++ setF 8 (endF s).b ++ (List.replicate 16 (0:UInt8)).drop (0+8)).length=16:=by simp [setF_length]
  have hR:∀ L:List UInt8,L=(List.replicate 16 (0:UInt8)).take 0 ++ setF 8 (endF s).b ++ (List.replicate 16 (0:UInt8)).drop (0+8) → L.take 8 ++ setF 8 (endF s).d ++ L.drop (8+8)=sumF tag ps:=by
   intro L hL
   rw [← hsum,hL]
   simp [setF_length]
  generalize (List.replicate 16 (0:UInt8)).take 0 ++ setF 8 (endF s).b ++ (List.replicate 16 (0:UInt8)).drop (0+8)=L at hL hR ⊢
  refine call_step (set_t (some 16) L 8 8 (endF s).d (by omega) (by decide)) rfl rfl ?_
  conv=>whnf
  refine⟨?_, ?_, ?_⟩
  iterate 2 · repeat'(first|exact trivial|exact rfl|refine And.intro ?_ ?_|((conv=>whnf);first|exact trivial|exact rfl|refine And.intro ?_ ?_|omega))
  rw [hR L rfl]
  conv=>whnf
  refine loadA_step (l:=sumF tag ps) tB_ok rfl rfl rfl rfl rfl (by rw [sumF_length]) ?_
  conv=>whnf
  refine storeA_step (l':=sumF tag ps) tB_ok rfl rfl rfl rfl rfl (by simp) (by rw [sumF_length]; simp) (by decide) ?_
  conv=>whnf
  refine⟨fun _ h=>h, ?_⟩
  conv=>whnf
  refine⟨bytesV (sumF tag ps),⟨fun j v hv=>?_,by rw [bytesV_length,sumF_length],rfl⟩, ?_⟩
  ·have hj:j < (sumF tag ps).length:=by have:=(List.getElem?_eq_some_iff.1 hv).1; rwa [bytesV_length] at this
   rw [bytesV_get hj] at hv; cases hv
   exact⟨j,0,by show j * 1+0=j; omega,aU8_cell.2 ⟨hj,rfl,rfl⟩⟩
  conv=>whnf
  repeat'(first|exact trivial|exact rfl|refine And.intro ?_ ?_|((conv=>whnf);first|exact trivial|exact rfl|refine And.intro ?_ ?_|omega))

end Go.Proofs

namespace Go
namespace Sx

theorem run_ofValue {P:Program} {w:World} (g:FuncId) (first cap args:Array Value):(Deferred.ofValue (.func (.func g) first cap) args).run P w=.ok { target:=.fn (.func g) cap,args:=first ++ args } w:=by
  simp [Deferred.ofValue,Sem.run_pure]

def deferK (P:Program) (B:Tabs) (fn:Func) (A1 A2:Code) (o0:Oper) (x:Operand) (R:Code) (g:FuncId) (caps:List Nat) (np:Nat) (r:SV) (post:Heap) (cx:Cx) (s:St):Prop :=
  vc cx B A1 (fun ex s1=>match ex with
    | .normal=>vc cx B A2 (fun ex s2=>match ex with
      | .normal=>runK cx B o0 s2 fun s3=>ev s3.e x=.c (.f g caps)∧s3.e.marks=[] ∧
          ∀ d:Deferred,vc { cx with df:=[d] } B R (fun ex s4=>match ex with
            | .ret=>s4.e.marks=[]∧resK B s4 fn.results.toList fun l=>RetE (packR l) s4.H s4.nx np r post
            | _=>False) s3
      | _=>False) s1
    | _=>False) s

theorem triple_defer {P:Program} {B:Tabs} (hB:TabsOK P B) {f:FuncId} {fn:Func} {args:List SV} {pre:Heap} {np:Nat} {r:SV} {post:Heap}
    {A1 A2 R:Code} {id:Nat} {o0 od:Oper} {c:Call} {x:Operand} (g:FuncId) (caps:List Nat)
    (hf:P.funcs[f]? = some fn) (hb:fn.body=some (.seq A1 (.seq A2 (.seq (.region id #[o0,od] false) R)))) (henter:∀ args w,(callFunc f args).run P w=.ok (.enter f args) w)
    (hod:od.op=.defer c) (hcc:c.callee=.value x) (hca:c.args=#[]) (hgd:od.guard=none) (hdd:od.dst=none) (hg0:o0.guard=none)
    (hentg:∀ args w,(callFunc g args).run P w=.ok (.enter g args) w)
    (hidle:∀ (vs:Array Value) (w:World),vs.size=caps.length → CallsDIn Fence.wide 0 P g vs .returning w fun e u' w'=>(∃ v,e=.returned v)∧u'=.returning∧w'=w)
    (hn:(allLt np (nmsV args) && (allLt np (nmsH pre) && Nat.ble args.length fn.ntmps))=true)
    (h:∀ (ρ:Asg) (w:World),SatH w (ownB ρ pre) ρ pre w → deferK P B fn A1 A2 o0 x R g caps np r post (cxOf P w ρ pre fn.ntmps np) ⟨envOf 0 args,pre,np⟩) :
    Triple P f args pre np r post where
  enter:=henter
  h ρ w vals hv hH:=by
    simp only [Bool.and_eq_true] at hn
    obtain ⟨hn1,hn2,hn3⟩:=hn
    have hn1:=allLt_iff.1 hn1
    have hn2:=allLt_iff.1 hn2
    have hn3:=Nat.le_of_ble_eq_true hn3
    have hlen:args.length=vals.size:=by simpa using relVs_length hv
    rw [← callsIn_wide (n:=0)]
    refine callsIn_of_wp_marks (F:=Fence.wide) hf hb trivial ?_ rfl
    have hs:Sat (cxOf P w ρ pre fn.ntmps np) ρ ⟨envOf 0 args,pre,np⟩ { tmps:=vals ++ Array.replicate (fn.ntmps - vals.size) undef,defers:=[] } w:=by
      refine⟨by simp [cxOf]; omega,by simp [envOf_marks,cxOf], ?_,hH,⟨?_,by simp only [envOf_marks]; simp, ?_⟩,fun _ _=>rfl,(fun _ h=>by cases h),Nat.le_refl _⟩
      · intro i
        simp only [envOf_get,Nat.zero_le,if_true,Nat.sub_zero]
        cases ha:args[i]? with
        | none=>trivial
        | some s =>
          obtain ⟨v,hv',hr⟩:=relVs_get hv ha
          have hlt:i < vals.size:=by
            have:=(List.getElem?_eq_some_iff.1 hv').1; simpa using this
          have:(vals ++ Array.replicate (fn.ntmps - vals.size) undef).getD i undef=v:=by
            rw [Array.getD_eq_getD_getElem?,Array.getElem?_append_left hlt]
            have h2:vals[i]? = some v:=by simpa using hv'
            simp [h2]
          rw [this]; exact hr
      · intro i k hk
        simp only [envOf_get,Nat.zero_le,if_true,Nat.sub_zero] at hk
        cases ha:args[i]? with
        | none=>simp [ha,SV.uses,SC.uses,SC.nms,anyMem] at hk
        | some s =>
          simp only [ha,Option.getD_some] at hk
          exact hn1 k (mem_nmsV (List.mem_of_getElem? ha) (SV.uses_nms.1 hk))
      · intro k own o hl
        have:=look_nms hl
        exact⟨hn2 k this.1,fun j hj=>hn2 j (this.2 j (SO.uses_nms.1 hj))⟩
    refine wpIn_seq ((vc_sound hB A1 _ _ (h ρ w hH)).h ρ _ w hs _ ?_)
    intro ex s1 ρ1 a1 w1 hq1 hs1
    cases ex with
    | normal=>?_
    | _=>exact hq1.elim
    refine wpIn_seq ((vc_sound hB A2 _ _ hq1).h ρ1 _ w1 hs1 _ ?_)
    intro ex s2 ρ2 a2 w2 hq2 hs2
    cases ex with
    | normal=>?_
    | _=>exact hq2.elim
    refine wpIn_seq (wpIn_region ?_)
    have hrange:List.range (#[o0,od]:Array Oper).size=[0,1]:=rfl
    rw [hrange]
    simp only [wpOpsIn]
    rw [show (#[o0,od]:Array Oper)[0]? = some o0 from rfl]
    simp only [Region.wanted,hg0,if_true]
    refine run_sound hB hq2 hs2 ?_
    rintro ρ3 s3 a3 w3 ⟨hx3,hmk3,hR⟩ hs3
    rw [show (#[o0,od]:Array Oper)[1]? = some od from rfl]
    simp only [Region.wanted,hgd,if_true]
    have hxr:a3.eval x=.func (.func g) #[] (caps.map fun k=>Value.pointer (some (adr ρ3 k 0))).toArray:=by
      have:=ev_rel (x:=x) (fun t ht=>hs3.env t) (ρ:=ρ3) (a:=a3)
      rw [hx3] at this; exact this
    have hsem:(od.semAt (Fence.wide).round a3.eval).run P w3=.ok (.defer { target:=.fn (.func g) (caps.map fun k=>Value.pointer (some (adr ρ3 k 0))).toArray,args:=#[] }) w3:=by
      show (od.semAt none a3.eval).run P w3=_
      rw [Oper.semAt_none]
      simp [execOp,hod,resolve,hcc,hca,hxr,run_ofValue]
    refine⟨fun f hf=>by simp [Oper.about,hod] at hf, ?_⟩
    rw [hsem,Oper.uponIn_defer,hdd]
    simp only [Act.put]
    have hR:=hR { target:=.fn (.func g) (caps.map fun k=>Value.pointer (some (adr ρ3 k 0))).toArray,args:=#[] }
    have hs3':Sat { cxOf P w ρ pre fn.ntmps np with df:=[{ target:=.fn (.func g) (caps.map fun k=>Value.pointer (some (adr ρ3 k 0))).toArray,args:=#[] }] } ρ3 s3
        { a3 with defers:={ target:=.fn (.func g) (caps.map fun k=>Value.pointer (some (adr ρ3 k 0))).toArray,args:=#[] } :: a3.defers } w3 :=
      { size:=hs3.size,defers:=by rw [hs3.defers,hmk3]; rfl,env:=hs3.env,heap:=hs3.heap,bnd:=hs3.bnd,base:=hs3.base,keep:=hs3.keep,n0:=hs3.n0 }
    refine (vc_sound hB R _ _ hR).h ρ3 _ w3 hs3' _ ?_
    intro ex s4 ρ4 a4 w4 hq4 hs4
    cases ex with
    | ret=>?_
    | _=>exact hq4.elim
    obtain ⟨hmk4,hres⟩:=hq4
    show LeavesInM Fence.wide 0 P fn a4.tmps _ a4.defers .returning w4
    rw [hs4.defers,hmk4]
    refine⟨by simp, .inr ⟨by simp [Fence.wide], .func g,_,g,_,rfl,hentg _ _,fun _ _=>trivial, ?_⟩⟩
    refine (hidle _ w4 (by simp)).mono ?_
    rintro e u' w' ⟨⟨v,rfl⟩,rfl,rfl⟩
    obtain ⟨rv,hret,hres⟩:=results_run (cx:={ cxOf P w ρ pre fn.ntmps np with df:=[{ target:=.fn (.func g) (caps.map fun k=>Value.pointer (some (adr ρ3 k 0))).toArray,args:=#[] }] }) (fn:=fn) (K:=fun rv=>RetE rv s4.H s4.nx np r post) hB hres
    obtain ⟨v,hv,hrel,hbel⟩:=hres ρ4 a4 w' hs4
    have hs5:Sat (cxOf P w ρ pre fn.ntmps np) ρ4 s4 { a4 with defers:=[] } w' :=
      { size:=hs4.size,defers:=by rw [hmk4]; rfl,env:=hs4.env,heap:=hs4.heap,bnd:=hs4.bnd,base:=hs4.base,keep:=hs4.keep,n0:=hs4.n0 }
    obtain ⟨ρ'',h1,h2,h3⟩:=ret_sat hs5 rfl hrel hbel hret
    exact⟨v,hv,ρ'',v,h1,rfl,h2,h3⟩

end Sx
end Go

