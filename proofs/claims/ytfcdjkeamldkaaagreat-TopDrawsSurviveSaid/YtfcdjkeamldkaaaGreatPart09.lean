/-
  A part of the proof that a law answers true: lemmas of a symbolic walk, plain functions, or contracts of the functions walked (Sx22, Sx34, Sx35, Sx36, Sx37, Sx23, Sx24, Sx25, Sx26, Sx27, Sx38, Sx39, Sx47, Sx48, Sx49, Sx50, Sx28, SxE, Sx51). Conditions: none.
-/
import Derived.Test.YtfcdjkeamldkaaaGreatPart08
import Derived.Sort.Grow
import Derived.MapKept
import Derived.Test.YtfcdjkeamldkaaaGreatPart01
import Derived.Laws.StructEq
import Derived.ChangeKeysEq
import Derived.Laws.Strings
import Derived.Laws.Strings2
import Derived.Laws.Concat
import Derived.Laws.BytesString
import Derived.Laws.Slices
set_option maxRecDepth 100000
set_option linter.unusedVariables false
set_option linter.unusedSimpArgs false
namespace Go
namespace Sx

def svsOf:List (Nat × SV) → List SV
  | []=>[]
  | (_,v) :: r=>v :: svsOf r

def slotsOf:List (Nat × SV) → List Nat
  | []=>[]
  | (i,_) :: r=>i :: slotsOf r

theorem svsOf_rel {ρ:Asg} {T:Array Value}:∀ {st:List (Nat × SV)},(∀ i sv,(i,sv) ∈ st → sv.rel ρ (T.getD i undef)) ↔ relVs ρ (svsOf st) ((slotsOf st).map fun i=>T.getD i undef)
  | []=>by simp [svsOf,slotsOf,relVs]
  | (j,v) :: r=>by
    simp only [svsOf,slotsOf,List.map_cons,relVs,← svsOf_rel (st:=r),List.mem_cons,Prod.mk.injEq]
    constructor
    · exact fun h=>⟨h j v (.inl ⟨rfl,rfl⟩),fun i sv hm=>h i sv (.inr hm)⟩
    · rintro ⟨h1,h2⟩ i sv (⟨rfl,rfl⟩ | hm)
      · exact h1
      · exact h2 i sv hm

theorem relSt_agree {ρ ρ':Asg} {T:Array Value} {st:List (Nat × SV)} {n:Nat} (h:∀ i sv,(i,sv) ∈ st → sv.rel ρ (T.getD i undef)) (hn:allLt n (nmsSt st)=true) (hρ:∀ k,k < n → ρ' k=ρ k) :
    ∀ i sv,(i,sv) ∈ st → sv.rel ρ' (T.getD i undef):=fun i sv hm =>
  SV.rel_agree (fun k hk=>hρ k (allLt_iff.1 hn k (mem_nmsSt hm (SV.uses_nms.1 hk)))) (h i sv hm)

theorem relVs_take {ρ:Asg}:∀ {l l':List SV} {vs vs':List Value},l.length=vs.length → relVs ρ (l ++ l') (vs ++ vs') → relVs ρ l vs∧relVs ρ l' vs'
  | [],_,[],_,_,h=>⟨trivial,h⟩
  | [],_,_ :: _,_,h,_=>by simp at h
  | _ :: _,_,[],_,h,_=>by simp at h
  | _ :: _,_,_ :: _,_,hl,h=>by
    have:=relVs_take (by simpa using hl) h.2
    exact⟨⟨h.1,this.1⟩,this.2⟩

def yieldK (args:List SV) (stO stA:List (Nat × SV)) (pre:Heap) (np:Nat) (post:Heap) (R:SO) (n0 kl:Nat) (nps:Nat) (acts:List SV) (H:Heap) (nx:Nat) (K:Eff → Prop):Prop :=
  forceVs (acts ++ svsOf stA) fun avs=>findVsK 0 nx (args ++ svsOf stO) avs [(0,kl)] fun τ=>findHK 0 nx H pre τ fun τ =>
  bif allIn (0 :: keys pre) (nmsV (args ++ svsOf stO)) && (allIn (0 :: keys pre) (nmsH pre) && (nodupB (mapN (rnf τ) (0 :: keys pre)) && (allLt nx (mapN (rnf τ) (0 :: keys pre)) &&
      (allNp np (0 :: keys pre) (nmsH post) && (okPost np pre post && (allLt np (0 :: keys pre) && (eqNs (slotsOf stO) (slotsOf stA) && (Nat.beq args.length acts.length && (Nat.beq acts.length nps &&
      (Nat.beq (rnf τ 0) kl && (Nat.blt kl n0 && (allLt n0 (nmsSt stA) && (bif memN 0 (keys pre) then false else bif memN 0 (keys post) then false else true))))))))))))) then
    entVs [] avs (renVs (rnf τ) (args ++ svsOf stO))∧entH [] H (rnf τ) ((0,true,R) :: pre) ∧
    K ⟨.c (.b true),mapN (rnf τ) (0 :: keys pre),(fshift np nx τ 0,true,R) :: (renH (fshift np nx τ) post ++ deadOf τ (0 :: keys post) pre),rangeN nx (maxN (nmsH post) np - np)⟩
  else False

theorem okPost_cons {np:Nat} {pre:Heap} {k:Nat} {x:Bool × SO}:∀ {post:Heap},okPost np pre post=true → memN k (keys post)=false → okPost np ((k,x) :: pre) post=true
  | [],_,_=>rfl
  | (j,true,o) :: r,h,hm=>by
    simp only [okPost] at h ⊢
    refine okPost_cons h ?_
    simp only [keys,memN] at hm
    cases hb:Nat.beq k j <;> simp_all
  | (j,false,o) :: r,h,hm=>by
    simp only [keys,memN] at hm
    obtain ⟨hb,hm'⟩:Nat.beq k j=false∧memN k (keys r)=false:=by cases hb:Nat.beq k j <;> simp_all
    simp only [okPost] at h ⊢
    cases hlt:Nat.blt j np with
    | false=>simp [hlt] at h
    | true =>
      simp only [hlt,cond_true] at h ⊢
      have hl:look ((k,x) :: pre) j=look pre j:=by
        rw [look_cons,if_neg]
        rintro rfl
        exact Nat.ne_of_beq_eq_false hb rfl
      rw [hl]
      split at h
      · rename_i own' o' hlk
        cases hs:sameRoomB o' o with
        | false=>simp [hs] at h
        | true=>simp only [hs,cond_true] at h ⊢; exact okPost_cons h hm'
      · cases h

theorem deadOf_cons0 {τ:List (Nat × Nat)} {ks:List Nat} {pre:Heap} {R:SO}:deadOf τ (0 :: ks) ((0,true,R) :: pre)=deadOf τ (0 :: ks) pre:=by
  simp [deadOf,memN]

theorem yield_step {cx:Cx} {o:Oper} {e:Env} {H:Heap} {nx:Nat} {K:Eff → Prop} {c:Call} {x:Operand} {l:Nat} {fn:FuncId} {d nt:Nat} {T0:Array Value} {ps:Array Tmp} {asg body:Code}
    {args:List SV} {stO:List (Nat × SV)} {pre:Heap} {np:Nat} {post:Heap} (stA:List (Nat × SV)) (kl:Nat) (T:RoundT cx.P nt stO ps asg body args pre np post) (hT:T0.size=nt)
    (hA:∀ i sv,(i,sv) ∈ stA → sv.rel cx.ρ0 (T0.getD i undef)) (hl:(cx.ρ0 kl).blk=l) (hrd:cx.rd=none) (ho:o.op=.call c) (hc:c.callee=.value x) (hx:ev e x=.c (.v (.func (.yield l) #[] #[])))
    (h:yieldK args stO stA pre np post (recO fn T0 ps asg body d) cx.n0 kl ps.toList.length (evs e c.args.toList) H nx K) :
    ∃ F,CallOK cx o e H nx F∧K F:=by
  simp only [yieldK,forceVs_eq,findVsK_eq,findHK_eq] at h
  generalize hτ:findH 0 nx H pre (findVs 0 nx (args ++ svsOf stO) (evs e c.args.toList ++ svsOf stA) [(0,kl)])=τ at h
  obtain ⟨hall,hargs,hpre,hK⟩:=bif_and h
  simp only [Bool.and_eq_true] at hall
  obtain ⟨c1,c2,c3,c4,c5,c6,c7,c8,c9,c10,c11,c12,c13,c14⟩:=hall
  have c8:=eqNs_eq c8
  have c9:=Nat.eq_of_beq_eq_true c9
  have c10:=Nat.eq_of_beq_eq_true c10
  have c11:=Nat.eq_of_beq_eq_true c11
  have c12:kl < cx.n0:=Eq.mp Nat.blt_eq c12
  have c13:=allLt_iff.1 c13
  obtain ⟨m1,m2⟩:memN 0 (keys pre)=false∧memN 0 (keys post)=false:=by
    cases h1:memN 0 (keys pre) <;> cases h2:memN 0 (keys post) <;> simp_all
  have hR0:∀ H':Heap,nmsH ((0,true,recO fn T0 ps asg body d) :: H')=0 :: nmsH H':=fun _=>rfl
  refine call_core (args:=args ++ svsOf stO) (pre:=(0,true,recO fn T0 ps asg body d) :: pre) (np:=np) (r:=.c (.b true)) (post:=(0,true,recO fn T0 ps asg body d) :: post) (τ:=τ)
    ⟨c1, ?_,c3,c4, ?_, ?_,c7⟩ hpre ?_ ?_
  · rw [hR0,allIn_iff]
    intro k hk
    rcases List.mem_cons.1 hk with rfl | hk
    · simp [keys]
    · exact allIn_iff.1 c2 k hk
  · rw [hR0,allNp_iff]
    intro k hk hkn
    simp only [SV.nms,SC.nms,List.nil_append] at hk
    rcases List.mem_cons.1 hk with rfl | hk
    · simp [keys]
    · exact allNp_iff.1 c5 k hk hkn
  · simp only [okPost]
    exact okPost_cons c6 m2
  · intro ρ a w hr hbase hH KK Q hKK
    have hops:∀ y ∈ c.args.toList,y ∈ o.op.operands.toList:=fun y hy=>by simp [ho,Op.operands,Call.operands,hc]; exact .inr (by simpa using hy)
    have hopx:x ∈ o.op.operands.toList:=by simp [ho,Op.operands,Call.operands,hc]
    have hfit:∀ y,y ∈ o.op.operands.toList → (ev e y).rel ρ (a.eval y):=fun y hy=>reads_fit hy hr
    have hx':=hfit x hopx
    rw [hx] at hx'; simp only [SV.rel,SC.rel] at hx'
    have hAρ:relVs ρ (svsOf stA) ((slotsOf stA).map fun i=>T0.getD i undef):=svsOf_rel.1 fun i sv hm =>
      SV.rel_agree (fun k hk=>hbase k (c13 k (mem_nmsSt hm (SV.uses_nms.1 hk)))) (hA i sv hm)
    have hvals:=renVs_rel.1 (entVs_rel (nl:=[]) (by intro k hk; cases hk) hargs (relVs_append (evs_rel fun y hy=>hfit y (hops y hy)) hAρ))
    have hlen:args.length=(c.args.toList.map a.eval).length:=by
      have:=relVs_length (evs_rel (ρ:=ρ) (e:=e) (a:=a) fun y hy=>hfit y (hops y hy))
      omega
    obtain ⟨hv1,hv2⟩:=relVs_take hlen hvals
    rw [← c8] at hv2
    have hblk:(ρ (rnf τ 0)).blk=l:=by rw [c11,hbase kl c12,hl]
    have hvsz:(c.args.map a.eval).size=ps.size:=by
      have:=relVs_length (evs_rel (ρ:=ρ) (e:=e) (a:=a) fun y hy=>hfit y (hops y hy))
      simp at this c10 ⊢
      omega
    have hround:=T.h fn T0 d (fun k=>ρ (rnf τ k)) w (c.args.map a.eval) hT (svsOf_rel.2 hv2) (by simpa using hv1) hvsz hH
    obtain ⟨y,hy,hyy⟩:=(hH.reg 0 true (recO fn T0 ps asg body d) (by rw [look_cons,if_pos rfl])).keys _ rfl
    simp only [hblk] at hy hround
    have hy:w.heap[l]? = some (.loop { state:=.ready,pending:=none,fn:=fn,tmps:=T0,params:=ps,assign:=asg,body:=body,defers:=d }):=by
      rw [hy]; exact congrArg some hyy
    have hrun:(execOp a.eval o).run cx.P w=.ok (.round l fn ((ps.zip (c.args.map a.eval)).foldl (fun tmps (t,a)=>tmps.setIfInBounds t a) T0) asg body) w:=by
      simp only [execOp,ho,resolve,hc,hx',Deferred.ofValue,Sem.run_bind,Sem.run_pure,Result.andThen_ok,invoke,Array.empty_append]
      rw [run_yield hy hvsz]
    refine⟨fun _ _=>trivial, ?_⟩
    rw [Oper.semAt_eq _ _ _ (by simp [ho]),hrun,Oper.uponIn_round]
    refine⟨fun h=>by simp [fen,Fence.wide] at h, ?_⟩
    have hw:fen cx.rd=Fence.wide:=by rw [hrd]; rfl
    rw [hw]
    refine hround.mono ?_
    rintro en w' ⟨ρc,hag,rfl,hpost⟩
    exact hKK ρc (.bool true) w' hag rfl hpost
  · have e1:maxN ((SV.c (.b true)).nms ++ nmsH ((0,true,recO fn T0 ps asg body d) :: post)) np=maxN (nmsH post) np:=by
      rw [hR0]
      simp only [SV.nms,SC.nms,List.nil_append,maxN]
      have h0:0 < np:=allLt_iff.1 c7 0 (by simp [keys])
      cases hb:Nat.blt np (0+1) with
      | false=>rfl
      | true=>have:=Eq.mp Nat.blt_eq hb; omega
    have e2:renH (fshift np nx τ) ((0,true,recO fn T0 ps asg body d) :: post)=(fshift np nx τ 0,true,recO fn T0 ps asg body d) :: renH (fshift np nx τ) post:=rfl
    rw [e1,e2]
    simp only [keys]
    rw [deadOf_cons0]
    exact hK

def itK (cx:Cx) (B:Tabs) (fn:Func) (c:Code) (Q:Exit → St → Prop) (s:St) (caps:List Nat) (R:SO) (l:Nat) (ρ:Asg):Prop:=match s with
  | ⟨e,H,nx⟩=>vc ⟨cx.P,cx.w0,cx.M,fn.ntmps,none,ρ,nx+2,none,#[],[]⟩ B c
    (fun ex s'=>match ex,s' with
      | .normal,⟨e',H',nx'⟩=>itEnd e H' nx' e' nx R Q
      | .ret,⟨e',H',nx'⟩=>itEnd e H' nx' e' nx R Q
      | _,_=>False)
    ⟨envOf 0 (.c (.v (.func (.yield l) #[] #[])) :: capPs caps),(nx+1,true,R) :: (nx,true,dfrO) :: H,nx+2⟩
where
  itEnd (e:Env) (H':Heap) (nx':Nat) (e':Env) (nx:Nat) (R:SO) (Q:Exit → St → Prop):Prop :=
    bif eqNs e'.marks [] then (match look H' (nx+1) with
      | some (true,o)=>o=R∧Q .normal ⟨.mark nx e,(nx+1,false, .cells []) :: H',nx'⟩
      | _=>False) else False

def rangeK (cx:Cx) (B:Tabs) (g:FuncId) (fn:Func) (c:Code) (ps:Array Tmp) (asg body:Code) (Q:Exit → St → Prop) (s:St) (f:SV):Prop :=
  match f with
  | .c (.f g' caps)=>bif Nat.beq g' g && Nat.ble (1+caps.length) fn.ntmps then
      match s with
      | ⟨e,H,nx⟩=>∀ (fo d l:Nat) (T0:Array Value) (ρ:Asg),T0.size=cx.nt → (∀ i,(e.get i).rel ρ (T0.getD i undef)) → (ρ (nx+1)).blk=l → itK cx B fn c Q ⟨e,H,nx⟩ caps (recO fo T0 ps asg body d) l ρ
    else False
  | _=>False

theorem range_step {cx:Cx} {B:Tabs} (hB:TabsOK cx.P B) {f:Operand} {ps:Array Tmp} {asg body:Code} {Q:Exit → St → Prop} {s:St} {g:FuncId} {fn:Func} {c:Code}
    (hrd:cx.rd=none) (hf:cx.P.funcs[g]? = some fn) (hb:fn.body=some c) (henter:∀ args w,(callFunc g args).run cx.P w=.ok (.enter g args) w) (hres:fn.results=#[])
    (h:rangeK cx B g fn c ps asg body Q s (ev s.e f)):Sound cx (.rangeFunc f ps asg body) Q s:=by
  refine⟨fun ρ a w hs QQ hQ=>?_⟩
  unfold rangeK at h
  split at h
  · rename_i g' caps he
    obtain ⟨hck,hgo⟩:=bif_and h
    clear h
    simp only [Bool.and_eq_true] at hck
    have hg:=Nat.eq_of_beq_eq_true hck.1
    have hle:=Nat.le_of_ble_eq_true hck.2
    subst hg
    have hfv:(ev s.e f).rel ρ (a.eval f):=ev_rel fun t _=>hs.env t
    rw [he] at hfv
    simp only [SV.rel,SC.rel] at hfv
    have hcb:∀ k ∈ caps,k < s.nx:=by
      have:=ev_below (e:=s.e) (x:=f) (n:=s.nx) (fun t _=>hs.bnd.env t)
      rw [he,SV.below_c] at this
      exact this
    have hw:fen cx.rd=Fence.wide:=by rw [hrd]; rfl
    rw [hw]
    refine wpIn_rangeFunc fun fo _=>?_
    have h1:=hs.newObj (Φ:=fun x=>x=.deferred (some [])) (.deferred (some [])) rfl
    have h2:=h1.newObj (Φ:=fun x=>x=.loop { state:=.ready,pending:=none,fn:=fo,tmps:=a.tmps,params:=ps,assign:=asg,body:=body,defers:=w.heap.size }) (.loop { state:=.ready,pending:=none,fn:=fo,tmps:=a.tmps,params:=ps,assign:=asg,body:=body,defers:=w.heap.size }) rfl
    simp only at h2
    obtain ⟨ρ2,hρ2⟩:∃ ρ2,ρ2=upd (upd ρ s.nx ⟨w.heap.size,0,0,[]⟩) (s.nx+1) ⟨(push w (.deferred (some []))).heap.size,0,0,[]⟩:=⟨_,rfl⟩
    rw [← hρ2] at h2
    have hold:∀ k,k < s.nx → ρ2 k=ρ k:=fun k hk=>by rw [hρ2,upd_ne (by omega),upd_ne (by omega)]
    have hkd:ρ2 s.nx=⟨w.heap.size,0,0,[]⟩:=by rw [hρ2,upd_ne (by omega),upd_eq]
    have hkl:(ρ2 (s.nx+1)).blk=w.heap.size+1:=by rw [hρ2,upd_eq,push_size]
    obtain ⟨W2,hW2⟩:∃ W2,W2=(w.alloc (.deferred (some []))).alloc (.loop { state:=.ready,pending:=none,fn:=fo,tmps:=a.tmps,params:=ps,assign:=asg,body:=body,defers:=w.heap.size }):=⟨_,rfl⟩
    refine⟨w.heap.size+1,[{ target:=.collected w.heap.size,args:=#[] }],W2,{ target:=.fn (.func g') (caps.map fun k=>Value.pointer (some (adr ρ k 0))).toArray,args:=#[.func (.yield (w.heap.size+1)) #[] #[]] },W2,g',
      #[.func (.yield (w.heap.size+1)) #[] #[]] ++ (caps.map fun k=>Value.pointer (some (adr ρ k 0))).toArray,W2,by rw [hW2]; exact run_enterLoop_outer fo a.tmps ps asg body, ?_,fun _ _=>trivial, ?_,fun h=>by simp [Fence.wide] at h, ?_⟩
    · simp only [resolve,rangeCall,hfv,Deferred.ofValue,Sem.run_bind,Sem.run_pure,Result.andThen_ok]
      simp [Act.eval]
    · simp only [invoke]
      rw [henter]
    · have hW3:W2=push (push w (.deferred (some []))) (.loop { state:=.ready,pending:=none,fn:=fo,tmps:=a.tmps,params:=ps,assign:=asg,body:=body,defers:=w.heap.size }):=hW2
      rw [hW3]
      obtain ⟨e0,H0,nx0⟩:=s
      simp only at h2 hold hkd hkl hcb hgo
      have hit:=hgo fo w.heap.size (w.heap.size+1) a.tmps ρ2 hs.size (fun i=>SV.rel_agree (fun k hk=>hold k (hs.bnd.env i k hk)) (hs.env i)) hkl
      simp only [itK] at hit
      generalize hcI:(⟨cx.P,cx.w0,cx.M,fn.ntmps,none,ρ2,nx0+2,none,#[],[]⟩:Cx)=cI at hit
      have eP:cI.P=cx.P:=by rw [← hcI]
      have hsI:Sat cI ρ2 ⟨envOf 0 (.c (.v (.func (.yield (w.heap.size+1)) #[] #[])) :: capPs caps),(nx0+1,true,recO fo a.tmps ps asg body w.heap.size) :: (nx0,true,dfrO) :: H0,nx0+2⟩
          { tmps:=(#[Value.func (.yield (w.heap.size+1)) #[] #[]] ++ (caps.map fun k=>Value.pointer (some (adr ρ k 0))).toArray) ++ Array.replicate (fn.ntmps - (#[Value.func (.yield (w.heap.size+1)) #[] #[]] ++ (caps.map fun k=>Value.pointer (some (adr ρ k 0))).toArray).size) undef,defers:=[] }
          (push (push w (.deferred (some []))) (.loop { state:=.ready,pending:=none,fn:=fo,tmps:=a.tmps,params:=ps,assign:=asg,body:=body,defers:=w.heap.size })):=by
        rw [← hcI]
        have hrel:relVs ρ2 (.c (.v (.func (.yield (w.heap.size+1)) #[] #[])) :: capPs caps) (#[Value.func (.yield (w.heap.size+1)) #[] #[]] ++ (caps.map fun k=>Value.pointer (some (adr ρ k 0))).toArray).toList:=by
          have hc2:(caps.map fun k=>Value.pointer (some (adr ρ k 0)))=caps.map fun k=>Value.pointer (some (adr ρ2 k 0)):=by
            apply List.map_congr_left
            intro k hk
            simp only [adr,hold k (hcb k hk)]
          rw [hc2]
          simp only [Array.toList_append,List.singleton_append]
          exact⟨rfl,capPs_rel⟩
        refine⟨?_,by simp [envOf_marks], ?_,h2.heap,⟨?_,by simp only [envOf_marks]; simp, ?_⟩,fun _ _=>rfl,(fun _ h=>by cases h),Nat.le_refl _⟩
        · simp only [Array.size_append,Array.size_replicate,List.size_toArray,List.length_cons,List.length_nil,List.length_map]; omega
        · intro i
          simp only [envOf_get,Nat.zero_le,if_true,Nat.sub_zero]
          cases hai:(SV.c (.v (.func (.yield (w.heap.size+1)) #[] #[])) :: capPs caps)[i]? with
          | none=>trivial
          | some sv =>
            obtain ⟨v,hv',hr⟩:=relVs_get hrel hai
            have hlt:i < (#[Value.func (.yield (w.heap.size+1)) #[] #[]] ++ (caps.map fun k=>Value.pointer (some (adr ρ k 0))).toArray).size:=by
              have:=(List.getElem?_eq_some_iff.1 hv').1; simpa using this
            have:((#[Value.func (.yield (w.heap.size+1)) #[] #[]] ++ (caps.map fun k=>Value.pointer (some (adr ρ k 0))).toArray) ++ Array.replicate (fn.ntmps - (#[Value.func (.yield (w.heap.size+1)) #[] #[]] ++ (caps.map fun k=>Value.pointer (some (adr ρ k 0))).toArray).size) undef).getD i undef=v:=by
              rw [Array.getD_eq_getD_getElem?,Array.getElem?_append_left hlt]
              have h2:(#[Value.func (.yield (w.heap.size+1)) #[] #[]] ++ (caps.map fun k=>Value.pointer (some (adr ρ k 0))).toArray)[i]? = some v:=by rw [← Array.getElem?_toList]; exact hv'
              rw [h2]; rfl
            simp only [Option.getD_some]
            rw [this]; exact hr
        · intro i k hk
          simp only [envOf_get,Nat.zero_le,if_true,Nat.sub_zero] at hk
          cases hai:(SV.c (.v (.func (.yield (w.heap.size+1)) #[] #[])) :: capPs caps)[i]? with
          | none=>rw [hai] at hk; simp [SV.uses,SC.uses,SC.nms,anyMem] at hk
          | some sv =>
            rw [hai] at hk
            simp only [Option.getD_some] at hk
            have hm:=List.mem_of_getElem? hai
            rcases List.mem_cons.1 hm with rfl | hm
            · simp [SV.uses,SC.uses,SC.nms,anyMem] at hk
            · have:∀ l:List Nat,sv ∈ capPs l → ∃ j ∈ l,sv=.c (.p j 0 0 0):=by
                intro l; induction l with
                | nil=>intro h; cases h
                | cons j l ih =>
                  intro h
                  rcases List.mem_cons.1 h with rfl | h
                  · exact⟨j,by simp,rfl⟩
                  · obtain ⟨j',h1,h2⟩:=ih h; exact⟨j',by simp [h1],h2⟩
              obtain ⟨j,hj,rfl⟩:=this caps hm
              have hkj:=SV.uses_nms.1 hk
              simp [SV.nms,SC.nms] at hkj
              have:=hcb j hj
              show k < nx0+2
              omega
        · exact h2.bnd.heap
      rw [← eP]
      rw [← eP] at hf
      refine callsIn_of_wp (F:=Fence.wide) hf hb trivial ?_ rfl
      have hwI:fen cI.rd=Fence.wide:=by rw [← hcI]; rfl
      rw [← hwI]
      have hBI:TabsOK cI.P B:=by rw [eP]; exact hB
      refine (vc_sound hBI c _ _ hit).h ρ2 _ _ hsI _ ?_
      intro ex s' ρ' a' w' hq hs'
      obtain ⟨e1,H1,nx1⟩:=s'
      have fin:itK.itEnd e0 H1 nx1 e1 nx0 (recO fo a.tmps ps asg body w.heap.size) Q → a'.defers=[]∧∃ v,(results fn a'.tmps).run cI.P w'=.ok v w' ∧
          rangePost (fen cI.rd) 0 cI.P (w.heap.size+1) QQ { a with defers:=[{ target:=.collected w.heap.size,args:=#[] }] ++ a.defers } (.returned v) w':=by
        intro hq
        simp only [itK.itEnd] at hq
        obtain ⟨hmk,hq⟩:=bif_and hq
        have hmk:=eqNs_eq hmk
        split at hq
        · rename_i o hlk
          obtain ⟨rfl,hq⟩:=hq
          have hb1:∀ k,k < nx0+2 → ρ' k=ρ2 k:=fun k hk=>by have:=hs'.base k (by rw [← hcI]; exact hk); rw [this,← hcI]
          obtain ⟨y,hy,hyy⟩:=(hs'.heap.reg (nx0+1) true _ hlk).keys _ rfl
          have hy:w'.heap[w.heap.size+1]? = some (.loop { state:=.ready,pending:=none,fn:=fo,tmps:=a.tmps,params:=ps,assign:=asg,body:=body,defers:=w.heap.size }):=by
            rw [← hkl,← hb1 (nx0+1) (by omega),hy]; exact congrArg some hyy
          have hlt1:=(hs'.bnd.heap _ _ _ hlk).1
          have hdrop:=hs'.dropObj hlk hlt1 (.loop { state:=.exhausted,pending:=none,fn:=fo,tmps:=a.tmps,params:=ps,assign:=asg,body:=body,defers:=w.heap.size })
          rw [hb1 (nx0+1) (by omega),hkl] at hdrop
          have hnx:nx0+2≤nx1:=by have:=hs'.n0; rw [← hcI] at this; exact this
          have hold':∀ k,k < nx0 → ρ' k=ρ k:=fun k hk=>(hb1 k (by omega)).trans (hold k hk)
          refine⟨by have:=hs'.defers; rw [this]; simp [hmk,← hcI], ?_⟩
          refine⟨.tuple #[], ?_,none,_,run_endLoop hy (by simp), ?_⟩
          · simp [results,hres]
          · refine hQ _ _ ρ' _ _ hq ?_
            exact { size := hs.size
                    defers:=by
                      simp only [Env.marks,List.map_cons,List.singleton_append]
                      have e2:mkD ρ' nx0={ target:=.collected w.heap.size,args:=#[] }:=by simp only [mkD,hb1 nx0 (by omega),hkd]
                      rw [e2,hs.defers]
                      congr 1
                      exact (marks_agree' fun k hk=>hold' k (hs.bnd.mks k hk)).symm
                    env:=fun i=>SV.rel_agree (fun k hk=>hold' k (hs.bnd.env i k hk)) (hs.env i)
                    heap:=by have:=hdrop.heap; rw [← hcI] at this; exact this
                    bnd:=⟨fun i k hk=>by have:=hs.bnd.env i k hk; simp only at this ⊢; omega,fun k hk=>by
                      simp only [Env.marks] at hk
                      rcases List.mem_cons.1 hk with rfl | hk
                      · show k < nx1; omega
                      · have:=hs.bnd.mks k hk; simp only at this ⊢; omega,hdrop.bnd.heap⟩
                    base:=fun k hk=>by rw [hold' k (by have:=hs.n0; simp only at this; omega)]; exact hs.base k hk
                    keep:=hs.keep
                    n0:=by have:=hs.n0; simp only at this ⊢; omega }
        · exact hq.elim
      cases ex with
      | normal=>exact fin hq
      | ret=>exact fin hq
      | _=>exact hq.elim
  · exact h.elim

end Sx
end Go

namespace Go
namespace Sx

end Sx
end Go

namespace Go
namespace Sx

end Sx
end Go

namespace Go
namespace Sx

theorem ownB_nil {ρ:Asg} {k:Nat} {r:Rg} {o:SO}:∀ {H:Heap},(∀ j ∈ keys H,j < k) → ownB (upd ρ k r) (H ++ [(k,false,o)])=ownB ρ H
  | [],_=>by simp [ownB]
  | (j,own,q) :: t,h=>by
    have hj:j ≠ k:=Nat.ne_of_lt (h j (by simp [keys]))
    simp only [List.cons_append,ownB,upd_ne hj]
    rw [ownB_nil (H:=t) (fun i hi=>h i (by simp [keys,hi]))]

theorem satH_nil {w0:World} {M:List Nat} {ρ:Asg} {k:Nat} {o:SO} {H:Heap} {w:World} (ho:nilO o) (hk:∀ j ∈ nmsH H,j < k) (h:SatH w0 M ρ H w) :
    SatH w0 M (upd ρ k ⟨0,0,0,[]⟩) (H ++ [(k,false,o)]) w:=by
  have hold:∀ {j own q},look H j=some (own,q) → j ≠ k∧∀ i,q.uses [i]=true → upd ρ k ⟨0,0,0,[]⟩ i=ρ i:=fun {j own q} hl=>by
    have hn:=look_nms hl
    exact⟨Nat.ne_of_lt (hk j hn.1),fun i hi=>upd_ne (Nat.ne_of_lt (hk i (hn.2 i (SO.uses_nms.1 hi))))⟩
  have hnil:=satO_nil (ρ:=upd ρ k ⟨0,0,0,[]⟩) (w:=w) (k:=k) (own:=false) ho upd_eq
  have key:∀ {j own q},look (H ++ [(k,false,o)]) j=some (own,q) → (look H j=some (own,q)) ∨ (j=k∧own=false∧q=o):=fun {j own q} hl=>by
    rw [look_append] at hl
    cases hh:look H j with
    | some x=>rw [hh] at hl; exact .inl hl
    | none =>
      rw [hh] at hl
      simp only [Option.none_or] at hl
      rw [look_cons] at hl
      by_cases hj:j=k
      · rw [if_pos hj] at hl; cases hl; exact .inr ⟨hj,rfl,rfl⟩
      · rw [if_neg hj] at hl; cases hl
  refine⟨h.frm, ?_, ?_, ?_, ?_⟩
  · intro j own q hl
    rcases key hl with hl | ⟨rfl,rfl,rfl⟩
    · obtain ⟨h1,h2⟩:=hold hl
      exact (h.reg j own q hl).asg (upd_ne h1) h2
    · exact hnil.1
  · intro j j' q own' q' hne hl hl' hr hr'
    rcases key hl with hl | ⟨_,hf,_⟩
    · rcases key hl' with hl' | ⟨rfl,rfl,rfl⟩
      · have h1:=(hold hl).1
        have h2:=(hold hl').1
        rw [upd_ne h1] at hr ⊢
        rw [upd_ne h2] at hr' ⊢
        exact h.apart j j' q own' q' hne hl hl' hr hr'
      · rw [hnil.2] at hr'; omega
    · cases hf
  · intro j q hl hr
    rcases key hl with hl | ⟨_,hf,_⟩
    · rw [upd_ne (hold hl).1] at hr ⊢
      exact h.fresh j q hl hr
    · cases hf
  · intro j own q hl hr
    rcases key hl with hl | ⟨rfl,rfl,rfl⟩
    · rw [upd_ne (hold hl).1] at hr ⊢
      exact h.valid j own q hl hr
    · rw [hnil.2] at hr; omega

theorem Triple.nilK {P:Program} {f:FuncId} {args args':List SV} {k:Nat} {o:SO} {H:Heap} {np:Nat} {r:SV} {post:Heap} (h:Triple P f args (H ++ [(k,false,o)]) np r post) (ho:nilO o) (hnp:np=k+1)
    (hk:allLt k (nmsH H)=true) (hargs:∀ ρ vals,relVs ρ args' vals → relVs (upd ρ k ⟨0,0,0,[]⟩) args vals):Triple P f args' H k r post where
  enter:=h.enter
  h ρ w vals hv hH:=by
    have hk:=allLt_iff.1 hk
    have hkeys:∀ j ∈ keys H,j < k:=fun j hj=>by
      obtain ⟨x,hx⟩:=look_of_keys hj
      exact hk j (look_nms hx).1
    have e:=ownB_nil (ρ:=ρ) (r:=⟨0,0,0,[]⟩) (o:=o) hkeys
    have hH1:SatH w (ownB (upd ρ k ⟨0,0,0,[]⟩) (H ++ [(k,false,o)])) (upd ρ k ⟨0,0,0,[]⟩) (H ++ [(k,false,o)]) w:=by
      rw [e]; exact satH_nil ho hk hH
    refine (h.h _ w vals (hargs ρ _ hv) hH1).mono ?_
    rintro en w' ⟨ρ',v,h1,h2,h3,h4⟩
    rw [e] at h4
    exact⟨ρ',v,fun j hj=>by rw [h1 j (by omega),upd_ne (by omega)],h2,h3,h4⟩

end Sx
end Go

namespace Go
namespace Sx

end Sx
end Go

namespace Go
namespace Sx

theorem aInt_xs (xs:List Int):(aInt xs).xs=xs:=rfl
theorem aBool_xs (xs:List Bool):(aBool xs).xs=xs:=rfl
theorem setXs_xs (A:Arr) (xs:List A.α):(A.setXs xs).xs=xs:=rfl
theorem setInt_xs (xs ys:List Int):(aInt xs).setXs ys=aInt ys:=rfl
theorem setBool_xs (xs ys:List Bool):(aBool xs).setXs ys=aBool ys:=rfl
attribute [simp] aInt_xs aBool_xs setXs_xs setInt_xs setBool_xs

def spl {α:Type} (xs:List α) (o:Nat) (ys:List α):List α:=xs.take o ++ (ys ++ xs.drop (o+ys.length))

theorem spl_length {α:Type} {xs ys:List α} {o:Nat} (h:o+ys.length≤xs.length):(spl xs o ys).length=xs.length:=by
  simp [spl]; omega

theorem spl_get {α:Type} {xs ys:List α} {o i:Nat} (h:o+ys.length≤xs.length):(spl xs o ys)[i]? = if o≤i∧i < o+ys.length then ys[i - o]? else xs[i]?:=by
  have hl:(xs.take o).length=o:=by rw [List.length_take]; omega
  unfold spl
  by_cases h1:i < o
  · rw [List.getElem?_append_left (by omega),List.getElem?_take,if_pos h1,if_neg (by omega)]
  · rw [List.getElem?_append_right (by omega),hl]
    by_cases h2:i < o+ys.length
    · rw [if_pos ⟨by omega,h2⟩,List.getElem?_append_left (by omega)]
    · rw [if_neg (by omega),List.getElem?_append_right (by omega),List.getElem?_drop]
      congr 1; omega

theorem write_arr {cx:Cx} {ρ:Asg} {s:St} {a:Act} {w:World} {k st:Nat} {A:Arr} {ys:List A.α} {vs:List Value} (hs:Sat cx ρ s a w) (hl:look s.H k=some (true, .arr A))
    (hle:st+ys.length≤A.xs.length) (hvl:vs.length=ys.length * A.sz)
    (hv:∀ (i j:Nat) (x:A.α) (c:SC),ys[i]? = some x → (A.enc x)[j]? = some c → ∃ v,vs[i * A.sz+j]? = some v∧c.rel ρ v) (h1:∀ v ∈ vs,(∀ xs,v ≠ .agg xs)∧(∀ xs,v ≠ .tuple xs)) :
    (∀ P,(storeCells (adr ρ k (st * A.sz)) vs 0).run P w=.ok () (setCells w (ρ k).blk (st * A.sz) vs)) ∧
    Sat cx ρ { s with H:=(k,true, .arr (A.setXs (spl A.xs st ys))) :: s.H } a (setCells w (ρ k).blk (st * A.sz) vs):=by
  have hso:=hs.heap.reg k true _ hl
  have hoff:=hso.off0 rfl
  have hwf:=hso.wf
  simp only [SO.wf] at hwf
  have hroom:=fun n hn=>hso.room rfl (by simp) (by simp) n hn
  simp only [SO.room] at hroom
  have hm1:(st+ys.length) * A.sz≤(ρ k).cap * A.sz:=Nat.mul_le_mul_right _ (by omega)
  rw [Nat.add_mul] at hm1
  have hadr:adr ρ k (st * A.sz)=⟨(ρ k).blk,st * A.sz,none⟩:=by simp [adr,hoff]
  refine⟨fun P=>?_, ?_⟩
  · rw [hadr]
    have:=run_storeCells (P:=P) (b:=(ρ k).blk) (n:=st * A.sz) vs 0 w (fun j hj=>by
      have:=hroom (st * A.sz+j) (by omega)
      simp only [adr,hoff,Nat.zero_add] at this
      simpa using this) h1
    simpa using this
  have hvs:(ρ k).cap * A.sz=0 → vs=[]:=fun h0=>List.length_eq_zero_iff.1 (by omega)
  have hdj:∀ j own' p,look s.H j=some (own',p) → j ≠ k → 0 < p.room (ρ j) → 0 < (ρ k).cap * A.sz → ∀ b ∈ p.fp (ρ j),b ≠ (ρ k).blk:=fun j own' p hj hjk hpr hr b hb he =>
    hs.heap.apart k j _ own' p (Ne.symm hjk) hl hj (by simpa [SO.room] using hr) hpr (ρ k).blk blk_fp (he ▸ hb)
  have hcell:∀ n,(setCells w (ρ k).blk (st * A.sz) vs).cell? (adr ρ k n)=if st * A.sz≤n∧n < st * A.sz+vs.length then vs[n - st * A.sz]? else w.cell? (adr ρ k n):=by
    intro n
    have:=setCells_cell w (ρ k).blk (st * A.sz) vs (fun j hj=>by
      have:=(hroom (st * A.sz+j) (by omega)).1
      simpa [adr,hoff] using this) n
    simpa [adr,hoff] using this
  have hnew:SatO ρ (setCells w (ρ k).blk (st * A.sz) vs) k true (.arr (A.setXs (spl A.xs st ys))):=by
    refine⟨?_, ?_, ?_,fun _=>hoff,(fun _ h=>by cases h),(fun _ h=>by cases h),hso.fixd,(fun t h hr=>setCells_typ _ _ _ (hso.typd t h hr))⟩
    · simp only [SO.wf,Arr.setXs]; rw [spl_length hle]; exact hwf
    · intro i j c hc
      rw [setXs_cell] at hc
      show ∃ v,(setCells w (ρ k).blk (st * A.sz) vs).cell? (adr ρ k (i * A.sz+j))=some v∧_
      cases hx:(spl A.xs st ys)[i]? with
      | none=>simp [hx] at hc
      | some x =>
        simp only [hx,Option.bind_some] at hc
        have hj:j < A.sz:=by have:=(List.getElem?_eq_some_iff.1 hc).1; rwa [A.hl] at this
        rw [spl_get hle] at hx
        rw [hcell]
        by_cases hin:st≤i∧i < st+ys.length
        · rw [if_pos hin] at hx
          have e1:=Nat.mul_le_mul_right A.sz hin.1
          have e2:=Nat.mul_le_mul_right A.sz (show i+1≤st+ys.length from hin.2)
          rw [Nat.add_mul,Nat.add_mul] at e2
          rw [if_pos ⟨by omega,by omega⟩]
          have e3:i * A.sz+j - st * A.sz=(i - st) * A.sz+j:=by rw [Nat.sub_mul]; omega
          rw [e3]
          exact hv (i - st) j x c hx hc
        · rw [if_neg hin] at hx
          have:¬ (st * A.sz≤i * A.sz+j∧i * A.sz+j < st * A.sz+vs.length):=by
            rintro ⟨q1,q2⟩
            refine hin ⟨?_, ?_⟩
            · refine Nat.le_of_not_lt fun hlt=>?_
              have:=Nat.mul_le_mul_right A.sz (show i+1≤st from hlt)
              rw [Nat.add_mul] at this; omega
            · refine Nat.lt_of_not_le fun hge=>?_
              have:=Nat.mul_le_mul_right A.sz hge
              rw [Nat.add_mul] at this; omega
          rw [if_neg this]
          exact hso.at_ i j c (by simp only [SO.cell?,hx]; exact hc)
    · intro _ _ _ n hn
      have hn:n < (ρ k).cap * A.sz:=by simpa [SO.room,Arr.setXs] using hn
      have:=hroom n hn
      rw [hcell]
      refine⟨?_,by rw [setCells_frozen]; exact this.2⟩
      by_cases hin:st * A.sz≤n∧n < st * A.sz+vs.length
      · rw [if_pos hin]; exact⟨vs[n - st * A.sz]'(by omega),by rw [List.getElem?_eq_getElem]⟩
      · rw [if_neg hin]; exact this.1
  have hr2:(SO.arr (A.setXs (spl A.xs st ys))).room (ρ k)=(ρ k).cap * A.sz:=rfl
  exact { size := hs.size, defers := hs.defers, env := hs.env
          heap:=hs.heap.cons (fun j own q _ _=>⟨rfl,fun _ _=>rfl⟩) (by rw [setCells_size]; exact Nat.le_refl _)
            (by
              by_cases hr:0 < (ρ k).cap * A.sz
              · exact hs.heap.frmSet hl (by simpa [SO.room] using hr) _ _
              · rw [hvs (by omega)]; exact hs.heap.frm)
            (fun b _ hb=>setCells_other _ _ _ _ hb)
            rfl (fun j own' q hj hjk hq hr=>hdj j own' q hj hjk hq (by rwa [hr2] at hr))
            (fun j own' q hj hjk hq b hb=>by
              by_cases hr:0 < (ρ k).cap * A.sz
              · exact setCells_other _ _ _ _ (hdj j own' q hj hjk hq hr b hb)
              · rw [hvs (by omega)]; rfl)
            hnew (fun _ hr=>hs.heap.fresh k _ hl (by rw [hr2] at hr; simpa [SO.room] using hr) _ blk_fp)
            (fun hr=>by rw [setCells_size]; exact hs.heap.valid k true _ hl (by rw [hr2] at hr; simpa [SO.room] using hr) _ blk_fp)
          bnd:=hs.bnd.cons (hs.bnd.heap k true _ hl).1 (fun j hj=>(hs.bnd.heap k true _ hl).2 j hj),base:=hs.base,keep:=hs.keep,n0:=hs.n0 }

def copyK (B:Tabs) (A:Arr) (zs:List A.α) (t:TypeId) (x y:SV) (H:Heap) (K:Eff → Prop):Prop :=
  match lookT B.T t,x,y with
  | some ⟨.slice el,_,_,_⟩, .c (.s k st len sz), .c (.s k' st' len' sz')=>(match lookT B.T el with
    | some ti=>bif (Nat.beq ti.size sz && Nat.beq sz sz') && (Nat.ble 1 sz && Nat.beq sz A.sz) then (match look H k,look H k' with
      | some (true, .arr A0),some (_, .arr X)=>(A0=A∧X=A.setXs zs∧st+len≤A.xs.length∧st'+len'≤zs.length) ∧
          ∃ n,min len len'=n∧K ⟨iv .i64 n,[k,k'],[(k,true, .arr (A.setXs (spl A.xs st ((zs.drop st').take n))))],[]⟩
      | _,_=>False) else False
    | none=>False)
  | _,_,_=>False

theorem copy_step {cx:Cx} {B:Tabs} (hB:TabsOK cx.P B) {o:Oper} {e:Env} {H:Heap} {nx:Nat} {K:Eff → Prop} {c:Call} {x y:Operand} {t t':TypeId} (A:Arr) (zs:List A.α)
    (hone:∀ x,allOne (A.enc x)=true) (ho:o.op=.call c) (hc:c.callee=.builtin .copy) (hca:c.args=#[x,y]) (hct:c.argTypes=#[t,t'])
    (h:copyK B A zs t (ev e x) (ev e y) H K):∃ F,CallOK cx o e H nx F∧K F:=by
  have hx:x ∈ o.op.operands.toList:=by simp [ho,Op.operands,Call.operands,hc,hca]
  have hy:y ∈ o.op.operands.toList:=by simp [ho,Op.operands,Call.operands,hc,hca]
  unfold copyK at h
  split at h
  · rename_i el s0 b0 z0 k st len sz k' st' len' sz' ht hex hey
    split at h
    · rename_i ti hti
      obtain ⟨hb,h⟩:=bif_and h
      simp only [Bool.and_eq_true] at hb
      obtain ⟨⟨hb1,hb2⟩,hb3,hb4⟩:=hb
      have hb1:=Nat.eq_of_beq_eq_true hb1
      have hb2:=Nat.eq_of_beq_eq_true hb2
      have hb3:=Nat.le_of_ble_eq_true hb3
      have hb4:=Nat.eq_of_beq_eq_true hb4
      split at h
      · rename_i A0 ow X hlk hlk'
        obtain ⟨⟨rfl,rfl,h1,h2⟩,n,hn,hK⟩:=h
        refine⟨_,⟨?_,fun j hj=>by cases hj⟩,hK⟩
        intro ρ s a w hs hr hk _ hdst KK Q hKK
        have hl1:look s.H k=some (true, .arr A0):=by rw [hk k (by simp)]; exact hlk
        have hl2:look s.H k'=some (ow, .arr (A0.setXs zs)):=by rw [hk k' (by simp)]; exact hlk'
        have hfit:∀ z,z ∈ o.op.operands.toList → (ev e z).rel ρ (a.eval z):=fun z hz=>reads_fit hz (fun t ht=>by rw [← hr t ht]; exact hs.env t)
        have hx1:=hfit x hx
        have hy1:=hfit y hy
        rw [hex] at hx1; rw [hey] at hy1
        simp only [SV.rel,SC.rel] at hx1 hy1
        obtain ⟨ad,hxv,hcap,had⟩:=hx1
        obtain ⟨ad',hyv,hcap',had'⟩:=hy1
        have hs2:=hs.heap.reg k' ow _ hl2
        have hnl:n≤len∧n≤len':=by omega
        have hys:((zs.drop st').take n).length=n:=by simp; omega
        have hflat:∀ i j x' cc,((zs.drop st').take n)[i]? = some x' → (A0.enc x')[j]? = some cc → ∃ v,(flat w ρ k' (st' * A0.sz) (n * A0.sz))[i * A0.sz+j]? = some v∧cc.rel ρ v:=by
          intro i j x' cc hxx hcc
          have hi:i < n:=by have:=(List.getElem?_eq_some_iff.1 hxx).1; omega
          have hj:j < A0.sz:=by have:=(List.getElem?_eq_some_iff.1 hcc).1; rwa [A0.hl] at this
          have hlt:i * A0.sz+j < n * A0.sz:=by
            have:=Nat.mul_le_mul_right A0.sz (show i+1≤n from hi)
            rw [Nat.add_mul] at this; omega
          rw [flat_get hlt]
          rw [List.getElem?_take,if_pos hi,List.getElem?_drop] at hxx
          obtain ⟨v,hv,hvr⟩:=hs2.at_ (st'+i) j cc (by rw [setXs_cell,hxx]; exact hcc)
          have e1:(st'+i) * (SO.arr (A0.setXs zs)).sz+j=st' * A0.sz+(i * A0.sz+j):=by
            show (st'+i) * A0.sz+j=_
            rw [Nat.add_mul]; omega
          rw [e1] at hv
          exact⟨v,by rw [hv]; rfl,hvr⟩
        have hflat1:∀ v ∈ flat w ρ k' (st' * A0.sz) (n * A0.sz),(∀ xs,v ≠ .agg xs)∧(∀ xs,v ≠ .tuple xs):=by
          intro v hv
          obtain ⟨j,hj⟩:=List.mem_iff_getElem?.1 hv
          have hlt:j < n * A0.sz:=by have:=(List.getElem?_eq_some_iff.1 hj).1; rwa [flat_length] at this
          have hsz:0 < A0.sz:=by omega
          have hi:j / A0.sz < n:=(Nat.div_lt_iff_lt_mul hsz).2 hlt
          have hjm:j % A0.sz < A0.sz:=Nat.mod_lt _ hsz
          have hxx:((zs.drop st').take n)[j / A0.sz]? = some (((zs.drop st').take n)[j / A0.sz]'(by omega)):=List.getElem?_eq_getElem _
          have hcl:j % A0.sz < (A0.enc (((zs.drop st').take n)[j / A0.sz]'(by omega))).length:=by rw [A0.hl]; exact hjm
          obtain ⟨v',hv',hvr⟩:=hflat _ _ _ _ hxx (List.getElem?_eq_getElem hcl)
          have:j / A0.sz * A0.sz+j % A0.sz=j:=by rw [Nat.mul_comm]; exact Nat.div_add_mod _ _
          rw [this,hj] at hv'
          cases hv'
          exact⟨(one_cells (allOne_mem (hone _) (List.getElem_mem hcl)) hvr).2.1,(one_cells (allOne_mem (hone _) (List.getElem_mem hcl)) hvr).2.2⟩
        obtain ⟨hst,hsat⟩:=write_arr (ys:=(zs.drop st').take n) (vs:=flat w ρ k' (st' * A0.sz) (n * A0.sz)) (st:=st) hs hl1 (by rw [hys]; omega) (by rw [flat_length,hys]) hflat hflat1
        have hrun:(execOp a.eval o).run cx.P w=.ok (.value (.int .i64 n)) (setCells w (ρ k).blk (st * A0.sz) (flat w ρ k' (st' * A0.sz) (n * A0.sz))):=by
          have hrun0:=run_builtin (P:=cx.P) ho hc a w
          rw [hca,hct] at hrun0
          rw [hrun0]
          have hmin:Nat.min len' len=n:=by rw [← hn,Nat.min_comm]
          have hsize:=run_sizeOf hB hti w
          have hfc:(Builtin.firstCells A0.sz n (.slice ad' len' ((ρ k').cap - st'))).run cx.P w=.ok (flat w ρ k' (st' * A0.sz) (n * A0.sz)).toArray w:=by
            rcases Nat.eq_zero_or_pos n with h0 | hpos
            · subst h0
              cases ad' with
              | none=>simp [Builtin.firstCells,flat]
              | some b =>
                have:=run_loadCells (P:=cx.P) (w:=w) (a:=b) (vs:=[]) (by simp)
                simpa [Builtin.firstCells,flat] using this
            · have hb:=had' (by omega)
              rw [hb]
              simp only [Builtin.firstCells]
              have:=run_loadCells (P:=cx.P) (w:=w) (a:=adr ρ k' (st' * sz')) (vs:=flat w ρ k' (st' * A0.sz) (n * A0.sz)) (fun j v hj=>by
                have hlt:j < n * A0.sz:=by have:=(List.getElem?_eq_some_iff.1 hj).1; rwa [flat_length] at this
                rw [flat_get hlt] at hj
                rw [adr_add,← hb2,hb4]
                have hsz:0 < A0.sz:=by omega
                obtain ⟨u,xx,cc,q1,q2,q3,q4⟩:=arr_cell hs2 (n:=st' * A0.sz+j) (by
                  show st' * A0.sz+j < zs.length * A0.sz
                  have:=Nat.mul_le_mul_right A0.sz (show st'+n≤zs.length by omega)
                  rw [Nat.add_mul] at this; omega)
                rw [q3] at hj ⊢
                exact hj)
              rw [flat_length] at this
              exact this
          simp only [List.map_toArray,List.map_cons,List.map_nil,builtin,Builtin.copy_,hxv,hyv]
          have hsz2:ti.size=A0.sz:=by omega
          rcases Nat.eq_zero_or_pos n with h0 | hpos
          · subst h0
            simp only [Nat.zero_mul,flat,setCells] at hfc ⊢
            cases ad with
            | none=>simp [run_underlying (und_slice hB ht),Builtin.lenOf,hmin,hsize,hsz2,hfc,goInt]
            | some b=>simp [run_underlying (und_slice hB ht),Builtin.lenOf,hmin,hsize,hsz2,hfc,goInt,storeCells]
          · rw [had (by omega)]
            have hst':=hst cx.P
            simp [run_underlying (und_slice hB ht),Builtin.lenOf,hmin,hsize,hsz2,hfc,goInt,hst',hb4]
        refine wpIn_of_value (by simp [ho]) hrun (hKK ρ _ _ ?_ (fun _ _=>rfl))
        exact hsat.putO hdst rfl (below_iv _ _ _)
      · exact h.elim
    · exact h.elim
  · exact h.elim

end Sx
end Go

namespace Go
namespace Sx

end Sx
end Go

namespace Go
namespace Sx

end Sx
end Go

namespace Go
namespace Sx

theorem und_map {P:Program} {B:Tabs} (hB:TabsOK P B) {t kt et s0 b0:Nat} {z0:List Value} (h:lookT B.T t=some ⟨.map kt et,s0,b0,z0⟩):P.underlying t=some (.map kt et):=by
  obtain ⟨i,d,z,hi,hd,hz,hk,hs,hb,hzz⟩:=tiOf_parts (hB.T.get h)
  cases d <;> simp [kdOf] at hk
  rw [hd,hk.1,hk.2]

end Sx
end Go

namespace Go
namespace Sx

end Sx
end Go

namespace Go
namespace Sx

end Sx
end Go

namespace Go
namespace Sx

end Sx
end Go

namespace Go
namespace Sx

end Sx
end Go

namespace Go
namespace Sx

end Sx
end Go

namespace Go
namespace Sx

def appRK (B:Tabs) (A:Arr) (zs R:List A.α) (t t':TypeId) (x y:SV) (H:Heap) (nx:Nat) (K:Eff → Prop):Prop :=
  match lookT B.T t,lookT B.T t',x,y with
  | some ⟨.slice el,_,_,_⟩,some ⟨.slice _,_,_,_⟩, .c (.s k 0 len sz), .c (.s k' st m sz')=>(match lookT B.T el with
    | some ti=>bif (Nat.beq ti.size sz && Nat.beq sz sz') && (Nat.ble 1 sz && (Nat.beq sz A.sz && !Nat.beq k k')) then (match look H k,look H k' with
      | some (true, .arr A0),some (_, .arr X)=>(A0=A∧X=A.setXs zs∧len≤A.xs.length∧st+m≤zs.length∧(len+m) * (ti.bytes+1)≤140737488355328∧A.xs.take len ++ (zs.drop st).take m=R) ∧
          K ⟨.c (.s nx 0 R.length sz),[k,k'],[(nx,true, .arr (A.setXs R)),(k,false, .cells [])],[nx]⟩
      | _,_=>False) else False
    | none=>False)
  | _,_,_,_=>False

theorem appK_of_R {B:Tabs} {A:Arr} {zs R:List A.α} {t t':TypeId} {x y:SV} {H:Heap} {nx:Nat} {K:Eff → Prop} (h:appRK B A zs R t t' x y H nx K):appK B A zs t t' x y H nx K:=by
  unfold appRK at h
  split at h
  · rename_i el s0 b0 z0 el' s1 b1 z1 k len sz k' st m sz' ht ht'
    split at h
    · rename_i ti hti
      obtain ⟨hb,hq⟩:=bif_and h
      clear h
      split at hq
      · rename_i A0 ow X hlk hlk'
        obtain ⟨⟨h1,h2,h3,h4,h5,rfl⟩,hK⟩:=hq
        unfold appK
        simp only [ht,ht',hti,hb,cond_true,hlk,hlk']
        refine⟨⟨h1,h2,h3,h4,h5⟩, ?_⟩
        have e:(A.xs.take len ++ (zs.drop st).take m).length=len+m:=by
          rw [List.length_append,List.length_take,List.length_take,List.length_drop]; omega
        rw [e] at hK
        exact hK
      · exact hq.elim
    · exact h.elim
  · exact h.elim

theorem appR_step {cx:Cx} {B:Tabs} (hB:TabsOK cx.P B) {o:Oper} {e:Env} {H:Heap} {nx:Nat} {K:Eff → Prop} {c:Call} {x y:Operand} {t t':TypeId} (A:Arr) (zs R:List A.α)
    (hone:∀ x,allOne (A.enc x)=true) (ho:o.op=.call c) (hc:c.callee=.builtin .append) (hca:c.args=#[x,y]) (hct:c.argTypes=#[t,t'])
    (h:appRK B A zs R t t' (ev e x) (ev e y) H nx K) (hfx:A.fx=none:=by rfl) (hty:∀ el s b z t',lookT B.T t=some ⟨.slice el,s,b,z⟩ → A.ty=some t' → el=t':=by intro _ _ _ _ _ _ h; cases h):∃ F,CallOK cx o e H nx F∧K F:=app_step hB A zs hone ho hc hca hct (appK_of_R h) hfx hty

end Sx
end Go

namespace Go
namespace Sx

end Sx
end Go

namespace Go
namespace Sx

def isI64:Option TypeDesc → Bool
  | some (.int .i64)=>true
  | _=>false

def intFs (P:Program):List Field → Nat → Bool
  | [],_=>true
  | f :: r, j => (f.name != "_") && (f.offset == j && (isI64 (P.underlying f.type) && intFs P r (j + 1)))

theorem isI64_eq {o:Option TypeDesc} (h:isI64 o=true):o=some (.int .i64):=by
  unfold isI64 at h
  split at h
  · rfl
  · cases h

theorem run_part_int {P:Program} {t:TypeId} {cs:Array Value} {off:Nat} {v:Value} (w:World) (ht:P.underlying t=some (.int .i64)) (hc:cs[off]? = some v):(part t cs off).run P w=.ok v w:=by
  simp [part,isAgg,run_underlying ht,hc]

theorem run_eqFields {P:Program} (d:Nat) (xs ys:List Int) (w:World):∀ (fs:List Field) (j:Nat),intFs P fs j=true → xs.length=j+fs.length → ys.length=j+fs.length → xs.take j=ys.take j →
    (Op.eqFields (d+1) (xs.map (Value.int .i64)).toArray (ys.map (Value.int .i64)).toArray fs).run P w=.ok (xs == ys) w
  | [],j,_,hx,hy,ht=>by
    have hx:xs.length=j:=by simpa using hx
    have hy:ys.length=j:=by simpa using hy
    have e:xs=ys:=by
      rw [← List.take_of_length_le (Nat.le_of_eq hx),ht,List.take_of_length_le (Nat.le_of_eq hy)]
    simp [Op.eqFields,e]
  | f :: r,j,h,hx,hy,ht=>by
    simp only [intFs,Bool.and_eq_true] at h
    obtain ⟨h1,h2,h3,h4⟩:=h
    have h1 : f.name ≠ "_" := by simpa using h1
    have h2:f.offset=j:=by simpa using h2
    have h3:=isI64_eq h3
    simp only [List.length_cons] at hx hy
    have hjx:j < xs.length:=by omega
    have hjy:j < ys.length:=by omega
    simp only [Op.eqFields,if_pos h1,Sem.run_bind,h2]
    rw [run_part_int (v:=.int .i64 xs[j]) w h3 (by simp [hjx])]
    simp only [Result.andThen_ok]
    rw [run_part_int (v:=.int .i64 ys[j]) w h3 (by simp [hjy])]
    simp only [Result.andThen_ok]
    rw [run_equalIn_int w d f.type .i64 .i64 _ _ h3]
    simp only [Result.andThen_ok]
    by_cases he:xs[j]=ys[j]
    · have hb:(xs[j] == ys[j])=true:=by simpa using he
      simp only [hb,Bool.not_true,Bool.false_eq_true,if_false]
      refine run_eqFields d xs ys w r (j+1) h4 (by omega) (by omega) ?_
      rw [List.take_add_one,List.take_add_one,ht,List.getElem?_eq_getElem hjx,List.getElem?_eq_getElem hjy,he]
    · have hb:(xs[j] == ys[j])=false:=by simpa using he
      simp only [hb,Bool.not_false,if_true,Sem.run_pure]
      have:(xs == ys)=false:=by
        rw [beq_eq_false_iff_ne]
        rintro rfl; exact he rfl
      rw [this]

theorem eqOK_nil {P:Program}:EqOK P []:=by intro t n h; cases h

theorem eqOK_cons {P:Program} {t n:Nat} {L:List (Nat × Nat)} (hT:P.underlying t=some (.struct (P.fieldsOf t))) (hp:P.stoodInHeld t=false) (hm:P.eqGuardType P.depth t=false)
    (hf:intFs P (P.fieldsOf t).toList 0=true) (hn:(P.fieldsOf t).toList.length=n) (hL:EqOK P L):EqOK P ((t,n) :: L):=by
  intro t' n' h xs ys hx hy w x y
  rcases List.mem_cons.1 h with h | h
  · cases h
    refine⟨run_eqGuard_agg w .eql t x y _ _ hm,run_eqGuard_agg w .neq t x y _ _ hm, ?_⟩
    show (Op.equalIn (9999+1) t _ _).run P w=_
    unfold aggI
    rw [run_equalIn_agg w 9999 t _ _ hT hp]
    exact run_eqFields 9998 xs ys w _ 0 hf (by omega) (by omega) rfl
  · exact hL t' n' h xs ys hx hy w x y

end Sx
end Go

namespace Go
namespace Sx

theorem run_part_cell {P:Program} {e:TypeId} {d:TypeDesc} {k:Kd} {cs:Array Value} {off:Nat} {v:Value} (w:World) (he:P.underlying e=some d) (hk:kdOf d=k) (hv:sameK k v=true) (hc:cs[off]? = some v):(part e cs off).run P w=.ok v w:=by
  have ha:(isAgg e).run P w=.ok false w:=by
    cases d <;> simp [kdOf] at hk <;> subst hk <;> cases v <;> simp [sameK] at hv <;> simp [isAgg,run_underlying he]
  simp [part,ha,hc]

theorem run_equalIn_cellV {P:Program} {e:TypeId} {d:TypeDesc} {k:Kd} (w:World) (n:Nat) {a b:Value} (he:P.underlying e=some d) (hk:kdOf d=k) (ha:sameK k a=true) (hb:sameK k b=true) :
    (Op.equalIn (n+1) e a b).run P w=.ok (beqV a b) w:=by
  cases d <;> simp [kdOf] at hk <;> subst hk <;> cases a <;> simp [sameK] at ha <;> cases b <;> simp [sameK] at hb
  · exact run_equalIn_bool' w n e _ _ he
  · rename_i q _ _ _ _
    have:=ikEq_eq ha
    subst this
    have:=ikEq_eq hb
    subst this
    exact run_equalIn_int w n e q q _ _ he
  · exact run_equalIn_string w n e _ _ he

theorem allK_at {k:Kd}:∀ {l:List Value} {i:Nat} {v:Value},allK k l=true → l[i]? = some v → sameK k v=true
  | [],_,_,_,h=>by simp at h
  | a :: l,0,v,h,hv=>by
    simp only [allK] at h
    simp at hv; subst hv
    cases hs:sameK k a with
    | true=>rfl
    | false=>simp [hs] at h
  | a :: l,i+1,v,h,hv=>by
    simp only [allK] at h
    cases hs:sameK k a with
    | true=>simp [hs] at h; exact allK_at h (by simpa using hv)
    | false=>simp [hs] at h

theorem run_eqItemsV {P:Program} {e:TypeId} {d:TypeDesc} {k:Kd} (n:Nat) (xs ys:List Value) (w:World) (he:P.underlying e=some d) (hk:kdOf d=k) (hx:allK k xs=true) (hy:allK k ys=true) (hl:xs.length=ys.length) :
    ∀ (m j:Nat),j+m=xs.length → (Op.eqItems (n+1) e 1 xs.toArray ys.toArray (List.range' j m)).run P w=.ok (beqVs (xs.drop j) (ys.drop j)) w
  | 0,j,h=>by
    have hj:xs.length≤j:=by omega
    rw [List.drop_eq_nil_of_le hj,List.drop_eq_nil_of_le (by omega)]
    simp [Op.eqItems,beqVs]
  | m+1,j,h=>by
    have hjx:j < xs.length:=by omega
    have hjy:j < ys.length:=by omega
    have kx:=allK_at hx (List.getElem?_eq_getElem hjx)
    have ky:=allK_at hy (List.getElem?_eq_getElem hjy)
    rw [List.range'_succ]
    simp only [Op.eqItems,Sem.run_bind,Nat.mul_one]
    rw [run_part_cell (v:=xs[j]) w he hk kx (by simp [hjx])]
    simp only [Result.andThen_ok]
    rw [run_part_cell (v:=ys[j]) w he hk ky (by simp [hjy])]
    simp only [Result.andThen_ok]
    rw [run_equalIn_cellV w n he hk kx ky]
    simp only [Result.andThen_ok]
    rw [List.drop_eq_getElem_cons hjx,List.drop_eq_getElem_cons hjy]
    simp only [beqVs]
    cases hb:beqV xs[j] ys[j] with
    | false=>simp
    | true =>
      simp only [Bool.not_true,Bool.false_eq_true,if_false,Bool.true_and]
      exact run_eqItemsV n xs ys w he hk hx hy hl m (j+1) (by omega)

theorem eqVOK_arr {P:Program} {t e n:Nat} {d:TypeDesc} {k:Kd} {L:List (Nat × Nat × Kd)} (hT:P.underlying t=some (.array n e)) (he:P.underlying e=some d) (hk:kdOf d=k) {i:TypeInfo} (hi:P.info? e=some i) (hc:P.cellsOf e=1)
    (hm:P.eqGuardType P.depth t=false) (hL:EqVOK P L):EqVOK P ((t,n,k) :: L):=by
  intro t' n' k' h xs ys hx hy kx ky w x y
  rcases List.mem_cons.1 h with h | h
  · cases h
    refine⟨run_eqGuard_agg w .eql t x y _ _ hm,run_eqGuard_agg w .neq t x y _ _ hm, ?_⟩
    show (Op.equalIn (9999+1) t _ _).run P w=_
    rw [run_equalIn_array w 9999 _ _ hT hi,hc,List.range_eq_range']
    have:=run_eqItemsV (P:=P) 9998 xs ys w he hk kx ky (by omega) n 0 (by omega)
    simpa using this
  · exact hL t' n' k' h xs ys hx hy kx ky w x y

end Sx
end Go

namespace Go
namespace Sx

def S (l:List UInt8):ByteArray:=⟨l.toArray⟩

theorem S_data (l:List UInt8):(S l).data.toList=l:=rfl
theorem S_size (l:List UInt8):(S l).size=l.length:=rfl
theorem S_toList (l:List UInt8):(S l).toList=l:=by rw [ByteArray.toList_eq]; rfl
theorem S_inj {a b:List UInt8}:S a=S b ↔ a=b:=⟨fun h=>by rw [← S_data a,h]; rfl,fun h=>by rw [h]⟩
theorem bytes_ext {a b:ByteArray} (h:a.data.toList=b.data.toList):a=b:=by
  cases a with
  | mk a=>cases b with
    | mk b=>simp only at h; rw [Array.toList_inj.1 h]
theorem S_append (a b:List UInt8):S a ++ S b=S (a ++ b):=by
  apply bytes_ext
  rw [ByteArray.data_append]; simp [S]
theorem S_extract (l:List UInt8) (i j:Nat):(S l).extract i j=S ((l.take j).drop i):=by
  apply bytes_ext
  rw [ByteArray.data_extract]; simp [S,List.extract_eq_take_drop,List.drop_take]
theorem S_get {l:List UInt8} {i:Nat} (h:i < l.length):(S l)[i]? = some l[i]:=by
  have h2:i < (S l).size:=h
  rw [getElem?_pos (S l) i h2]; rfl

abbrev strC (l:List UInt8):SC:=.v (.string (S l))
abbrev strV (l:List UInt8):SV:=.c (strC l)

def aU8 (fx:Option Nat) (l:List UInt8):Arr:=⟨UInt8,1,fun x=>[.v (.int .u8 x.toNat)],[],fun _=>rfl,(by intro x c hc k hk; simp at hc; subst hc; cases hk),l,fx,none⟩

theorem pure_step {cx:Cx} {o:Oper} {e:Env} {H:Heap} {nx:Nat} {K:Eff → Prop} {sv:SV} {rd:List Nat} (hd:∀ c,o.op ≠ .defer c) (hp:PureOK cx.P o e H sv rd) (hK:K ⟨sv,rd,[],[]⟩) :
    ∃ f,CallOK cx o e H nx f∧K f:=⟨_,⟨hp.loc hd,fun k hk=>by cases hk⟩,hK⟩

section
variable {cx:Cx} {B:Tabs} {o:Oper} {e:Env} {H:Heap} {nx:Nat} {K:Eff → Prop}

theorem lit_of {ρ:Asg} {a:Act} {x:Operand} {v:Value} (hx:x ∈ o.op.operands.toList) (hex:ev e x=.c (.v v)) (hr:∀ t,Reads o t → (e.get t).rel ρ (a.tmps.getD t undef)):a.eval x=v:=by
  have:=reads_fit hx hr
  rw [hex] at this; exact this

theorem cat_step {t yt:TypeId} {x y:Operand} {l l':List UInt8} (ho:o.op=.binOp .add t x y yt) (hx:ev e x=strV l) (hy:ev e y=strV l')
    (hs:l.length+l'.length≤9223372036854775807) (hK:K ⟨strV (l ++ l'),[],[],[]⟩):∃ f,CallOK cx o e H nx f∧K f:=by
  refine pure_step (by simp [ho]) (pureLit (fun n=>below_lit n _) fun ρ a w hr=>⟨_, ?_,rfl⟩) hK
  have h1:=lit_of (x:=x) (by simp [ho,Op.operands]) hx hr
  have h2:=lit_of (x:=y) (by simp [ho,Op.operands]) hy hr
  simp only [execOp,ho,h1,h2,Sem.run_bind]
  have:(binOp .add t (.string (S l)) (.string (S l'))).run cx.P w=.ok (.string (S (l ++ l'))) w:=by
    rw [binOp_string_add,run_string_add_sum w _ _ (by rw [S_size,S_size]; exact hs),S_append]
  simp [eqGuard,this]

theorem seq_step {t yt:TypeId} {x y:Operand} {l l':List UInt8} (ho:o.op=.binOp .eql t x y yt) (hx:ev e x=strV l) (hy:ev e y=strV l')
    (hK:K ⟨bv (decide (l=l')),[],[],[]⟩):∃ f,CallOK cx o e H nx f∧K f:=by
  refine pure_step (by simp [ho]) (pureLit (fun n=>below_bv n _) fun ρ a w hr=>⟨_, ?_,rfl⟩) hK
  have h1:=lit_of (x:=x) (by simp [ho,Op.operands]) hx hr
  have h2:=lit_of (x:=y) (by simp [ho,Op.operands]) hy hr
  have e1:(l == l')=decide (l=l'):=by by_cases h:l=l' <;> simp [h]
  simp only [execOp,ho,h1,h2,Sem.run_bind]
  simp [eqGuard,binOp_string_eql,S_toList,e1]

theorem sne_step {t yt:TypeId} {x y:Operand} {l l':List UInt8} (ho:o.op=.binOp .neq t x y yt) (hx:ev e x=strV l) (hy:ev e y=strV l')
    (hK:K ⟨bv (!decide (l=l')),[],[],[]⟩):∃ f,CallOK cx o e H nx f∧K f:=by
  refine pure_step (by simp [ho]) (pureLit (fun n=>below_bv n _) fun ρ a w hr=>⟨_, ?_,rfl⟩) hK
  have h1:=lit_of (x:=x) (by simp [ho,Op.operands]) hx hr
  have h2:=lit_of (x:=y) (by simp [ho,Op.operands]) hy hr
  have e1:(l == l')=decide (l=l'):=by by_cases h:l=l' <;> simp [h]
  simp only [execOp,ho,h1,h2,Sem.run_bind]
  simp [eqGuard,binOp_string_neq,S_toList,e1]

theorem strT_und {P:Program} (hB:TabsOK P B) {t:TypeId} {s b:Nat} {z:List Value} (h:lookT B.T t=some ⟨.string,s,b,z⟩) (w:World):(underlying t).run P w=.ok .string w:=by
  obtain ⟨d,hd,hk⟩:=run_und_kd hB.T h w
  have:d=.string:=by cases d <;> simp [kdOf] at hk; rfl
  rw [hd,this]

theorem sidx_step (hB:TabsOK cx.P B) {t:TypeId} {x y:Operand} {l:List UInt8} {k:IntKind} {i:Int} {s0 b0:Nat} {z0:List Value} (ho:o.op=.index t x y) (ht:lookT B.T t=some ⟨.string,s0,b0,z0⟩)
    (hx:ev e x=strV l) (hy:ev e y=iv k i) (j:Nat) (hj:i=(j:Int)) (hlt:j < l.length) (hK:K ⟨iv .u8 ((l[j]'hlt).toNat:Nat),[],[],[]⟩):∃ f,CallOK cx o e H nx f∧K f:=by
  refine pure_step (by simp [ho]) (pureLit (fun n=>below_iv n _ _) fun ρ a w hr=>⟨_, ?_,rfl⟩) hK
  have h1:=lit_of (x:=x) (by simp [ho,Op.operands]) hx hr
  have h2:=lit_of (x:=y) (by simp [ho,Op.operands]) hy hr
  have hu:=strT_und hB ht w
  subst hj
  have h3:=S_get hlt
  simp [execOp,ho,h1,h2,Instr.index,asIntOf,hu,h3]

theorem ssub_step (hB:TabsOK cx.P B) {t:TypeId} {x:Operand} {lo hi:Option Operand} {l:List UInt8} {s0 b0:Nat} {z0:List Value} (ho:o.op=.slice t x lo hi none) (ht:lookT B.T t=some ⟨.string,s0,b0,z0⟩)
    (hx:ev e x=strV l) (h:bndK e hi l.length fun j=>j≤l.length∧bndK e lo 0 fun i=>i≤j∧K ⟨strV ((l.take j).drop i),[],[],[]⟩):∃ f,CallOK cx o e H nx f∧K f:=by
  have hlo:∀ y,lo=some y → y ∈ o.op.operands.toList:=fun y hy=>by simp [ho,Op.operands,hy]
  have hhi:∀ y,hi=some y → y ∈ o.op.operands.toList:=fun y hy=>by simp [ho,Op.operands,hy]
  obtain ⟨j,⟨hj,h⟩,jd,jy⟩:=bnd_ok (P:=cx.P) (lim:=0) hhi h
  obtain ⟨i,⟨hi',hK⟩,id,iy⟩:=bnd_ok (P:=cx.P) (lim:=0) hlo h
  refine pure_step (by simp [ho]) (pureLit (fun n=>below_lit n _) fun ρ a w hr=>⟨_, ?_,rfl⟩) hK
  have h1:=lit_of (x:=x) (by simp [ho,Op.operands]) hx hr
  have hu:=strT_und hB ht w
  have hsz:(S l).size=l.length:=rfl
  have hjj:((j:Int)≤(l.length:Int)):=by omega
  have hii:((i:Int)≤(j:Int)):=by omega
  have hb:(Instr.sliceBounds false (S l).size (S l).size (lo.map a.eval) (hi.map a.eval) none).run cx.P w=.ok (i,j,(S l).size) w:=by
    cases lo with
    | none =>
      have:=id rfl; subst this
      cases hi with
      | none=>have:=jd rfl; subst this; simp [Instr.sliceBounds,hsz]
      | some y=>obtain ⟨k,hk⟩:=jy y rfl ρ a hr; simp [Instr.sliceBounds,Instr.sliceBound,hk,asIntOf,hsz,hj]
    | some u =>
      obtain ⟨k',hk'⟩:=iy u rfl ρ a hr
      cases hi with
      | none=>have:=jd rfl; subst this; simp [Instr.sliceBounds,Instr.sliceBound,hk',asIntOf,hsz,hi']
      | some y=>obtain ⟨k,hk⟩:=jy y rfl ρ a hr; simp [Instr.sliceBounds,Instr.sliceBound,hk,hk',asIntOf,hsz,hj,hi']
  simp [execOp,ho,h1,Instr.sliceAt,hu,Instr.slice,hb,S_extract]

end

end Sx
end Go

