/-
  A part of the proof that a law answers true: lemmas of a symbolic walk, plain functions, or contracts of the functions walked (Sx10, Sx11, Sx12, Sx13). Conditions: none.
-/
import Derived.Test.YtfcdjkeamldkaaaGreatPart02
set_option maxRecDepth 100000
set_option linter.unusedVariables false
set_option linter.unusedSimpArgs false
namespace Go
namespace Sx

def SC.one:SC → Bool
  | .v (.agg _)=>false
  | .v (.tuple _)=>false
  | .junk=>false
  | _=>true

theorem one_cells {ρ:Asg} {c:SC} {v:Value} (h:c.one=true) (hr:c.rel ρ v):v.cells=#[v]∧(∀ xs,v ≠ .agg xs)∧(∀ xs,v ≠ .tuple xs):=by
  cases c with
  | v x=>simp only [SC.rel] at hr; subst hr; cases v <;> simp_all [SC.one,Value.cells]
  | b x=>simp only [SC.rel] at hr; subst hr; simp [Value.cells]
  | p k i sz off=>simp only [SC.rel] at hr; subst hr; simp [Value.cells]
  | s k st len sz=>obtain ⟨a,rfl,_⟩:=hr; simp [Value.cells]
  | f g caps=>simp only [SC.rel] at hr; subst hr; simp [Value.cells]
  | m k=>simp only [SC.rel] at hr; subst hr; simp [Value.cells]
  | cut k hh sz=>obtain ⟨a,rfl,_⟩:=hr; simp [Value.cells]
  | ghost k i=>obtain ⟨_,_,_,rfl,_⟩:=hr; simp [Value.cells]
  | gp k i=>obtain ⟨_,_,_,rfl,_⟩:=hr; simp [Value.cells]
  | any=>obtain ⟨t,rfl⟩:=hr; simp [Value.cells]
  | junk=>simp [SC.one] at h

def allOne:List SC → Bool
  | []=>true
  | c :: l=>bif c.one then allOne l else false

def cellsOf:SV → Option (List SC)
  | .c x=>bif x.one then some [x] else none
  | .agg l=>bif allOne l then some l else none
  | .tup _=>none
  | .pk _ _=>none

theorem relL_one {ρ:Asg}:∀ {l:List SC} {vs:List Value},allOne l=true → relL ρ l vs → ∀ v ∈ vs,(∀ xs,v ≠ .agg xs)∧(∀ xs,v ≠ .tuple xs)
  | [],[],_,_=>by simp
  | [],_ :: _,_,h=>h.elim
  | _ :: _,[],_,h=>h.elim
  | c :: l,v :: vs,ho,h=>by
    simp only [allOne] at ho
    cases hc:c.one with
    | false=>simp [hc] at ho
    | true =>
      simp [hc] at ho
      intro u hu
      rcases List.mem_cons.1 hu with rfl | hu
      · exact (one_cells hc h.1).2
      · exact relL_one ho h.2 u hu

theorem cellsOf_rel {ρ:Asg} {s:SV} {v:Value} {l:List SC} (h:cellsOf s=some l) (hr:s.rel ρ v) :
    relL ρ l v.cells.toList∧∀ u ∈ v.cells.toList,(∀ xs,u ≠ .agg xs)∧(∀ xs,u ≠ .tuple xs):=by
  cases s with
  | c x =>
    simp only [cellsOf] at h
    cases ho:x.one with
    | false=>simp [ho] at h
    | true =>
      simp [ho] at h
      subst h
      have:=one_cells ho hr
      rw [this.1]
      exact⟨⟨hr,trivial⟩,by simp; exact this.2⟩
  | agg l' =>
    simp only [cellsOf] at h
    cases ho:allOne l' with
    | false=>simp [ho] at h
    | true =>
      simp [ho] at h
      subst h
      obtain ⟨xs,rfl,hx⟩:=hr
      exact⟨hx,relL_one ho hx⟩
  | tup l=>simp [cellsOf] at h
  | pk _ l=>simp [cellsOf] at h

theorem cellsOf_uses {s:SV} {l:List SC} (h:cellsOf s=some l) {c:SC} (hc:c ∈ l) {k:Nat} (hk:k ∈ c.nms):s.uses [k]=true:=by
  cases s with
  | c x =>
    simp only [cellsOf] at h
    cases ho:x.one with
    | false=>simp [ho] at h
    | true =>
      simp [ho] at h; subst h
      simp at hc; subst hc
      exact SC.uses_iff.2 ⟨k,hk,by simp⟩
  | agg l' =>
    simp only [cellsOf] at h
    cases ho:allOne l' with
    | false=>simp [ho] at h
    | true =>
      simp [ho] at h; subst h
      exact usesL_iff.2 ⟨c,hc,SC.uses_iff.2 ⟨k,hk,by simp⟩⟩
  | tup l=>simp [cellsOf] at h
  | pk _ l=>simp [cellsOf] at h

def splice (cells:List SC) (o:Nat) (l:List SC):List SC:=cells.take o ++ (l ++ cells.drop (o+l.length))

theorem fold_set (vs:List Value):∀ (n:Nat) (cs:Array Value) (off:Nat),off+n+vs.length≤cs.size →
    ((vs.zipIdx n).foldl (fun cs (p:Value × Nat)=>cs.setIfInBounds (off+p.2) p.1) cs).toList=cs.toList.take (off+n) ++ (vs ++ cs.toList.drop (off+n+vs.length)):=by
  induction vs with
  | nil=>intro n cs off h; simp
  | cons v vs ih =>
    intro n cs off h
    simp only [List.zipIdx_cons,List.foldl_cons]
    rw [ih (n+1) (cs.setIfInBounds (off+n) v) off (by simp at h ⊢; omega)]
    simp only [Array.toList_setIfInBounds,List.length_cons]
    have hlt:off+n < cs.toList.length:=by simp at h ⊢; omega
    have e1:(cs.toList.set (off+n) v).take (off+(n+1))=cs.toList.take (off+n) ++ [v]:=by
      rw [List.set_eq_take_append_cons_drop,if_pos hlt]
      rw [List.take_append,List.take_of_length_le (by simp; omega)]
      have:off+(n+1) - (List.take (off+n) cs.toList).length=1:=by rw [List.length_take,Nat.min_eq_left (Nat.le_of_lt hlt)]; omega
      rw [this]; simp
    have e2:(cs.toList.set (off+n) v).drop (off+(n+1)+vs.length)=cs.toList.drop (off+n+(vs.length+1)):=by
      rw [List.drop_set,if_pos (by omega)]
      congr 1; omega
    rw [e1,e2]
    simp

def fillS (B:Tabs) (fs:List (Nat × TypeId)):List SC → List (Nat × SV) → Option (List SC)
  | cells,[]=>some cells
  | cells,(i,v) :: rest=>match fs[i]?,cellsOf v with
    | some (fo,ft),some l=>(match lookT B.T ft with
      | some ti=>bif Nat.beq l.length ti.size && Nat.ble (fo+l.length) cells.length then fillS B fs (splice cells fo l) rest else none
      | none=>none)
    | _,_=>none

def evParts (e:Env):List (Nat × Operand) → List (Nat × SV)
  | []=>[]
  | (i,x) :: r=>(i,ev e x) :: evParts e r

def arrFs (el sz:Nat):Nat → Nat → List (Nat × TypeId)
  | 0,_=>[]
  | n+1,off=>(off,el) :: arrFs el sz n (off+sz)

theorem arrFs_get {el sz:Nat}:∀ {n off i fo ft:Nat},(arrFs el sz n off)[i]? = some (fo,ft) → fo=off+i * sz∧ft=el
  | 0,_,_,_,_,h=>by simp [arrFs] at h
  | n+1,off,0,fo,ft,h=>by simp [arrFs] at h; exact⟨by omega,h.2.symm⟩
  | n+1,off,i+1,fo,ft,h=>by
    have:=arrFs_get (n:=n) (off:=off+sz) (i:=i) (by simpa [arrFs] using h)
    exact⟨by rw [this.1,Nat.add_mul]; omega,this.2⟩

def buildK (B:Tabs) (e:Env) (t:TypeId) (parts:List (Nat × Operand)) (K:PK):Prop :=
  match lookT B.T t with
  | some ⟨.array n el,_,_,z⟩=>(match lookT B.T el with
    | some ti=>(match fillS B (arrFs el ti.size n 0) (z.map cC) (evParts e parts) with
      | some l=>K (.agg l) []
      | none=>False)
    | none=>False)
  | some ⟨.struct fs,_,_,z⟩=>(match fillS B fs (z.map cC) (evParts e parts) with
    | some l=>K (.agg l) []
    | none=>False)
  | _=>False

theorem relL_splice {ρ:Asg} {cells l:List SC} {cs vs:List Value} {o:Nat} (h:relL ρ cells cs) (hl:relL ρ l vs) :
    relL ρ (splice cells o l) (cs.take o ++ (vs ++ cs.drop (o+vs.length))):=by
  unfold splice
  rw [relL_length hl]
  exact relL_append (relL_take o h) (relL_append hl (relL_drop _ h))

theorem fill_ok {ρ:Asg} {B:Tabs} {e:Env} {a:Act} {fs:List (Nat × TypeId)} {place:Nat → Option (Nat × Nat)}
    (hplace:∀ i fo ft ti,fs[i]? = some (fo,ft) → lookT B.T ft=some ti → place i=some (fo,ti.size)) :
    ∀ (parts:List (Nat × Operand)) (cells:List SC) (cs:Array Value) (l:List SC),relL ρ cells cs.toList → (∀ p ∈ parts,(ev e p.2).rel ρ (a.eval p.2)) →
      fillS B fs cells (evParts e parts)=some l → ∃ out,Instr.fill place cs (parts.map fun p=>(p.1,a.eval p.2))=some out∧relL ρ l out.toList
  | [],cells,cs,l,hc,_,h=>by simp [evParts,fillS] at h; subst h; exact⟨cs,by simp [Instr.fill],hc⟩
  | (i,x) :: parts,cells,cs,l,hc,hp,h=>by
    simp only [evParts,fillS] at h
    split at h
    · rename_i fo ft lx hfs hlx
      split at h
      · rename_i ti hti
        cases hb:Nat.beq lx.length ti.size && Nat.ble (fo+lx.length) cells.length with
        | false=>simp [hb] at h
        | true =>
          simp only [hb,cond_true] at h
          simp only [Bool.and_eq_true] at hb
          have hlen:lx.length=ti.size:=Nat.eq_of_beq_eq_true hb.1
          have hle:fo+lx.length≤cells.length:=Nat.le_of_ble_eq_true hb.2
          have hx:=(cellsOf_rel hlx (hp (i,x) (List.mem_cons_self ..))).1
          have hl1:=relL_length hx
          have hl2:=relL_length hc
          have hsz:(a.eval x).cells.size=ti.size:=by simp at hl1; omega
          have hfit:fo+(a.eval x).cells.size≤cs.size:=by simp at hl1 hl2; omega
          have hf:=fold_set (a.eval x).cells.toList 0 cs fo (by simpa using hfit)
          have hrel:relL ρ (splice cells fo lx) (((a.eval x).cells.toList.zipIdx 0).foldl (fun cs (p:Value × Nat)=>cs.setIfInBounds (fo+p.2) p.1) cs).toList:=by
            rw [hf]; simpa using relL_splice (o:=fo) hc hx
          obtain ⟨out,ho,hr⟩:=fill_ok hplace parts (splice cells fo lx) _ l hrel (fun p hpm=>hp p (List.mem_cons_of_mem _ hpm)) h
          refine⟨out, ?_,hr⟩
          simp only [List.map_cons,Instr.fill,hplace i fo ft ti hfs hti]
          rw [if_neg (by simp [hsz]; omega)]
          rw [← ho]
          congr 1
          rw [← Array.foldl_toList,Array.toList_zipIdx]
      · cases h
    · cases h

theorem run_mapM {P:Program} {w:World} {α β:Type} (f:α → Sem β) (g:α → β):∀ (l:List α),(∀ x ∈ l,(f x).run P w=.ok (g x) w) → (l.mapM f).run P w=.ok (l.map g) w
  | [],_=>by simp
  | x :: l,h=>by
    have ih:=run_mapM f g l (fun y hy=>h y (List.mem_cons_of_mem _ hy))
    simp [List.mapM_cons,h x (List.mem_cons_self ..),ih]

theorem fieldsIn_get {B:Tabs}:∀ {l:List (Nat × TypeId)},fieldsIn B l=true → ∀ p ∈ l,∃ ti,lookT B.T p.2=some ti
  | [],_,p,hp=>by cases hp
  | (o,t) :: r,h,p,hp=>by
    simp only [fieldsIn] at h
    split at h
    · rename_i ti hti
      rcases List.mem_cons.1 hp with rfl | hp
      · exact⟨ti,hti⟩
      · exact fieldsIn_get h p hp
    · cases h

theorem allFields_get {B:Tabs}:∀ {T:List (Nat × TI)} {t:Nat} {fs:List (Nat × TypeId)} {s b:Nat} {z:List Value},allFields B T=true →
    lookT T t=some ⟨.struct fs,s,b,z⟩ → fieldsIn B fs=true
  | [],_,_,_,_,_,_,h=>by simp [lookT] at h
  | (j,o) :: r,t,fs,s,b,z,ha,h=>by
    simp only [lookT] at h
    cases hb:Nat.beq t j with
    | true =>
      simp [hb] at h
      subst h
      simp only [allFields] at ha
      cases hf:fieldsIn B fs with
      | true=>rfl
      | false=>simp [hf] at ha
    | false =>
      simp [hb] at h
      refine allFields_get (T:=r) ?_ h
      unfold allFields at ha
      split at ha
      · rename_i he; cases he
      · rename_i he
        simp only [List.cons.injEq,Prod.mk.injEq] at he
        rw [he.2]
        simp at ha
        exact ha.2
      · rename_i he
        simp only [List.cons.injEq,Prod.mk.injEq] at he
        rw [he.2]; exact ha

theorem fillS_uses {B:Tabs} {fs:List (Nat × TypeId)} {k:Nat}:∀ (ps:List (Nat × SV)) (cells l:List SC),fillS B fs cells ps=some l → (∃ c ∈ l,k ∈ c.nms) →
    (∃ c ∈ cells,k ∈ c.nms) ∨ ∃ p ∈ ps,p.2.uses [k]=true
  | [],cells,l,h,hu=>by simp [fillS] at h; subst h; exact .inl hu
  | (i,v) :: ps,cells,l,h,hu=>by
    simp only [fillS] at h
    split at h
    · rename_i fo ft lx hfs hlx
      split at h
      · rename_i ti hti
        cases hb:Nat.beq lx.length ti.size && Nat.ble (fo+lx.length) cells.length with
        | false=>simp [hb] at h
        | true =>
          simp only [hb,cond_true] at h
          rcases fillS_uses ps _ l h hu with ⟨c,hc,hk⟩ | ⟨p,hp,hk⟩
          · simp only [splice,List.mem_append] at hc
            rcases hc with hc | hc | hc
            · exact .inl ⟨c,List.mem_of_mem_take hc,hk⟩
            · exact .inr ⟨(i,v),List.mem_cons_self ..,cellsOf_uses hlx hc hk⟩
            · exact .inl ⟨c,List.mem_of_mem_drop hc,hk⟩
          · exact .inr ⟨p,List.mem_cons_of_mem _ hp,hk⟩
      · cases h
    · cases h

theorem mem_evParts {e:Env} {p:Nat × SV}:∀ {l:List (Nat × Operand)},p ∈ evParts e l → ∃ q ∈ l,p=(q.1,ev e q.2)
  | [],h=>by cases h
  | (i,x) :: r,h=>by
    rcases List.mem_cons.1 h with rfl | h
    · exact⟨(i,x),List.mem_cons_self ..,rfl⟩
    · obtain ⟨q,hq,hp⟩:=mem_evParts h
      exact⟨q,List.mem_cons_of_mem _ hq,hp⟩

theorem cC_nms_map {z:List Value} {c:SC} (h:c ∈ z.map cC):c.nms=[]:=by
  obtain ⟨v,_,rfl⟩:=List.mem_map.1 h
  exact SV.below_cC v

theorem build_ok {P:Program} {B:Tabs} (hB:TabsOK P B) {o:Oper} {e:Env} {H:Heap} {t:TypeId} {parts:Array (Nat × Operand)} {K:PK} (ho:o.op=.build t parts)
    (h:buildK B e t parts.toList K):∃ sv rd,K sv rd∧PureOK P o e H sv rd:=by
  have hmem:∀ p ∈ parts.toList,p.2 ∈ o.op.operands.toList:=fun p hp=>by
    simp [ho,Op.operands]; exact⟨p.1,by simpa using hp⟩
  unfold buildK at h
  split at h
  · rename_i n el s0 b0 z ht
    split at h
    · rename_i ti hti
      split at h
      · rename_i l hl
        refine⟨_,_,h, ?_, ?_⟩
        · intro n hn _ k hk
          obtain ⟨c,hc,hu⟩:=usesL_iff.1 hk
          obtain ⟨j,hj,hm⟩:=SC.uses_iff.1 hu
          simp at hm; subst hm
          rcases fillS_uses _ _ _ hl ⟨c,hc,hj⟩ with ⟨c',hc',hk'⟩ | ⟨p,hp,hk'⟩
          · rw [cC_nms_map hc'] at hk'; cases hk'
          · obtain ⟨q,hq,rfl⟩:=mem_evParts hp
            exact reads_below (hmem q hq) hn _ hk'
        · intro ρ a w hr _
          obtain ⟨ds,hds,hks⟩:=run_und_kd hB.T ht w
          have hks:=kd_array hks
          subst hks
          obtain ⟨zv,hz,hzz⟩:=run_zero w (hB.T.get ht)
          have hszr:=run_sizeOf hB hti w
          have hf:=fill_ok (ρ:=ρ) (B:=B) (e:=e) (a:=a) (fs:=arrFs el ti.size n 0) (place:=fun i=>some (i * ti.size,ti.size))
            (fun i fo ft ti' h1 h2=>by
              obtain ⟨rfl,rfl⟩:=arrFs_get h1
              rw [hti] at h2
              cases h2
              simp) parts.toList (z.map cC) zv.cells l (by rw [hzz]; exact relL_map_cC ρ z) (fun p hp=>reads_fit (hmem p hp) hr) hl
          obtain ⟨out,hout,hrel⟩:=hf
          refine⟨.agg out, ?_,_,rfl,hrel⟩
          simp only [execOp,ho,Instr.build,Sem.run_bind,hz,Result.andThen_ok,hds,hszr]
          have h2:(Array.map (fun x=>(x.fst,a.eval x.snd)) parts).toList=parts.toList.map fun p=>(p.1,a.eval p.2):=by simp
          simp only [h2,hout,Sem.run_pure,Result.andThen_ok]
      · exact h.elim
    · exact h.elim
  · rename_i fs s0 b0 z ht
    split at h
    · rename_i l hl
      refine⟨_,_,h, ?_, ?_⟩
      · intro n hn _ k hk
        obtain ⟨c,hc,hu⟩:=usesL_iff.1 hk
        obtain ⟨j,hj,hm⟩:=SC.uses_iff.1 hu
        simp at hm; subst hm
        rcases fillS_uses _ _ _ hl ⟨c,hc,hj⟩ with ⟨c',hc',hk'⟩ | ⟨p,hp,hk'⟩
        · rw [cC_nms_map hc'] at hk'; cases hk'
        · obtain ⟨q,hq,rfl⟩:=mem_evParts hp
          exact reads_below (hmem q hq) hn _ hk'
      · intro ρ a w hr _
        obtain ⟨ds,hds,hks⟩:=run_und_kd hB.T ht w
        obtain ⟨fields,rfl,hfs⟩:=kd_struct hks
        obtain ⟨zv,hz,hzz⟩:=run_zero w (hB.T.get ht)
        have hin:=fieldsIn_get (allFields_get hB.F ht)
        have hplaces:(fields.mapM (fun (f:Field)=>(do pure (f.offset,← sizeOf f.type):Sem (Nat × Nat)))).run P w=.ok (fields.map fun (f:Field)=>(f.offset,(((lookT B.T f.type).map (·.size)).getD 0))) w:=by
          rw [Array.mapM_eq_mapM_toList]
          have:=run_mapM (P:=P) (w:=w) (fun f:Field=>(do pure (f.offset,← sizeOf f.type):Sem (Nat × Nat))) (fun (f:Field)=>(f.offset,(((lookT B.T f.type).map (·.size)).getD 0))) fields.toList (fun f hf=>by
            obtain ⟨ti,hti⟩:=hin (f.offset,f.type) (by rw [← hfs]; exact List.mem_map.2 ⟨f,hf,rfl⟩)
            simp [run_sizeOf hB hti w,hti])
          simp only [Sem.run_map,this,Result.andThen_ok]
          congr 1
          rw [← Array.toList_inj]; simp
        have hf:=fill_ok (ρ:=ρ) (B:=B) (e:=e) (a:=a) (fs:=fs)
          (place:=fun i=>(fields.map fun (f:Field)=>(f.offset,(((lookT B.T f.type).map (·.size)).getD 0)))[i]?)
          (fun i fo ft ti h1 h2=>by
            obtain ⟨fld,hfld,rfl,rfl⟩:=fields_get hfs h1
            simp [hfld,h2]) parts.toList (z.map cC) zv.cells l (by rw [hzz]; exact relL_map_cC ρ z) (fun p hp=>reads_fit (hmem p hp) hr) hl
        obtain ⟨out,hout,hrel⟩:=hf
        refine⟨.agg out, ?_,_,rfl,hrel⟩
        simp only [execOp,ho,Instr.build,Sem.run_bind,hz,Result.andThen_ok,hds,hplaces]
        have h2:(Array.map (fun x=>(x.fst,a.eval x.snd)) parts).toList=parts.toList.map fun p=>(p.1,a.eval p.2):=by simp
        simp only [h2,hout,Sem.run_pure,Result.andThen_ok]
    · exact h.elim
  · exact h.elim

def pureOp (B:Tabs) (o:Oper) (e:Env) (H:Heap) (K:PK):Prop :=
  match o.op with
  | .move x=>K (ev e x) []
  | .assign x=>K (ev e x) []
  | .pick c x y=>pickK e c x y K
  | .nilCheck x=>nilK e x K
  | .extract x i=>extK e x i K
  | .binOp op t x y _=>binK B op t (ev e x) (ev e y) K
  | .unOp op _ x=>unK op (ev e x) K
  | .convert s d x=>convK B s d (ev e x) K
  | .fieldAddr s x f=>faK B s (ev e x) f K
  | .field s x f=>fieldK B s (ev e x) f K
  | .indexAddr t x ix=>iaK B t (ev e x) (ev e ix) K
  | .load t x=>loadK B t (ev e x) H K
  | .makeFunc fn first cap=>mfK e fn first.toList cap.toList K
  | .build t parts=>buildK B e t parts.toList K
  | .slice t x lo hi none=>slK B e t (ev e x) lo hi K
  | .call c=>(match c.callee with
    | .builtin b=>biK B e b c.args.toList c.argTypes.toList K
    | _=>False)
  | _=>False

theorem pure_ok {P:Program} {B:Tabs} (hB:TabsOK P B) {o:Oper} {e:Env} {H:Heap} {K:PK} (h:pureOp B o e H K):∃ sv rd,K sv rd∧PureOK P o e H sv rd:=by
  unfold pureOp at h
  split at h
  · rename_i ho; exact⟨_,_,h,move_ok (.inl ho)⟩
  · rename_i ho; exact⟨_,_,h,move_ok (.inr ho)⟩
  · rename_i ho; exact pick_ok ho h
  · rename_i ho; exact nil_ok ho h
  · rename_i ho; exact ext_ok ho h
  · rename_i ho; exact bin_ok hB ho h
  · rename_i ho; exact un_ok ho h
  · rename_i ho; exact conv_ok hB ho h
  · rename_i ho; exact fa_ok hB ho h
  · rename_i ho; exact field_ok hB ho h
  · rename_i ho; exact ia_ok hB ho h
  · rename_i ho; exact load_ok hB ho h
  · rename_i ho; exact mf_ok ho h
  · rename_i ho; exact build_ok hB ho h
  · rename_i ho; exact sl_ok hB ho h
  · rename_i c ho
    split at h
    · rename_i b hc; exact bi_ok hB ho hc h
    · exact h.elim
  · exact h.elim

end Sx
end Go

namespace Go
namespace Sx

theorem Bnd.get {e:Env} {H:Heap} {n:Nat} (h:Bnd e H n) (i:Nat):(e.get i).below n:=h.env i

theorem Bnd.put {e:Env} {H:Heap} {n d:Nat} {v:SV} (h:Bnd e H n) (hv:v.below n):Bnd (.put d v e) H n where
  env i k hk:=by
    rw [get_put] at hk
    by_cases hi:i=d
    · rw [if_pos hi] at hk; exact hv k hk
    · rw [if_neg hi] at hk; exact h.env i k hk
  mks:=h.mks
  heap:=h.heap

theorem Bnd.more {e:Env} {H:Heap} {n m:Nat} (h:Bnd e H n) (hm:n≤m):Bnd e H m where
  env i k hk:=Nat.lt_of_lt_of_le (h.env i k hk) hm
  mks k hk:=Nat.lt_of_lt_of_le (h.mks k hk) hm
  heap k own o hl:=⟨Nat.lt_of_lt_of_le (h.heap k own o hl).1 hm,fun k' hk=>Nat.lt_of_lt_of_le ((h.heap k own o hl).2 k' hk) hm⟩

theorem Bnd.cons {e:Env} {H:Heap} {n k:Nat} {own:Bool} {o:SO} (h:Bnd e H n) (hk:k < n) (ho:o.below n):Bnd e ((k,own,o) :: H) n where
  env:=h.env
  mks:=h.mks
  heap j own' o' hl:=by
    rw [look_cons] at hl
    by_cases hj:j=k
    · subst hj; simp at hl; obtain ⟨rfl,rfl⟩:=hl; exact⟨hk,ho⟩
    · rw [if_neg hj] at hl; exact h.heap j own' o' hl

theorem marks_agree {ρ ρ':Asg} {l:List Nat} (h:∀ k ∈ l,ρ' k=ρ k):l.map (mkD ρ')=l.map (mkD ρ):=by
  apply List.map_congr_left
  intro k hk
  simp only [mkD,h k hk]

theorem marks_agree' {ρ ρ':Asg} {l:List Nat} {df:List Deferred} (h:∀ k ∈ l,ρ' k=ρ k):l.map (mkD ρ') ++ df=l.map (mkD ρ) ++ df:=by rw [marks_agree h]

theorem getD_put {a:Act} {d i:Nat} {v:Value} (hd:d < a.tmps.size):(a.put (some d) v).tmps.getD i undef=if i=d then v else a.tmps.getD i undef:=by
  simp only [Act.put]
  by_cases h:i=d
  · subst h
    simp [Array.getD,hd]
  · have:¬ (d=i):=fun x=>h x.symm
    simp [Array.getD_eq_getD_getElem?,Array.getElem?_setIfInBounds,h,this]

theorem put_size (a:Act) (d:Option Nat) (v:Value):(a.put d v).tmps.size=a.tmps.size:=by
  cases d <;> simp [Act.put]
theorem put_defers (a:Act) (d:Option Nat) (v:Value):(a.put d v).defers=a.defers:=by
  cases d <;> simp [Act.put]

section
variable {cx:Cx} {ρ:Asg} {s:St} {a:Act} {w:World}

theorem Sat.put (h:Sat cx ρ s a w) {d:Nat} {sv:SV} {v:Value} (hd:d < cx.nt∧inMd cx.md d=true) (hr:sv.rel ρ v) (hb:sv.below s.nx) :
    Sat cx ρ { s with e:=.put d sv s.e } (a.put (some d) v) w where
  size:=by rw [put_size]; exact h.size
  defers:=by rw [put_defers]; exact h.defers
  env i:=by
    rw [get_put,getD_put (by rw [h.size]; exact hd.1)]
    by_cases hi:i=d
    · rw [if_pos hi,if_pos hi]; exact hr
    · rw [if_neg hi,if_neg hi]; exact h.env i
  heap:=h.heap
  bnd:=h.bnd.put hb
  base:=h.base
  keep i hi:=by
    rw [getD_put (by rw [h.size]; exact hd.1),if_neg (by rintro rfl; rw [hd.2] at hi; cases hi)]
    exact h.keep i hi
  n0:=h.n0

theorem Sat.put0 (h:Sat cx ρ s a w) (v:Value):Sat cx ρ s (a.put none v) w:=by
  simpa [Act.put] using h

theorem fresh_of_bnd {e:Env} {H:Heap} {n:Nat} (h:Bnd e H n):∀ j own o',look H j=some (own,o') → j ≠ n∧o'.uses [n]=false:=fun j own o' hl=>by
  have:=h.heap j own o' hl
  refine⟨by omega, ?_⟩
  cases hu:o'.uses [n] with
  | false=>rfl
  | true=>have:=this.2 n hu; omega

theorem SV.rel_upd {ρ:Asg} {sv:SV} {v:Value} {k:Nat} {r:Rg} (hr:sv.rel ρ v) (hb:sv.below k):sv.rel (upd ρ k r) v :=
  SV.rel_agree (fun j hj=>upd_ne (Nat.ne_of_lt (hb j hj))) hr

theorem Sat.new (h:Sat cx ρ s a w) {cap:Nat} {o:SO} {ob:Obj} (hbo:o.below s.nx)
    (hnew:SatO (upd ρ s.nx ⟨w.heap.size,0,cap,[]⟩) (push w ob) s.nx true o) (hnb:o.nb=true:=by rfl) :
    Sat cx (upd ρ s.nx ⟨w.heap.size,0,cap,[]⟩) { s with H:=(s.nx,true,o) :: s.H,nx:=s.nx+1 } a (push w ob) where
  size:=h.size
  defers:=by rw [h.defers]; exact (marks_agree' fun k hk=>upd_ne (Nat.ne_of_lt (h.bnd.mks k hk))).symm
  env i:=SV.rel_upd (h.env i) (h.bnd.get i)
  heap:=h.heap.new (fresh_of_bnd h.bnd) hnew hnb
  bnd:=(h.bnd.more (Nat.le_succ _)).cons (Nat.lt_succ_self _) (fun k hk=>Nat.lt_succ_of_lt (hbo k hk))
  base k hk:=by rw [upd_ne (by have:=h.n0; omega)]; exact h.base k hk
  keep:=h.keep
  n0:=Nat.le_succ_of_le h.n0

end

theorem satO_new_cells {ρ:Asg} {w:World} {k cap:Nat} {l:List SC} {c:Array Value} {t:TypeId} (hr:relL (upd ρ k ⟨w.heap.size,0,cap,[]⟩) l c.toList) :
    SatO (upd ρ k ⟨w.heap.size,0,cap,[]⟩) (push w (.cells c t (0,0))) k true (.cells l) where
  wf:=trivial
  at_ i j x hx:=by
    cases i with
    | succ i=>simp [SO.cell?] at hx
    | zero =>
      simp only [SO.cell?] at hx
      obtain ⟨v,hv,hrel⟩:=relL_get hr hx
      refine⟨v, ?_,hrel⟩
      simp only [adr,upd_eq,SO.sz,World.cell?,push_new]
      simpa using hv
  room _ _ _ n hn:=by
    simp only [SO.room] at hn
    have hlen:=relL_length hr
    simp only [adr,upd_eq,World.cell?,World.frozen?,push_new]
    have hlt:n < c.size:=by simpa [hlen] using hn
    exact⟨⟨c[n],by simp [hlt]⟩,by simp⟩
  off0 _:=by rw [upd_eq]
  keys l h:=by cases h
  boxed l h:=by cases h
  fixd n h:=by cases h
  typd n h:=by cases h

def aInt (xs:List Int):Arr:=⟨Int,1,fun x=>[.v (.int .i64 x)],[],fun _=>rfl,(by intro x c hc k hk; simp at hc; subst hc; cases hk),xs,none,none⟩
def aBool (xs:List Bool):Arr:=⟨Bool,1,fun x=>[.v (.bool x)],[],fun _=>rfl,(by intro x c hc k hk; simp at hc; subst hc; cases hk),xs,none,none⟩

theorem satO_new_arr {ρ:Asg} {w:World} {k cap:Nat} {A:Arr} {c:Array Value} {t:TypeId} (hle:A.xs.length≤cap) (hsz:c.size=cap * A.sz)
    (hr:∀ (i:Nat) (x:A.α),A.xs[i]? = some x → ∀ (j:Nat) (d:SC),(A.enc x)[j]? = some d → ∃ v,c[i * A.sz+j]? = some v∧d.rel (upd ρ k ⟨w.heap.size,0,cap,[]⟩) v) (hfx:∀ n,A.fx=some n → cap=n:=by intro _ h; cases h) (hty:∀ t',A.ty=some t' → t=t':=by intro _ h; cases h) :
    SatO (upd ρ k ⟨w.heap.size,0,cap,[]⟩) (push w (.cells c t (0,0))) k true (.arr A) where
  wf:=by simp only [SO.wf,upd_eq]; exact hle
  at_ i j d hd:=by
    simp only [SO.cell?] at hd
    cases hx:A.xs[i]? with
    | none=>simp [hx] at hd
    | some x =>
      simp only [hx] at hd
      obtain ⟨v,hv,hrel⟩:=hr i x hx j d hd
      refine⟨v, ?_,hrel⟩
      simp only [adr,upd_eq,SO.sz,World.cell?,push_new]
      simpa using hv
  room _ _ _ n hn:=by
    simp only [SO.room,upd_eq] at hn
    simp only [adr,upd_eq,World.cell?,World.frozen?,push_new]
    exact⟨⟨c[n]'(by omega),by simp⟩,by simp⟩
  off0 _:=by rw [upd_eq]
  keys l h:=by cases h
  boxed l h:=by cases h
  fixd n h:=by rw [upd_eq]; exact hfx n h
  typd t' h _:=by rw [upd_eq]; exact⟨c,(0,0),by rw [push_new]; rw [hty t' h]⟩

end Sx
end Go

namespace Go
namespace Sx

def fen (rd:Option Nat):Fence:={ Fence.wide with round:=rd }

theorem wpIn_of_value {rd:Option Nat} {P:Program} {o:Oper} {a:Act} {w w':World} {v:Value} {KK:Act → World → Prop} {Q:Exit → Act → World → Prop}
    (hd:∀ c,o.op ≠ .defer c) (hr:(execOp a.eval o).run P w=.ok (.value v) w') (h:KK (a.put o.dst v) w'):o.wpIn (fen rd) 0 P a w KK Q:=by
  refine⟨fun _ _=>trivial, ?_⟩
  rw [Oper.semAt_eq _ _ _ hd,hr]
  exact h

theorem wpIn_of_skip {rd:Option Nat} {P:Program} {o:Oper} {a:Act} {w w':World} {KK:Act → World → Prop} {Q:Exit → Act → World → Prop}
    (hd:∀ c,o.op ≠ .defer c) (hr:(execOp a.eval o).run P w=.ok .skip w') (h:KK (a.put o.dst undef) w'):o.wpIn (fen rd) 0 P a w KK Q:=by
  refine⟨fun _ _=>trivial, ?_⟩
  rw [Oper.semAt_eq _ _ _ hd,hr]
  exact h

structure Eff where
  sv:SV
  rd:List Nat
  wr:Heap
  news:List Nat

def newsOK (nx:Nat) (f:Eff):Prop:=∀ k ∈ f.news,nx≤k∧k < nx+f.news.length

structure Fresh (k:Nat) (s:St):Prop where
  env:∀ i,(s.e.get i).uses [k]=false
  mks:k ∉ s.e.marks
  heap:∀ j own o,look s.H j=some (own,o) → j ≠ k∧o.uses [k]=false

def putO (d:Option Nat) (sv:SV) (e:Env):Env:=match d with
  | some d=>.put d sv e
  | none=>e

def LocalOK (cx:Cx) (o:Oper) (e:Env) (H:Heap) (f:Eff):Prop :=
  ∀ (ρ:Asg) (s:St) (a:Act) (w:World),Sat cx ρ s a w → (∀ t,Reads o t → s.e.get t=e.get t) → (∀ k ∈ f.rd,look s.H k=look H k) →
    (∀ k ∈ f.news,Fresh k s∧k < s.nx∧cx.n0≤k) → (∀ d,o.dst=some d → d < cx.nt∧inMd cx.md d=true) →
    ∀ (KK:Act → World → Prop) (Q:Exit → Act → World → Prop),
      (∀ ρ' a' w',Sat cx ρ' { s with e:=putO o.dst f.sv s.e,H:=f.wr ++ s.H } a' w' → (∀ k,k ∉ f.news → ρ' k=ρ k) → KK a' w') →
      o.wpIn (fen cx.rd) 0 cx.P a w KK Q

theorem Sat.putO {cx:Cx} {ρ:Asg} {s:St} {a:Act} {w:World} (h:Sat cx ρ s a w) {d:Option Nat} {sv:SV} {v:Value} (hd:∀ x,d=some x → x < cx.nt∧inMd cx.md x=true) (hr:sv.rel ρ v) (hb:sv.below s.nx) :
    Sat cx ρ { s with e:=Sx.putO d sv s.e } (a.put d v) w:=by
  cases d with
  | none=>exact h.put0 v
  | some d=>exact h.put (hd d rfl) hr hb

theorem pure_notDefer {B:Tabs} {o:Oper} {e:Env} {H:Heap} {K:PK} (h:pureOp B o e H K):∀ c,o.op ≠ .defer c:=by
  intro c hc; rw [pureOp,hc] at h; exact h

theorem PureOK.loc {cx:Cx} {o:Oper} {e:Env} {H:Heap} {sv:SV} {rd:List Nat} (h:PureOK cx.P o e H sv rd) (hd:∀ c,o.op ≠ .defer c):LocalOK cx o e H ⟨sv,rd,[],[]⟩:=by
  intro ρ s a w hs hr hk _ hdst KK Q hK
  obtain ⟨v,hrun,hrel⟩:=h.run ρ a w (fun t ht=>by rw [← hr t ht]; exact hs.env t) (fun k hkr own q hl=>hs.heap.reg k own q (by rw [hk k hkr]; exact hl))
  refine wpIn_of_value hd hrun (hK ρ _ w ?_ (fun _ _=>rfl))
  refine hs.putO hdst hrel (h.below s.nx (fun t ht=>by rw [← hr t ht]; exact hs.bnd.get t) fun k hkr own q hl=>?_)
  exact hs.bnd.heap k own q (by rw [hk k hkr]; exact hl)

theorem SV.rel_upd' {ρ:Asg} {sv:SV} {v:Value} {k:Nat} {r:Rg} (hr:sv.rel ρ v) (hb:sv.uses [k]=false):sv.rel (upd ρ k r) v :=
  SV.rel_agree (fun j hj=>upd_ne (by rintro rfl; rw [hb] at hj; cases hj)) hr

theorem Sat.newAt {cx:Cx} {ρ:Asg} {s:St} {a:Act} {w:World} (h:Sat cx ρ s a w) {k cap:Nat} {o:SO} {ob:Obj} (hf:Fresh k s) (hk:k < s.nx) (hn:cx.n0≤k) (hbo:o.below s.nx)
    (hnew:SatO (upd ρ k ⟨w.heap.size,0,cap,[]⟩) (push w ob) k true o) (hnb:o.nb=true:=by rfl) :
    Sat cx (upd ρ k ⟨w.heap.size,0,cap,[]⟩) { s with H:=(k,true,o) :: s.H } a (push w ob) where
  size:=h.size
  defers:=by rw [h.defers]; exact (marks_agree' fun j hj=>upd_ne (by rintro rfl; exact hf.mks hj)).symm
  env i:=SV.rel_upd' (h.env i) (hf.env i)
  heap:=h.heap.new hf.heap hnew hnb
  bnd:=h.bnd.cons hk hbo
  base j hj:=by rw [upd_ne (by omega)]; exact h.base j hj
  keep:=h.keep
  n0:=h.n0

theorem loc_new {cx:Cx} {o:Oper} {e:Env} {H:Heap} {k:Nat} {so:SO} {sv:SV} (hd:∀ c,o.op ≠ .defer c)
    (hbs:sv.below (k+1))
    (hbo:∀ n,(∀ t,Reads o t → (e.get t).below n) → so.below n)
    (h:∀ (ρ:Asg) (a:Act) (w:World),(∀ t,Reads o t → (e.get t).rel ρ (a.tmps.getD t undef)) → (∀ t,Reads o t → (e.get t).uses [k]=false) →
      ∃ v ob cap,(execOp a.eval o).run cx.P w=.ok (.value v) (push w ob)∧sv.rel (upd ρ k ⟨w.heap.size,0,cap,[]⟩) v∧SatO (upd ρ k ⟨w.heap.size,0,cap,[]⟩) (push w ob) k true so) (hnb:so.nb=true:=by rfl) :
    LocalOK cx o e H ⟨sv,[],[(k,true,so)],[k]⟩:=by
  intro ρ s a w hs hr _ hnew hdst KK Q hK
  obtain ⟨hf,hlt,hn0⟩:=hnew k (by simp)
  obtain ⟨v,ob,cap,hrun,hrel,hso⟩:=h ρ a w (fun t ht=>by rw [← hr t ht]; exact hs.env t) (fun t ht=>by rw [← hr t ht]; exact hf.env t)
  refine wpIn_of_value hd hrun (hK (upd ρ k ⟨w.heap.size,0,cap,[]⟩) _ _ ?_ (fun j hj=>upd_ne (by simpa using hj)))
  have h1:=hs.newAt hf hlt hn0 (hbo s.nx fun t ht=>by rw [← hr t ht]; exact hs.bnd.get t) hso hnb
  exact h1.putO hdst hrel (fun j hj=>Nat.lt_of_lt_of_le (hbs j hj) hlt)

def allocK (B:Tabs) (t:TypeId) (nx:Nat) (K:Eff → Prop):Prop :=
  match lookT B.T t with
  | some ti=>K ⟨.c (.p nx 0 0 0),[],[(nx,true, .cells (ti.zero.map cC))],[nx]⟩
  | none=>False

theorem below_p {k i sz off:Nat}:(SV.c (.p k i sz off)).below (k+1):=by rw [SV.below_c]; intro j hj; simp [SC.nms] at hj; omega
theorem below_s {k st len sz:Nat}:(SV.c (.s k st len sz)).below (k+1):=by rw [SV.below_c]; intro j hj; simp [SC.nms] at hj; omega

theorem alloc_ok {cx:Cx} {B:Tabs} (hB:TabsOK cx.P B) {o:Oper} {e:Env} {H:Heap} {t nx:Nat} {K:Eff → Prop} (ho:o.op=.alloc t) (h:allocK B t nx K) :
    ∃ f,K f∧LocalOK cx o e H f∧newsOK nx f:=by
  unfold allocK at h
  split at h
  · rename_i ti ht
    refine⟨_,h,loc_new (by simp [ho]) below_p ?_ ?_,by intro k hk; simp at hk; subst hk; simp⟩
    · intro n _ j hj
      obtain ⟨c,hc,hu⟩:=usesL_iff.1 hj
      obtain ⟨i,hi,_⟩:=SC.uses_iff.1 hu
      rw [cC_nms_map hc] at hi; cases hi
    · intro ρ a w _ _
      obtain ⟨z,hz,hzz⟩:=run_zero w (hB.T.get ht)
      refine⟨.pointer (some (adr (upd ρ nx ⟨w.heap.size,0,0,[]⟩) nx 0)), .cells z.cells t (0,0),0, ?_, ?_, ?_⟩
      · simp [execOp,ho,Instr.alloc,hz,newVar,newRow,newObj,Sem.run,adr,upd_eq,push]
      · simp [SV.rel,SC.rel]
      · exact satO_new_cells (by rw [hzz]; exact relL_map_cC _ _)
  · exact h.elim

def boxK (x:SV) (nx:Nat) (K:Eff → Prop):Prop :=
  match cellsOf x with
  | some l=>K ⟨.c (.p nx 0 0 0),[],[(nx,true, .cells l)],[nx]⟩
  | none=>False

theorem box_ok {cx:Cx} {o:Oper} {e:Env} {H:Heap} {t nx:Nat} {x:Operand} {K:Eff → Prop} (ho:o.op=.box t x) (h:boxK (ev e x) nx K) :
    ∃ f,K f∧LocalOK cx o e H f∧newsOK nx f:=by
  have hx:x ∈ o.op.operands.toList:=by simp [ho,Op.operands]
  unfold boxK at h
  split at h
  · rename_i l hl
    refine⟨_,h,loc_new (by simp [ho]) below_p ?_ ?_,by intro k hk; simp at hk; subst hk; simp⟩
    · intro n hn j hj
      obtain ⟨c,hc,hu⟩:=usesL_iff.1 hj
      obtain ⟨i,hi,hm⟩:=SC.uses_iff.1 hu
      simp at hm; subst hm
      exact reads_below hx hn _ (cellsOf_uses hl hc hi)
    · intro ρ a w hr hf
      have hr':(ev e x).rel (upd ρ nx ⟨w.heap.size,0,0,[]⟩) (a.eval x):=by
        refine SV.rel_upd' (reads_fit hx hr) ?_
        cases x with
        | tmp t=>exact hf t hx
        | const v=>exact evC_uses v _
        | global g=>simp [ev,SV.uses,SC.uses,SC.nms,anyMem]
        | func g=>simp [ev,SV.uses,SC.uses,SC.nms,anyMem]
      have hc:=(cellsOf_rel hl hr').1
      refine⟨.pointer (some (adr (upd ρ nx ⟨w.heap.size,0,0,[]⟩) nx 0)), .cells (a.eval x).cells t (0,0),0, ?_, ?_,satO_new_cells hc⟩
      · simp [execOp,ho,Instr.box,newVar,newRow,newObj,Sem.run,adr,upd_eq,push]
      · simp [SV.rel,SC.rel]
  · exact h.elim

end Sx
end Go

namespace Go
namespace Sx

theorem run_store1 {P:Program} {w:World} {a:Addr} {v y:Value} (hc:w.cell? a=some y) (hf:w.frozen? a=false) (h1:∀ xs,v ≠ .agg xs) (h2:∀ xs,v ≠ .tuple xs) :
    (store a v).run P w=.ok () (w.setCell a v):=by
  cases v <;> simp_all [store,Sem.run]

theorem run_storeCells {P:Program} {b n:Nat}:∀ (vs:List Value) (i:Nat) (w:World),(∀ j,j < vs.length → (∃ y,w.cell? ⟨b,n+i+j,none⟩=some y)∧w.frozen? ⟨b,n+i+j,none⟩=false) →
    (∀ v ∈ vs,(∀ xs,v ≠ .agg xs)∧(∀ xs,v ≠ .tuple xs)) → (storeCells ⟨b,n,none⟩ vs i).run P w=.ok () (setCells w b (n+i) vs)
  | [],i,w,_,_=>by simp [storeCells,setCells]
  | v :: vs,i,w,h,ho=>by
    obtain ⟨⟨y,hy⟩,hf⟩:=h 0 (by simp)
    simp only [Nat.add_zero] at hy hf
    have ha:(⟨b,n,none⟩:Addr).add i=⟨b,n+i,none⟩:=by
      simp only [Addr.add]; by_cases hi:i=0 <;> simp [hi]
    have h0:=ho v (List.mem_cons_self ..)
    have ih:=run_storeCells (P:=P) (b:=b) (n:=n) vs (i+1) (w.setCell ⟨b,n+i,none⟩ v) (fun j hj=>by
      obtain ⟨⟨z,hz⟩,hg⟩:=h (j+1) (by simpa using hj)
      rw [show n+(i+1)+j=n+i+(j+1) from by omega]
      rw [frozen?_setCell,cell?_setCell hy]
      refine⟨?_,hg⟩
      rw [if_neg (by simp)]
      exact⟨z,hz⟩) (fun u hu=>ho u (List.mem_cons_of_mem _ hu))
    simp only [storeCells,ha,Sem.run_bind,run_store1 hy hf h0.1 h0.2,Result.andThen_ok,setCells]
    rw [ih]; rfl

def Arr.setXs (A:Arr) (xs:List A.α):Arr:={ A with xs:=xs }

def nrm:SC → SC
  | .b t=>.v (.bool t)
  | c=>c

def nrmL:List SC → List SC
  | []=>[]
  | c :: l=>nrm c :: nrmL l

theorem nrm_rel {ρ:Asg} {c:SC} {v:Value} (h:c.rel ρ v):(nrm c).rel ρ v:=by cases c <;> exact h

theorem nrmL_rel {ρ:Asg}:∀ {l:List SC} {vs:List Value},relL ρ l vs → relL ρ (nrmL l) vs
  | [],[],h=>h
  | [],_ :: _,h=>h.elim
  | _ :: _,[],h=>h.elim
  | c :: l,v :: vs,h=>⟨nrm_rel h.1,nrmL_rel h.2⟩

theorem nrmL_length:∀ {l:List SC},(nrmL l).length=l.length
  | []=>rfl
  | c :: l=>by simp [nrmL,nrmL_length]

def storeK (B:Tabs) (t:TypeId) (x y:SV) (H:Heap) (K:Eff → Prop):Prop :=
  match x,cellsOf y,lookT B.T t with
  | .c (.p k i sz off),some new,some ti=>bif Nat.beq new.length ti.size && Nat.ble 1 ti.size then (match look H k with
    | some (true, .cel ty l)=>(match i with
      | 0=>bif Nat.ble (off+new.length) l.length then K ⟨.c .junk,[k],[(k,true, .cel ty (splice l off new))],[]⟩ else False
      | _+1=>False)
    | some (true, .arr A)=>bif Nat.beq sz A.sz && Nat.ble (off+new.length) sz then
        ∃ (hi:i < A.xs.length) (x':A.α),A.enc x'=splice (A.enc (A.xs[i]'hi)) off (nrmL new)∧K ⟨.c .junk,[k],[(k,true, .arr (A.setXs (A.xs.set i x')))],[]⟩
      else False
    | _=>False) else False
  | _,_,_=>False

theorem splice_get {l new:List SC} {off j:Nat} {c:SC} (hle:off+new.length≤l.length) (h:(splice l off new)[j]? = some c) :
    (off≤j∧j < off+new.length∧new[j - off]? = some c) ∨ (¬ (off≤j∧j < off+new.length)∧l[j]? = some c):=by
  unfold splice at h
  have hl:(l.take off).length=off:=by rw [List.length_take,Nat.min_eq_left (by omega)]
  by_cases h1:j < off
  · rw [List.getElem?_append_left (by omega),List.getElem?_take,if_pos h1] at h
    exact .inr ⟨by omega,h⟩
  · rw [List.getElem?_append_right (by omega),hl] at h
    by_cases h2:j - off < new.length
    · rw [List.getElem?_append_left h2] at h
      exact .inl ⟨by omega,by omega,h⟩
    · rw [List.getElem?_append_right (by omega),List.getElem?_drop] at h
      refine .inr ⟨by omega, ?_⟩
      rw [show off+new.length+(j - off - new.length)=j from by omega] at h
      exact h

theorem splice_length {l new:List SC} {off:Nat} (hle:off+new.length≤l.length):(splice l off new).length=l.length:=by
  simp [splice]; omega

theorem mem_splice {l new:List SC} {off:Nat} {c:SC} (h:c ∈ splice l off new):c ∈ l ∨ c ∈ new:=by
  simp only [splice,List.mem_append] at h
  rcases h with h | h | h
  · exact .inl (List.mem_of_mem_take h)
  · exact .inr h
  · exact .inl (List.mem_of_mem_drop h)

theorem store_key {cx:Cx} {B:Tabs} (hB:TabsOK cx.P B) {o:Oper} {e:Env} {H:Heap} {t:TypeId} {x y:Operand} {k i sz off:Nat} {ti:TI} {new:List SC} (ho:o.op=.store t x y)
    (he:ev e x=.c (.p k i sz off)) (ht:lookT B.T t=some ti) (hlen:new.length=ti.size) (hpos:1≤ti.size)
    (hnew:∀ ρ v,(ev e y).rel ρ v → relL ρ new v.cells.toList∧∀ u ∈ v.cells.toList,(∀ xs,u ≠ .agg xs)∧(∀ xs,u ≠ .tuple xs))
    (so so':SO) (new':List SC) (hn':∀ ρ vs,relL ρ new vs → relL ρ new' vs) (hl:look H k=some (true,so)) (hnm:∀ l,so ≠ .raw l) (hnb:so.nb=true)
    (hfit:∀ (ρ:Asg),so.wf (ρ k) → i * so.sz+off+new.length≤so.room (ρ k)) (hroom:∀ r,so'.room r=so.room r) (hsz:so'.sz=so.sz) (hfx':so'.fx=so.fx) (hty':so'.ty=so.ty) (hszi:so.sz=sz ∨ i=0)
    (hwf:∀ r,so.wf r → so'.wf r) (hnm':∀ l,so' ≠ .raw l) (hnb':so'.nb=true)
    (hcell:∀ r,so.wf r → ∀ i' j c,so'.cell? i' j=some c → (i' * so.sz+j < i * so.sz+off ∨ i * so.sz+off+new.length≤i' * so.sz+j)∧so.cell? i' j=some c ∨
      (i * so.sz+off≤i' * so.sz+j∧i' * so.sz+j < i * so.sz+off+new.length∧new'[i' * so.sz+j - (i * so.sz+off)]? = some c))
    (hbel:∀ n,so.below n → (ev e y).below n → so'.below n) :
    LocalOK cx o e H ⟨.c .junk,[k],[(k,true,so')],[]⟩:=by
  have hx:x ∈ o.op.operands.toList:=by simp [ho,Op.operands]
  have hy:y ∈ o.op.operands.toList:=by simp [ho,Op.operands]
  have hd:∀ c,o.op ≠ .defer c:=by simp [ho]
  intro ρ s a w hs hr hk _ hdst KK Q hK
  have hl':look s.H k=some (true,so):=by rw [hk k (by simp)]; exact hl
  have hso:=hs.heap.reg k true so hl'
  have h1:(ev e x).rel ρ (a.eval x):=reads_fit hx (fun t ht=>by rw [← hr t ht]; exact hs.env t)
  have h2:(ev e y).rel ρ (a.eval y):=reads_fit hy (fun t ht=>by rw [← hr t ht]; exact hs.env t)
  rw [he] at h1; simp only [SV.rel,SC.rel] at h1
  have hcs:=hnew ρ _ h2
  have hl2:=relL_length hcs.1
  have hoff:=hso.off0 rfl
  have hn:i * sz+off=i * so.sz+off:=by rcases hszi with hh | hh <;> simp [hh]
  have hfit':=hfit ρ hso.wf
  have hroom0:=fun n hn=>hso.room rfl (fun keys hk=>hnm keys hk) (fun b hk=>by subst hk; cases hnb) n hn
  have hrun:(storeCells ⟨(ρ k).blk,i * so.sz+off,none⟩ (a.eval y).cells.toList 0).run cx.P w=.ok () (setCells w (ρ k).blk (i * so.sz+off+0) (a.eval y).cells.toList) :=
    run_storeCells _ 0 w (fun j hj=>by
      have:=hroom0 (i * so.sz+off+j) (by omega)
      simp only [adr,hoff,Nat.zero_add] at this
      simpa using this) hcs.2
  have hsize:=run_sizeOf hB ht w
  have hsz2:(a.eval y).cells.size=ti.size:=by simp at hl2; omega
  have hpt:adr ρ k (i * sz+off)=⟨(ρ k).blk,i * so.sz+off,none⟩:=by simp [adr,hoff,hn]
  refine wpIn_of_skip hd (w':=setCells w (ρ k).blk (i * so.sz+off) (a.eval y).cells.toList) ?_ (hK ρ _ _ ?_ (fun _ _=>rfl))
  · simp only [execOp,ho,Instr.storeAt,h1,hpt,Instr.sureAddr,storeVar,Sem.run_bind,Sem.run_pure,Result.andThen_ok,hsize]
    rw [if_neg (by simp [hsz2])]
    simp only [Result.andThen_ok,hrun,Nat.add_zero]
  · have hsat:SatO ρ (setCells w (ρ k).blk (i * so.sz+off) (a.eval y).cells.toList) k true so':=by
      have hcell':∀ n,(setCells w (ρ k).blk (i * so.sz+off) (a.eval y).cells.toList).cell? (adr ρ k n) =
          if i * so.sz+off≤n∧n < i * so.sz+off+(a.eval y).cells.toList.length then (a.eval y).cells.toList[n - (i * so.sz+off)]? else w.cell? (adr ρ k n):=by
        intro n
        have:=setCells_cell w (ρ k).blk (i * so.sz+off) (a.eval y).cells.toList (fun j hj=>by
          have:=(hroom0 (i * so.sz+off+j) (by omega)).1
          simpa [adr,hoff] using this) n
        simpa [adr,hoff] using this
      refine⟨hwf _ hso.wf, ?_, ?_,fun _=>hoff,fun l hl=>absurd hl (hnm' l),(fun b hk=>by subst hk; cases hnb'),(fun n hn=>hso.fixd n (by rw [← hfx']; exact hn)),fun t' ht' hr'=>setCells_typ _ _ _ (hso.typd t' (by rw [← hty']; exact ht') (by rw [hroom] at hr'; exact hr'))⟩
      · intro i' j c hc
        rw [hsz,hcell']
        rcases hcell _ hso.wf i' j c hc with ⟨hout,hold⟩ | ⟨hge,hlt,hin⟩
        · rw [if_neg (by rw [← hl2]; omega)]
          exact hso.at_ i' j c hold
        · rw [if_pos ⟨hge,by rw [← hl2]; exact hlt⟩]
          exact relL_get (hn' ρ _ hcs.1) hin
      · intro _ _ _ n hn
        rw [hroom] at hn
        have:=hroom0 n hn
        rw [hcell']
        refine⟨?_,by rw [setCells_frozen]; exact this.2⟩
        by_cases hin:i * so.sz+off≤n∧n < i * so.sz+off+(a.eval y).cells.toList.length
        · rw [if_pos hin]
          exact⟨(a.eval y).cells.toList[n - (i * so.sz+off)]'(by omega),by rw [List.getElem?_eq_getElem]⟩
        · rw [if_neg hin]; exact this.1
    have hheap:=hs.heap.store hl' (by omega) hsat hnb'
    have hbnd:so'.below s.nx:=hbel s.nx (hs.bnd.heap k true so hl').2 (reads_below hy (fun t ht=>by rw [← hr t ht]; exact hs.bnd.get t))
    have hs':Sat cx ρ { s with H:=(k,true,so') :: s.H } a (setCells w (ρ k).blk (i * so.sz+off) (a.eval y).cells.toList) :=
      { size:=hs.size,defers:=hs.defers,env:=hs.env,heap:=hheap,bnd:=hs.bnd.cons (hs.bnd.heap k true so hl').1 hbnd,base:=hs.base,keep:=hs.keep,n0:=hs.n0 }
    exact hs'.putO (sv:=.c .junk) hdst trivial (by rw [SV.below_c]; intro j hj; cases hj)

theorem store_ok {cx:Cx} {B:Tabs} (hB:TabsOK cx.P B) {o:Oper} {e:Env} {H:Heap} {t:TypeId} {x y:Operand} {K:Eff → Prop} (ho:o.op=.store t x y)
    (h:storeK B t (ev e x) (ev e y) H K):∃ f,K f∧LocalOK cx o e H f∧∀ nx,newsOK nx f:=by
  have hx:x ∈ o.op.operands.toList:=by simp [ho,Op.operands]
  have hy:y ∈ o.op.operands.toList:=by simp [ho,Op.operands]
  have hd:∀ c,o.op ≠ .defer c:=by simp [ho]
  unfold storeK at h
  split at h
  · rename_i k i sz off new ti he hnew ht
    cases hb:Nat.beq new.length ti.size && Nat.ble 1 ti.size with
    | false=>simp [hb] at h
    | true =>
      simp only [hb,cond_true] at h
      simp only [Bool.and_eq_true] at hb
      have hlen:new.length=ti.size:=Nat.eq_of_beq_eq_true hb.1
      have hpos:1≤ti.size:=Nat.le_of_ble_eq_true hb.2
      have key:=store_key (e:=e) (H:=H) (i:=i) hB ho he ht hlen hpos (fun ρ v hv=>cellsOf_rel hnew hv)
      split at h
      · rename_i ty l hl
        split at h
        · cases hb2:Nat.ble (off+new.length) l.length with
          | false=>simp [hb2] at h
          | true =>
            simp only [hb2,cond_true] at h
            have hle:=Nat.le_of_ble_eq_true hb2
            refine⟨_,h,key (.cel ty l) _ new (fun _ _ h=>h) hl (by simp) rfl ?_ ?_ rfl rfl rfl (.inr rfl) (fun _ _=>trivial) (by simp) rfl ?_ ?_,fun nx k hk=>by cases hk⟩
            · intro ρ _; simp [SO.sz,SO.room]; omega
            · intro r; simp [SO.room,splice_length hle]
            · intro r _ i' j c hc
              cases i' with
              | succ i'=>simp [SO.cell?] at hc
              | zero =>
                simp only [SO.cell?,SO.sz] at hc ⊢
                rcases splice_get hle hc with ⟨h1,h2,h3⟩ | ⟨h1,h2⟩
                · exact .inr ⟨by omega,by omega,by simpa using h3⟩
                · exact .inl ⟨by omega,h2⟩
            · intro n h1 h2 j hj
              obtain ⟨c,hc,hu⟩:=usesL_iff.1 hj
              rcases mem_splice hc with hc | hc
              · exact h1 j (usesL_iff.2 ⟨c,hc,hu⟩)
              · obtain ⟨i,hi,hm⟩:=SC.uses_iff.1 hu
                simp at hm; subst hm
                exact h2 _ (cellsOf_uses hnew hc hi)
        · exact h.elim
      · rename_i A hl
        cases hb2:Nat.beq sz A.sz && Nat.ble (off+new.length) sz with
        | false=>simp [hb2] at h
        | true =>
          simp only [hb2,cond_true] at h
          simp only [Bool.and_eq_true] at hb2
          have hszA:sz=A.sz:=Nat.eq_of_beq_eq_true hb2.1
          have hle:off+new.length≤A.sz:=by rw [← hszA]; exact Nat.le_of_ble_eq_true hb2.2
          obtain ⟨hi,x',hx',hK⟩:=h
          refine⟨_,hK,key (.arr A) _ (nrmL new) (fun _ _ h=>nrmL_rel h) hl (by simp) rfl ?_ ?_ rfl rfl rfl (.inl hszA.symm) ?_ (by simp) rfl ?_ ?_,fun nx k hk=>by cases hk⟩
          · intro ρ hwf
            simp only [SO.sz,SO.room,SO.wf] at *
            have h1:i+1≤(ρ k).cap:=Nat.le_trans hi hwf
            have h2:(i+1) * A.sz≤(ρ k).cap * A.sz:=Nat.mul_le_mul_right _ h1
            rw [Nat.add_mul] at h2; omega
          · intro r; simp [SO.room,Arr.setXs]
          · intro r hwf; simpa [SO.wf,Arr.setXs] using hwf
          · intro r _ i' j c hc
            have h0:(SO.arr (A.setXs (A.xs.set i x'))).cell? i' j=((A.xs.set i x')[i']?).bind fun x=>(A.enc x)[j]?:=by
              show _=((A.setXs (A.xs.set i x')).xs[i']?).bind _
              simp only [SO.cell?]
              cases (A.setXs (A.xs.set i x')).xs[i']? <;> rfl
            rw [h0] at hc
            simp only [SO.cell?,SO.sz] at ⊢
            rw [List.getElem?_set] at hc
            by_cases hii:i=i'
            · subst hii
              rw [if_pos rfl,if_pos hi] at hc
              simp only [Option.bind_some] at hc
              rw [hx'] at hc
              have hlenA:=A.hl (A.xs[i]'hi)
              rcases splice_get (by rw [hlenA,nrmL_length]; exact hle) hc with ⟨h1,h2,h3⟩ | ⟨h1,h2⟩
              · rw [nrmL_length] at h2
                refine .inr ⟨by omega,by omega, ?_⟩
                rw [show i * A.sz+j - (i * A.sz+off)=j - off from by omega]; exact h3
              · rw [nrmL_length] at h1
                refine .inl ⟨by omega, ?_⟩
                simp [hi,h2]
            · rw [if_neg hii] at hc
              refine .inl ⟨?_,by cases hxx:A.xs[i']? <;> simp_all⟩
              have hj:j < A.sz:=by
                cases hxx:A.xs[i']? with
                | none=>simp [hxx] at hc
                | some z =>
                  simp only [hxx,Option.bind_some] at hc
                  have:=(List.getElem?_eq_some_iff.1 hc).1
                  rw [A.hl] at this; exact this
              rcases Nat.lt_or_gt_of_ne hii with hlt | hgt
              · have:=Nat.mul_le_mul_right A.sz (show i+1≤i' from hlt)
                rw [Nat.add_mul] at this; right; omega
              · have:=Nat.mul_le_mul_right A.sz (show i'+1≤i from hgt)
                rw [Nat.add_mul] at this; left; omega
          · intro n h1 _ j hj
            exact h1 j hj
      · exact h.elim
  · exact h.elim

end Sx
end Go

