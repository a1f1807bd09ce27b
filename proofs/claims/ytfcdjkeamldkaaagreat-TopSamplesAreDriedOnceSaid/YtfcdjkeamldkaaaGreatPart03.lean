/-
  A part of the proof that a law answers true: lemmas of a symbolic walk, plain functions, or contracts of the functions walked (Sx10, Sx11, Sx12, Sx13). Conditions: none.
-/
import Derived.Test.YtfcdjkeamldkaaaGreatPart02
set_option maxRecDepth 100000
set_option linter.unusedVariables false
set_option linter.unusedSimpArgs false
namespace Go
namespace Sx
def SC.one:SC→Bool
 | .v (.agg _)=>false
 | .v (.tuple _)=>false
 | .junk=>false
 |_=>true
theorem KZ{ρ:Jn}{c:SC}{v:Value}(h:c.one=true)(hr:c.rel ρ v):v.cells=#[v]∧(∀xs,v≠.agg xs)∧(∀xs,v≠.tuple xs):=by
 cases c with
 |v x=>simp only[SC.rel]at hr;subst hr;cases v <;> simp_all [SC.one,Value.cells]
 |b x=>simp only[SC.rel]at hr;subst hr;simp[Value.cells]
 |p k i sz off=>simp only[SC.rel]at hr;subst hr;simp[Value.cells]
 |s k st len sz=>obtain⟨a,rfl,_⟩:=hr;simp[Value.cells]
 |f g caps=>simp only[SC.rel]at hr;subst hr;simp[Value.cells]
 |m k=>simp only[SC.rel]at hr;subst hr;simp[Value.cells]
 |cut k hh sz=>obtain⟨a,rfl,_⟩:=hr;simp[Value.cells]
 |ghost k i=>obtain⟨_,_,_,rfl,_⟩:=hr;simp[Value.cells]
 |gp k i=>obtain⟨_,_,_,rfl,_⟩:=hr;simp[Value.cells]
 |any=>obtain⟨t,rfl⟩:=hr;simp[Value.cells]
 |junk=>simp[SC.one]at h
def Vs:List SC→Bool
 | []=>true
 |c::l=>bif c.one then Vs l else false
def cellsOf:SV→Option (List SC)
 | .c x=>bif x.one then some [x]else none
 | .agg l=>bif Vs l then some l else none
 | .tup _=>none
 | .pk _ _=>none
theorem bo1{ρ:Jn}:∀ {l:List SC} {vs:List Value},Vs l=true→Yb ρ l vs→∀v∈vs,(∀xs,v≠.agg xs)∧(∀xs,v≠.tuple xs)
 | [],[],_,_=>by simp
 | [],_::_,_,h=>h.elim
 |_::_,[],_,h=>h.elim
 |c::l,v::vs,ho,h=>by
  simp only[Vs]at ho;cases hc:c.one with
  |false=>simp[hc]at ho
  |true =>
   simp[hc]at ho;intro u hu;rcases List.mem_cons.1 hu with rfl|hu
   ·exact(KZ hc h.1).2
   ·exact bo1 ho h.2 u hu
theorem ai3{ρ:Jn}{s:SV}{v:Value}{l:List SC}(h:cellsOf s=some l)(hr:s.rel ρ v) :
 Yb ρ l v.cells.toList∧∀u∈v.cells.toList,(∀xs,u≠.agg xs)∧(∀xs,u≠.tuple xs):=by
 cases s with
 |c x =>
  simp only[cellsOf]at h;cases ho:x.one with
  |false=>simp[ho]at h
  |true =>
   simp[ho]at h;subst h;have:=KZ ho hr;rw[this.1];exact⟨⟨hr,trivial⟩,by simp;exact this.2⟩
 |agg l' =>
  simp only[cellsOf]at h;cases ho:Vs l' with
  |false=>simp[ho]at h
  |true =>
   simp[ho]at h;subst h;obtain⟨xs,rfl,hx⟩:=hr;exact⟨hx,bo1 ho hx⟩
 |tup l=>simp[cellsOf]at h
 |pk _ l=>simp[cellsOf]at h
theorem ap3{s:SV}{l:List SC}(h:cellsOf s=some l){c:SC}(hc:c∈l){k:Nat}(hk:k∈c.nms):s.uses [k]=true:=by
 cases s with
 |c x =>
  simp only[cellsOf]at h;cases ho:x.one with
  |false=>simp[ho]at h
  |true =>
   simp[ho]at h;subst h;simp at hc;subst hc;exact SC.uses_iff.2 ⟨k,hk,by simp⟩
 |agg l' =>
  simp only[cellsOf]at h;cases ho:Vs l' with
  |false=>simp[ho]at h
  |true =>
   simp[ho]at h;subst h;exact Qo.2 ⟨c,hc,SC.uses_iff.2 ⟨k,hk,by simp⟩⟩
 |tup l=>simp[cellsOf]at h
 |pk _ l=>simp[cellsOf]at h
def XQ(cells:List SC)(o:Nat)(l:List SC):List SC:=cells.take o++(l++cells.drop (o+l.length))
theorem aT3(vs:List Value):∀(n:Nat) (cs:Array Value) (off:Nat),off+n+vs.length≤cs.size →
 ((vs.zipIdx n).foldl (fun cs (p:Value×Nat)=>cs.setIfInBounds (off+p.2) p.1) cs).toList=cs.toList.take (off+n)++(vs++cs.toList.drop (off+n+vs.length)):=by
 induction vs with
 |nil=>intro n cs off h;simp
 |cons v vs ih =>
  intro n cs off h;simp only[List.zipIdx_cons,List.foldl_cons];rw[ih (n+1) (cs.setIfInBounds (off+n) v) off (by simp at h ⊢;omega)];simp only[Array.toList_setIfInBounds,List.length_cons];have hlt:off+n<cs.toList.length:=by simp at h ⊢;omega
  have e1:(cs.toList.set (off+n) v).take (off+(n+1))=cs.toList.take (off+n)++[v]:=by
   rw[List.set_eq_take_append_cons_drop,if_pos hlt];rw[List.take_append,List.take_of_length_le (by simp;omega)];have:off+(n+1)-(List.take (off+n) cs.toList).length=1:=by rw[List.length_take,Nat.min_eq_left (Nat.le_of_lt hlt)];omega
   rw[this];simp
  have e2:(cs.toList.set (off+n) v).drop (off+(n+1)+vs.length)=cs.toList.drop (off+n+(vs.length+1)):=by
   rw[List.drop_set,if_pos (by omega)];congr 1;omega
  rw[e1,e2];simp
def am2(B:Tabs)(fs:List (Nat×TypeId)):List SC→List (Nat×SV)→Option (List SC)
 |cells,[]=>some cells
 |cells,(i,v)::rest=>match fs[i]?,cellsOf v with
  |some (fo,ft),some l=>(match Ji B.T ft with
   |some ti=>bif Nat.beq l.length ti.size&&Nat.ble (fo+l.length) cells.length then am2 B fs (XQ cells fo l) rest else none
   |none=>none)
  |_,_=>none
def KS(e:Env):List (Nat×Operand)→List (Nat×SV)
 | []=>[]
 |(i,x)::r=>(i,ev e x)::KS e r
def aA4(el sz:Nat):Nat→Nat→List (Nat×TypeId)
 |0,_=>[]
 |n+1,off=>(off,el)::aA4 el sz n (off+sz)
theorem bg5{el sz:Nat}:∀ {n off i fo ft:Nat},(aA4 el sz n off)[i]? = some (fo,ft)→fo=off+i*sz∧ft=el
 |0,_,_,_,_,h=>by simp[aA4]at h
 |n+1,off,0,fo,ft,h=>by simp[aA4]at h;exact⟨by omega,h.2.symm⟩
 |n+1,off,i+1,fo,ft,h=>by
  have:=bg5 (n:=n) (off:=off+sz) (i:=i) (by simpa [aA4] using h);exact⟨by rw[this.1,Nat.add_mul];omega,this.2⟩
def bo2(B:Tabs)(e:Env)(t:TypeId)(parts:List (Nat×Operand))(K:PK):Prop :=
 match Ji B.T t with
 |some ⟨.array n el,_,_,z⟩=>(match Ji B.T el with
  |some ti=>(match am2 B (aA4 el ti.size n 0) (z.map cC) (KS e parts)with
   |some l=>K (.agg l) []
   |none=>False)
  |none=>False)
 |some ⟨.struct fs,_,_,z⟩=>(match am2 B fs (z.map cC) (KS e parts)with
  |some l=>K (.agg l) []
  |none=>False)
 |_=>False
theorem aQ9{ρ:Jn}{cells l:List SC}{cs vs:List Value}{o:Nat}(h:Yb ρ cells cs)(hl:Yb ρ l vs) :
 Yb ρ (XQ cells o l) (cs.take o++(vs++cs.drop (o+vs.length))):=by
 unfold XQ;rw[Xu hl];exact av1 (aH2 o h) (av1 hl (aH1 _ h))
theorem bd9{ρ:Jn}{B:Tabs}{e:Env}{a:Act}{fs:List (Nat×TypeId)}{place:Nat→Option (Nat×Nat)}
 (hplace:∀i fo ft ti,fs[i]? = some (fo,ft)→Ji B.T ft=some ti→place i=some (fo,ti.size)) :
 ∀(parts:List (Nat×Operand)) (cells:List SC) (cs:Array Value) (l:List SC),Yb ρ cells cs.toList→(∀p∈parts,(ev e p.2).rel ρ (a.eval p.2)) →
  am2 B fs cells (KS e parts)=some l→∃out,Instr.fill place cs (parts.map fun p=>(p.1,a.eval p.2))=some out∧Yb ρ l out.toList
 | [],cells,cs,l,hc,_,h=>by simp[KS,am2]at h;subst h;exact⟨cs,by simp[Instr.fill],hc⟩
 |(i,x)::parts,cells,cs,l,hc,hp,h=>by
  simp only[KS,am2]at h;split at h
  ·rename_i fo ft lx hfs hlx
   split at h
   ·rename_i ti hti
    cases hb:Nat.beq lx.length ti.size&&Nat.ble (fo+lx.length) cells.length with
    |false=>simp[hb]at h
    |true =>
     simp only[hb,cond_true]at h;simp only[Bool.and_eq_true]at hb;have hlen:lx.length=ti.size:=Nat.eq_of_beq_eq_true hb.1;have hle:fo+lx.length≤cells.length:=Nat.le_of_ble_eq_true hb.2;have hx:=(ai3 hlx (hp (i,x) (List.mem_cons_self ..))).1;have hl1:=Xu hx;have hl2:=Xu hc;have hsz:(a.eval x).cells.size=ti.size:=by simp at hl1;omega
     have hfit:fo+(a.eval x).cells.size≤cs.size:=by simp at hl1 hl2;omega
     have hf:=aT3 (a.eval x).cells.toList 0 cs fo (by simpa using hfit);have hrel:Yb ρ (XQ cells fo lx) (((a.eval x).cells.toList.zipIdx 0).foldl (fun cs (p:Value×Nat)=>cs.setIfInBounds (fo+p.2) p.1) cs).toList:=by
      rw[hf];simpa using aQ9 (o:=fo) hc hx
     obtain⟨out,ho,hr⟩:=bd9 hplace parts (XQ cells fo lx) _ l hrel (fun p hpm=>hp p (List.mem_cons_of_mem _ hpm)) h;refine⟨out, ?_,hr⟩;simp only[List.map_cons,Instr.fill,hplace i fo ft ti hfs hti];rw[if_neg (by simp[hsz];omega)];rw[←ho];congr 1;rw[←Array.foldl_toList,Array.toList_zipIdx]
   ·cases h
  ·cases h
theorem bo3{P:Program}{w:World}{α β:Type}(f:α→Sem β)(g:α→β):∀(l:List α),(∀x∈l,(f x).run P w=.ok (g x) w)→(l.mapM f).run P w=.ok (l.map g) w
 | [],_=>by simp
 |x::l,h=>by
  have ih:=bo3 f g l (fun y hy=>h y (List.mem_cons_of_mem _ hy));simp[List.mapM_cons,h x (List.mem_cons_self ..),ih]
theorem aH4{B:Tabs}:∀ {l:List (Nat×TypeId)},af4 B l=true→∀p∈l,∃ti,Ji B.T p.2=some ti
 | [],_,p,hp=>by cases hp
 |(o,t)::r,h,p,hp=>by
  simp only[af4]at h;split at h
  ·rename_i ti hti
   rcases List.mem_cons.1 hp with rfl|hp
   ·exact⟨ti,hti⟩
   ·exact aH4 h p hp
  ·cases h
theorem aG0{B:Tabs}:∀ {T:List (Nat×TI)} {t:Nat} {fs:List (Nat×TypeId)} {s b:Nat} {z:List Value},ab5 B T=true →
 Ji T t=some ⟨.struct fs,s,b,z⟩→af4 B fs=true
 | [],_,_,_,_,_,_,h=>by simp[Ji]at h
 |(j,o)::r,t,fs,s,b,z,ha,h=>by
  simp only[Ji]at h;cases hb:Nat.beq t j with
  |true =>
   simp[hb]at h;subst h;simp only[ab5]at ha;cases hf:af4 B fs with
   |true=>rfl
   |false=>simp[hf]at ha
  |false =>
   simp[hb]at h;refine aG0 (T:=r) ?_ h;unfold ab5 at ha;split at ha
   ·rename_i he;cases he
   ·rename_i he
    simp only[List.cons.injEq,Prod.mk.injEq]at he;rw[he.2];simp at ha;exact ha.2
   ·rename_i he
    simp only[List.cons.injEq,Prod.mk.injEq]at he;rw[he.2];exact ha
theorem aA5{B:Tabs}{fs:List (Nat×TypeId)}{k:Nat}:∀(ps:List (Nat×SV)) (cells l:List SC),am2 B fs cells ps=some l→(∃c∈l,k∈c.nms) →
 (∃c∈cells,k∈c.nms)∨∃p∈ps,p.2.uses [k]=true
 | [],cells,l,h,hu=>by simp[am2]at h;subst h;exact .inl hu
 |(i,v)::ps,cells,l,h,hu=>by
  simp only[am2]at h;split at h
  ·rename_i fo ft lx hfs hlx
   split at h
   ·rename_i ti hti
    cases hb:Nat.beq lx.length ti.size&&Nat.ble (fo+lx.length) cells.length with
    |false=>simp[hb]at h
    |true =>
     simp only[hb,cond_true]at h;rcases aA5 ps _ l h hu with ⟨c,hc,hk⟩|⟨p,hp,hk⟩
     ·simp only[XQ,List.mem_append]at hc;rcases hc with hc|hc|hc
      ·exact .inl ⟨c,List.mem_of_mem_take hc,hk⟩
      ·exact .inr ⟨(i,v),List.mem_cons_self ..,ap3 hlx hc hk⟩
      ·exact .inl ⟨c,List.mem_of_mem_drop hc,hk⟩
     ·exact .inr ⟨p,List.mem_cons_of_mem _ hp,hk⟩
   ·cases h
  ·cases h
theorem av2{e:Env}{p:Nat×SV}:∀ {l:List (Nat×Operand)},p∈KS e l→∃q∈l,p=(q.1,ev e q.2)
 | [],h=>by cases h
 |(i,x)::r,h=>by
  rcases List.mem_cons.1 h with rfl|h
  ·exact⟨(i,x),List.mem_cons_self ..,rfl⟩
  ·obtain⟨q,hq,hp⟩:=av2 h;exact⟨q,List.mem_cons_of_mem _ hq,hp⟩
theorem am3{z:List Value}{c:SC}(h:c∈z.map cC):c.nms=[]:=by
 obtain⟨v,_,rfl⟩:=List.mem_map.1 h;exact SV.below_cC v
theorem cf4{P:Program}{B:Tabs}(hB:TabsOK P B){o:Oper}{e:Env}{H:Je}{t:TypeId}{parts:Array (Nat×Operand)}{K:PK}(ho:o.op=.build t parts)
 (h:bo2 B e t parts.toList K):∃sv rd,K sv rd∧PureOK P o e H sv rd:=by
 have hmem:∀p∈parts.toList,p.2∈o.op.operands.toList:=fun p hp=>by
  simp[ho,Op.operands];exact⟨p.1,by simpa using hp⟩
 unfold bo2 at h;split at h
 ·rename_i n el s0 b0 z ht
  split at h
  ·rename_i ti hti
   split at h
   ·rename_i l hl
    refine⟨_,_,h, ?_, ?_⟩
    ·intro n hn _ k hk;obtain⟨c,hc,hu⟩:=Qo.1 hk;obtain⟨j,hj,hm⟩:=SC.uses_iff.1 hu;simp at hm;subst hm;rcases aA5 _ _ _ hl ⟨c,hc,hj⟩with ⟨c',hc',hk'⟩|⟨p,hp,hk'⟩
     ·rw[am3 hc']at hk';cases hk'
     ·obtain⟨q,hq,rfl⟩:=av2 hp;exact Qy (hmem q hq) hn _ hk'
    ·intro ρ a w hr _;obtain⟨ds,hds,hks⟩:=Qq hB.T ht w;have hks:=aT1 hks;subst hks;obtain⟨zv,hz,hzz⟩:=GN w (hB.T.get ht);have hszr:=QY hB hti w
     have hf:=bd9 (ρ:=ρ) (B:=B) (e:=e) (a:=a) (fs:=aA4 el ti.size n 0) (place:=fun i=>some (i*ti.size,ti.size))
      (fun i fo ft ti' h1 h2=>by
       obtain⟨rfl,rfl⟩:=bg5 h1;rw[hti]at h2;cases h2;simp) parts.toList (z.map cC) zv.cells l (by rw[hzz];exact KG ρ z) (fun p hp=>Jg (hmem p hp) hr) hl
     obtain⟨out,hout,hrel⟩:=hf;refine⟨.agg out, ?_,_,rfl,hrel⟩;simp only[execOp,ho,Instr.build,Sem.run_bind,hz,Result.andThen_ok,hds,hszr];have h2:(Array.map (fun x=>(x.fst,a.eval x.snd)) parts).toList=parts.toList.map fun p=>(p.1,a.eval p.2):=by simp
     simp only[h2,hout,Sem.run_pure,Result.andThen_ok]
   ·exact h.elim
  ·exact h.elim
 ·rename_i fs s0 b0 z ht
  split at h
  ·rename_i l hl
   refine⟨_,_,h, ?_, ?_⟩
   ·intro n hn _ k hk;obtain⟨c,hc,hu⟩:=Qo.1 hk;obtain⟨j,hj,hm⟩:=SC.uses_iff.1 hu;simp at hm;subst hm;rcases aA5 _ _ _ hl ⟨c,hc,hj⟩with ⟨c',hc',hk'⟩|⟨p,hp,hk'⟩
    ·rw[am3 hc']at hk';cases hk'
    ·obtain⟨q,hq,rfl⟩:=av2 hp;exact Qy (hmem q hq) hn _ hk'
   ·intro ρ a w hr _;obtain⟨ds,hds,hks⟩:=Qq hB.T ht w;obtain⟨fields,rfl,hfs⟩:=aH0 hks;obtain⟨zv,hz,hzz⟩:=GN w (hB.T.get ht);have hin:=aH4 (aG0 hB.F ht);have hplaces:(fields.mapM (fun(f:Field)=>(do pure (f.offset,←sizeOf f.type):Sem (Nat×Nat)))).run P w=.ok (fields.map fun(f:Field)=>(f.offset,(((Ji B.T f.type).map (·.size)).getD 0))) w:=by
     rw[Array.mapM_eq_mapM_toList];have:=bo3 (P:=P) (w:=w) (fun f:Field=>(do pure (f.offset,←sizeOf f.type):Sem (Nat×Nat))) (fun(f:Field)=>(f.offset,(((Ji B.T f.type).map (·.size)).getD 0))) fields.toList (fun f hf=>by
      obtain⟨ti,hti⟩:=hin (f.offset,f.type) (by rw[←hfs];exact List.mem_map.2 ⟨f,hf,rfl⟩);simp[QY hB hti w,hti])
     simp only[Sem.run_map,this,Result.andThen_ok];congr 1;rw[←Array.toList_inj];simp
    have hf:=bd9 (ρ:=ρ) (B:=B) (e:=e) (a:=a) (fs:=fs)
     (place:=fun i=>(fields.map fun(f:Field)=>(f.offset,(((Ji B.T f.type).map (·.size)).getD 0)))[i]?)
     (fun i fo ft ti h1 h2=>by
      obtain⟨fld,hfld,rfl,rfl⟩:=aA3 hfs h1;simp[hfld,h2]) parts.toList (z.map cC) zv.cells l (by rw[hzz];exact KG ρ z) (fun p hp=>Jg (hmem p hp) hr) hl
    obtain⟨out,hout,hrel⟩:=hf;refine⟨.agg out, ?_,_,rfl,hrel⟩;simp only[execOp,ho,Instr.build,Sem.run_bind,hz,Result.andThen_ok,hds,hplaces];have h2:(Array.map (fun x=>(x.fst,a.eval x.snd)) parts).toList=parts.toList.map fun p=>(p.1,a.eval p.2):=by simp
    simp only[h2,hout,Sem.run_pure,Result.andThen_ok]
  ·exact h.elim
 ·exact h.elim
def ac7(B:Tabs)(o:Oper)(e:Env)(H:Je)(K:PK):Prop :=
 match o.op with
 | .move x=>K (ev e x) []
 | .assign x=>K (ev e x) []
 | .pick c x y=>bG6 e c x y K
 | .nilCheck x=>nilK e x K
 | .extract x i=>ce8 e x i K
 | .binOp op t x y _=>bd6 B op t (ev e x) (ev e y) K
 | .unOp op _ x=>unK op (ev e x) K
 | .convert s d x=>bG9 B s d (ev e x) K
 | .fieldAddr s x f=>faK B s (ev e x) f K
 | .field s x f=>bn8 B s (ev e x) f K
 | .indexAddr t x ix=>iaK B t (ev e x) (ev e ix) K
 | .load t x=>bH1 B t (ev e x) H K
 | .makeFunc fn first cap=>mfK e fn first.toList cap.toList K
 | .build t parts=>bo2 B e t parts.toList K
 | .slice t x lo hi none=>slK B e t (ev e x) lo hi K
 | .call c=>(match c.callee with
  | .builtin b=>biK B e b c.args.toList c.argTypes.toList K
  |_=>False)
 |_=>False
theorem cu0{P:Program}{B:Tabs}(hB:TabsOK P B){o:Oper}{e:Env}{H:Je}{K:PK}(h:ac7 B o e H K):∃sv rd,K sv rd∧PureOK P o e H sv rd:=by
 unfold ac7 at h;split at h
 ·rename_i ho;exact⟨_,_,h,bB5 (.inl ho)⟩
 ·rename_i ho;exact⟨_,_,h,bB5 (.inr ho)⟩
 ·rename_i ho;exact ct5 ho h
 ·rename_i ho;exact cB0 ho h
 ·rename_i ho;exact cB1 ho h
 ·rename_i ho;exact cB3 hB ho h
 ·rename_i ho;exact cG6 ho h
 ·rename_i ho;exact ct7 hB ho h
 ·rename_i ho;exact cG7 hB ho h
 ·rename_i ho;exact cf3 hB ho h
 ·rename_i ho;exact cG8 hB ho h
 ·rename_i ho;exact ct9 hB ho h
 ·rename_i ho;exact cG9 ho h
 ·rename_i ho;exact cf4 hB ho h
 ·rename_i ho;exact cH1 hB ho h
 ·rename_i c ho
  split at h
  ·rename_i b hc;exact cH0 hB ho hc h
  ·exact h.elim
 ·exact h.elim
end Sx
end Go
namespace Go
namespace Sx
theorem Bnd.get{e:Env}{H:Je}{n:Nat}(h:Bnd e H n)(i:Nat):(e.get i).below n:=h.env i
theorem Bnd.put{e:Env}{H:Je}{n d:Nat}{v:SV}(h:Bnd e H n)(hv:v.below n):Bnd (.put d v e) H n where
 env i k hk:=by
  rw[XA]at hk;by_cases hi:i=d
  ·rw[if_pos hi]at hk;exact hv k hk
  ·rw[if_neg hi]at hk;exact h.env i k hk
 mks:=h.mks
 heap:=h.heap
theorem Bnd.more{e:Env}{H:Je}{n m:Nat}(h:Bnd e H n)(hm:n≤m):Bnd e H m where
 env i k hk:=Nat.lt_of_lt_of_le (h.env i k hk) hm
 mks k hk:=Nat.lt_of_lt_of_le (h.mks k hk) hm
 heap k own o hl:=⟨Nat.lt_of_lt_of_le (h.heap k own o hl).1 hm,fun k' hk=>Nat.lt_of_lt_of_le ((h.heap k own o hl).2 k' hk) hm⟩
theorem Bnd.cons{e:Env}{H:Je}{n k:Nat}{own:Bool}{o:SO}(h:Bnd e H n)(hk:k<n)(ho:o.below n):Bnd e ((k,own,o)::H) n where
 env:=h.env
 mks:=h.mks
 heap j own' o' hl:=by
  rw[Jh]at hl;by_cases hj:j=k
  ·subst hj;simp at hl;obtain⟨rfl,rfl⟩:=hl;exact⟨hk,ho⟩
  ·rw[if_neg hj]at hl;exact h.heap j own' o' hl
theorem bx3{ρ ρ':Jn}{l:List Nat}(h:∀k∈l,ρ' k=ρ k):l.map (mkD ρ')=l.map (mkD ρ):=by
 apply List.map_congr_left;intro k hk;simp only[mkD,h k hk]
theorem Vt{ρ ρ':Jn}{l:List Nat}{df:List Deferred}(h:∀k∈l,ρ' k=ρ k):l.map (mkD ρ')++df=l.map (mkD ρ)++df:=by rw[bx3 h]
theorem bo4{a:Act}{d i:Nat}{v:Value}(hd:d<a.tmps.size):(a.put (some d) v).tmps.getD i undef=if i=d then v else a.tmps.getD i undef:=by
 simp only[Act.put];by_cases h:i=d
 ·subst h;simp[Array.getD,hd]
 ·have:¬(d=i):=fun x=>h x.symm;simp[Array.getD_eq_getD_getElem?,Array.getElem?_setIfInBounds,h,this]
theorem cf5(a:Act)(d:Option Nat)(v:Value):(a.put d v).tmps.size=a.tmps.size:=by
 cases d <;> simp[Act.put]
theorem bH2(a:Act)(d:Option Nat)(v:Value):(a.put d v).defers=a.defers:=by
 cases d <;> simp[Act.put]
section
variable {cx:Cx} {ρ:Jn} {s:St} {a:Act} {w:World}
theorem Sat.put(h:Sat cx ρ s a w){d:Nat}{sv:SV}{v:Value}(hd:d<cx.nt∧af2 cx.md d=true)(hr:sv.rel ρ v)(hb:sv.below s.nx) :
 Sat cx ρ { s with e:=.put d sv s.e } (a.put (some d) v) w where
 size:=by rw[cf5];exact h.size
 defers:=by rw[bH2];exact h.defers
 env i:=by
  rw[XA,bo4 (by rw[h.size];exact hd.1)];by_cases hi:i=d
  ·rw[if_pos hi,if_pos hi];exact hr
  ·rw[if_neg hi,if_neg hi];exact h.env i
 heap:=h.heap
 bnd:=h.bnd.put hb
 base:=h.base
 keep i hi:=by
  rw[bo4 (by rw[h.size];exact hd.1),if_neg (by rintro rfl;rw[hd.2]at hi;cases hi)];exact h.keep i hi
 n0:=h.n0
theorem Sat.put0(h:Sat cx ρ s a w)(v:Value):Sat cx ρ s (a.put none v) w:=by
 simpa [Act.put] using h
theorem bo5{e:Env}{H:Je}{n:Nat}(h:Bnd e H n):∀j own o',look H j=some (own,o')→j≠n∧o'.uses [n]=false:=fun j own o' hl=>by
 have:=h.heap j own o' hl;refine⟨by omega, ?_⟩;cases hu:o'.uses [n]with
 |false=>rfl
 |true=>have:=this.2 n hu;omega
theorem SV.rel_upd{ρ:Jn}{sv:SV}{v:Value}{k:Nat}{r:Rg}(hr:sv.rel ρ v)(hb:sv.below k):sv.rel (Ya ρ k r) v :=
 SV.rel_agree (fun j hj=>Jx (Nat.ne_of_lt (hb j hj))) hr
theorem Sat.new(h:Sat cx ρ s a w){cap:Nat}{o:SO}{ob:Obj}(hbo:o.below s.nx)
 (hnew:SatO (Ya ρ s.nx ⟨w.heap.size,0,cap,[]⟩) (push w ob) s.nx true o) (hnb:o.nb=true:=by rfl) :
 Sat cx (Ya ρ s.nx ⟨w.heap.size,0,cap,[]⟩) { s with H:=(s.nx,true,o)::s.H,nx:=s.nx+1 } a (push w ob) where
 size:=h.size
 defers:=by rw[h.defers];exact(Vt fun k hk=>Jx (Nat.ne_of_lt (h.bnd.mks k hk))).symm
 env i:=SV.rel_upd (h.env i) (h.bnd.get i)
 heap:=h.heap.new (bo5 h.bnd) hnew hnb
 bnd:=(h.bnd.more (Nat.le_succ _)).cons (Nat.lt_succ_self _) (fun k hk=>Nat.lt_succ_of_lt (hbo k hk))
 base k hk:=by rw[Jx (by have:=h.n0;omega)];exact h.base k hk
 keep:=h.keep
 n0:=Nat.le_succ_of_le h.n0
end
theorem af5{ρ:Jn}{w:World}{k cap:Nat}{l:List SC}{c:Array Value}{t:TypeId}(hr:Yb (Ya ρ k ⟨w.heap.size,0,cap,[]⟩) l c.toList) :
 SatO (Ya ρ k ⟨w.heap.size,0,cap,[]⟩) (push w (.cells c t (0,0))) k true (.cells l) where
 wf:=trivial
 at_ i j x hx:=by
  cases i with
  |succ i=>simp[SO.cell?]at hx
  |zero =>
   simp only[SO.cell?]at hx;obtain⟨v,hv,hrel⟩:=GO hr hx;refine⟨v, ?_,hrel⟩;simp only[Jr,Jq,SO.sz,World.cell?,KF]
   simpa using hv
 room _ _ _ n hn:=by
  simp only[SO.room]at hn;have hlen:=Xu hr;simp only[Jr,Jq,World.cell?,World.frozen?,KF];have hlt:n<c.size:=by simpa [hlen] using hn
  exact⟨⟨c[n],by simp[hlt]⟩,by simp⟩
 off0 _:=by rw[Jq]
 keys l h:=by cases h
 boxed l h:=by cases h
 fixd n h:=by cases h
 typd n h:=by cases h
def Yn(xs:List Int):Arr:=⟨Int,1,fun x=>[.v (.int .i64 x)],[],fun _=>rfl,(by intro x c hc k hk;simp at hc;subst hc;cases hk),xs,none,none⟩
def bH3(xs:List Bool):Arr:=⟨Bool,1,fun x=>[.v (.bool x)],[],fun _=>rfl,(by intro x c hc k hk;simp at hc;subst hc;cases hk),xs,none,none⟩
theorem VN{ρ:Jn}{w:World}{k cap:Nat}{A:Arr}{c:Array Value}{t:TypeId}(hle:A.xs.length≤cap)(hsz:c.size=cap*A.sz)
 (hr:∀(i:Nat) (x:A.α),A.xs[i]? = some x→∀(j:Nat) (d:SC),(A.enc x)[j]? = some d→∃v,c[i*A.sz+j]? = some v∧d.rel (Ya ρ k ⟨w.heap.size,0,cap,[]⟩) v) (hfx:∀n,A.fx=some n→cap=n:=by intro _ h;cases h) (hty:∀t',A.ty=some t'→t=t':=by intro _ h;cases h) :
 SatO (Ya ρ k ⟨w.heap.size,0,cap,[]⟩) (push w (.cells c t (0,0))) k true (.arr A) where
 wf:=by simp only[SO.wf,Jq];exact hle
 at_ i j d hd:=by
  simp only[SO.cell?]at hd;cases hx:A.xs[i]? with
  |none=>simp[hx]at hd
  |some x =>
   simp only[hx]at hd;obtain⟨v,hv,hrel⟩:=hr i x hx j d hd;refine⟨v, ?_,hrel⟩;simp only[Jr,Jq,SO.sz,World.cell?,KF]
   simpa using hv
 room _ _ _ n hn:=by
  simp only[SO.room,Jq]at hn;simp only[Jr,Jq,World.cell?,World.frozen?,KF];exact⟨⟨c[n]'(by omega),by simp⟩,by simp⟩
 off0 _:=by rw[Jq]
 keys l h:=by cases h
 boxed l h:=by cases h
 fixd n h:=by rw[Jq];exact hfx n h
 typd t' h _:=by rw[Jq];exact⟨c,(0,0),by rw[KF];rw[hty t' h]⟩
end Sx
end Go
namespace Go
namespace Sx
def WF(rd:Option Nat):Fence:={ Fence.wide with round:=rd }
theorem JQ{rd:Option Nat}{P:Program}{o:Oper}{a:Act}{w w':World}{v:Value}{KK:Act→World→Prop}{Q:Exit→Act→World→Prop}
 (hd:∀c,o.op≠.defer c) (hr:(execOp a.eval o).run P w=.ok (.value v) w') (h:KK (a.put o.dst v) w'):o.wpIn (WF rd) 0 P a w KK Q:=by
 refine⟨fun _ _=>trivial, ?_⟩;rw[Oper.semAt_eq _ _ _ hd,hr];exact h
theorem ac8{rd:Option Nat}{P:Program}{o:Oper}{a:Act}{w w':World}{KK:Act→World→Prop}{Q:Exit→Act→World→Prop}
 (hd:∀c,o.op≠.defer c) (hr:(execOp a.eval o).run P w=.ok .skip w') (h:KK (a.put o.dst undef) w'):o.wpIn (WF rd) 0 P a w KK Q:=by
 refine⟨fun _ _=>trivial, ?_⟩;rw[Oper.semAt_eq _ _ _ hd,hr];exact h
structure Eff where
 sv:SV
 rd:List Nat
 wr:Je
 news:List Nat
def ap4(nx:Nat)(f:Eff):Prop:=∀k∈f.news,nx≤k∧k<nx+f.news.length
structure Fresh (k:Nat) (s:St):Prop where
 env:∀i,(s.e.get i).uses [k]=false
 mks:k∉s.e.marks
 heap:∀j own o,look s.H j=some (own,o)→j≠k∧o.uses [k]=false
def putO(d:Option Nat)(sv:SV)(e:Env):Env:=match d with
 |some d=>.put d sv e
 |none=>e
def We(cx:Cx)(o:Oper)(e:Env)(H:Je)(f:Eff):Prop :=
 ∀(ρ:Jn) (s:St) (a:Act) (w:World),Sat cx ρ s a w→(∀t,Wr o t→s.e.get t=e.get t)→(∀k∈f.rd,look s.H k=look H k) →
  (∀k∈f.news,Fresh k s∧k<s.nx∧cx.n0≤k)→(∀d,o.dst=some d→d<cx.nt∧af2 cx.md d=true) →
  ∀(KK:Act→World→Prop) (Q:Exit→Act→World→Prop),
   (∀ρ' a' w',Sat cx ρ' { s with e:=putO o.dst f.sv s.e,H:=f.wr++s.H } a' w'→(∀k,k∉f.news→ρ' k=ρ k)→KK a' w') →
   o.wpIn (WF cx.rd) 0 cx.P a w KK Q
theorem Sat.putO{cx:Cx}{ρ:Jn}{s:St}{a:Act}{w:World}(h:Sat cx ρ s a w){d:Option Nat}{sv:SV}{v:Value}(hd:∀x,d=some x→x<cx.nt∧af2 cx.md x=true)(hr:sv.rel ρ v)(hb:sv.below s.nx) :
 Sat cx ρ { s with e:=Sx.putO d sv s.e } (a.put d v) w:=by
 cases d with
 |none=>exact h.put0 v
 |some d=>exact h.put (hd d rfl) hr hb
theorem bl1{B:Tabs}{o:Oper}{e:Env}{H:Je}{K:PK}(h:ac7 B o e H K):∀c,o.op≠.defer c:=by
 intro c hc;rw[ac7,hc]at h;exact h
theorem PureOK.loc{cx:Cx}{o:Oper}{e:Env}{H:Je}{sv:SV}{rd:List Nat}(h:PureOK cx.P o e H sv rd)(hd:∀c,o.op≠.defer c):We cx o e H ⟨sv,rd,[],[]⟩:=by
 intro ρ s a w hs hr hk _ hdst KK Q hK;obtain⟨v,hrun,hrel⟩:=h.run ρ a w (fun t ht=>by rw[←hr t ht];exact hs.env t) (fun k hkr own q hl=>hs.heap.reg k own q (by rw[hk k hkr];exact hl));refine JQ hd hrun (hK ρ _ w ?_ (fun _ _=>rfl));refine hs.putO hdst hrel (h.below s.nx (fun t ht=>by rw[←hr t ht];exact hs.bnd.get t) fun k hkr own q hl=>?_);exact hs.bnd.heap k own q (by rw[hk k hkr];exact hl)
theorem SV.rel_upd'{ρ:Jn}{sv:SV}{v:Value}{k:Nat}{r:Rg}(hr:sv.rel ρ v)(hb:sv.uses [k]=false):sv.rel (Ya ρ k r) v :=
 SV.rel_agree (fun j hj=>Jx (by rintro rfl;rw[hb]at hj;cases hj)) hr
theorem Sat.newAt{cx:Cx}{ρ:Jn}{s:St}{a:Act}{w:World}(h:Sat cx ρ s a w){k cap:Nat}{o:SO}{ob:Obj}(hf:Fresh k s)(hk:k<s.nx)(hn:cx.n0≤k)(hbo:o.below s.nx)
 (hnew:SatO (Ya ρ k ⟨w.heap.size,0,cap,[]⟩) (push w ob) k true o) (hnb:o.nb=true:=by rfl) :
 Sat cx (Ya ρ k ⟨w.heap.size,0,cap,[]⟩) { s with H:=(k,true,o)::s.H } a (push w ob) where
 size:=h.size
 defers:=by rw[h.defers];exact(Vt fun j hj=>Jx (by rintro rfl;exact hf.mks hj)).symm
 env i:=SV.rel_upd' (h.env i) (hf.env i)
 heap:=h.heap.new hf.heap hnew hnb
 bnd:=h.bnd.cons hk hbo
 base j hj:=by rw[Jx (by omega)];exact h.base j hj
 keep:=h.keep
 n0:=h.n0
theorem Ws{cx:Cx}{o:Oper}{e:Env}{H:Je}{k:Nat}{so:SO}{sv:SV}(hd:∀c,o.op≠.defer c)
 (hbs:sv.below (k+1))
 (hbo:∀n,(∀t,Wr o t→(e.get t).below n)→so.below n)
 (h:∀(ρ:Jn) (a:Act) (w:World),(∀t,Wr o t→(e.get t).rel ρ (a.tmps.getD t undef))→(∀t,Wr o t→(e.get t).uses [k]=false) →
  ∃v ob cap,(execOp a.eval o).run cx.P w=.ok (.value v) (push w ob)∧sv.rel (Ya ρ k ⟨w.heap.size,0,cap,[]⟩) v∧SatO (Ya ρ k ⟨w.heap.size,0,cap,[]⟩) (push w ob) k true so) (hnb:so.nb=true:=by rfl) :
 We cx o e H ⟨sv,[],[(k,true,so)],[k]⟩:=by
 intro ρ s a w hs hr _ hnew hdst KK Q hK;obtain⟨hf,hlt,hn0⟩:=hnew k (by simp);obtain⟨v,ob,cap,hrun,hrel,hso⟩:=h ρ a w (fun t ht=>by rw[←hr t ht];exact hs.env t) (fun t ht=>by rw[←hr t ht];exact hf.env t);refine JQ hd hrun (hK (Ya ρ k ⟨w.heap.size,0,cap,[]⟩) _ _ ?_ (fun j hj=>Jx (by simpa using hj)));have h1:=hs.newAt hf hlt hn0 (hbo s.nx fun t ht=>by rw[←hr t ht];exact hs.bnd.get t) hso hnb;exact h1.putO hdst hrel (fun j hj=>Nat.lt_of_lt_of_le (hbs j hj) hlt)
def bo6(B:Tabs)(t:TypeId)(nx:Nat)(K:Eff→Prop):Prop :=
 match Ji B.T t with
 |some ti=>K ⟨.c (.p nx 0 0 0),[],[(nx,true, .cells (ti.zero.map cC))],[nx]⟩
 |none=>False
theorem ab6{k i sz off:Nat}:(SV.c (.p k i sz off)).below (k+1):=by rw[SV.below_c];intro j hj;simp[SC.nms]at hj;omega
theorem af6{k st len sz:Nat}:(SV.c (.s k st len sz)).below (k+1):=by rw[SV.below_c];intro j hj;simp[SC.nms]at hj;omega
theorem cf6{cx:Cx}{B:Tabs}(hB:TabsOK cx.P B){o:Oper}{e:Env}{H:Je}{t nx:Nat}{K:Eff→Prop}(ho:o.op=.alloc t)(h:bo6 B t nx K) :
 ∃f,K f∧We cx o e H f∧ap4 nx f:=by
 unfold bo6 at h;split at h
 ·rename_i ti ht
  refine⟨_,h,Ws (by simp[ho]) ab6 ?_ ?_,by intro k hk;simp at hk;subst hk;simp⟩
  ·intro n _ j hj;obtain⟨c,hc,hu⟩:=Qo.1 hj;obtain⟨i,hi,_⟩:=SC.uses_iff.1 hu;rw[am3 hc]at hi;cases hi
  ·intro ρ a w _ _;obtain⟨z,hz,hzz⟩:=GN w (hB.T.get ht);refine⟨.pointer (some (Jr (Ya ρ nx ⟨w.heap.size,0,0,[]⟩) nx 0)), .cells z.cells t (0,0),0, ?_, ?_, ?_⟩
   ·simp[execOp,ho,Instr.alloc,hz,newVar,newRow,newObj,Sem.run,Jr,Jq,push]
   ·simp[SV.rel,SC.rel]
   ·exact af5 (by rw[hzz];exact KG _ _)
 ·exact h.elim
def cf7(x:SV)(nx:Nat)(K:Eff→Prop):Prop :=
 match cellsOf x with
 |some l=>K ⟨.c (.p nx 0 0 0),[],[(nx,true, .cells l)],[nx]⟩
 |none=>False
theorem cB7{cx:Cx}{o:Oper}{e:Env}{H:Je}{t nx:Nat}{x:Operand}{K:Eff→Prop}(ho:o.op=.box t x)(h:cf7 (ev e x) nx K) :
 ∃f,K f∧We cx o e H f∧ap4 nx f:=by
 have hx:x∈o.op.operands.toList:=by simp[ho,Op.operands]
 unfold cf7 at h;split at h
 ·rename_i l hl
  refine⟨_,h,Ws (by simp[ho]) ab6 ?_ ?_,by intro k hk;simp at hk;subst hk;simp⟩
  ·intro n hn j hj;obtain⟨c,hc,hu⟩:=Qo.1 hj;obtain⟨i,hi,hm⟩:=SC.uses_iff.1 hu;simp at hm;subst hm;exact Qy hx hn _ (ap3 hl hc hi)
  ·intro ρ a w hr hf;have hr':(ev e x).rel (Ya ρ nx ⟨w.heap.size,0,0,[]⟩) (a.eval x):=by
    refine SV.rel_upd' (Jg hx hr) ?_;cases x with
    |tmp t=>exact hf t hx
    |const v=>exact ap0 v _
    |global g=>simp[ev,SV.uses,SC.uses,SC.nms,Jy]
    |func g=>simp[ev,SV.uses,SC.uses,SC.nms,Jy]
   have hc:=(ai3 hl hr').1;refine⟨.pointer (some (Jr (Ya ρ nx ⟨w.heap.size,0,0,[]⟩) nx 0)), .cells (a.eval x).cells t (0,0),0, ?_, ?_,af5 hc⟩
   ·simp[execOp,ho,Instr.box,newVar,newRow,newObj,Sem.run,Jr,Jq,push]
   ·simp[SV.rel,SC.rel]
 ·exact h.elim
end Sx
end Go
namespace Go
namespace Sx
theorem bH4{P:Program}{w:World}{a:Addr}{v y:Value}(hc:w.cell? a=some y)(hf:w.frozen? a=false)(h1:∀xs,v≠.agg xs)(h2:∀xs,v≠.tuple xs) :
 (store a v).run P w=.ok () (w.setCell a v):=by
 cases v <;> simp_all [store,Sem.run]
theorem Uu{P:Program}{b n:Nat}:∀(vs:List Value) (i:Nat) (w:World),(∀j,j<vs.length→(∃y,w.cell? ⟨b,n+i+j,none⟩=some y)∧w.frozen? ⟨b,n+i+j,none⟩=false) →
 (∀v∈vs,(∀xs,v≠.agg xs)∧(∀xs,v≠.tuple xs))→(storeCells ⟨b,n,none⟩ vs i).run P w=.ok () (setCells w b (n+i) vs)
 | [],i,w,_,_=>by simp[storeCells,setCells]
 |v::vs,i,w,h,ho=>by
  obtain⟨⟨y,hy⟩,hf⟩:=h 0 (by simp);simp only[Nat.add_zero]at hy hf;have ha:(⟨b,n,none⟩:Addr).add i=⟨b,n+i,none⟩:=by
   simp only[Addr.add];by_cases hi:i=0 <;> simp[hi]
  have h0:=ho v (List.mem_cons_self ..);have ih:=Uu (P:=P) (b:=b) (n:=n) vs (i+1) (w.setCell ⟨b,n+i,none⟩ v) (fun j hj=>by
   obtain⟨⟨z,hz⟩,hg⟩:=h (j+1) (by simpa using hj);rw[show n+(i+1)+j=n+i+(j+1)from by omega];rw[frozen?_setCell,cell?_setCell hy];refine⟨?_,hg⟩;rw[if_neg (by simp)];exact⟨z,hz⟩) (fun u hu=>ho u (List.mem_cons_of_mem _ hu))
  simp only[storeCells,ha,Sem.run_bind,bH4 hy hf h0.1 h0.2,Result.andThen_ok,setCells];rw[ih];rfl
def Arr.setXs(A:Arr)(xs:List A.α):Arr:={ A with xs:=xs }
def nrm:SC→SC
 | .b t=>.v (.bool t)
 |c=>c
def be0:List SC→List SC
 | []=>[]
 |c::l=>nrm c::be0 l
theorem cu1{ρ:Jn}{c:SC}{v:Value}(h:c.rel ρ v):(nrm c).rel ρ v:=by cases c <;> exact h
theorem bo7{ρ:Jn}:∀ {l:List SC} {vs:List Value},Yb ρ l vs→Yb ρ (be0 l) vs
 | [],[],h=>h
 | [],_::_,h=>h.elim
 |_::_,[],h=>h.elim
 |c::l,v::vs,h=>⟨cu1 h.1,bo7 h.2⟩
theorem ai4:∀ {l:List SC},(be0 l).length=l.length
 | []=>rfl
 |c::l=>by simp[be0,ai4]
def bo8(B:Tabs)(t:TypeId)(x y:SV)(H:Je)(K:Eff→Prop):Prop :=
 match x,cellsOf y,Ji B.T t with
 | .c (.p k i sz off),some new,some ti=>bif Nat.beq new.length ti.size&&Nat.ble 1 ti.size then(match look H k with
  |some (true, .cel ty l)=>(match i with
   |0=>bif Nat.ble (off+new.length) l.length then K ⟨.c .junk,[k],[(k,true, .cel ty (XQ l off new))],[]⟩else False
   |_+1=>False)
  |some (true, .arr A)=>bif Nat.beq sz A.sz&&Nat.ble (off+new.length) sz then
   ∃(hi:i<A.xs.length) (x':A.α),A.enc x'=XQ (A.enc (A.xs[i]'hi)) off (be0 new)∧K ⟨.c .junk,[k],[(k,true, .arr (A.setXs (A.xs.set i x')))],[]⟩
   else False
  |_=>False)else False
 |_,_,_=>False
theorem aA6{l new:List SC}{off j:Nat}{c:SC}(hle:off+new.length≤l.length)(h:(XQ l off new)[j]? = some c) :
 (off≤j∧j<off+new.length∧new[j-off]? = some c)∨(¬(off≤j∧j<off+new.length)∧l[j]? = some c):=by
 unfold XQ at h;have hl:(l.take off).length=off:=by rw[List.length_take,Nat.min_eq_left (by omega)]
 by_cases h1:j<off
 ·rw[List.getElem?_append_left (by omega),List.getElem?_take,if_pos h1]at h;exact .inr ⟨by omega,h⟩
 ·rw[List.getElem?_append_right (by omega),hl]at h;by_cases h2:j-off<new.length
  ·rw[List.getElem?_append_left h2]at h;exact .inl ⟨by omega,by omega,h⟩
  ·rw[List.getElem?_append_right (by omega),List.getElem?_drop]at h;refine .inr ⟨by omega, ?_⟩;rw[show off+new.length+(j-off-new.length)=j from by omega]at h;exact h
theorem bl2{l new:List SC}{off:Nat}(hle:off+new.length≤l.length):(XQ l off new).length=l.length:=by
 simp[XQ];omega
theorem bH5{l new:List SC}{off:Nat}{c:SC}(h:c∈XQ l off new):c∈l∨c∈new:=by
 simp only[XQ,List.mem_append]at h;rcases h with h|h|h
 ·exact .inl (List.mem_of_mem_take h)
 ·exact .inr h
 ·exact .inl (List.mem_of_mem_drop h)
theorem ab7{cx:Cx}{B:Tabs}(hB:TabsOK cx.P B){o:Oper}{e:Env}{H:Je}{t:TypeId}{x y:Operand}{k i sz off:Nat}{ti:TI}{new:List SC}(ho:o.op=.store t x y)
 (he:ev e x=.c (.p k i sz off)) (ht:Ji B.T t=some ti) (hlen:new.length=ti.size) (hpos:1≤ti.size)
 (hnew:∀ρ v,(ev e y).rel ρ v→Yb ρ new v.cells.toList∧∀u∈v.cells.toList,(∀xs,u≠.agg xs)∧(∀xs,u≠.tuple xs))
 (so so':SO) (new':List SC) (hn':∀ρ vs,Yb ρ new vs→Yb ρ new' vs) (hl:look H k=some (true,so)) (hnm:∀l,so≠.raw l) (hnb:so.nb=true)
 (hfit:∀(ρ:Jn),so.wf (ρ k)→i*so.sz+off+new.length≤so.room (ρ k)) (hroom:∀r,so'.room r=so.room r) (hsz:so'.sz=so.sz) (hfx':so'.fx=so.fx) (hty':so'.ty=so.ty) (hszi:so.sz=sz∨i=0)
 (hwf:∀r,so.wf r→so'.wf r) (hnm':∀l,so'≠.raw l) (hnb':so'.nb=true)
 (hcell:∀r,so.wf r→∀i' j c,so'.cell? i' j=some c→(i'*so.sz+j<i*so.sz+off∨i*so.sz+off+new.length≤i'*so.sz+j)∧so.cell? i' j=some c ∨
  (i*so.sz+off≤i'*so.sz+j∧i'*so.sz+j<i*so.sz+off+new.length∧new'[i'*so.sz+j-(i*so.sz+off)]? = some c))
 (hbel:∀n,so.below n→(ev e y).below n→so'.below n) :
 We cx o e H ⟨.c .junk,[k],[(k,true,so')],[]⟩:=by
 have hx:x∈o.op.operands.toList:=by simp[ho,Op.operands]
 have hy:y∈o.op.operands.toList:=by simp[ho,Op.operands]
 have hd:∀c,o.op≠.defer c:=by simp[ho]
 intro ρ s a w hs hr hk _ hdst KK Q hK;have hl':look s.H k=some (true,so):=by rw[hk k (by simp)];exact hl
 have hso:=hs.heap.reg k true so hl';have h1:(ev e x).rel ρ (a.eval x):=Jg hx (fun t ht=>by rw[←hr t ht];exact hs.env t);have h2:(ev e y).rel ρ (a.eval y):=Jg hy (fun t ht=>by rw[←hr t ht];exact hs.env t);rw[he]at h1;simp only[SV.rel,SC.rel]at h1;have hcs:=hnew ρ _ h2;have hl2:=Xu hcs.1;have hoff:=hso.off0 rfl;have hn:i*sz+off=i*so.sz+off:=by rcases hszi with hh|hh <;> simp[hh]
 have hfit':=hfit ρ hso.wf;have hroom0:=fun n hn=>hso.room rfl (fun keys hk=>hnm keys hk) (fun b hk=>by subst hk;cases hnb) n hn;have hrun:(storeCells ⟨(ρ k).blk,i*so.sz+off,none⟩ (a.eval y).cells.toList 0).run cx.P w=.ok () (setCells w (ρ k).blk (i*so.sz+off+0) (a.eval y).cells.toList) :=
  Uu _ 0 w (fun j hj=>by
   have:=hroom0 (i*so.sz+off+j) (by omega);simp only[Jr,hoff,Nat.zero_add]at this
   simpa using this) hcs.2
 have hsize:=QY hB ht w;have hsz2:(a.eval y).cells.size=ti.size:=by simp at hl2;omega
 have hpt:Jr ρ k (i*sz+off)=⟨(ρ k).blk,i*so.sz+off,none⟩:=by simp[Jr,hoff,hn]
 refine ac8 hd (w':=setCells w (ρ k).blk (i*so.sz+off) (a.eval y).cells.toList) ?_ (hK ρ _ _ ?_ (fun _ _=>rfl))
 ·simp only[execOp,ho,Instr.storeAt,h1,hpt,Instr.sureAddr,storeVar,Sem.run_bind,Sem.run_pure,Result.andThen_ok,hsize];rw[if_neg (by simp[hsz2])];simp only[Result.andThen_ok,hrun,Nat.add_zero]
 ·have hsat:SatO ρ (setCells w (ρ k).blk (i*so.sz+off) (a.eval y).cells.toList) k true so':=by
   have hcell':∀n,(setCells w (ρ k).blk (i*so.sz+off) (a.eval y).cells.toList).cell? (Jr ρ k n) =
    if i*so.sz+off≤n∧n<i*so.sz+off+(a.eval y).cells.toList.length then(a.eval y).cells.toList[n-(i*so.sz+off)]? else w.cell? (Jr ρ k n):=by
    intro n;have:=Gr w (ρ k).blk (i*so.sz+off) (a.eval y).cells.toList (fun j hj=>by
     have:=(hroom0 (i*so.sz+off+j) (by omega)).1
     simpa [Jr,hoff] using this) n
    simpa [Jr,hoff] using this
   refine⟨hwf _ hso.wf, ?_, ?_,fun _=>hoff,fun l hl=>absurd hl (hnm' l),(fun b hk=>by subst hk;cases hnb'),(fun n hn=>hso.fixd n (by rw[←hfx'];exact hn)),fun t' ht' hr'=>KR _ _ _ (hso.typd t' (by rw[←hty'];exact ht') (by rw[hroom]at hr';exact hr'))⟩
   ·intro i' j c hc;rw[hsz,hcell'];rcases hcell _ hso.wf i' j c hc with ⟨hout,hold⟩|⟨hge,hlt,hin⟩
    ·rw[if_neg (by rw[←hl2];omega)];exact hso.at_ i' j c hold
    ·rw[if_pos ⟨hge,by rw[←hl2];exact hlt⟩];exact GO (hn' ρ _ hcs.1) hin
   ·intro _ _ _ n hn;rw[hroom]at hn;have:=hroom0 n hn;rw[hcell'];refine⟨?_,by rw[Kt];exact this.2⟩;by_cases hin:i*so.sz+off≤n∧n<i*so.sz+off+(a.eval y).cells.toList.length
    ·rw[if_pos hin];exact⟨(a.eval y).cells.toList[n-(i*so.sz+off)]'(by omega),by rw[List.getElem?_eq_getElem]⟩
    ·rw[if_neg hin];exact this.1
  have hheap:=hs.heap.store hl' (by omega) hsat hnb';have hbnd:so'.below s.nx:=hbel s.nx (hs.bnd.heap k true so hl').2 (Qy hy (fun t ht=>by rw[←hr t ht];exact hs.bnd.get t));have hs':Sat cx ρ { s with H:=(k,true,so')::s.H } a (setCells w (ρ k).blk (i*so.sz+off) (a.eval y).cells.toList) :=
   { size:=hs.size,defers:=hs.defers,env:=hs.env,heap:=hheap,bnd:=hs.bnd.cons (hs.bnd.heap k true so hl').1 hbnd,base:=hs.base,keep:=hs.keep,n0:=hs.n0 }
  exact hs'.putO (sv:=.c .junk) hdst trivial (by rw[SV.below_c];intro j hj;cases hj)
theorem cf8{cx:Cx}{B:Tabs}(hB:TabsOK cx.P B){o:Oper}{e:Env}{H:Je}{t:TypeId}{x y:Operand}{K:Eff→Prop}(ho:o.op=.store t x y)
 (h:bo8 B t (ev e x) (ev e y) H K):∃f,K f∧We cx o e H f∧∀nx,ap4 nx f:=by
 have hx:x∈o.op.operands.toList:=by simp[ho,Op.operands]
 have hy:y∈o.op.operands.toList:=by simp[ho,Op.operands]
 have hd:∀c,o.op≠.defer c:=by simp[ho]
 unfold bo8 at h;split at h
 ·rename_i k i sz off new ti he hnew ht
  cases hb:Nat.beq new.length ti.size&&Nat.ble 1 ti.size with
  |false=>simp[hb]at h
  |true =>
   simp only[hb,cond_true]at h;simp only[Bool.and_eq_true]at hb;have hlen:new.length=ti.size:=Nat.eq_of_beq_eq_true hb.1;have hpos:1≤ti.size:=Nat.le_of_ble_eq_true hb.2;have key:=ab7 (e:=e) (H:=H) (i:=i) hB ho he ht hlen hpos (fun ρ v hv=>ai3 hnew hv);split at h
   ·rename_i ty l hl
    split at h
    ·cases hb2:Nat.ble (off+new.length) l.length with
     |false=>simp[hb2]at h
     |true =>
      simp only[hb2,cond_true]at h;have hle:=Nat.le_of_ble_eq_true hb2;refine⟨_,h,key (.cel ty l) _ new (fun _ _ h=>h) hl (by simp) rfl ?_ ?_ rfl rfl rfl (.inr rfl) (fun _ _=>trivial) (by simp) rfl ?_ ?_,fun nx k hk=>by cases hk⟩
      ·intro ρ _;simp[SO.sz,SO.room];omega
      ·intro r;simp[SO.room,bl2 hle]
      ·intro r _ i' j c hc;cases i' with
       |succ i'=>simp[SO.cell?]at hc
       |zero =>
        simp only[SO.cell?,SO.sz]at hc ⊢;rcases aA6 hle hc with ⟨h1,h2,h3⟩|⟨h1,h2⟩
        ·exact .inr ⟨by omega,by omega,by simpa using h3⟩
        ·exact .inl ⟨by omega,h2⟩
      ·intro n h1 h2 j hj;obtain⟨c,hc,hu⟩:=Qo.1 hj;rcases bH5 hc with hc|hc
       ·exact h1 j (Qo.2 ⟨c,hc,hu⟩)
       ·obtain⟨i,hi,hm⟩:=SC.uses_iff.1 hu;simp at hm;subst hm;exact h2 _ (ap3 hnew hc hi)
    ·exact h.elim
   ·rename_i A hl
    cases hb2:Nat.beq sz A.sz&&Nat.ble (off+new.length) sz with
    |false=>simp[hb2]at h
    |true =>
     simp only[hb2,cond_true]at h;simp only[Bool.and_eq_true]at hb2;have hszA:sz=A.sz:=Nat.eq_of_beq_eq_true hb2.1;have hle:off+new.length≤A.sz:=by rw[←hszA];exact Nat.le_of_ble_eq_true hb2.2
     obtain⟨hi,x',hx',hK⟩:=h;refine⟨_,hK,key (.arr A) _ (be0 new) (fun _ _ h=>bo7 h) hl (by simp) rfl ?_ ?_ rfl rfl rfl (.inl hszA.symm) ?_ (by simp) rfl ?_ ?_,fun nx k hk=>by cases hk⟩
     ·intro ρ hwf;simp only[SO.sz,SO.room,SO.wf]at *
      have h1:i+1≤(ρ k).cap:=Nat.le_trans hi hwf;have h2:(i+1)*A.sz≤(ρ k).cap*A.sz:=Nat.mul_le_mul_right _ h1;rw[Nat.add_mul]at h2;omega
     ·intro r;simp[SO.room,Arr.setXs]
     ·intro r hwf;simpa [SO.wf,Arr.setXs] using hwf
     ·intro r _ i' j c hc;have h0:(SO.arr (A.setXs (A.xs.set i x'))).cell? i' j=((A.xs.set i x')[i']?).bind fun x=>(A.enc x)[j]?:=by
       show _=((A.setXs (A.xs.set i x')).xs[i']?).bind _;simp only[SO.cell?];cases(A.setXs (A.xs.set i x')).xs[i']? <;> rfl
      rw[h0]at hc;simp only[SO.cell?,SO.sz]at ⊢;rw[List.getElem?_set]at hc;by_cases hii:i=i'
      ·subst hii;rw[if_pos rfl,if_pos hi]at hc;simp only[Option.bind_some]at hc;rw[hx']at hc;have hlenA:=A.hl (A.xs[i]'hi);rcases aA6 (by rw[hlenA,ai4];exact hle) hc with ⟨h1,h2,h3⟩|⟨h1,h2⟩
       ·rw[ai4]at h2;refine .inr ⟨by omega,by omega, ?_⟩;rw[show i*A.sz+j-(i*A.sz+off)=j-off from by omega];exact h3
       ·rw[ai4]at h1;refine .inl ⟨by omega, ?_⟩;simp[hi,h2]
      ·rw[if_neg hii]at hc;refine .inl ⟨?_,by cases hxx:A.xs[i']? <;> simp_all⟩;have hj:j<A.sz:=by
        cases hxx:A.xs[i']? with
        |none=>simp[hxx]at hc
        |some z =>
         simp only[hxx,Option.bind_some]at hc;have:=(List.getElem?_eq_some_iff.1 hc).1;rw[A.hl]at this;exact this
       rcases Nat.lt_or_gt_of_ne hii with hlt|hgt
       ·have:=Nat.mul_le_mul_right A.sz (show i+1≤i' from hlt);rw[Nat.add_mul]at this;right;omega
       ·have:=Nat.mul_le_mul_right A.sz (show i'+1≤i from hgt);rw[Nat.add_mul]at this;left;omega
     ·intro n h1 _ j hj;exact h1 j hj
   ·exact h.elim
 ·exact h.elim
end Sx
end Go
