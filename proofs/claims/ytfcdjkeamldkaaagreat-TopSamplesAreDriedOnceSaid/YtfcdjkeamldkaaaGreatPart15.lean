/-
  A part of the proof that a law answers true: lemmas of a symbolic walk, plain functions, or contracts of the functions walked (Sx70, Sx72, Sx73, E1, E2, Sx74, Sx75). Conditions: none.
-/
import Derived.Test.YtfcdjkeamldkaaaGreatPart14
import Derived.Test.YtfcdjkeamldkaaaGreatPart13
import Derived.Maps.RangeRun
set_option maxRecDepth 100000
set_option linter.unusedVariables false
set_option linter.unusedSimpArgs false
namespace Go
namespace Sx
abbrev SMs:Type:=List (List UInt8×List UInt8)
abbrev Wl(l:List UInt8):Value:=.string (S l)
def bm5(M:SMs)(x:Obj):Prop :=
 ∃es clock,x=.map es clock∧es.toList.map (fun e=>(e.key,e.val))=M.map (fun p=>(Wl p.1,Wl p.2))∧(M.map Prod.fst).Nodup
def UD(M:SMs):SO:=.raw (bm5 M)
def Yj(M:SMs)(k:List UInt8):List UInt8×Bool:=match M.find? (fun p=>p.1==k)with
 |some p=>(p.2,true)
 |none=>([],false)
def YO:SMs→List UInt8→List UInt8→SMs
 | [],k,v=>[(k,v)]
 |p::r,k,v=>if p.1=k then(k,v)::r else p::YO r k v
theorem aR8{cx:Cx}{o:Oper}{e:Env}{H:Je}{nx:Nat}{K:Eff→Prop}{t:TypeId}(ho:o.op=.makeMap t none)
 (h:K ⟨.c (.m nx),[],[(nx,true,UD [])],[nx]⟩):∃F,CallOK cx o e H nx F∧K F:=by
 refine⟨_,⟨Ws (by simp[ho]) (by rw[SV.below_c];intro j hj;simp[SC.nms]at hj;omega) ?_ ?_,fun j hj=>by simp at hj;subst hj;simp⟩,h⟩
 ·intro n _ j hj;simp[UD,SO.uses]at hj
 ·intro ρ a w _ _;refine⟨.map (some w.heap.size), .map #[] 0,0, ?_, ?_, ?_⟩
  ·simp only[execOp,ho,Sem.run_bind,Option.mapM_none];rfl
  ·simp only[SV.rel,SC.rel,Jq]
  ·refine⟨trivial,(fun i j c hc=>by simp[UD,SO.cell?]at hc),(fun _ hx=>absurd rfl (hx _)),(fun _=>by rw[Jq]),(fun Ψ hΨ=>?_),(fun _ hb=>by cases hb),(fun _ hb=>by cases hb),(fun _ hb=>by cases hb)⟩;cases hΨ;rw[Jq];exact⟨_,KF w _,#[],0,rfl,by simp,by simp⟩
theorem bL0{M:SMs}{k:List UInt8}{p:List UInt8×List UInt8}{j:Nat}(hd:(M.map Prod.fst).Nodup)(h:M[j]? = some p)(hk:p.1=k):Yj M k=(p.2,true):=by
 unfold Yj
 induction M generalizing j with
 |nil=>simp at h
 |cons q M ih =>
  have hd':=List.nodup_cons.1 (show(q.1::M.map Prod.fst).Nodup from hd);cases j with
  |zero =>
   simp at h;subst h;simp[hk]
  |succ j =>
   have h:M[j]? = some p:=by simpa using h
   have hm:p.1∈M.map Prod.fst:=List.mem_map.2 ⟨p,List.mem_of_getElem? h,rfl⟩;have hne:¬q.1=k:=fun e=>hd'.1 (by rw[e,←hk];exact hm);have hb:(q.1==k)=false:=by simpa using hne
   rw[List.find?_cons_of_neg (by simp[hb])];exact ih hd'.2 h
theorem by7{M:SMs}{k:List UInt8}(h:∀p∈M,p.1≠k):Yj M k=([],false):=by
 unfold Yj;rw[List.find?_eq_none.2 (fun p hp=>by simpa using h p hp)]
theorem bV6{M:SMs}{k v:List UInt8}{p:List UInt8×List UInt8}{j:Nat}(hd:(M.map Prod.fst).Nodup)(h:M[j]? = some p)(hk:p.1=k):YO M k v=M.set j (k,v):=by
 induction M generalizing j with
 |nil=>simp at h
 |cons q M ih =>
  have hd':=List.nodup_cons.1 (show(q.1::M.map Prod.fst).Nodup from hd);cases j with
  |zero=>simp at h;subst h;simp[YO,hk]
  |succ j =>
   have h:M[j]? = some p:=by simpa using h
   have hm:p.1∈M.map Prod.fst:=List.mem_map.2 ⟨p,List.mem_of_getElem? h,rfl⟩;have hne:¬q.1=k:=fun e=>hd'.1 (by rw[e,←hk];exact hm);simp only[YO,if_neg hne,List.set_cons_succ];rw[ih hd'.2 h]
theorem bL1{M:SMs}{k v:List UInt8}(h:∀p∈M,p.1≠k):YO M k v=M++[(k,v)]:=by
 induction M with
 |nil=>rfl
 |cons q M ih =>
  simp only[YO,if_neg (h q (.head _)),List.cons_append];rw[ih fun p hp=>h p (.tail _ hp)]
theorem ba3(M:SMs)(k v:List UInt8)(hd:(M.map Prod.fst).Nodup):((YO M k v).map Prod.fst).Nodup∧∀x,x∈(YO M k v).map Prod.fst→x=k∨x∈M.map Prod.fst:=by
 induction M with
 |nil=>exact⟨by simp[YO],fun x hx=>.inl (by simpa [YO] using hx)⟩
 |cons q M ih =>
  have hd':=List.nodup_cons.1 (show(q.1::M.map Prod.fst).Nodup from hd);by_cases hq:q.1=k
  ·simp only[YO,if_pos hq];refine⟨List.nodup_cons.2 ⟨by rw[←hq];exact hd'.1,hd'.2⟩,fun x hx=>?_⟩;rcases List.mem_cons.1 hx with h|h
   ·exact .inl h
   ·exact .inr (List.mem_cons.2 (.inr h))
  ·simp only[YO,if_neg hq];obtain⟨h1,h2⟩:=ih hd'.2;refine⟨List.nodup_cons.2 ⟨fun h=>?_,h1⟩,fun x hx=>?_⟩
   ·rcases h2 _ h with h|h
    ·exact hq h
    ·exact hd'.1 h
   ·rcases List.mem_cons.1 hx with h|h
    ·exact .inr (List.mem_cons.2 (.inl h))
    ·rcases h2 _ h with h|h
     ·exact .inl h
     ·exact .inr (List.mem_cons.2 (.inr h))
theorem bD5{P:Program}{w:World}{kt:TypeId}(hu:P.underlying kt=some .string){M:SMs}{es:List MapEntry}(h:es.map (fun e=>(e.key,e.val))=M.map (fun p=>(Wl p.1,Wl p.2)))(k:List UInt8) :
 ((Instr.findKey kt (Wl k) es).run P w=.ok none w∧∀p∈M,p.1≠k)∨∃j p e,(Instr.findKey kt (Wl k) es).run P w=.ok (some (j,Wl p.2)) w∧M[j]? = some p∧p.1=k∧es[j]? = some e∧e.key=Wl k:=by
 have hkey:MapKept.IsKey .string (Wl k):=trivial;have hall:∀x∈es,MapKept.IsKey .string x.key:=fun x hx=>by
  have:(x.key,x.val)∈M.map (fun p=>(Wl p.1,Wl p.2)):=by rw[←h];exact List.mem_map.2 ⟨x,hx,rfl⟩
  obtain⟨p,_,hpe⟩:=List.mem_map.1 this;rw[show x.key=Wl p.1 from(congrArg Prod.fst hpe).symm];trivial
 rcases MapKept.findNow_spec hkey es 0 hall with ⟨h1,h2⟩|⟨j,e',h1,h2,h3⟩
 ·refine .inl ⟨MapKept.run_findKey hu h1,fun p hp hpk=>?_⟩;have:(Wl p.1,Wl p.2)∈es.map (fun e=>(e.key,e.val)):=by rw[h];exact List.mem_map.2 ⟨p,hp,rfl⟩
  obtain⟨x,hx,hxe⟩:=List.mem_map.1 this;exact h2 x hx ((congrArg Prod.fst hxe).trans (by show Wl p.1=Wl k;rw[hpk]))
 ·have h4:(es.map (fun e=>(e.key,e.val)))[j]? = some (e'.key,e'.val):=by rw[List.getElem?_map,h2];rfl
  rw[h,List.getElem?_map]at h4;obtain⟨p,hp,hpe⟩:=Option.map_eq_some_iff.1 h4;have hk1:Wl p.1=e'.key:=congrArg Prod.fst hpe;have hk2:Wl p.2=e'.val:=congrArg Prod.snd hpe;have hpk:p.1=k:=by
   have:Wl p.1=Wl k:=hk1.trans h3;exact cH6.1 (by injection this)
  refine .inr ⟨j,p,e', ?_,hp,hpk,h2,h3⟩;rw[hk2];rw[Nat.zero_add]at h1;exact MapKept.run_findKey hu h1
theorem by8{cx:Cx}{B:Tabs}(hB:TabsOK cx.P B){o:Oper}{e:Env}{H:Je}{nx:Nat}{K:Eff→Prop}{t:TypeId}{x y:Operand}{kt et s0 b0:TypeId}{z0:List Value}{k:Nat}{own:Bool}{M:SMs}{l:List UInt8}
 (hu:cx.P.underlying kt=some .string) (hz0:∀w,(zeroValue et).run cx.P w=.ok (Wl []) w) (ho:o.op=.lookup t x y true) (ht:Ji B.T t=some ⟨.map kt et,s0,b0,z0⟩)
 (hx:ev e x=.c (.m k)) (hy:ev e y=YC l) (hl:look H k=some (own,UD M))
 (hK:K ⟨.tup [.inl (WI (Yj M l).1), .inl (.v (.bool (Yj M l).2))],[k],[],[]⟩):∃F,CallOK cx o e H nx F∧K F:=by
 have hxo:x∈o.op.operands.toList:=by simp[ho,Op.operands]
 have hyo:y∈o.op.operands.toList:=by simp[ho,Op.operands]
 refine⟨_,⟨?_,fun j hj=>by cases hj⟩,hK⟩;intro ρ s a w hs hr hk _ hdst KK Q hKK;have hl1:look s.H k=some (own, .raw (bm5 M)):=by rw[hk k (by simp)];exact hl
 have hx1:=Jg hxo (fun t ht=>by rw[←hr t ht];exact hs.env t);have hy1:=Jg hyo (fun t ht=>by rw[←hr t ht];exact hs.env t);rw[hx]at hx1;simp only[SV.rel,SC.rel]at hx1;rw[hy]at hy1;have hya:a.eval y=Wl l:=hy1;obtain⟨ob,hob,es,clock,rfl,hes,hd⟩:=(hs.heap.reg k own _ hl1).keys _ rfl;have hrun:(execOp a.eval o).run cx.P w=.ok (.value (.tuple #[Wl (Yj M l).1, .bool (Yj M l).2])) w:=by
  have hchk:=fun em=>MapKept.run_checkKey (w:=w) hu (show MapKept.IsKey .string (Wl l)from trivial) em 9999;rcases bD5 (w:=w) hu hes l with ⟨h1,h2⟩|⟨j,p,e',h1,h2,h3,h4,h5⟩
  ·rw[by7 h2];simp only[execOp,ho,Instr.lookup,hx1,hya,Sem.run_bind,run_underlying (Kl hB ht),Result.andThen_ok,MapKept.run_getObj_map hob,Sem.run_pure,hchk,h1,hz0];simp
  ·rw[bL0 hd h2 h3];simp only[execOp,ho,Instr.lookup,hx1,hya,Sem.run_bind,run_underlying (Kl hB ht),Result.andThen_ok,MapKept.run_getObj_map hob,Sem.run_pure,hchk,h1];simp
 refine JQ (by simp[ho]) hrun (hKK ρ _ w ?_ (fun _ _=>rfl));refine hs.putO hdst ?_ ?_
 ·exact⟨_,rfl,rfl,rfl,trivial⟩
 ·intro j hj;cases hj
theorem bV7{cx:Cx}{B:Tabs}(hB:TabsOK cx.P B){o:Oper}{e:Env}{H:Je}{nx:Nat}{K:Eff→Prop}{t:TypeId}{x y z:Operand}{kt et s0 b0:TypeId}{z0:List Value}{k:Nat}{M:SMs}{l v:List UInt8}
 (hu:cx.P.underlying kt=some .string) (ho:o.op=.mapUpdate t x y z) (ht:Ji B.T t=some ⟨.map kt et,s0,b0,z0⟩)
 (hx:ev e x=.c (.m k)) (hy:ev e y=YC l) (hz:ev e z=YC v) (hl:look H k=some (true,UD M))
 (hK:K ⟨.c .junk,[k],[(k,true,UD (YO M l v))],[]⟩):∃F,CallOK cx o e H nx F∧K F:=by
 have hxo:x∈o.op.operands.toList:=by simp[ho,Op.operands]
 have hyo:y∈o.op.operands.toList:=by simp[ho,Op.operands]
 have hzo:z∈o.op.operands.toList:=by simp[ho,Op.operands]
 refine⟨_,⟨?_,fun j hj=>by cases hj⟩,hK⟩;intro ρ s a w hs hr hk _ hdst KK Q hKK;have hl1:look s.H k=some (true, .raw (bm5 M)):=by rw[hk k (by simp)];exact hl
 have hx1:=Jg hxo (fun t ht=>by rw[←hr t ht];exact hs.env t);have hy1:=Jg hyo (fun t ht=>by rw[←hr t ht];exact hs.env t);have hz1:=Jg hzo (fun t ht=>by rw[←hr t ht];exact hs.env t);rw[hx]at hx1;simp only[SV.rel,SC.rel]at hx1;rw[hy]at hy1;rw[hz]at hz1;have hya:a.eval y=Wl l:=hy1;have hza:a.eval z=Wl v:=hz1;obtain⟨ob,hob,es,clock,rfl,hes,hd⟩:=(hs.heap.reg k true _ hl1).keys _ rfl;have hrun:∃es' clock',(execOp a.eval o).run cx.P w=.ok .skip (w.putObj (ρ k).blk (.map es' clock'))∧bm5 (YO M l v) (.map es' clock'):=by
  have hchk:=fun em=>MapKept.run_checkKey (w:=w) hu (show MapKept.IsKey .string (Wl l)from trivial) em 9999;rcases bD5 (w:=w) hu hes l with ⟨h1,h2⟩|⟨j,p,e',h1,h2,h3,h4,h5⟩
  ·refine⟨es.push { key:=Wl l,val:=Wl v,born:=clock },clock+1, ?_,_,_,rfl, ?_,(ba3 M l v hd).1⟩
   ·simp only[execOp,ho,Instr.mapUpdate,hx1,hya,hza,Sem.run_bind,run_underlying (Kl hB ht),Result.andThen_ok,MapKept.run_getObj_map hob,Sem.run_pure,hchk,h1,MapKept.run_setObj_map _ hob];rfl
   ·rw[bL1 h2];simp[hes]
  ·have h4':es[j]? = some e':=by rw[←h4];simp
   refine⟨es.modify j fun e=>{ e with key:=Wl l,val:=Wl v },clock, ?_,_,_,rfl, ?_,(ba3 M l v hd).1⟩
   ·have hst:=MapKept.run_keyThatStays (P:=cx.P) (w:=w) (d:=.string) (k:=Wl l) trivial;simp only[execOp,ho,Instr.mapUpdate,hx1,hya,hza,Sem.run_bind,run_underlying (Kl hB ht),Result.andThen_ok,MapKept.run_getObj_map hob,Sem.run_pure,hchk,h1,h4',Option.map_some,Option.getD_some,h5,hst,MapKept.run_setObj_map _ hob];rfl
   ·rw[bV6 hd h2 h3];refine List.ext_getElem? fun i=>?_;have hes':∀i:Nat,(es.toList[i]?).map (fun e:MapEntry=>(e.key,e.val))=(M[i]?).map (fun p=>(Wl p.1,Wl p.2)):=fun i=>by rw[←List.getElem?_map,hes,List.getElem?_map]
    rw[List.getElem?_map,List.getElem?_map,Array.getElem?_toList,Array.getElem?_modify,List.getElem?_set];have hi:=hes' i;rw[Array.getElem?_toList]at hi;by_cases hij:j=i
    ·subst hij;have hlt:j<M.length:=(List.getElem?_eq_some_iff.1 h2).1;rw[if_pos rfl,if_pos rfl,if_pos hlt,h4'];rfl
    ·rw[if_neg hij,if_neg hij];exact hi
 obtain⟨es',clock',hrun,hset⟩:=hrun;have hs':=hs.setObj hl1 (.map es' clock') hset;refine ac8 (by simp[ho]) hrun (hKK ρ _ _ ?_ (fun _ _=>rfl));exact hs'.putO (sv:=.c .junk) hdst trivial (by rw[SV.below_c];intro j hj;cases hj)
end Sx
end Go
namespace Go
namespace Sx
def GI(s:Bool)(l:List Int):Value:=bif s then Yv l else .int .i64 (l.headD 0)
structure KeyW (P:Program) (kt:TypeId) (n:Nat):Prop where
 chk:∀(em:Bool) (ks:List Int) (w:World),ks.length=n→(Instr.checkKey em 10000 kt (Yv ks)).run P w=.ok () w
 find:∀(ks:List Int) (es:List MapEntry) (w:World),ks.length=n→(∀e∈es,∃ks':List Int,ks'.length=n∧e.key=Yv ks') →
  ((Instr.findKey kt (Yv ks) es).run P w=.ok none w∧∀e∈es,e.key≠Yv ks) ∨
  (∃j e,(Instr.findKey kt (Yv ks) es).run P w=.ok (some (j,e.val)) w∧es[j]? = some e∧e.key=Yv ks)
 stays:∀(ks:List Int) (w:World),(Instr.keyThatStays (Yv ks) (Yv ks)).run P w=.ok (Yv ks) w
theorem ci8{P:Program}{kt n:Nat}{L:List (Nat×Nat)}(hE:aT0 P L)(hm:(kt,n)∈L)
 (hu:P.underlying kt=some (.struct (P.fieldsOf kt))) (hf:aC3 P (P.fieldsOf kt).toList 0=true) (hfn:(P.fieldsOf kt).toList.length=n):KeyW P kt n where
 chk em ks w hk:=aQ7 em 9998 hu hf ks (by omega) w
 find ks es w hk hes:=by
  have hwide:(match P.underlying kt with|some (.array _ _)|some (.struct _)=>true|_=>false)=true:=by rw[hu]
  rw[run_findKey_eq w hwide];rcases au2 hE hm ks hk w es 0 hes with ⟨h1,h2⟩|⟨j,e',h1,h2,h3⟩
  ·exact .inl ⟨h1,h2⟩
  ·exact .inr ⟨j,e',by rw[Nat.zero_add]at h1;exact h1,h2,h3⟩
 stays ks w:=by simp[Instr.keyThatStays,bl5 9999 ks]
structure Mp where
 es:List (List Int×List Int×Nat)
 clk:Nat
structure MpOK (n:Nat) (M:Mp):Prop where
 len:∀x∈M.es,x.1.length=n
 keys:(M.es.map (·.1)).Nodup
 born:(M.es.map (·.2.2)).Nodup
 clk:∀x∈M.es,x.2.2<M.clk
def Qw(vs:Bool)(x:List Int×List Int×Nat):MapEntry:=⟨Yv x.1,GI vs x.2.1,x.2.2⟩
def Ww(vs:Bool)(M:Mp):Obj:=.map (M.es.map (Qw vs)).toArray M.clk
def Jw(vs:Bool)(n:Nat)(M:Mp):SO:=.raw (fun x=>x=Ww vs M∧MpOK n M)
def Mp.nil:Mp:=⟨[],0⟩
def Mp.at(M:Mp)(k:List Int):Option (List Int×List Int×Nat):=M.es.find? (·.1==k)
def Mp.get(M:Mp)(k:List Int):Option (List Int):=(M.at k).map (·.2.1)
def Mp.put(M:Mp)(k v:List Int):Mp:=match M.es.findIdx? (·.1==k)with
 |some i=>⟨M.es.modify i fun x=>(k,v,x.2.2),M.clk⟩
 |none=>⟨M.es++[(k,v,M.clk)],M.clk+1⟩
def Mp.del(M:Mp)(k:List Int):Mp:=match M.es.findIdx? (·.1==k)with
 |some i=>⟨M.es.eraseIdx i,M.clk⟩
 |none=>M
theorem aP2{P:Program}{w:World}{kt n:Nat}(hK:KeyW P kt n){vs:Bool}{M:Mp}(hM:MpOK n M){k:List Int}(hk:k.length=n) :
 ((Instr.findKey kt (Yv k) (M.es.map (Qw vs))).run P w=.ok none w∧(∀x∈M.es,x.1≠k)∧M.es.findIdx? (·.1==k)=none∧M.at k=none) ∨
 ∃j x,(Instr.findKey kt (Yv k) (M.es.map (Qw vs))).run P w=.ok (some (j,GI vs x.2.1)) w∧M.es[j]? = some x∧x.1=k∧M.es.findIdx? (·.1==k)=some j∧M.at k=some x:=by
 have hall:∀e∈M.es.map (Qw vs),∃ks':List Int,ks'.length=n∧e.key=Yv ks':=fun e he=>by
  obtain⟨x,hx,rfl⟩:=List.mem_map.1 he;exact⟨x.1,hM.len x hx,rfl⟩
 rcases hK.find k _ w hk hall with ⟨h1,h2⟩|⟨j,e,h1,h2,h3⟩
 ·have hne:∀x∈M.es,x.1≠k:=fun x hx hxk=>h2 _ (List.mem_map.2 ⟨x,hx,rfl⟩) (by rw[←hxk];rfl);refine .inl ⟨h1,hne,List.findIdx?_eq_none_iff.2 fun x hx=>by simpa using hne x hx,List.find?_eq_none.2 fun x hx=>by simpa using hne x hx⟩
 ·rw[List.getElem?_map]at h2;obtain⟨x,hx,rfl⟩:=Option.map_eq_some_iff.1 h2;have hxk:x.1=k:=br9 h3;have huniq:∀i y,M.es[i]? = some y→y.1=k→i=j:=fun i y hy hyk=>by
   have hi:(M.es.map (·.1))[i]? = some k:=by rw[List.getElem?_map,hy];simp[hyk]
   have hj:(M.es.map (·.1))[j]? = some k:=by rw[List.getElem?_map,hx];simp[hxk]
   exact(List.getElem?_inj (List.getElem?_eq_some_iff.1 hi).1 hM.keys).1 (by rw[hi,hj])
  have hlt:j<M.es.length:=(List.getElem?_eq_some_iff.1 hx).1;have hfi:M.es.findIdx? (·.1==k)=some j:=by
   rw[List.findIdx?_eq_some_iff_getElem];refine⟨hlt,by rw[List.getElem?_eq_getElem hlt]at hx;rw[Option.some.inj hx,hxk];simp,fun i hi=>?_⟩;have hil:i<M.es.length:=by omega
   intro hb;have:=huniq i M.es[i] (List.getElem?_eq_getElem hil) (by simpa using hb);omega
  refine .inr ⟨j,x,h1,hx,hxk,hfi, ?_⟩;cases ha:M.at k with
  |none=>exact absurd (List.find?_eq_none.1 ha x (List.mem_of_getElem? hx)) (by simp[hxk])
  |some y =>
   have hy:=List.mem_of_find?_eq_some ha;have hyk:y.1=k:=by simpa using List.find?_some ha
   obtain⟨i,hi⟩:=List.getElem?_of_mem hy;have:=huniq i y hi hyk;subst this;rw[hx]at hi;exact congrArg some (Option.some.inj hi).symm
theorem aa2{α β γ:Type}(f:α→β)(g:α→α)(h:β→β)(hc:α→Prop)(l:List α)(i:Nat)(hf:∀x,l[i]? = some x→f (g x)=h (f x)):(l.modify i g).map f=(l.map f).modify i h:=by
 refine List.ext_getElem? fun j=>?_;rw[List.getElem?_map,List.getElem?_modify,List.getElem?_modify,List.getElem?_map];by_cases e:i=j
 ·subst e;cases hx:l[i]? with
  |none=>simp
  |some x=>simp[hf x hx]
 ·simp[e]
theorem MpOK.put{n:Nat}{M:Mp}(hM:MpOK n M){k:List Int}(hk:k.length=n)(v:List Int):MpOK n (M.put k v):=by
 unfold Mp.put;cases hf:M.es.findIdx? (·.1==k)with
 |none =>
  have hne:=List.findIdx?_eq_none_iff.1 hf;refine⟨fun x hx=>?_, ?_, ?_,fun x hx=>?_⟩
  ·rcases List.mem_append.1 hx with hx|hx
   ·exact hM.len x hx
   ·rw[List.mem_singleton.1 hx];exact hk
  ·rw[List.map_append];refine List.nodup_append.2 ⟨hM.keys,by simp,fun a ha b hb=>?_⟩;obtain⟨x,hx,rfl⟩:=List.mem_map.1 ha;simp at hb;subst hb
   simpa using hne x hx
  ·rw[List.map_append];refine List.nodup_append.2 ⟨hM.born,by simp,fun a ha b hb=>?_⟩;obtain⟨x,hx,rfl⟩:=List.mem_map.1 ha;simp at hb;subst hb;have:=hM.clk x hx;omega
  ·show x.2.2<M.clk+1;rcases List.mem_append.1 hx with hx|hx
   ·have:=hM.clk x hx;omega
   ·rw[List.mem_singleton.1 hx];exact Nat.lt_succ_self _
 |some i =>
  obtain⟨hlt,hik,_⟩:=List.findIdx?_eq_some_iff_getElem.1 hf;have hik:(M.es[i]).1=k:=by simpa using hik
  have e1:(M.es.modify i fun x=>(k,v,x.2.2)).map (·.1)=M.es.map (·.1):=by
   rw[aa2 (γ:=Unit) (·.1) (fun x=>(k,v,x.2.2)) (fun x=>x) (fun _=>True) M.es i (fun x hx=>by
    rw[List.getElem?_eq_getElem hlt]at hx;rw[←Option.some.inj hx,hik])]
   refine List.ext_getElem? fun j=>?_;rw[List.getElem?_modify];simp
  have e2:(M.es.modify i fun x=>(k,v,x.2.2)).map (·.2.2)=M.es.map (·.2.2):=by
   rw[aa2 (γ:=Unit) (·.2.2) (fun x=>(k,v,x.2.2)) (fun x=>x) (fun _=>True) M.es i (fun x hx=>rfl)];refine List.ext_getElem? fun j=>?_;rw[List.getElem?_modify];simp
  have hmem:∀x∈M.es.modify i fun x=>(k,v,x.2.2),∃y∈M.es,x.1=y.1∧x.2.2=y.2.2:=fun x hx=>by
   obtain⟨j,hj⟩:=List.getElem?_of_mem hx;rw[List.getElem?_modify]at hj;obtain⟨y,hy,hxy⟩:=Option.map_eq_some_iff.1 hj;refine⟨y,List.mem_of_getElem? hy, ?_⟩;by_cases e:i=j
   ·subst e;rw[List.getElem?_eq_getElem hlt]at hy;rw[if_pos rfl]at hxy;rw[←hxy,←Option.some.inj hy];exact⟨hik.symm,rfl⟩
   ·rw[if_neg e]at hxy;rw[←hxy];exact⟨rfl,rfl⟩
  refine⟨fun x hx=>?_,by rw[e1];exact hM.keys,by rw[e2];exact hM.born,fun x hx=>?_⟩
  ·obtain⟨y,hy,h1,_⟩:=hmem x hx;rw[h1];exact hM.len y hy
  ·obtain⟨y,hy,_,h1⟩:=hmem x hx;show x.2.2<M.clk;rw[h1];exact hM.clk y hy
theorem MpOK.del{n:Nat}{M:Mp}(hM:MpOK n M)(k:List Int):MpOK n (M.del k):=by
 unfold Mp.del;cases hf:M.es.findIdx? (·.1==k)with
 |none=>exact hM
 |some i =>
  have hs:(M.es.eraseIdx i).Sublist M.es:=List.eraseIdx_sublist _ _;exact⟨fun x hx=>hM.len x (hs.subset hx),hM.keys.sublist (hs.map _),hM.born.sublist (hs.map _),fun x hx=>hM.clk x (hs.subset hx)⟩
theorem MpOK.nil(n:Nat):MpOK n Mp.nil:=⟨fun x hx=>(by cases hx),List.nodup_nil,List.nodup_nil,fun x hx=>(by cases hx)⟩
end Sx
end Go
namespace Go
namespace Sx
section
variable {cx:Cx} {B:Tabs} {o:Oper} {e:Env} {H:Je} {nx:Nat} {K:Eff→Prop}
theorem ac1{t:TypeId}(vs:Bool)(n:Nat)(ho:o.op=.makeMap t none)
 (h:K ⟨.c (.m nx),[],[(nx,true,Jw vs n Mp.nil)],[nx]⟩):∃F,CallOK cx o e H nx F∧K F:=by
 refine⟨_,⟨Ws (by simp[ho]) (by rw[SV.below_c];intro j hj;simp[SC.nms]at hj;omega) ?_ ?_,fun j hj=>by simp at hj;subst hj;simp⟩,h⟩
 ·intro n _ j hj;simp[Jw,SO.uses]at hj
 ·intro ρ a w _ _;refine⟨.map (some w.heap.size), .map #[] 0,0, ?_, ?_, ?_⟩
  ·simp only[execOp,ho,Sem.run_bind,Option.mapM_none];rfl
  ·simp only[SV.rel,SC.rel,Jq]
  ·refine⟨trivial,(fun i j c hc=>by simp[Jw,SO.cell?]at hc),(fun _ hx=>absurd rfl (hx _)),(fun _=>by rw[Jq]),(fun Ψ hΨ=>?_),(fun _ hb=>by cases hb),(fun _ hb=>by cases hb),(fun _ hb=>by cases hb)⟩;cases hΨ;rw[Jq];exact⟨_,KF w _,rfl,MpOK.nil n⟩
def cD2(s:Bool)(l:List Int):Sum SC (List SC):=bif s then .inr (l.map fun z=>.v (.int .i64 z))else .inl (.v (.int .i64 (l.headD 0)))
def svW(s:Bool)(l:List Int):SV:=bif s then .agg (l.map fun z=>.v (.int .i64 z))else .c (.v (.int .i64 (l.headD 0)))
theorem aP3(ρ:Jn):∀l:List Int,Yb ρ (l.map fun z=>SC.v (.int .i64 z)) (l.map (Value.int .i64))
 | []=>trivial
 |_::l=>⟨rfl,aP3 ρ l⟩
theorem cv7(ρ:Jn)(s:Bool)(l:List Int):(svW s l).rel ρ (GI s l):=by
 cases s with
 |false=>exact rfl
 |true=>exact⟨_,rfl,by show Yb ρ _ (l.map (Value.int .i64)).toArray.toList;exact aP3 ρ l⟩
theorem an7(ks:List Nat):∀l:List Int,XP ks (l.map fun z=>SC.v (.int .i64 z))=false
 | []=>rfl
 |_::l=>an7 ks l
theorem ci9(ks:List Nat)(s:Bool)(l:List Int):(svW s l).uses ks=false:=by
 cases s with
 |false=>rfl
 |true=>exact an7 ks l
theorem ay9{ρ:Jn}{l:List SC}{k:List Int}{v:Value}(hk:Gu l=some k)(h:(SV.agg l).rel ρ v):v=Yv k:=by
 obtain⟨cs,rfl,hr⟩:=h;have:=aZ6 hk hr;show Value.agg cs=.agg _;congr 1;exact Array.toList_inj.1 (by rw[this])
def bL2(s:Bool):SV→Option (List Int)
 | .c (.v (.int .i64 z))=>bif s then none else some [z]
 | .agg l=>bif s then Gu l else none
 |_=>none
theorem bs3{ρ:Jn}{s:Bool}{y:SV}{l:List Int}{v:Value}(h:bL2 s y=some l)(hr:y.rel ρ v):v=GI s l:=by
 unfold bL2 at h;split at h
 ·cases s with
  |true=>cases h
  |false=>cases h;exact hr
 ·cases s with
  |false=>cases h
  |true=>exact ay9 h hr
 ·cases h
theorem JL(hB:TabsOK cx.P B){t kt et s0 b0:TypeId}{zz:List Value}{x y:Operand}{ok own vs:Bool}{kx n:Nat}{M:Mp}{l:List SC}{k:List Int}(z0 v:List Int)(is:Bool)
 (hK:KeyW cx.P kt n) (hz0:∀w,(zeroValue et).run cx.P w=.ok (GI vs z0) w) (ho:o.op=.lookup t x y ok) (ht:Ji B.T t=some ⟨.map kt et,s0,b0,zz⟩)
 (hx:ev e x=.c (.m kx)) (hy:ev e y=.agg l) (hk:Gu l=some k) (hkn:k.length=n) (hl:look H kx=some (own,Jw vs n M)) (hv:(M.get k).getD z0=v) (his:(M.get k).isSome=is)
 (h:K ⟨bif ok then .tup [cD2 vs v, .inl (.v (.bool is))]else svW vs v,[kx],[],[]⟩):∃F,CallOK cx o e H nx F∧K F:=by
 have hxo:x∈o.op.operands.toList:=by simp[ho,Op.operands]
 have hyo:y∈o.op.operands.toList:=by simp[ho,Op.operands]
 refine⟨_,⟨?_,fun j hj=>by cases hj⟩,h⟩;intro ρ s a w hs hr hkr _ hdst KK Q hKK;have hl1:look s.H kx=some (own,Jw vs n M):=by rw[hkr kx (by simp)];exact hl
 have hx1:=Jg hxo (fun t ht=>by rw[←hr t ht];exact hs.env t);have hy1:=Jg hyo (fun t ht=>by rw[←hr t ht];exact hs.env t);rw[hx]at hx1;simp only[SV.rel,SC.rel]at hx1;rw[hy]at hy1;have hya:a.eval y=Yv k:=ay9 hk hy1;obtain⟨ob,hob,rfl,hM⟩:=(hs.heap.reg kx own _ hl1).keys _ rfl;have hrun:(execOp a.eval o).run cx.P w=.ok (.value (bif ok then .tuple #[GI vs v, .bool is]else GI vs v)) w:=by
  rcases aP2 (P:=cx.P) (w:=w) hK (vs:=vs) hM hkn with ⟨h1,_,_,h4⟩|⟨j,x',h1,h2,h3,h4,h5⟩
  ·have e1:M.get k=none:=by unfold Mp.get;rw[h4];rfl
   rw[e1]at hv his;subst hv;subst his;simp only[execOp,ho,Instr.lookup,hx1,hya,Sem.run_bind,run_underlying (Kl hB ht),Result.andThen_ok,MapKept.run_getObj_map hob,Sem.run_pure,hK.chk _ k w hkn,h1,hz0];cases ok <;> simp
  ·have e1:M.get k=some x'.2.1:=by unfold Mp.get;rw[h5];rfl
   rw[e1]at hv his;subst hv;subst his;simp only[execOp,ho,Instr.lookup,hx1,hya,Sem.run_bind,run_underlying (Kl hB ht),Result.andThen_ok,MapKept.run_getObj_map hob,Sem.run_pure,hK.chk _ k w hkn,h1];cases ok <;> simp
 refine JQ (by simp[ho]) hrun (hKK ρ _ w ?_ (fun _ _=>rfl));refine hs.putO hdst ?_ ?_
 ·cases ok with
  |false=>exact cv7 ρ vs v
  |true =>
   refine⟨_,rfl, ?_⟩;cases vs with
   |false=>exact⟨rfl,rfl,trivial⟩
   |true=>exact⟨⟨_,rfl,by show Yb ρ _ (v.map (Value.int .i64)).toArray.toList;exact aP3 ρ v⟩,rfl,trivial⟩
 ·intro j hj;cases ok with
  |false=>have:=ci9 [j] vs v;simp only[cond_false]at hj;rw[this]at hj;cases hj
  |true =>
   cases vs with
   |false=>cases hj
   |true =>
    have h2:Ks [j] [Sum.inr (v.map fun z=>SC.v (.int .i64 z)), .inl (.v (.bool is))]=true:=hj;simp only[Ks,an7,cond_false]at h2;cases h2
theorem bL3{P:Program}{w:World}{t kt et n:TypeId}{vs:Bool}{M:Mp}{r:Nat}{k v:List Int}(hu:P.underlying t=some (.map kt et))(hK:KeyW P kt n)(hM:MpOK n M)(hkn:k.length=n)(hob:w.heap[r]? = some (Ww vs M)) :
 (Instr.mapUpdate t (.map (some r)) (Yv k) (GI vs v)).run P w=.ok () (w.putObj r (Ww vs (M.put k v))):=by
 have hob':w.heap[r]? = some (.map (M.es.map (Qw vs)).toArray M.clk):=hob;rcases aP2 (P:=P) (w:=w) hK (vs:=vs) hM hkn with ⟨h1,_,h3,_⟩|⟨j,x',h1,h2,h3,h4,h5⟩
 ·simp only[Instr.mapUpdate,Sem.run_bind,run_underlying hu,Result.andThen_ok,MapKept.run_getObj_map hob',Sem.run_pure,hK.chk _ k w hkn,h1,MapKept.run_setObj_map _ hob'];unfold Ww Mp.put;rw[h3];simp[Qw];rfl
 ·have hj:((M.es.map (Qw vs)).toArray[j]?)=some (Qw vs x'):=by rw[List.getElem?_toArray,List.getElem?_map,h2];rfl
  have hkey:(Qw vs x').key=Yv k:=by rw[←h3];rfl
  simp only[Instr.mapUpdate,Sem.run_bind,run_underlying hu,Result.andThen_ok,MapKept.run_getObj_map hob',Sem.run_pure,hK.chk _ k w hkn,h1,hj,Option.map_some,Option.getD_some,hkey,hK.stays k w,MapKept.run_setObj_map _ hob'];unfold Ww Mp.put;rw[h4];have e1:(M.es.map (Qw vs)).toArray.modify j (fun e=>{ e with key:=Yv k,val:=GI vs v })=((M.es.modify j fun x=>(k,v,x.2.2)).map (Qw vs)).toArray:=by
   apply Array.toList_inj.1;rw[Array.toList_modify];exact(aa2 (γ:=Unit) (Qw vs) _ _ (fun _=>True) M.es j (fun x _=>rfl)).symm
  rw[e1];rfl
theorem WS(hB:TabsOK cx.P B){t kt et s0 b0:TypeId}{zz:List Value}{x y z:Operand}{vs:Bool}{kx n:Nat}{M:Mp}{l:List SC}{k v:List Int}
 (hK:KeyW cx.P kt n) (ho:o.op=.mapUpdate t x y z) (ht:Ji B.T t=some ⟨.map kt et,s0,b0,zz⟩)
 (hx:ev e x=.c (.m kx)) (hy:ev e y=.agg l) (hk:Gu l=some k) (hz:bL2 vs (ev e z)=some v) (hkn:k.length=n) (hl:look H kx=some (true,Jw vs n M))
 (h:K ⟨.c .junk,[kx],[(kx,true,Jw vs n (M.put k v))],[]⟩):∃F,CallOK cx o e H nx F∧K F:=by
 have hxo:x∈o.op.operands.toList:=by simp[ho,Op.operands]
 have hyo:y∈o.op.operands.toList:=by simp[ho,Op.operands]
 have hzo:z∈o.op.operands.toList:=by simp[ho,Op.operands]
 refine⟨_,⟨?_,fun j hj=>by cases hj⟩,h⟩;intro ρ s a w hs hr hkr _ hdst KK Q hKK;have hl1:look s.H kx=some (true,Jw vs n M):=by rw[hkr kx (by simp)];exact hl
 have hx1:=Jg hxo (fun t ht=>by rw[←hr t ht];exact hs.env t);have hy1:=Jg hyo (fun t ht=>by rw[←hr t ht];exact hs.env t);have hz1:=Jg hzo (fun t ht=>by rw[←hr t ht];exact hs.env t);rw[hx]at hx1;simp only[SV.rel,SC.rel]at hx1;rw[hy]at hy1;have hya:a.eval y=Yv k:=ay9 hk hy1;have hza:a.eval z=GI vs v:=bs3 hz hz1;obtain⟨ob,hob,rfl,hM⟩:=(hs.heap.reg kx true _ hl1).keys _ rfl;have hrun:(execOp a.eval o).run cx.P w=.ok .skip (w.putObj (ρ kx).blk (Ww vs (M.put k v))):=by
  simp only[execOp,ho,hx1,hya,hza,Sem.run_bind,bL3 (Kl hB ht) hK hM hkn hob,Result.andThen_ok,Sem.run_pure]
 have hs':=hs.setObj hl1 (Φ':=fun x=>x=Ww vs (M.put k v)∧MpOK n (M.put k v)) (Ww vs (M.put k v)) ⟨rfl,hM.put hkn v⟩;refine ac8 (by simp[ho]) hrun (hKK ρ _ _ ?_ (fun _ _=>rfl));exact hs'.putO (sv:=.c .junk) hdst trivial (by rw[SV.below_c];intro j hj;cases hj)
theorem bi3{α β:Type}(f:α→β):∀(l:List α) (j:Nat),(l.map f).eraseIdx j=(l.eraseIdx j).map f
 | [],_=>rfl
 |_::_,0=>rfl
 |a::l,j+1=>by
  show f a::(l.map f).eraseIdx j=f a::(l.eraseIdx j).map f;rw[bi3 f l j]
theorem bL4{P:Program}{w:World}{t kt et n ty:TypeId}{vs:Bool}{M:Mp}{r:Nat}{k:List Int}(hu:P.underlying t=some (.map kt et))(hK:KeyW P kt n)(hM:MpOK n M)(hkn:k.length=n)(hob:w.heap[r]? = some (Ww vs M)) :
 (Builtin.delete_ #[t,kt] ty #[.map (some r),Yv k]).run P w=.ok (.tuple #[]) (w.putObj r (Ww vs (M.del k))):=by
 have hob':w.heap[r]? = some (.map (M.es.map (Qw vs)).toArray M.clk):=hob;rcases aP2 (P:=P) (w:=w) hK (vs:=vs) hM hkn with ⟨h1,_,h3,_⟩|⟨j,x',h1,h2,h3,h4,h5⟩
 ·have e:M.del k=M:=by unfold Mp.del;rw[h3]
  rw[e];simp[Builtin.delete_,run_underlying hu,MapKept.run_getObj_map hob',hK.chk _ k w hkn,h1,MapKept.run_setObj_map _ hob'];rfl
 ·have e:M.del k=⟨M.es.eraseIdx j,M.clk⟩:=by unfold Mp.del;rw[h4]
  have hlt:j<M.es.length:=(List.getElem?_eq_some_iff.1 h2).1;rw[e];simp[Builtin.delete_,run_underlying hu,MapKept.run_getObj_map hob',hK.chk _ k w hkn,h1,MapKept.run_setObj_map _ hob'];rw[bi3];rfl
theorem bL5(hB:TabsOK cx.P B){t kt et s0 b0:TypeId}{zz:List Value}{c:Call}{x:Operand}{own vs:Bool}{kx n:Nat}{M:Mp}
 (ho:o.op=.call c) (hc:c.callee=.builtin .len) (ha:c.args=#[x]) (hts:c.argTypes=#[t]) (ht:Ji B.T t=some ⟨.map kt et,s0,b0,zz⟩) (hx:ev e x=.c (.m kx)) (hl:look H kx=some (own,Jw vs n M))
 (h:K ⟨iv .i64 M.es.length,[kx],[],[]⟩):∃F,CallOK cx o e H nx F∧K F:=by
 have hxo:x∈o.op.operands.toList:=by simp[ho,Op.operands,Call.operands,hc,ha]
 refine⟨_,⟨?_,fun j hj=>by cases hj⟩,h⟩;intro ρ s a w hs hr hkr _ hdst KK Q hKK;have hl1:look s.H kx=some (own,Jw vs n M):=by rw[hkr kx (by simp)];exact hl
 have hx1:=Jg hxo (fun t ht=>by rw[←hr t ht];exact hs.env t);rw[hx]at hx1;simp only[SV.rel,SC.rel]at hx1;obtain⟨ob,hob,rfl,hM⟩:=(hs.heap.reg kx own _ hl1).keys _ rfl;have hob':w.heap[(ρ kx).blk]? = some (.map (M.es.map (Qw vs)).toArray M.clk):=hob;have hrun:(execOp a.eval o).run cx.P w=.ok (.value (.int .i64 M.es.length)) w:=by
  rw[Vr ho hc];simp[builtin,ha,hts,Builtin.len_,hx1,run_underlying (Kl hB ht),MapKept.run_getObj_map hob',goInt]
 refine JQ (by simp[ho]) hrun (hKK ρ _ w ?_ (fun _ _=>rfl));exact hs.putO hdst rfl (by rw[SV.below_c];intro j hj;cases hj)
theorem ba4(hB:TabsOK cx.P B){t kt et s0 b0:TypeId}{zz:List Value}{c:Call}{x y:Operand}{vs:Bool}{kx n:Nat}{M:Mp}{l:List SC}{k:List Int}
 (hK:KeyW cx.P kt n) (ho:o.op=.call c) (hc:c.callee=.builtin .delete) (ha:c.args=#[x,y]) (hts:c.argTypes=#[t,kt]) (ht:Ji B.T t=some ⟨.map kt et,s0,b0,zz⟩)
 (hx:ev e x=.c (.m kx)) (hy:ev e y=.agg l) (hk:Gu l=some k) (hkn:k.length=n) (hl:look H kx=some (true,Jw vs n M))
 (h:K ⟨.tup [],[kx],[(kx,true,Jw vs n (M.del k))],[]⟩):∃F,CallOK cx o e H nx F∧K F:=by
 have hxo:x∈o.op.operands.toList:=by simp[ho,Op.operands,Call.operands,hc,ha]
 have hyo:y∈o.op.operands.toList:=by simp[ho,Op.operands,Call.operands,hc,ha]
 refine⟨_,⟨?_,fun j hj=>by cases hj⟩,h⟩;intro ρ s a w hs hr hkr _ hdst KK Q hKK;have hl1:look s.H kx=some (true,Jw vs n M):=by rw[hkr kx (by simp)];exact hl
 have hx1:=Jg hxo (fun t ht=>by rw[←hr t ht];exact hs.env t);have hy1:=Jg hyo (fun t ht=>by rw[←hr t ht];exact hs.env t);rw[hx]at hx1;simp only[SV.rel,SC.rel]at hx1;rw[hy]at hy1;have hya:a.eval y=Yv k:=ay9 hk hy1;obtain⟨ob,hob,rfl,hM⟩:=(hs.heap.reg kx true _ hl1).keys _ rfl;have hrun:(execOp a.eval o).run cx.P w=.ok (.value (.tuple #[])) (w.putObj (ρ kx).blk (Ww vs (M.del k))):=by
  rw[Vr ho hc];have:=bL4 (ty:=o.type) (Kl hB ht) hK hM hkn hob;simp[builtin,ha,hts,hx1,hya,this]
 have hs':=hs.setObj hl1 (Φ':=fun x=>x=Ww vs (M.del k)∧MpOK n (M.del k)) (Ww vs (M.del k)) ⟨rfl,hM.del k⟩;refine JQ (by simp[ho]) hrun (hKK ρ _ _ ?_ (fun _ _=>rfl));exact hs'.putO hdst ⟨#[],rfl,trivial⟩ (by intro j hj;cases hj)
def Mp.stamp(M:Mp)(k:List Int):Nat:=match M.at k with
 |some x=>x.2.2
 |none=>M.clk
def Mp.ent(M:Mp)(k z:List Int):Mp:=match M.at k with
 |some _=>M
 |none=>⟨M.es++[(k,z,M.clk)],M.clk+1⟩
theorem Mp.at_findIdx{M:Mp}{k:List Int}:M.es.findIdx? (·.1==k)=none↔M.at k=none:=by
 unfold Mp.at;rw[List.findIdx?_eq_none_iff,List.find?_eq_none];exact⟨fun h x hx=>by simp[h x hx],fun h x hx=>by simpa using h x hx⟩
theorem MpOK.ent{n:Nat}{M:Mp}(hM:MpOK n M){k:List Int}(hk:k.length=n)(z:List Int):MpOK n (M.ent k z):=by
 unfold Mp.ent;cases ha:M.at k with
 |some x=>exact hM
 |none =>
  have:=hM.put hk z;unfold Mp.put at this;rw[Mp.at_findIdx.2 ha]at this;exact this
theorem aE1(hB:TabsOK cx.P B){t kt et s0 b0:TypeId}{zz:List Value}{x y:Operand}{vs:Bool}{kx n:Nat}{M:Mp}{l:List SC}{k:List Int}(z0 v:List Int)
 (hK:KeyW cx.P kt n) (hz0:∀w,(zeroValue et).run cx.P w=.ok (GI vs z0) w) (ho:o.op=.mapEntry t x y) (ht:Ji B.T t=some ⟨.map kt et,s0,b0,zz⟩)
 (hx:ev e x=.c (.m kx)) (hy:ev e y=.agg l) (hk:Gu l=some k) (hkn:k.length=n) (hl:look H kx=some (true,Jw vs n M)) (hv:(M.get k).getD z0=v)
 (h:K ⟨.tup [cD2 vs v, .inl (.v (.int .i64 (M.stamp k)))],[kx],[(kx,true,Jw vs n (M.ent k z0))],[]⟩):∃F,CallOK cx o e H nx F∧K F:=by
 have hxo:x∈o.op.operands.toList:=by simp[ho,Op.operands]
 have hyo:y∈o.op.operands.toList:=by simp[ho,Op.operands]
 refine⟨_,⟨?_,fun j hj=>by cases hj⟩,h⟩;intro ρ s a w hs hr hkr _ hdst KK Q hKK;have hl1:look s.H kx=some (true,Jw vs n M):=by rw[hkr kx (by simp)];exact hl
 have hx1:=Jg hxo (fun t ht=>by rw[←hr t ht];exact hs.env t);have hy1:=Jg hyo (fun t ht=>by rw[←hr t ht];exact hs.env t);rw[hx]at hx1;simp only[SV.rel,SC.rel]at hx1;rw[hy]at hy1;have hya:a.eval y=Yv k:=ay9 hk hy1;obtain⟨ob,hob,rfl,hM⟩:=(hs.heap.reg kx true _ hl1).keys _ rfl;have hob':w.heap[(ρ kx).blk]? = some (.map (M.es.map (Qw vs)).toArray M.clk):=hob;have hrun:(execOp a.eval o).run cx.P w=.ok (.value (.tuple #[GI vs v, .int .i64 (M.stamp k)])) (w.putObj (ρ kx).blk (Ww vs (M.ent k z0))):=by
  rcases aP2 (P:=cx.P) (w:=w) hK (vs:=vs) hM hkn with ⟨h1,_,h3,h4⟩|⟨j,x',h1,h2,h3,h4,h5⟩
  ·have e1:M.get k=none:=by unfold Mp.get;rw[h4];rfl
   have e2:M.stamp k=M.clk:=by unfold Mp.stamp;rw[h4]
   have e3:M.ent k z0=⟨M.es++[(k,z0,M.clk)],M.clk+1⟩:=by unfold Mp.ent;rw[h4]
   rw[e1]at hv;subst hv;rw[e2,e3];simp only[execOp,ho,Instr.mapEntry,hx1,hya,Sem.run_bind,run_underlying (Kl hB ht),Result.andThen_ok,MapKept.run_getObj_map hob',Sem.run_pure,hK.chk _ k w hkn,h1,hz0,MapKept.run_setObj_map _ hob',goInt];unfold Ww;simp[Qw];rfl
  ·have e1:M.get k=some x'.2.1:=by unfold Mp.get;rw[h5];rfl
   have e2:M.stamp k=x'.2.2:=by unfold Mp.stamp;rw[h5]
   have e3:M.ent k z0=M:=by unfold Mp.ent;rw[h5]
   rw[e1]at hv;subst hv;rw[e2,e3];have hj:((M.es.map (Qw vs)).toArray[j]?)=some (Qw vs x'):=by rw[List.getElem?_toArray,List.getElem?_map,h2];rfl
   have hkey:(Qw vs x').key=Yv k:=by rw[←h3];rfl
   have e4:(M.es.map (Qw vs)).toArray.modify j (fun e=>{ e with key:=Yv k })=(M.es.map (Qw vs)).toArray:=by
    apply Array.ext_getElem?;intro i;rw[Array.getElem?_modify];by_cases hij:j=i
    ·subst hij;rw[if_pos rfl,hj];simp only[Option.map_some];rw[←hkey]
    ·rw[if_neg hij]
   simp only[execOp,ho,Instr.mapEntry,hx1,hya,Sem.run_bind,run_underlying (Kl hB ht),Result.andThen_ok,MapKept.run_getObj_map hob',Sem.run_pure,hK.chk _ k w hkn,h1,hj,Option.map_some,Option.getD_some,hkey,hK.stays k w,MapKept.run_setObj_map _ hob',e4,goInt];rfl
 have hs':=hs.setObj hl1 (Φ':=fun x=>x=Ww vs (M.ent k z0)∧MpOK n (M.ent k z0)) (Ww vs (M.ent k z0)) ⟨rfl,hM.ent hkn z0⟩;refine JQ (by simp[ho]) hrun (hKK ρ _ _ ?_ (fun _ _=>rfl));refine hs'.putO hdst ?_ ?_
 ·refine⟨_,rfl, ?_⟩;cases vs with
  |false=>exact⟨rfl,rfl,trivial⟩
  |true=>exact⟨⟨_,rfl,by show Yb ρ _ (v.map (Value.int .i64)).toArray.toList;exact aP3 ρ v⟩,rfl,trivial⟩
 ·intro j hj;cases vs with
  |false=>cases hj
  |true =>
   have h2:Ks [j] [Sum.inr (v.map fun z=>SC.v (.int .i64 z)), .inl (.v (.int .i64 (M.stamp k)))]=true:=hj;simp only[Ks,an7,cond_false]at h2;cases h2
end
end Sx
end Go
namespace Go.Proofs
open Go.Sx
abbrev Ky:=Int×Int
abbrev Qb(k:Ky):List Int:=[k.1,k.2]
abbrev Gm(k:Ky):SV:=.agg [.v (.int .i64 k.1), .v (.int .i64 k.2)]
theorem YL:KeyW Tryz.prog 62 2:=ci8 cr5 (by simp) (by kernel_rfl) (by kernel_rfl) (by kernel_rfl)
theorem bs4:∀w,(zeroValue 68).run Tryz.prog w=.ok (GI true [0,0,0,0,0]) w:=by intro w;kernel_rfl
theorem Gn:∀w,(zeroValue 218).run Tryz.prog w=.ok (GI true [0,0,0]) w:=by intro w;kernel_rfl
theorem YW:∀w,(zeroValue 3).run Tryz.prog w=.ok (GI false [0]) w:=by intro w;kernel_rfl
def Yk(m:Nat)(M:Mp):Prop:=∀x∈M.es,x.2.1.length=m
theorem Yk.nil(m:Nat):Yk m Mp.nil:=fun x hx=>by cases hx
theorem Yk.put{m:Nat}{M:Mp}(h:Yk m M)(k:List Int){v:List Int}(hv:v.length=m):Yk m (M.put k v):=by
 unfold Mp.put;cases hf:M.es.findIdx? (·.1==k)with
 |none =>
  intro x hx;rcases List.mem_append.1 hx with hx|hx
  ·exact h x hx
  ·rw[List.mem_singleton.1 hx];exact hv
 |some i =>
  intro x hx;obtain⟨j,hj⟩:=List.getElem?_of_mem (show x∈M.es.modify i _ from hx);rw[List.getElem?_modify]at hj;obtain⟨y,hy,hxy⟩:=Option.map_eq_some_iff.1 hj;by_cases e:i=j
  ·rw[if_pos e]at hxy;rw[←hxy];exact hv
  ·rw[if_neg e]at hxy;rw[←hxy];exact h y (List.mem_of_getElem? hy)
theorem Yk.del{m:Nat}{M:Mp}(h:Yk m M)(k:List Int):Yk m (M.del k):=by
 unfold Mp.del;cases hf:M.es.findIdx? (·.1==k)with
 |none=>exact h
 |some i=>exact fun x hx=>h x ((List.eraseIdx_sublist _ _).subset hx)
theorem Yk.get{m:Nat}{M:Mp}(h:Yk m M){k v:List Int}(hg:M.get k=some v):v.length=m:=by
 unfold Mp.get Mp.at at hg;obtain⟨x,hx,rfl⟩:=Option.map_eq_some_iff.1 hg;exact h x (List.mem_of_find?_eq_some hx)
structure Hd where
 state:Int
 station:Int
 number:Int
 till:Int
 mass:Int
abbrev hdL(h:Hd):List Int:=[h.state,h.station,h.number,h.till,h.mass]
abbrev UE(h:Hd):List SC:=[.v (.int .i64 h.state), .v (.int .i64 h.station), .v (.int .i64 h.number), .v (.int .i64 h.till), .v (.int .i64 h.mass)]
def hd0:Hd:=⟨0,0,0,0,0⟩
def cD3:List Int→Hd
 | [a,b,c,d,e]=>⟨a,b,c,d,e⟩
 |_=>hd0
theorem cD4{l:List Int}(h:l.length=5):hdL (cD3 l)=l:=by
 match l,h with
 | [a,b,c,d,e],_=>rfl
structure Dsk where
 lease:Int
 time:Int
 last:Int
 known:Mp
def Dsk.held(d:Dsk)(k:Ky):Hd:=match d.known.get (Qb k)with
 |some l=>cD3 l
 |none=>hd0
def Dsk.has(d:Dsk)(k:Ky):Bool:=(d.known.get (Qb k)).isSome
theorem Dsk.held_get{d:Dsk}(hv:Yk 5 d.known)(k:Ky):(d.known.get (Qb k)).getD [0,0,0,0,0]=hdL (d.held k):=by
 unfold Dsk.held;cases hg:d.known.get (Qb k)with
 |none=>rfl
 |some l=>exact(cD4 (hv.get hg)).symm
abbrev VZ(km:Nat)(d:Dsk):SO:=.cells [.v (.int .i64 d.lease), .v (.int .i64 d.time), .v (.int .i64 d.last), .m km]
abbrev Wa(d:Dsk):Je:=[(0,true,VZ 1 d),(1,true,Jw true 2 d.known)]
def bf2(k:Ky):Bool:=Jf k.1 1 1099511627776&&Jf k.2 1 200
theorem cs3(k:Ky):Triple Tryz.prog 149 [Gm k] [] 0 (bv (bf2 k)) []:=by
 refine Jc Ja Tryz.func149 rfl Tryz.call149 rfl ?_;intro ρ w hH;conv=>whnf
 refine Jb (JA k.1 1 1099511627776) rfl rfl ?_;conv=>whnf
 refine cs ?_;conv=>whnf
 refine⟨fun hc=>?_,fun hc=>?_⟩
 ·conv=>whnf
  refine Jb (JA k.2 1 200) rfl rfl ?_;conv=>whnf
  refine cs ?_;conv=>whnf
  exact⟨(by rw[hc];rfl:Jf k.2 1 200=(Jf k.1 1 1099511627776&&Jf k.2 1 200)),trivial⟩
 ·conv=>whnf
  exact⟨(by rw[hc];rfl:false=(Jf k.1 1 1099511627776&&Jf k.2 1 200)),trivial⟩
def YK(d:Dsk)(now:Int):Dsk:={ d with time:=max d.time (min now 1000000) }
def YZ(d:Dsk)(now:Int)(k:Ky):Hd:=if(d.held k).state=2∧(d.held k).till<(YK d now).time then⟨1,0,0,0,0⟩else d.held k
theorem bL6(d:Dsk)(hv:Yk 5 d.known)(now:Int)(k:Ky) :
 Triple Tryz.prog 111 [.c (.p 0 0 0 0),iv .i64 now,Gm k] (Wa d) 2 (.tup [.inr (UE (YZ d now k)), .inl (.v (.bool (d.has k)))]) (Wa (YK d now)):=by
 obtain⟨h,hh⟩:∃h,d.held k=h:=⟨_,rfl⟩;have hg:=d.held_get hv k;rw[hh]at hg;have hat:YZ d now k=if h.state=2∧h.till<max d.time (min now 1000000)then⟨1,0,0,0,0⟩else h:=by unfold YZ;rw[hh];rfl
 refine Jc Ja Tryz.func111 rfl Tryz.call111 rfl ?_;intro ρ w hH;conv=>whnf
 refine JL Ja (k:=Qb k) (vs:=true) [0,0,0,0,0] (hdL h) (d.has k) YL bs4 rfl rfl rfl rfl rfl rfl rfl hg rfl ?_;conv=>whnf
 by_cases h1:h.state=2
 ·have e1:(h.state==2)=true:=by rw[h1];rfl
  refine⟨fun hc=>?_,fun hc=>absurd (e1.symm.trans hc) (by decide)⟩;conv=>whnf
  by_cases h2:h.till<max d.time (min now 1000000)
  ·refine⟨fun hc=>?_,fun hc=>absurd h2 (of_decide_eq_false hc)⟩;rw[show YZ d now k=⟨1,0,0,0,0⟩from by rw[hat,if_pos ⟨h1,h2⟩]];conv=>whnf
   exact cl
  ·refine⟨fun hc=>absurd (of_decide_eq_true hc) h2,fun hc=>?_⟩;rw[show YZ d now k=h from by rw[hat,if_neg fun x=>h2 x.2]];conv=>whnf
   exact cl
 ·have e1:(h.state==2)=false:=by simp[h1]
  refine⟨fun hc=>absurd (e1.symm.trans hc) (by decide),fun hc=>?_⟩;rw[show YZ d now k=h from by rw[hat,if_neg fun x=>h1 x.1]];conv=>whnf
  exact cl
theorem cD5(d:Dsk)(hv:Yk 5 d.known)(now:Int)(k:Ky) :
 Triple Tryz.prog 59 [.c (.p 0 0 0 0),iv .i64 now,Gm k] (Wa d) 2 (.tup [.inr (UE (YZ d now k)), .inl (.v (.bool (d.has k)))]) (Wa (YK d now)):=by
 refine Jc Ja Tryz.func59 rfl Tryz.call59 rfl ?_;intro ρ w hH;conv=>whnf
 refine Jb (bL6 d hv now k) rfl rfl ?_;conv=>whnf
 refine cs ?_;conv=>whnf
 exact cl
abbrev upD(d:Dsk)(k:Ky)(h:Hd):Dsk:={ d with known:=d.known.put (Qb k) (hdL h) }
def ad9(d:Dsk)(now:Int)(k:Ky):Int×Dsk :=
 if d.has k=false then(5,YK d now)
 else if(YZ d now k).state=4∨(YZ d now k).state=5 then(4,YK d now)
 else(0,upD (YK d now) k ⟨5,0,0,0,0⟩)
theorem cD6(d:Dsk)(hv:Yk 5 d.known)(now:Int)(k:Ky) :
 Triple Tryz.prog 56 [.c (.p 0 0 0 0),iv .i64 now,Gm k] (Wa d) 2 (iv .i64 (ad9 d now k).1) (Wa (ad9 d now k).2):=by
 have hat:=bL6 d hv now k;have hl:ad9 d now k=if d.has k=false then(5,YK d now)else if(YZ d now k).state=4∨(YZ d now k).state=5 then(4,YK d now)else(0,upD (YK d now) k ⟨5,0,0,0,0⟩):=rfl
 generalize ad9 d now k=R at hl ⊢;generalize YK d now=d1 at hat hl;generalize YZ d now k=h at hat hl;refine Jc Ja Tryz.func56 rfl Tryz.call56 rfl ?_;intro ρ w hH;conv=>whnf
 refine Jb hat rfl rfl ?_;conv=>whnf
 refine cs ?_;conv=>whnf
 cases hh:d.has k with
 |false =>
  rw[hh,if_pos rfl]at hl;subst hl;refine nT fun hc=>?_;conv=>whnf
  exact cl
 |true =>
  rw[hh,if_neg (by decide)]at hl;refine nF fun hc=>?_;conv=>whnf
  by_cases h4:h.state=4
  ·have e:(h.state==4)=true:=by rw[h4];rfl
   rw[if_pos (.inl h4)]at hl;subst hl;refine⟨fun hc=>?_,fun hc=>absurd (e.symm.trans hc) (by decide)⟩;conv=>whnf
   exact cl
  ·have e:(h.state==4)=false:=by simp[h4]
   refine⟨fun hc=>absurd (e.symm.trans hc) (by decide),fun hc=>?_⟩;conv=>whnf
   by_cases h5:h.state=5
   ·have e:(h.state==5)=true:=by rw[h5];rfl
    rw[if_pos (.inr h5)]at hl;subst hl;refine⟨fun hc=>?_,fun hc=>absurd (e.symm.trans hc) (by decide)⟩;conv=>whnf
    exact cl
   ·have e:(h.state==5)=false:=by simp[h5]
    rw[if_neg (fun h=>h.elim h4 h5)]at hl;subst hl;refine⟨fun hc=>absurd (e.symm.trans hc) (by decide),fun hc=>?_⟩;conv=>whnf
    refine WS Ja (k:=Qb k) (v:=[5,0,0,0,0]) YL rfl rfl rfl rfl rfl rfl rfl rfl ?_;conv=>whnf
    exact cl
theorem cI2(d:Dsk)(hv:Yk 5 d.known)(x:Vj)(hlen:d.known.es.length<480)(hk:bf2 (x.1,x.2.1)=true)(hs:Jf x.2.2 1 200=true)(hn:d.has (x.1,x.2.1)=false) :
 Triple Tryz.prog 96 [.c (.p 0 0 0 0), .agg [.v (.int .i64 x.1), .v (.int .i64 x.2.1), .v (.int .i64 x.2.2)]] (Wa d) 2 (iv .i64 0) (Wa (upD d (x.1,x.2.1) ⟨1,0,0,0,0⟩)):=by
 have hkt:=cs3 (x.1,x.2.1);have hst:=JA x.2.2 1 200;rw[hk]at hkt;rw[hs]at hst;have hg:d.known.get (Qb (x.1,x.2.1))=none:=by
  unfold Dsk.has at hn;cases h:d.known.get (Qb (x.1,x.2.1))with
  |none=>rfl
  |some l=>rw[h]at hn;cases hn
 refine Jc Ja Tryz.func96 rfl Tryz.call96 rfl ?_;intro ρ w hH;conv=>whnf
 refine JL Ja (k:=Qb (x.1,x.2.1)) (vs:=true) [0,0,0,0,0] [0,0,0,0,0] false YL bs4 rfl rfl rfl rfl rfl rfl rfl (by rw[hg];rfl) (by rw[hg];rfl) ?_;conv=>whnf
 refine bL5 Ja rfl rfl rfl rfl rfl rfl rfl ?_;conv=>whnf
 refine⟨fun hc=>?_,fun hc=>?_⟩
 ·exact absurd (of_decide_eq_true hc) (by omega)
 conv=>whnf
 refine Jb hkt rfl rfl ?_;conv=>whnf
 refine cs ?_;conv=>whnf
 refine nF fun hc=>?_;conv=>whnf
 refine Jb hst rfl rfl ?_;conv=>whnf
 refine cs ?_;conv=>whnf
 refine nF fun hc=>?_;conv=>whnf
 refine nF fun hc=>?_;conv=>whnf
 refine WS Ja (k:=Qb (x.1,x.2.1)) (v:=[1,0,0,0,0]) YL rfl rfl rfl rfl rfl rfl rfl rfl ?_;conv=>whnf
 exact cl
end Go.Proofs
namespace Go
namespace Sx
theorem MpOK.of_ent{n:Nat}{M:Mp}{k z:List Int}(h:MpOK n (M.ent k z)):MpOK n M:=by
 unfold Mp.ent at h;cases ha:M.at k with
 |some x=>rw[ha]at h;exact h
 |none =>
  rw[ha]at h;have hb:=h.born;rw[List.map_append]at hb;have hk:=h.keys;rw[List.map_append]at hk;refine⟨fun x hx=>h.len x (List.mem_append.2 (.inl hx)),(List.nodup_append.1 hk).1,(List.nodup_append.1 hb).1,fun x hx=>?_⟩;have h1:x.2.2<M.clk+1:=h.clk x (List.mem_append.2 (.inl hx));have h2:=(List.nodup_append.1 hb).2.2 x.2.2 (List.mem_map.2 ⟨x,hx,rfl⟩) M.clk (by simp);omega
theorem Mp.ent_idx{n:Nat}{M:Mp}(h:MpOK n M)(k z:List Int):∃j x,(M.ent k z).es[j]? = some x∧x.1=k∧x.2.2=M.stamp k∧(∀i y,(M.ent k z).es[i]? = some y→y.2.2=M.stamp k→i=j) ∧
 ∀v,M.put k v=⟨(M.ent k z).es.modify j fun x=>(x.1,v,x.2.2),(M.ent k z).clk⟩:=by
 cases ha:M.at k with
 |some x =>
  have hx:=List.mem_of_find?_eq_some ha;have hxk:x.1=k:=by simpa using List.find?_some ha
  cases hf:M.es.findIdx? (·.1==k)with
  |none=>exact absurd (Mp.at_findIdx.1 hf) (by rw[ha];simp)
  |some j =>
   obtain⟨hlt,hjk,hmin⟩:=List.findIdx?_eq_some_iff_getElem.1 hf;have hjk:(M.es[j]).1=k:=by simpa using hjk
   obtain⟨i,hi⟩:=List.getElem?_of_mem hx;have hij:i=j:=by
    have h1:(M.es.map (·.1))[i]? = some k:=by rw[List.getElem?_map,hi];simp[hxk]
    have h2:(M.es.map (·.1))[j]? = some k:=by rw[List.getElem?_map,List.getElem?_eq_getElem hlt];simp[hjk]
    exact(List.getElem?_inj (List.getElem?_eq_some_iff.1 h1).1 h.keys).1 (by rw[h1,h2])
   subst hij;have he:M.ent k z=M:=by unfold Mp.ent;rw[ha]
   have hs:M.stamp k=x.2.2:=by unfold Mp.stamp;rw[ha]
   rw[he,hs];refine⟨i,x,hi,hxk,rfl,fun i' y hy hyb=>?_,fun v=>?_⟩
   ·have h1:(M.es.map (·.2.2))[i']? = some x.2.2:=by rw[List.getElem?_map,hy];simp[hyb]
    have h2:(M.es.map (·.2.2))[i]? = some x.2.2:=by rw[List.getElem?_map,hi];rfl
    exact(List.getElem?_inj (List.getElem?_eq_some_iff.1 h1).1 h.born).1 (by rw[h1,h2])
   ·unfold Mp.put;rw[hf];show(⟨_,_⟩:Mp)=⟨_,_⟩;congr 1;refine List.ext_getElem? fun q=>?_;rw[List.getElem?_modify,List.getElem?_modify];by_cases e:i=q
    ·subst e;rw[hi];simp[hxk]
    ·simp[e]
 |none =>
  have he:M.ent k z=⟨M.es++[(k,z,M.clk)],M.clk+1⟩:=by unfold Mp.ent;rw[ha]
  have hs:M.stamp k=M.clk:=by unfold Mp.stamp;rw[ha]
  rw[he,hs];refine⟨M.es.length,(k,z,M.clk),by simp,rfl,rfl,fun i' y hy hyb=>?_,fun v=>?_⟩
  ·have hy:(M.es++[(k,z,M.clk)])[i']? = some y:=hy;by_cases hl:i'<M.es.length
   ·rw[List.getElem?_append_left hl]at hy;have:=h.clk y (List.mem_of_getElem? hy);omega
   ·have:=(List.getElem?_eq_some_iff.1 hy).1;simp at this;omega
  ·unfold Mp.put;rw[Mp.at_findIdx.2 ha];show(⟨_,_⟩:Mp)=⟨_,_⟩;congr 1;refine List.ext_getElem? fun q=>?_;rw[List.getElem?_modify];by_cases hq:q<M.es.length
   ·rw[List.getElem?_append_left hq,List.getElem?_append_left hq];have:¬M.es.length=q:=by omega
    simp[this]
   ·rw[List.getElem?_append_right (by omega),List.getElem?_append_right (by omega)];by_cases e:q=M.es.length
    ·subst e;simp
    ·rw[List.getElem?_eq_none (by simp;omega),List.getElem?_eq_none (by simp;omega)];rfl
section
variable {cx:Cx} {B:Tabs} {o:Oper} {e:Env} {H:Je} {nx:Nat} {K:Eff→Prop}
theorem aE2{t:TypeId}{x y z:Operand}{vs:Bool}{kx n:Nat}(M:Mp)(k z0:List Int){v:List Int}(ho:o.op=.entryStore t x y z)
 (hx:ev e x=.c (.m kx)) (hy:ev e y=.c (.v (.int .i64 (M.stamp k)))) (hz:bL2 vs (ev e z)=some v) (hkn:k.length=n) (hl:look H kx=some (true,Jw vs n (M.ent k z0)))
 (h:K ⟨.c .junk,[kx],[(kx,true,Jw vs n (M.put k v))],[]⟩):∃F,CallOK cx o e H nx F∧K F:=by
 have hxo:x∈o.op.operands.toList:=by simp[ho,Op.operands]
 have hyo:y∈o.op.operands.toList:=by simp[ho,Op.operands]
 have hzo:z∈o.op.operands.toList:=by simp[ho,Op.operands]
 refine⟨_,⟨?_,fun j hj=>by cases hj⟩,h⟩;intro ρ s a w hs hr hkr _ hdst KK Q hKK;have hl1:look s.H kx=some (true,Jw vs n (M.ent k z0)):=by rw[hkr kx (by simp)];exact hl
 have hx1:=Jg hxo (fun t ht=>by rw[←hr t ht];exact hs.env t);have hy1:=Jg hyo (fun t ht=>by rw[←hr t ht];exact hs.env t);have hz1:=Jg hzo (fun t ht=>by rw[←hr t ht];exact hs.env t);rw[hx]at hx1;rw[hy]at hy1;simp only[SV.rel,SC.rel]at hx1 hy1;have hza:a.eval z=GI vs v:=bs3 hz hz1;obtain⟨ob,hob,rfl,hM1⟩:=(hs.heap.reg kx true _ hl1).keys _ rfl;have hM:=hM1.of_ent;obtain⟨j,x',hj,hxk,hxb,huq,hput⟩:=Mp.ent_idx hM k z0;have hob':w.heap[(ρ kx).blk]? = some (.map ((M.ent k z0).es.map (Qw vs)).toArray (M.ent k z0).clk):=hob;have hfi:(((M.ent k z0).es.map (Qw vs)).toArray.findIdx? fun e:MapEntry=>(e.born:Int)==(M.stamp k:Int))=some j:=by
  rw[List.findIdx?_toArray,List.findIdx?_eq_some_iff_getElem];have hlt:j<(M.ent k z0).es.length:=(List.getElem?_eq_some_iff.1 hj).1;have hg:∀i (hi:i<((M.ent k z0).es.map (Qw vs)).length),(((M.ent k z0).es.map (Qw vs))[i]'hi).born=((M.ent k z0).es[i]'(by simpa using hi)).2.2:=fun i hi=>by rw[List.getElem_map];rfl
  refine⟨by rw[List.length_map];exact hlt, ?_,fun i hi=>?_⟩
  ·rw[hg];rw[List.getElem?_eq_getElem hlt]at hj;rw[Option.some.inj hj,hxb];simp
  ·have hil:i<(M.ent k z0).es.length:=by omega
   rw[hg];intro hb;have hb:(((M.ent k z0).es[i]).2.2:Int)=(M.stamp k:Int):=by simpa using hb
   have:=huq i _ (List.getElem?_eq_getElem hil) (by omega);omega
 have e1:((M.ent k z0).es.map (Qw vs)).toArray.modify j (fun e=>{ e with val:=GI vs v })=((M.put k v).es.map (Qw vs)).toArray:=by
  rw[hput v];apply Array.toList_inj.1;rw[Array.toList_modify];exact(aa2 (γ:=Unit) (Qw vs) _ _ (fun _=>True) (M.ent k z0).es j (fun x _=>rfl)).symm
 have e2:(M.ent k z0).clk=(M.put k v).clk:=by rw[hput v]
 have hrun:(execOp a.eval o).run cx.P w=.ok .skip (w.putObj (ρ kx).blk (Ww vs (M.put k v))):=by
  have ha:(asInt (.int .i64 (M.stamp k))).run cx.P w=.ok (M.stamp k:Int) w:=by simp[asInt,asIntOf]
  simp only[execOp,ho,Instr.entryStore,hx1,hy1,hza,Sem.run_bind,Sem.run_pure,Result.andThen_ok,MapKept.run_getObj_map hob',ha,hfi,MapKept.run_setObj_map _ hob',e1,e2];rfl
 have hs':=hs.setObj hl1 (Φ':=fun x=>x=Ww vs (M.put k v)∧MpOK n (M.put k v)) (Ww vs (M.put k v)) ⟨rfl,hM.put hkn v⟩;refine ac8 (by simp[ho]) hrun (hKK ρ _ _ ?_ (fun _ _=>rfl));exact hs'.putO (sv:=.c .junk) hdst trivial (by rw[SV.below_c];intro j hj;cases hj)
end
end Sx
end Go
namespace Go
namespace Sx
section
variable {cx:Cx} {B:Tabs} {o:Oper} {e:Env} {H:Je} {nx:Nat} {K:Eff→Prop}
theorem Uy{g:FuncId}{x:Operand}{k sz:Nat}(ho:o.op=.makeFunc (.func g) #[x] #[])(hx:ev e x=.c (.p k 0 sz 0))(hk:k<cx.n0)
 (h:K ⟨.c (.v (.func (.func g) #[.pointer (some (Jr cx.ρ0 k 0))] #[])),[],[],[]⟩):∃F,CallOK cx o e H nx F∧K F:=by
 have hxo:x∈o.op.operands.toList:=by simp[ho,Op.operands]
 refine⟨_,⟨?_,fun j hj=>by cases hj⟩,h⟩;intro ρ s a w hs hr hkr _ hdst KK Q hKK;have hx1:=Jg hxo (fun t ht=>by rw[←hr t ht];exact hs.env t);rw[hx]at hx1;simp only[SV.rel,SC.rel,Nat.zero_mul,Nat.zero_add]at hx1;have hb:=hs.base k hk;have hadr:Jr ρ k 0=Jr cx.ρ0 k 0:=by simp only[Jr,hb]
 have hrun:(execOp a.eval o).run cx.P w=.ok (.value (.func (.func g) #[.pointer (some (Jr cx.ρ0 k 0))] #[])) w:=by
  simp[execOp,ho,Instr.makeFunc,hx1,hadr]
 refine JQ (by simp[ho]) hrun (hKK ρ _ w ?_ (fun _ _=>rfl));exact hs.putO hdst rfl (by rw[SV.below_c];intro j hj;cases hj)
theorem Uz{c:Call}{x:Operand}{f:FuncId}{args:List SV}{pre:Je}{np:Nat}{r:SV}{post:Je}{k:Nat}
 (T:Triple cx.P f args pre np r post) (ho:o.op=.call c) (hc:c.callee=.value x) (hx:ev e x=.c (.v (.func (.func f) #[.pointer (some (Jr cx.ρ0 k 0))] #[]))) (hk:k<cx.n0)
 (h:bm0 f args pre np r post (.c (.f f [])) (.c (.p k 0 0 0)::evs e c.args.toList) H nx K):∃F,CallOK cx o e H nx F∧K F:=by
 unfold bm0 at h;have hff:Nat.beq f f=true:=Nat.beq_refl f;simp only[hff,cond_true,aB8,am7,ab8]at h;generalize hτ:am6 0 nx H pre (ax7 0 nx args ((SV.c (.p k 0 0 0)::evs e c.args.toList)++Uv []) [])=τ at h;obtain⟨hall,h⟩:=YS h;simp only[Bool.and_eq_true]at hall;obtain⟨c1,c2,c3,c4,c5,c6,c7⟩:=hall;obtain⟨hargs,hpre,hK⟩:=h;refine at6 (post:=XK post) ⟨c1,c2,c3,c4,c5,ad5,c7⟩ hpre ?_ hK;intro ρ a w hr hbase hH KK Q hKK;have hops:∀y∈c.args.toList,y∈o.op.operands.toList:=fun y hy=>by simp[ho,Op.operands,Call.operands,hc];exact .inr (by simpa using hy)
 have hopx:x∈o.op.operands.toList:=by simp[ho,Op.operands,Call.operands,hc]
 have hfit:∀y,y∈o.op.operands.toList→(ev e y).rel ρ (a.eval y):=fun y hy=>Jg hy hr;have hx1:=hfit x hopx;rw[hx]at hx1;simp only[SV.rel,SC.rel]at hx1;have hadr:Jr ρ k 0=Jr cx.ρ0 k 0:=by simp only[Jr,hbase k hk]
 have hvals:YR (fun k=>ρ (JM τ k)) args (Value.pointer (some (Jr cx.ρ0 k 0))::c.args.toList.map a.eval):=by
  refine ak3.1 (aj8 (nl:=[]) (by intro k hk;cases hk) hargs ?_);have h1:YR ρ (SV.c (.p k 0 0 0)::evs e c.args.toList) (Value.pointer (some (Jr cx.ρ0 k 0))::c.args.toList.map a.eval) :=
   ⟨by show _=_;rw[←hadr],ag1 fun y hy=>hfit y (hops y hy)⟩
  simpa [Uv] using h1
 have hcall:=T.h (fun k=>ρ (JM τ k)) w (#[Value.pointer (some (Jr cx.ρ0 k 0))]++c.args.map a.eval) (by simpa using hvals) hH;have hrun:(execOp a.eval o).run cx.P w=.ok (.enter f (#[Value.pointer (some (Jr cx.ρ0 k 0))]++c.args.map a.eval)) w:=by
  simp only[execOp,ho,resolve,hc,hx1,Deferred.ofValue,Sem.run_bind,Sem.run_pure,Result.andThen_ok,invoke];simp only[Array.append_empty];rw[T.enter]
 refine⟨fun _ _=>trivial, ?_⟩;rw[Oper.semAt_eq _ _ _ (by simp[ho]),hrun,Oper.uponIn_enter];refine⟨fun h=>by simp[WF,Fence.wide]at h, ?_⟩;refine CallsIn.mono (aJ5 hcall) ?_
 rintro en w' ⟨ρc,v,hag,rfl,hrv,hpost⟩
 exact hKK ρc v w' hag hrv (hpost.own c6)
end
end Sx
end Go
