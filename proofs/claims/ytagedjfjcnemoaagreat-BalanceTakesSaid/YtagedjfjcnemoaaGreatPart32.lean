/-
  A part of the proof that a law answers true: lemmas of a symbolic walk, plain functions, or contracts of the functions walked (Sx49, RT2, RF, RG, RH, RI, RW1). Conditions: none.
-/
import Derived.Test.YtagedjfjcnemoaaGreatPart31
import Derived.Test.YtagedjfjcnemoaaGreatPart13
import Derived.Test.YtagedjfjcnemoaaGreatPart28
set_option maxRecDepth 100000
set_option linter.unusedVariables false
set_option linter.unusedSimpArgs false
namespace Go
namespace Sx

def appRK (B:Tabs) (A:Arr) (zs R:List A.α) (t t':TypeId) (x y:SV) (H:Heap) (nx:Nat) (K:Eff → Prop):Prop :=
  match lookT B.T t,lookT B.T t',x,y with
  | some ⟨.slice el,_,_,_⟩,some ⟨.slice _,_,_,_⟩, .c (.s k 0 len sz), .c (.s k' st m sz')=>(match lookT B.T el with
    | some ti=>bif (Nat.beq ti.size sz && Nat.beq sz sz') && (Nat.ble 1 sz && (Nat.beq sz A.sz && !Nat.beq k k')) then (match look H k,look H k' with
      | some (true, .arr A0),some (_, .arr X)=>(A0=A∧X=A.setXs zs∧len≤A.xs.length∧st+m≤zs.length∧(len+m) * (ti.bytes+1)≤140737488355328∧A.xs.take len ++ (zs.drop st).take m=R) ∧
          K ⟨.c (.s nx 0 R.length sz),[k,k'],[(nx,true, .arr (A.setXs R)),(k,false, .cells [])],[nx]⟩
      | _,_=>False) else False
    | none=>False)
  | _,_,_,_=>False

theorem appK_of_R {B:Tabs} {A:Arr} {zs R:List A.α} {t t':TypeId} {x y:SV} {H:Heap} {nx:Nat} {K:Eff → Prop} (h:appRK B A zs R t t' x y H nx K):appK B A zs t t' x y H nx K:=by
  unfold appRK at h
  split at h
  · rename_i el s0 b0 z0 el' s1 b1 z1 k len sz k' st m sz' ht ht'
    split at h
    · rename_i ti hti
      obtain ⟨hb,hq⟩:=bif_and h
      clear h
      split at hq
      · rename_i A0 ow X hlk hlk'
        obtain ⟨⟨h1,h2,h3,h4,h5,rfl⟩,hK⟩:=hq
        unfold appK
        simp only [ht,ht',hti,hb,cond_true,hlk,hlk']
        refine⟨⟨h1,h2,h3,h4,h5⟩, ?_⟩
        have e:(A.xs.take len ++ (zs.drop st).take m).length=len+m:=by
          rw [List.length_append,List.length_take,List.length_take,List.length_drop]; omega
        rw [e] at hK
        exact hK
      · exact hq.elim
    · exact h.elim
  · exact h.elim

theorem appR_step {cx:Cx} {B:Tabs} (hB:TabsOK cx.P B) {o:Oper} {e:Env} {H:Heap} {nx:Nat} {K:Eff → Prop} {c:Call} {x y:Operand} {t t':TypeId} (A:Arr) (zs R:List A.α)
    (hone:∀ x,allOne (A.enc x)=true) (ho:o.op=.call c) (hc:c.callee=.builtin .append) (hca:c.args=#[x,y]) (hct:c.argTypes=#[t,t'])
    (h:appRK B A zs R t t' (ev e x) (ev e y) H nx K):∃ F,CallOK cx o e H nx F∧K F:=app_step hB A zs hone ho hc hca hct (appK_of_R h)

end Sx
end Go

namespace Go.Proofs
open Go.Sx

set_option maxHeartbeats 2000000 in
theorem rSorted_t (r:Rd) (hs:Sml r) (hn:NumOK r) (p0:∀ x ∈ r.bs,0 < x.id) (p1:∀ x ∈ r.cs,0 < x.id) (p2:∀ x ∈ r.ns,0 < x.id) (p3:∀ x ∈ r.ws,0 < x.id):Triple Tryz.prog 138 [rdA r] (rdH r) 4
  (.agg [.s 4 0 (sortedR r).bs.length 6, .s 6 0 (sortedR r).cs.length 5, .s 7 0 (sortedR r).ns.length 6, .s 5 0 (sortedR r).ws.length 8]) (ownRd 4 5 6 7 (sortedR r)):=by
 have c1:=rByChk_t r.cs (Nat.le_trans hs.cs (by decide)) hn.cs p1
 have c2:=rByNtc_t r.ns (Nat.le_trans hs.ns (by decide)) hn.ns p2
 have c3:=rByWgh_t r.ws (Nat.le_trans hs.ws (by decide)) hn.ws p3
 have hd:=hn.bs
 have hl:=hs.bs
 have e:sortedR r=⟨sortK Bal.id r.bs,sortK Chk.id r.cs,sortK Ntc.id r.ns,sortK Wgh.id r.ws⟩:=rfl
 rw [e]
 clear e hn p1 p2 p3
 dsimp only
 have hsl:=sortK_len Bal.id r.bs
 generalize sortK Chk.id r.cs=cs' at *
 generalize sortK Ntc.id r.ns=ns' at *
 generalize sortK Wgh.id r.ws=ws' at *
 clear hs
 obtain ⟨bs,cs,ns,ws⟩:=r
 dsimp only at *
 have hp:∀ x ∈ bs,0 < x.id:=p0
 refine triple_of tB_ok Tryz.func138 rfl Tryz.call138 rfl ?_
 intro ρ w hH
 conv=>whnf
 refine call_step c1 (by exact rfl) (by exact rfl) ?_
 conv=>whnf
 refine⟨?_, ?_, ?_⟩
 iterate 2 · repeat'(first|exact trivial|exact rfl|refine And.intro ?_ ?_|((conv=>whnf);first|exact trivial|exact rfl|refine And.intro ?_ ?_|omega))
 conv=>whnf
 refine call_step c2 (by exact rfl) (by exact rfl) ?_
 conv=>whnf
 refine⟨?_, ?_, ?_⟩
 iterate 2 · repeat'(first|exact trivial|exact rfl|refine And.intro ?_ ?_|((conv=>whnf);first|exact trivial|exact rfl|refine And.intro ?_ ?_|omega))
 conv=>whnf
 refine call_step c3 (by exact rfl) (by exact rfl) ?_
 conv=>whnf
 refine⟨?_, ?_, ?_⟩
 iterate 2 · repeat'(first|exact trivial|exact rfl|refine And.intro ?_ ?_|((conv=>whnf);first|exact trivial|exact rfl|refine And.intro ?_ ?_|omega))
 conv=>whnf
 refine loop_step tB_ok (G:=Nat) 1 [] (fun k=>[(5,iv .i64 k),(4,iv .i64 (lastK Bal.id bs k))]) (fun k=>[(9,true, .cells [.s 10 0 ((sortK Bal.id bs).take k).length 6, .s 6 0 cs'.length 5, .s 7 0 ns'.length 6, .s 8 0 ws'.length 8]),(10,true, .arr (aBal ((sortK Bal.id bs).take k)))])
  (fun k=>k≤bs.length) (fun k=>bs.length - k) ?_
 conv=>whnf
 refine⟨⟨0,Nat.zero_le _, ?_⟩, ?_⟩
 ·conv=>whnf
  repeat'(first|exact trivial|exact rfl|refine And.intro ?_ ?_|((conv=>whnf);first|exact trivial|exact rfl|refine And.intro ?_ ?_|omega))
 rintro k hk ρ1 t1 hρ1
 conv=>whnf
 refine⟨fun hc=>?_,fun hc=>?_⟩
 ·have hkl:k < bs.length:=by simpa using hc
  have hfa:∀ best,Found Bal.id bs (lastK Bal.id bs k) bs.length best → ∃ (j:Nat) (x:Bal),best=j∧bs[j]? = some x∧(sortK Bal.id bs)[k]? = some x:=fun best hf=>found_all hd hp hkl hf
  have hT:=fun x=>sortK_take (key:=Bal.id) (l:=bs) (k:=k) (x:=x)
  have hLs:=fun x=>lastK_succ (key:=Bal.id) (l:=bs) (k:=k) (x:=x)
  have hkO:((sortK Bal.id bs).take k).length≤1000000:=by rw [List.length_take]; omega
  generalize (sortK Bal.id bs).take k=O at *
  generalize lastK Bal.id bs k=last at *
  conv=>whnf
  refine loop_step tB_ok (G:=Nat × Int) 0 [] (fun g=>[(7,iv .i64 g.1),(6,iv .i64 g.2)]) (fun _=>[]) (fun g=>g.1≤bs.length∧Found Bal.id bs last g.1 g.2) (fun g=>bs.length - g.1) ?_
  conv=>whnf
  refine⟨⟨(0,-1),⟨Nat.zero_le _,found_zero _ _ _⟩, ?_⟩, ?_⟩
  ·conv=>whnf
   repeat'(first|exact trivial|exact rfl|refine And.intro ?_ ?_|((conv=>whnf);first|exact trivial|exact rfl|refine And.intro ?_ ?_|omega))
  rintro ⟨i,best⟩ ⟨hi,hf⟩ ρ2 t2 hρ2
  dsimp only at hi hf ⊢
  conv=>whnf
  refine⟨fun hc2=>?_,fun hc2=>?_⟩
  ·have hlt:i < bs.length:=by simpa using hc2
   conv=>whnf
   refine⟨i,rfl,hlt,hlt, ?_⟩
   conv=>whnf
   refine⟨fun hc3=>?_,fun hc3=>?_⟩
   ·have h1:last < bs[i].id:=of_decide_eq_true (show decide (last < bs[i].id)=true from hc3)
    have hf0:=hf
    rcases hf with ⟨rfl,_⟩ | ⟨j,x,rfl,hj,hx,_⟩
    ·conv=>whnf
     refine⟨fun hc4=>?_,fun hc4=>absurd (show decide ((-1:Int) < 0)=false from hc4) (by decide)⟩
     conv=>whnf
     refine⟨_,wrapId ⟨by omega,by omega⟩, ?_⟩
     refine⟨(i+1,(i:Int)),⟨hlt,found_take hlt hf0 h1 (.inl (by decide))⟩,by show bs.length - (i+1) < bs.length - i; omega, ?_⟩
     try dsimp only
     conv=>whnf
     refine⟨rfl, ?_⟩
     conv=>whnf
     repeat'(first|exact trivial|exact rfl|refine And.intro ?_ ?_|((conv=>whnf);first|exact trivial|exact rfl|refine And.intro ?_ ?_|omega))
    ·have hjl:j < bs.length:=by omega
     have hxe:bs[j]=x:=by rw [List.getElem?_eq_getElem hjl] at hx; exact Option.some.inj hx
     have hj0:0≤(j:Int):=by omega
     have hjg:bs[(j:Int).toNat]? = some bs[j]:=by rw [Int.toNat_natCast]; exact List.getElem?_eq_getElem hjl
     conv=>whnf
     refine⟨fun hc4=>absurd (of_decide_eq_true (show decide ((j:Int) < 0)=true from hc4)) (by omega),fun hc4=>?_⟩
     conv=>whnf
     refine⟨i,rfl,hlt,hlt, ?_⟩
     conv=>whnf
     refine⟨j,rfl,hjl,hjl, ?_⟩
     conv=>whnf
     refine⟨fun hc5=>?_,fun hc5=>?_⟩
     ·have h5:bs[i].id < bs[j].id:=of_decide_eq_true (show decide (bs[i].id < bs[j].id)=true from hc5)
      conv=>whnf
      refine⟨_,wrapId ⟨by omega,by omega⟩, ?_⟩
      refine⟨(i+1,(i:Int)),⟨hlt,found_take hlt hf0 h1 (.inr ⟨bs[j],hjg,h5⟩)⟩,by show bs.length - (i+1) < bs.length - i; omega, ?_⟩
      try dsimp only
      conv=>whnf
      refine⟨rfl, ?_⟩
      conv=>whnf
      repeat'(first|exact trivial|exact rfl|refine And.intro ?_ ?_|((conv=>whnf);first|exact trivial|exact rfl|refine And.intro ?_ ?_|omega))
     ·have h5:¬ bs[i].id < bs[j].id:=of_decide_eq_false (show decide (bs[i].id < bs[j].id)=false from hc5)
      conv=>whnf
      refine⟨_,wrapId ⟨by omega,by omega⟩, ?_⟩
      refine⟨(i+1,(j:Int)),⟨hlt,found_keep hlt hf0 (.inr ⟨bs[j],hj0,hjg,h5⟩)⟩,by show bs.length - (i+1) < bs.length - i; omega, ?_⟩
      try dsimp only
      conv=>whnf
      refine⟨rfl, ?_⟩
      conv=>whnf
      repeat'(first|exact trivial|exact rfl|refine And.intro ?_ ?_|((conv=>whnf);first|exact trivial|exact rfl|refine And.intro ?_ ?_|omega))
   ·have h1:¬ last < bs[i].id:=of_decide_eq_false (show decide (last < bs[i].id)=false from hc3)
    conv=>whnf
    refine⟨_,wrapId ⟨by omega,by omega⟩, ?_⟩
    refine⟨(i+1,best),⟨hlt,found_keep hlt hf (.inl h1)⟩,by show bs.length - (i+1) < bs.length - i; omega, ?_⟩
    try dsimp only
    conv=>whnf
    refine⟨rfl, ?_⟩
    conv=>whnf
    repeat'(first|exact trivial|exact rfl|refine And.intro ?_ ?_|((conv=>whnf);first|exact trivial|exact rfl|refine And.intro ?_ ?_|omega))
  ·have hie:i=bs.length:=by simp at hc2; omega
   subst hie
   obtain ⟨j,x,rfl,hx,hsx⟩:=hfa best hf
   have hjl:j < bs.length:=(List.getElem?_eq_some_iff.1 hx).1
   have hxe:bs[j]=x:=by rw [List.getElem?_eq_getElem hjl] at hx; exact Option.some.inj hx
   subst hxe
   have hT:=hT _ hsx
   have hLs:=hLs _ hsx
   conv=>whnf
   refine⟨j,rfl,hjl,hjl, ?_⟩
   conv=>whnf
   refine bs_step tB_ok (aBal [bs[j]]) rfl rfl ?_
   conv=>whnf
   refine⟨⟨rfl,(by repeat'(first|exact trivial|exact rfl|refine And.intro ?_ ?_|((conv=>whnf);first|exact trivial|exact rfl|refine And.intro ?_ ?_|omega)))⟩, ?_⟩
   conv=>whnf
   refine app_step tB_ok (aBal O) [bs[j]] (fun _=>rfl) rfl rfl rfl rfl ?_
   conv=>whnf
   refine⟨⟨rfl,rfl,Nat.le_refl _,Nat.le_refl _,by show (O.length+1) * 49≤_; omega⟩, ?_⟩
   conv=>whnf
   refine⟨j,rfl,hjl,hjl, ?_⟩
   conv=>whnf
   refine⟨_,wrapId ⟨by omega,by omega⟩, ?_⟩
   refine⟨k+1,hkl,by show bs.length - (k+1) < bs.length - k; omega, ?_⟩
   try dsimp only
   rw [hT,hLs]
   conv=>whnf
   refine⟨rfl, ?_⟩
   conv=>whnf
   repeat'(first|exact trivial|exact rfl|refine And.intro ?_ ?_|((conv=>whnf);first|exact trivial|exact rfl|refine And.intro ?_ ?_|omega))
   all_goals first | exact (congrArg aBal app1.symm:_) | exact (congrArg aBal app1:_) | (simp; done) | skip
 ·have hke:k=bs.length:=by simp at hc; omega
  subst hke
  rw [List.take_of_length_le (by omega)]
  conv=>whnf
  repeat'(first|exact trivial|exact rfl|refine And.intro ?_ ?_|((conv=>whnf);first|exact trivial|exact rfl|refine And.intro ?_ ?_|omega))

theorem rFindN_t (bs:List Bal) (id:Int) (hb:bs.length≤1000000):Triple Tryz.prog 89 [.agg [.s 0 0 bs.length 6, .v (.slice none 0 0), .v (.slice none 0 0), .v (.slice none 0 0)],iv .i64 id] [(0,false, .arr (aBal bs))] 1 (svBal (findD bs id)) []:=by
 have hs:∀ (i:Nat) (h:i < bs.length),(∀ x ∈ bs.take i,(x.id == id)=false) → (bs[i].id == id)=true → findD bs id=bs[i]:=fun i h a b=>(findD_some h a b).1
 have hz:(∀ x ∈ bs,(x.id == id)=false) → findD bs id=zBal:=fun h=>(findD_none h).1
 generalize findD bs id=d at *
 refine triple_of tB_ok Tryz.func89 rfl Tryz.call89 rfl ?_
 intro ρ w hH
 conv=>whnf
 refine loop_step tB_ok (G:=Nat) 0 [] (fun i=>[(5,iv .i64 i)]) (fun _=>[]) (fun i=>i≤bs.length∧∀ x ∈ bs.take i,(x.id == id)=false) (fun i=>bs.length - i) ?_
 conv=>whnf
 refine⟨⟨0,⟨Nat.zero_le _,by simp⟩, ?_⟩, ?_⟩
 ·conv=>whnf
  repeat'(first|exact trivial|exact rfl|refine And.intro ?_ ?_|((conv=>whnf);first|exact trivial|exact rfl|refine And.intro ?_ ?_|omega))
 rintro i ⟨hi,hn⟩ ρ1 t1 hρ1
 conv=>whnf
 refine⟨fun hc=>?_,fun hc=>?_⟩
 ·have hlt:i < bs.length:=by simpa using hc
  conv=>whnf
  refine⟨i,rfl,hlt,hlt, ?_⟩
  conv=>whnf
  refine⟨fun hc=>?_,fun hc=>?_⟩
  ·obtain rfl:=hs i hlt hn hc
   conv=>whnf
   refine⟨i,rfl,hlt,hlt, ?_⟩
   conv=>whnf
   repeat'(first|exact trivial|exact rfl|refine And.intro ?_ ?_|((conv=>whnf);first|exact trivial|exact rfl|refine And.intro ?_ ?_|omega))
  ·conv=>whnf
   refine⟨_,wrapId ⟨by omega,by omega⟩, ?_⟩
   refine⟨i+1,⟨hlt, ?_⟩,by show bs.length - (i+1) < bs.length - i; omega, ?_⟩
   ·intro x hx
    rw [take_snoc hlt] at hx
    rcases List.mem_append.1 hx with hx | hx
    ·exact hn x hx
    ·simp only [List.mem_singleton] at hx; rw [hx]; exact hc
   conv=>whnf
   refine⟨rfl, ?_⟩
   conv=>whnf
   repeat'(first|exact trivial|exact rfl|refine And.intro ?_ ?_|((conv=>whnf);first|exact trivial|exact rfl|refine And.intro ?_ ?_|omega))
 ·have hie:i=bs.length:=by simp at hc; omega
  subst hie
  rw [List.take_length] at hn
  obtain rfl:=hz hn
  conv=>whnf
  repeat'(first|exact trivial|exact rfl|refine And.intro ?_ ?_|((conv=>whnf);first|exact trivial|exact rfl|refine And.intro ?_ ?_|omega))

theorem take_fold {α β:Type} {f:β → α → β} {b:β} {l:List α} {i:Nat} (h:i < l.length):(l.take (i+1)).foldl f b=f ((l.take i).foldl f b) l[i]:=by
 rw [take_snoc h,List.foldl_append]; rfl

theorem fold_len {α:Type} [DecidableEq α] {key:α → Int} {ids:List Int} {a:List α} {l:List α} {c:Bool} {k:List α}:(l.foldl (stepL key ids a) (c,k)).2.length≤k.length+l.length:=by
 rw [foldL_all]
 show (k ++ _).length≤_
 rw [List.length_append]
 have:=List.length_filter_le (fun x=>!ids.contains (key x)) l
 omega

theorem stepB_len {s:Bool × List Bal} {x:Bal}:(stepB s x).2.length≤s.2.length+1:=by
 unfold stepB
 dsimp only
 split
 ·rw [List.length_append]; exact Nat.le_refl _
 ·omega

theorem foldB_len:∀ {l:List Bal} {s:Bool × List Bal},(l.foldl stepB s).2.length≤s.2.length+l.length
 | [],s=>Nat.le_refl _
 | x :: r,s=>by
  have h1:=stepB_len (s:=s) (x:=x)
  have h2:=foldB_len (l:=r) (s:=stepB s x)
  rw [List.foldl_cons,List.length_cons]; omega

theorem neBal_eq (y x:Bal):(!eqBal y x)=!decide (y=x):=by
 by_cases h:y=x
 ·subst h; rw [eqBal_r]; simp
 ·have:eqBal y x=false:=by
   rw [Bool.eq_false_iff]; intro hc; exact h (eqBal_t hc)
  rw [this]; simp [h]

theorem all_pos {a b:Rd} (ha:RdOK a) (hb:RdOK b):(∀ x ∈ (allR a b).bs,0 < x.id)∧(∀ x ∈ (allR a b).cs,0 < x.id)∧(∀ x ∈ (allR a b).ns,0 < x.id)∧(∀ x ∈ (allR a b).ws,0 < x.id):=by
 refine⟨fun x hx=>?_,fun x hx=>?_,fun x hx=>?_,fun x hx=>?_⟩
 ·rcases List.mem_append.1 hx with h | h
  ·have:=(valid_bd (ha.bal x h)).1; omega
  ·have:=(valid_bd (hb.bal x (List.mem_filter.1 h).1)).1; omega
 ·rcases List.mem_append.1 hx with h | h
  ·have:=(ha.c h).2.1; omega
  ·have:=(hb.c (List.mem_filter.1 h).1).2.1; omega
 ·rcases List.mem_append.1 hx with h | h
  ·have:=(ha.n h).2.1; omega
  ·have:=(hb.n (List.mem_filter.1 h).1).2.1; omega
 ·rcases List.mem_append.1 hx with h | h
  ·have:=(ha.w h).2.1; omega
  ·have:=(hb.w (List.mem_filter.1 h).1).2.1; omega

theorem all_sml {a b:Rd} (ha:RdOK a) (hb:RdOK b):((allR a b).bs.length≤16∧(allR a b).cs.length≤200∧(allR a b).ns.length≤200∧(allR a b).ws.length≤200):=by
 have q1:=ha.nb
 have q2:=hb.nb
 have q3:=ha.nr
 have q4:=hb.nr
 unfold allR
 have f0:=List.length_filter_le (fun x:Bal=>!hasB a.bs x.id) b.bs
 have f1:=List.length_filter_le (fun x:Chk=>!(idsR a).contains x.id) b.cs
 have f2:=List.length_filter_le (fun x:Ntc=>!(idsR a).contains x.id) b.ns
 have f3:=List.length_filter_le (fun x:Wgh=>!(idsR a).contains x.id) b.ws
 simp only [List.length_append]
 omega

set_option maxHeartbeats 4000000 in
theorem rMerge_t (a b:Rd) (sa:Sml a) (sb:Sml b):Triple Tryz.prog 66 (mgA a b) (mgH a b) 8 (retRd 8 9 10 11 (mergeR a b)) (ownRd 8 9 10 11 (mergeR a b).1):=by
 classical
 have e:mergeR a b=if checkR a=0 then (if checkR b=0 then (if Joins a b then (if checkR (outR a b)=0 then (outR a b,0) else (zRd,checkR (outR a b))) else (zRd,6)) else (zRd,checkR b)) else (zRd,checkR a):=by unfold mergeR; rfl
 have hCa:=rCheck_t a sa
 have hCb:=rCheck_t b sb
 by_cases ha0:checkR a=0
 rotate_left
 ·rw [if_neg ha0] at e
  rw [e]
  generalize checkR a=ca at *
  generalize checkR b=cb at *
  refine triple_of tB_ok Tryz.func66 rfl Tryz.call66 rfl ?_
  intro ρ w hH
  conv=>whnf
  refine call_step hCa (by exact rfl) (by exact rfl) ?_
  conv=>whnf
  refine⟨?_, ?_, ?_⟩
  iterate 2 · repeat'(first|exact trivial|exact rfl|refine And.intro ?_ ?_|((conv=>whnf);first|exact trivial|exact rfl|refine And.intro ?_ ?_|omega))
  conv=>whnf
  refine call_step hCb (by exact rfl) (by exact rfl) ?_
  conv=>whnf
  refine⟨?_, ?_, ?_⟩
  iterate 2 · repeat'(first|exact trivial|exact rfl|refine And.intro ?_ ?_|((conv=>whnf);first|exact trivial|exact rfl|refine And.intro ?_ ?_|omega))
  conv=>whnf
  refine⟨fun hcc=>?_,fun hcc=>absurd (by simpa using (show (ca != 0)=false from hcc)) ha0⟩
  conv=>whnf
  repeat'(first|exact trivial|exact rfl|refine And.intro ?_ ?_|((conv=>whnf);first|exact trivial|exact rfl|refine And.intro ?_ ?_|omega))
 by_cases hb0:checkR b=0
 rotate_left
 ·rw [if_pos ha0,if_neg hb0] at e
  rw [e]
  rw [ha0] at hCa
  generalize checkR b=cb at *
  refine triple_of tB_ok Tryz.func66 rfl Tryz.call66 rfl ?_
  intro ρ w hH
  conv=>whnf
  refine call_step hCa (by exact rfl) (by exact rfl) ?_
  conv=>whnf
  refine⟨?_, ?_, ?_⟩
  iterate 2 · repeat'(first|exact trivial|exact rfl|refine And.intro ?_ ?_|((conv=>whnf);first|exact trivial|exact rfl|refine And.intro ?_ ?_|omega))
  conv=>whnf
  refine call_step hCb (by exact rfl) (by exact rfl) ?_
  conv=>whnf
  refine⟨?_, ?_, ?_⟩
  iterate 2 · repeat'(first|exact trivial|exact rfl|refine And.intro ?_ ?_|((conv=>whnf);first|exact trivial|exact rfl|refine And.intro ?_ ?_|omega))
  conv=>whnf
  refine⟨fun hc=>absurd hc (by simp),fun hc=>?_⟩
  conv=>whnf
  refine⟨fun hcc=>?_,fun hcc=>absurd (by simpa using (show (cb != 0)=false from hcc)) hb0⟩
  conv=>whnf
  repeat'(first|exact trivial|exact rfl|refine And.intro ?_ ?_|((conv=>whnf);first|exact trivial|exact rfl|refine And.intro ?_ ?_|omega))
 have ha:=checkR_ok.1 ha0
 have hb:=checkR_ok.1 hb0
 have e:=merge_ref ha hb
 rw [ha0] at hCa
 rw [hb0] at hCb
 have hI:=rIDs_t a ha
 have hIl:=idsR_len a ha
 obtain ⟨z0,z1,z2,z3⟩:=all_sml ha hb
 obtain ⟨p0,p1,p2,p3⟩:=all_pos ha hb
 have hSd:=fun h:clashR a b=false=>rSorted_t (allR a b) ⟨by omega,by omega,by omega,by omega⟩ (all_nums ha hb ((clash_iff ha hb).1 h)) p0 p1 p2 p3
 clear p0 p1 p2 p3
 unfold clashR allR at *
 dsimp only at *
 generalize mergeR a b=R at *
 generalize idsR a=I at *
 generalize hcB:b.bs.any (hitB a.bs)=cB at *
 generalize hBB:(a.bs ++ b.bs.filter fun x=>!hasB a.bs x.id)=BB at *
 generalize hcC:(b.cs.any fun x=>I.contains x.id && !a.cs.contains x)=cC at *
 generalize hCC:(a.cs ++ b.cs.filter fun x=>!I.contains x.id)=CC at *
 generalize hcN:(b.ns.any fun x=>I.contains x.id && !a.ns.contains x)=cN at *
 generalize hNN:(a.ns ++ b.ns.filter fun x=>!I.contains x.id)=NN at *
 generalize hcW:(b.ws.any fun x=>I.contains x.id && !a.ws.contains x)=cW at *
 generalize hWW:(a.ws ++ b.ws.filter fun x=>!I.contains x.id)=WW at *
 refine triple_of tB_ok Tryz.func66 rfl Tryz.call66 rfl ?_
 intro ρ w hH
 conv=>whnf
 refine call_step hCa (by exact rfl) (by exact rfl) ?_
 conv=>whnf
 refine⟨?_, ?_, ?_⟩
 iterate 2 · repeat'(first|exact trivial|exact rfl|refine And.intro ?_ ?_|((conv=>whnf);first|exact trivial|exact rfl|refine And.intro ?_ ?_|omega))
 conv=>whnf
 refine call_step hCb (by exact rfl) (by exact rfl) ?_
 conv=>whnf
 refine⟨?_, ?_, ?_⟩
 iterate 2 · repeat'(first|exact trivial|exact rfl|refine And.intro ?_ ?_|((conv=>whnf);first|exact trivial|exact rfl|refine And.intro ?_ ?_|omega))
 conv=>whnf
 refine⟨fun hc=>absurd hc (by simp),fun hc=>?_⟩
 conv=>whnf
 refine⟨fun hc=>absurd hc (by simp),fun hc=>?_⟩
 conv=>whnf
 have hq1:=ha.nb
 have hq2:=hb.nb
 have hq3:=ha.nr
 have hq4:=hb.nr
 refine loop_step tB_ok (G:=Nat) 1 [] (fun i=>[(10,iv .i64 i),(8,bv (((a.bs ++ b.bs).take i).foldl stepB (false,[])).1)]) (fun i=>[(11,true, .cells [.s 12 0 (((a.bs ++ b.bs).take i).foldl stepB (false,[])).2.length 6, .v (.slice none 0 0), .v (.slice none 0 0), .v (.slice none 0 0)]),(12,true, .arr (aBal (((a.bs ++ b.bs).take i).foldl stepB (false,[])).2))]) (fun i=>i≤a.bs.length+b.bs.length) (fun i=>a.bs.length+b.bs.length - i) ?_
 conv=>whnf
 refine⟨⟨0,Nat.zero_le _, ?_⟩, ?_⟩
 ·conv=>whnf
  repeat'(first|exact trivial|exact rfl|refine And.intro ?_ ?_|((conv=>whnf);first|exact trivial|exact rfl|refine And.intro ?_ ?_|omega))
 rintro i hi ρ1 t1 hρ1
 conv=>whnf
 refine⟨((a.bs.length+b.bs.length:Nat):Int),(congrArg IntKind.i64.wrap (show (a.bs.length:Int)+b.bs.length=((a.bs.length+b.bs.length:Nat):Int) by omega)).trans (wrapId ⟨by omega,by omega⟩), ?_⟩
 conv=>whnf
 refine⟨fun hc=>?_,fun hc=>?_⟩
 ·have hlt:i < a.bs.length+b.bs.length:=by have:=of_decide_eq_true (show decide ((i:Int) < ((a.bs.length+b.bs.length:Nat):Int))=true from hc); omega
  have hll:i < (a.bs ++ b.bs).length:=by rw [List.length_append]; exact hlt
  have hst:=take_fold (f:=stepB) (b:=(false,[])) hll
  have hsl:(((a.bs ++ b.bs).take i).foldl stepB (false,[])).2.length≤16:=by
   have:=foldB_len (l:=(a.bs ++ b.bs).take i) (s:=(false,[]))
   rw [List.length_take] at this
   have h0:([]:List Bal).length=0:=rfl
   dsimp only at this
   omega
  generalize (((a.bs ++ b.bs).take i).foldl stepB (false,[]))=S at *
  obtain ⟨c,acc⟩:=S
  have hLL:a.bs.take a.bs.length ++ (b.bs.drop 0).take b.bs.length=a.bs ++ b.bs:=by simp
  generalize a.bs ++ b.bs=L at *
  dsimp only at hsl
  have e1:stepB (c,acc) L[i]=(c || (!decide ((findD acc L[i].id).id=0) && !decide (findD acc L[i].id=L[i])),if (findD acc L[i].id).id=0 then acc ++ [L[i]] else acc):=rfl
  have hF:=rFindN_t acc L[i].id (by omega)
  generalize findD acc L[i].id=y at *
  conv=>whnf
  refine bs_step tB_ok (aBal []) rfl rfl ?_
  conv=>whnf
  refine⟨⟨rfl,trivial⟩, ?_⟩
  conv=>whnf
  refine appE_step tB_ok (aBal []) a.bs (fun _=>rfl) rfl rfl rfl rfl ?_
  conv=>whnf
  refine⟨⟨rfl,rfl,rfl,rfl,by show a.bs.length * 49≤_; omega⟩, ?_⟩
  conv=>whnf
  refine appR_step tB_ok (aBal a.bs) b.bs L (fun _=>rfl) rfl rfl rfl rfl ?_
  conv=>whnf
  refine⟨⟨rfl,rfl,Nat.le_refl _,by show 0+b.bs.length≤b.bs.length; omega,by show (a.bs.length+b.bs.length) * 49≤_; omega,hLL⟩, ?_⟩
  conv=>whnf
  refine⟨i,rfl,hll,hll, ?_⟩
  conv=>whnf
  refine call_step hF (by exact rfl) (by exact rfl) ?_
  conv=>whnf
  refine⟨?_, ?_, ?_⟩
  iterate 2 · repeat'(first|exact trivial|exact rfl|refine And.intro ?_ ?_|((conv=>whnf);first|exact trivial|exact rfl|refine And.intro ?_ ?_|omega))
  conv=>whnf
  cases c with
  | true =>
   refine⟨fun hc=>?_,fun hc=>absurd hc (by simp)⟩
   conv=>whnf
   refine⟨fun hc=>?_,fun hc=>?_⟩
   ·have h1:y.id=0:=by simpa using (show (y.id == 0)=true from hc)
    have hst:=hst.trans (show _=(true,acc ++ [L[i]]) by rw [e1]; simp [h1])
    conv=>whnf
    refine bs_step tB_ok (aBal [L[i]]) rfl rfl ?_
    conv=>whnf
    refine⟨⟨rfl,(by repeat'(first|exact trivial|exact rfl|refine And.intro ?_ ?_|((conv=>whnf);first|exact trivial|exact rfl|refine And.intro ?_ ?_|omega)))⟩, ?_⟩
    conv=>whnf
    refine app_step tB_ok (aBal acc) [L[i]] (fun _=>rfl) rfl rfl rfl rfl ?_
    conv=>whnf
    refine⟨⟨rfl,rfl,Nat.le_refl _,Nat.le_refl _,by show (acc.length+1) * 49≤_; omega⟩, ?_⟩
    conv=>whnf
    refine⟨_,wrapId ⟨by omega,by omega⟩, ?_⟩
    refine⟨i+1,hlt,by show a.bs.length+b.bs.length - (i+1) < a.bs.length+b.bs.length - i; omega, ?_⟩
    try dsimp only
    rw [hst]
    conv=>whnf
    refine⟨rfl, ?_⟩
    conv=>whnf
    repeat'(first|exact trivial|exact rfl|refine And.intro ?_ ?_|((conv=>whnf);first|exact trivial|exact rfl|refine And.intro ?_ ?_|omega))
    all_goals first | exact (congrArg aBal app1.symm:_) | exact (congrArg aBal app1:_) | (simp; done) | skip
   ·have h1:¬ y.id=0:=by simpa using (show (y.id == 0)=false from hc)
    have hst:=hst.trans (show _=(true,acc) by rw [e1]; simp [h1])
    conv=>whnf
    refine⟨_,wrapId ⟨by omega,by omega⟩, ?_⟩
    refine⟨i+1,hlt,by show a.bs.length+b.bs.length - (i+1) < a.bs.length+b.bs.length - i; omega, ?_⟩
    try dsimp only
    rw [hst]
    conv=>whnf
    refine⟨rfl, ?_⟩
    conv=>whnf
    repeat'(first|exact trivial|exact rfl|refine And.intro ?_ ?_|((conv=>whnf);first|exact trivial|exact rfl|refine And.intro ?_ ?_|omega))
    all_goals first | exact (neBal_eq y L[i]:_) | (simp; done) | skip
  | false =>
   refine⟨fun hc=>absurd hc (by simp),fun hc=>?_⟩
   conv=>whnf
   refine⟨fun hc=>?_,fun hc=>?_⟩
   ·have h1:¬ y.id=0:=by simpa using (show (y.id != 0)=true from hc)
    conv=>whnf
    refine⟨fun hc=>absurd (by simpa using (show (y.id == 0)=true from hc)) h1,fun hc=>?_⟩
    have hst:=hst.trans (show _=(!decide (y=L[i]),acc) by rw [e1]; simp [h1])
    conv=>whnf
    refine⟨_,wrapId ⟨by omega,by omega⟩, ?_⟩
    refine⟨i+1,hlt,by show a.bs.length+b.bs.length - (i+1) < a.bs.length+b.bs.length - i; omega, ?_⟩
    try dsimp only
    rw [hst]
    conv=>whnf
    refine⟨rfl, ?_⟩
    conv=>whnf
    repeat'(first|exact trivial|exact rfl|refine And.intro ?_ ?_|((conv=>whnf);first|exact trivial|exact rfl|refine And.intro ?_ ?_|omega))
    all_goals first | exact (neBal_eq y L[i]:_) | (simp; done) | skip
   ·have h1:y.id=0:=by simpa using (show (y.id != 0)=false from hc)
    conv=>whnf
    refine⟨fun hc=>?_,fun hc=>absurd h1 (by simpa using (show (y.id == 0)=false from hc))⟩
    have hst:=hst.trans (show _=(false,acc ++ [L[i]]) by rw [e1]; simp [h1])
    conv=>whnf
    refine bs_step tB_ok (aBal [L[i]]) rfl rfl ?_
    conv=>whnf
    refine⟨⟨rfl,(by repeat'(first|exact trivial|exact rfl|refine And.intro ?_ ?_|((conv=>whnf);first|exact trivial|exact rfl|refine And.intro ?_ ?_|omega)))⟩, ?_⟩
    conv=>whnf
    refine app_step tB_ok (aBal acc) [L[i]] (fun _=>rfl) rfl rfl rfl rfl ?_
    conv=>whnf
    refine⟨⟨rfl,rfl,Nat.le_refl _,Nat.le_refl _,by show (acc.length+1) * 49≤_; omega⟩, ?_⟩
    conv=>whnf
    refine⟨_,wrapId ⟨by omega,by omega⟩, ?_⟩
    refine⟨i+1,hlt,by show a.bs.length+b.bs.length - (i+1) < a.bs.length+b.bs.length - i; omega, ?_⟩
    try dsimp only
    rw [hst]
    conv=>whnf
    refine⟨rfl, ?_⟩
    conv=>whnf
    repeat'(first|exact trivial|exact rfl|refine And.intro ?_ ?_|((conv=>whnf);first|exact trivial|exact rfl|refine And.intro ?_ ?_|omega))
    all_goals first | exact (congrArg aBal app1.symm:_) | exact (congrArg aBal app1:_) | (simp; done) | skip
 have hie:i=a.bs.length+b.bs.length:=by have:=of_decide_eq_false (show decide ((i:Int) < ((a.bs.length+b.bs.length:Nat):Int))=false from hc); omega
 subst hie
 rw [List.take_of_length_le (l:=a.bs ++ b.bs) (by rw [List.length_append]; exact Nat.le_refl _),foldB_all ha.balN hb.balN (fun x hx=>by have:=(valid_bd (ha.bal x hx)).1; omega) (fun x hx=>by have:=(valid_bd (hb.bal x hx)).1; omega)]
 dsimp only
 rw [hcB,hBB]
 conv=>whnf
 refine bs_step tB_ok (aChk []) rfl rfl ?_
 conv=>whnf
 refine⟨⟨rfl,trivial⟩, ?_⟩
 conv=>whnf
 refine appE_step tB_ok (aChk []) a.cs (fun _=>rfl) rfl rfl rfl rfl ?_
 conv=>whnf
 refine⟨⟨rfl,rfl,rfl,rfl,by show a.cs.length * 41≤_; omega⟩, ?_⟩
 conv=>whnf
 refine bs_step tB_ok (aNtc []) rfl rfl ?_
 conv=>whnf
 refine⟨⟨rfl,trivial⟩, ?_⟩
 conv=>whnf
 refine appE_step tB_ok (aNtc []) a.ns (fun _=>rfl) rfl rfl rfl rfl ?_
 conv=>whnf
 refine⟨⟨rfl,rfl,rfl,rfl,by show a.ns.length * 49≤_; omega⟩, ?_⟩
 conv=>whnf
 refine bs_step tB_ok (aWgh []) rfl rfl ?_
 conv=>whnf
 refine⟨⟨rfl,trivial⟩, ?_⟩
 conv=>whnf
 refine appE_step tB_ok (aWgh []) a.ws (fun _=>rfl) rfl rfl rfl rfl ?_
 conv=>whnf
 refine⟨⟨rfl,rfl,rfl,rfl,by show a.ws.length * 65≤_; omega⟩, ?_⟩
 conv=>whnf
 refine call_step hI (by exact rfl) (by exact rfl) ?_
 conv=>whnf
 refine⟨?_, ?_, ?_⟩
 iterate 2 · repeat'(first|exact trivial|exact rfl|refine And.intro ?_ ?_|((conv=>whnf);first|exact trivial|exact rfl|refine And.intro ?_ ?_|omega))
 conv=>whnf
 refine loop_step tB_ok (G:=Nat) 1 [14] (fun i=>[(14,iv .i64 i),(8,bv ((b.cs.take i).foldl (stepL Chk.id I a.cs) (cB,a.cs)).1)]) (fun i=>[(11,true, .cells [.s 12 0 BB.length 6, .s 20 0 ((b.cs.take i).foldl (stepL Chk.id I a.cs) (cB,a.cs)).2.length 5, .s 16 0 a.ns.length 6, .s 18 0 a.ws.length 8]),(20,true, .arr (aChk ((b.cs.take i).foldl (stepL Chk.id I a.cs) (cB,a.cs)).2))]) (fun i=>i≤b.cs.length) (fun i=>b.cs.length - i) ?_
 conv=>whnf
 refine⟨⟨0,Nat.zero_le _, ?_⟩, ?_⟩
 ·conv=>whnf
  repeat'(first|exact trivial|exact rfl|refine And.intro ?_ ?_|((conv=>whnf);first|exact trivial|exact rfl|refine And.intro ?_ ?_|omega))
 rintro i hi ρ1 t1 hρ1
 conv=>whnf
 refine⟨fun hc=>?_,fun hc=>?_⟩
 ·have hlt:i < b.cs.length:=by simpa using hc
  have hst:=take_fold (f:=stepL Chk.id I a.cs) (b:=(cB,a.cs)) hlt
  have hsl:((b.cs.take i).foldl (stepL Chk.id I a.cs) (cB,a.cs)).2.length≤300:=by
   have:=fold_len (key:=Chk.id) (ids:=I) (a:=a.cs) (l:=b.cs.take i) (c:=cB) (k:=a.cs)
   rw [List.length_take] at this
   omega
  generalize ((b.cs.take i).foldl (stepL Chk.id I a.cs) (cB,a.cs))=S at *
  obtain ⟨c,acc⟩:=S
  dsimp only at hsl
  have e1:stepL Chk.id I a.cs (c,acc) b.cs[i]=(c || (I.contains b.cs[i].id && !a.cs.contains b.cs[i]),bif I.contains b.cs[i].id then acc else acc ++ [b.cs[i]]):=rfl
  have hSm:=rSameChk_t a b.cs[i] sa
  have hHs:=rHas_t I b.cs[i].id (by omega)
  generalize I.contains b.cs[i].id=old at *
  generalize a.cs.contains b.cs[i]=same at *
  conv=>whnf
  refine⟨i,rfl,hlt,hlt, ?_⟩
  conv=>whnf
  refine call_step hSm (by exact rfl) (by exact rfl) ?_
  conv=>whnf
  refine⟨?_, ?_, ?_⟩
  iterate 2 · repeat'(first|exact trivial|exact rfl|refine And.intro ?_ ?_|((conv=>whnf);first|exact trivial|exact rfl|refine And.intro ?_ ?_|omega))
  conv=>whnf
  refine⟨i,rfl,hlt,hlt, ?_⟩
  conv=>whnf
  refine call_step hHs (by exact rfl) (by exact rfl) ?_
  conv=>whnf
  refine⟨?_, ?_, ?_⟩
  iterate 2 · repeat'(first|exact trivial|exact rfl|refine And.intro ?_ ?_|((conv=>whnf);first|exact trivial|exact rfl|refine And.intro ?_ ?_|omega))
  conv=>whnf
  cases c with
  | true =>
   refine⟨fun hc=>?_,fun hc=>absurd hc (by simp)⟩
   conv=>whnf
   cases old with
   | true =>
    refine⟨fun hc=>absurd hc (by simp),fun hc=>?_⟩
    have hst:=hst.trans (show _=(true,acc) by rw [e1]; simp)
    conv=>whnf
    refine⟨_,wrapId ⟨by omega,by omega⟩, ?_⟩
    refine⟨i+1,hlt,by show b.cs.length - (i+1) < b.cs.length - i; omega, ?_⟩
    try dsimp only
    rw [hst]
    conv=>whnf
    refine⟨rfl, ?_⟩
    conv=>whnf
    repeat'(first|exact trivial|exact rfl|refine And.intro ?_ ?_|((conv=>whnf);first|exact trivial|exact rfl|refine And.intro ?_ ?_|omega))
    all_goals first | (simp; done) | skip
   | false =>
    refine⟨fun hc=>?_,fun hc=>absurd hc (by simp)⟩
    have hst:=hst.trans (show _=(true,acc ++ [b.cs[i]]) by rw [e1]; simp)
    conv=>whnf
    refine⟨i,rfl,hlt,hlt, ?_⟩
    conv=>whnf
    refine bs_step tB_ok (aChk [b.cs[i]]) rfl rfl ?_
    conv=>whnf
    refine⟨⟨rfl,(by repeat'(first|exact trivial|exact rfl|refine And.intro ?_ ?_|((conv=>whnf);first|exact trivial|exact rfl|refine And.intro ?_ ?_|omega)))⟩, ?_⟩
    conv=>whnf
    refine app_step tB_ok (aChk acc) [b.cs[i]] (fun _=>rfl) rfl rfl rfl rfl ?_
    conv=>whnf
    refine⟨⟨rfl,rfl,Nat.le_refl _,Nat.le_refl _,by show (acc.length+1) * 41≤_; omega⟩, ?_⟩
    conv=>whnf
    refine⟨_,wrapId ⟨by omega,by omega⟩, ?_⟩
    refine⟨i+1,hlt,by show b.cs.length - (i+1) < b.cs.length - i; omega, ?_⟩
    try dsimp only
    rw [hst]
    conv=>whnf
    refine⟨rfl, ?_⟩
    conv=>whnf
    repeat'(first|exact trivial|exact rfl|refine And.intro ?_ ?_|((conv=>whnf);first|exact trivial|exact rfl|refine And.intro ?_ ?_|omega))
    all_goals first | exact (congrArg aChk app1.symm:_) | exact (congrArg aChk app1:_) | (simp; done) | skip
  | false =>
   refine⟨fun hc=>absurd hc (by simp),fun hc=>?_⟩
   conv=>whnf
   cases old with
   | true =>
    refine⟨fun hc=>?_,fun hc=>absurd hc (by simp)⟩
    conv=>whnf
    refine⟨fun hc=>absurd hc (by simp),fun hc=>?_⟩
    have hst:=hst.trans (show _=(!same,acc) by rw [e1]; simp)
    conv=>whnf
    refine⟨_,wrapId ⟨by omega,by omega⟩, ?_⟩
    refine⟨i+1,hlt,by show b.cs.length - (i+1) < b.cs.length - i; omega, ?_⟩
    try dsimp only
    rw [hst]
    conv=>whnf
    refine⟨rfl, ?_⟩
    conv=>whnf
    repeat'(first|exact trivial|exact rfl|refine And.intro ?_ ?_|((conv=>whnf);first|exact trivial|exact rfl|refine And.intro ?_ ?_|omega))
    all_goals first | (simp; done) | skip
   | false =>
    refine⟨fun hc=>absurd hc (by simp),fun hc=>?_⟩
    conv=>whnf
    refine⟨fun hc=>?_,fun hc=>absurd hc (by simp)⟩
    have hst:=hst.trans (show _=(false,acc ++ [b.cs[i]]) by rw [e1]; simp)
    conv=>whnf
    refine⟨i,rfl,hlt,hlt, ?_⟩
    conv=>whnf
    refine bs_step tB_ok (aChk [b.cs[i]]) rfl rfl ?_
    conv=>whnf
    refine⟨⟨rfl,(by repeat'(first|exact trivial|exact rfl|refine And.intro ?_ ?_|((conv=>whnf);first|exact trivial|exact rfl|refine And.intro ?_ ?_|omega)))⟩, ?_⟩
    conv=>whnf
    refine app_step tB_ok (aChk acc) [b.cs[i]] (fun _=>rfl) rfl rfl rfl rfl ?_
    conv=>whnf
    refine⟨⟨rfl,rfl,Nat.le_refl _,Nat.le_refl _,by show (acc.length+1) * 41≤_; omega⟩, ?_⟩
    conv=>whnf
    refine⟨_,wrapId ⟨by omega,by omega⟩, ?_⟩
    refine⟨i+1,hlt,by show b.cs.length - (i+1) < b.cs.length - i; omega, ?_⟩
    try dsimp only
    rw [hst]
    conv=>whnf
    refine⟨rfl, ?_⟩
    conv=>whnf
    repeat'(first|exact trivial|exact rfl|refine And.intro ?_ ?_|((conv=>whnf);first|exact trivial|exact rfl|refine And.intro ?_ ?_|omega))
    all_goals first | exact (congrArg aChk app1.symm:_) | exact (congrArg aChk app1:_) | (simp; done) | skip
 have hie:i=b.cs.length:=by simp at hc; omega
 subst hie
 rw [List.take_length,foldL_all,hcC,hCC]
 dsimp only
 conv=>whnf
 refine loop_step tB_ok (G:=Nat) 1 [16] (fun i=>[(17,iv .i64 i),(8,bv ((b.ns.take i).foldl (stepL Ntc.id I a.ns) ((cB || cC),a.ns)).1)]) (fun i=>[(11,true, .cells [.s 12 0 BB.length 6, .s 20 0 CC.length 5, .s 21 0 ((b.ns.take i).foldl (stepL Ntc.id I a.ns) ((cB || cC),a.ns)).2.length 6, .s 18 0 a.ws.length 8]),(21,true, .arr (aNtc ((b.ns.take i).foldl (stepL Ntc.id I a.ns) ((cB || cC),a.ns)).2))]) (fun i=>i≤b.ns.length) (fun i=>b.ns.length - i) ?_
 conv=>whnf
 refine⟨⟨0,Nat.zero_le _, ?_⟩, ?_⟩
 ·conv=>whnf
  repeat'(first|exact trivial|exact rfl|refine And.intro ?_ ?_|((conv=>whnf);first|exact trivial|exact rfl|refine And.intro ?_ ?_|omega))
 rintro i hi ρ1 t1 hρ1
 conv=>whnf
 refine⟨fun hc=>?_,fun hc=>?_⟩
 ·have hlt:i < b.ns.length:=by simpa using hc
  have hst:=take_fold (f:=stepL Ntc.id I a.ns) (b:=((cB || cC),a.ns)) hlt
  have hsl:((b.ns.take i).foldl (stepL Ntc.id I a.ns) ((cB || cC),a.ns)).2.length≤300:=by
   have:=fold_len (key:=Ntc.id) (ids:=I) (a:=a.ns) (l:=b.ns.take i) (c:=(cB || cC)) (k:=a.ns)
   rw [List.length_take] at this
   omega
  generalize ((b.ns.take i).foldl (stepL Ntc.id I a.ns) ((cB || cC),a.ns))=S at *
  obtain ⟨c,acc⟩:=S
  dsimp only at hsl
  have e1:stepL Ntc.id I a.ns (c,acc) b.ns[i]=(c || (I.contains b.ns[i].id && !a.ns.contains b.ns[i]),bif I.contains b.ns[i].id then acc else acc ++ [b.ns[i]]):=rfl
  have hSm:=rSameNtc_t a b.ns[i] sa
  have hHs:=rHas_t I b.ns[i].id (by omega)
  generalize I.contains b.ns[i].id=old at *
  generalize a.ns.contains b.ns[i]=same at *
  conv=>whnf
  refine⟨i,rfl,hlt,hlt, ?_⟩
  conv=>whnf
  refine call_step hSm (by exact rfl) (by exact rfl) ?_
  conv=>whnf
  refine⟨?_, ?_, ?_⟩
  iterate 2 · repeat'(first|exact trivial|exact rfl|refine And.intro ?_ ?_|((conv=>whnf);first|exact trivial|exact rfl|refine And.intro ?_ ?_|omega))
  conv=>whnf
  refine⟨i,rfl,hlt,hlt, ?_⟩
  conv=>whnf
  refine call_step hHs (by exact rfl) (by exact rfl) ?_
  conv=>whnf
  refine⟨?_, ?_, ?_⟩
  iterate 2 · repeat'(first|exact trivial|exact rfl|refine And.intro ?_ ?_|((conv=>whnf);first|exact trivial|exact rfl|refine And.intro ?_ ?_|omega))
  conv=>whnf
  cases c with
  | true =>
   refine⟨fun hc=>?_,fun hc=>absurd hc (by simp)⟩
   conv=>whnf
   cases old with
   | true =>
    refine⟨fun hc=>absurd hc (by simp),fun hc=>?_⟩
    have hst:=hst.trans (show _=(true,acc) by rw [e1]; simp)
    conv=>whnf
    refine⟨_,wrapId ⟨by omega,by omega⟩, ?_⟩
    refine⟨i+1,hlt,by show b.ns.length - (i+1) < b.ns.length - i; omega, ?_⟩
    try dsimp only
    rw [hst]
    conv=>whnf
    refine⟨rfl, ?_⟩
    conv=>whnf
    repeat'(first|exact trivial|exact rfl|refine And.intro ?_ ?_|((conv=>whnf);first|exact trivial|exact rfl|refine And.intro ?_ ?_|omega))
    all_goals first | (simp; done) | skip
   | false =>
    refine⟨fun hc=>?_,fun hc=>absurd hc (by simp)⟩
    have hst:=hst.trans (show _=(true,acc ++ [b.ns[i]]) by rw [e1]; simp)
    conv=>whnf
    refine⟨i,rfl,hlt,hlt, ?_⟩
    conv=>whnf
    refine bs_step tB_ok (aNtc [b.ns[i]]) rfl rfl ?_
    conv=>whnf
    refine⟨⟨rfl,(by repeat'(first|exact trivial|exact rfl|refine And.intro ?_ ?_|((conv=>whnf);first|exact trivial|exact rfl|refine And.intro ?_ ?_|omega)))⟩, ?_⟩
    conv=>whnf
    refine app_step tB_ok (aNtc acc) [b.ns[i]] (fun _=>rfl) rfl rfl rfl rfl ?_
    conv=>whnf
    refine⟨⟨rfl,rfl,Nat.le_refl _,Nat.le_refl _,by show (acc.length+1) * 49≤_; omega⟩, ?_⟩
    conv=>whnf
    refine⟨_,wrapId ⟨by omega,by omega⟩, ?_⟩
    refine⟨i+1,hlt,by show b.ns.length - (i+1) < b.ns.length - i; omega, ?_⟩
    try dsimp only
    rw [hst]
    conv=>whnf
    refine⟨rfl, ?_⟩
    conv=>whnf
    repeat'(first|exact trivial|exact rfl|refine And.intro ?_ ?_|((conv=>whnf);first|exact trivial|exact rfl|refine And.intro ?_ ?_|omega))
    all_goals first | exact (congrArg aNtc app1.symm:_) | exact (congrArg aNtc app1:_) | (simp; done) | skip
  | false =>
   refine⟨fun hc=>absurd hc (by simp),fun hc=>?_⟩
   conv=>whnf
   cases old with
   | true =>
    refine⟨fun hc=>?_,fun hc=>absurd hc (by simp)⟩
    conv=>whnf
    refine⟨fun hc=>absurd hc (by simp),fun hc=>?_⟩
    have hst:=hst.trans (show _=(!same,acc) by rw [e1]; simp)
    conv=>whnf
    refine⟨_,wrapId ⟨by omega,by omega⟩, ?_⟩
    refine⟨i+1,hlt,by show b.ns.length - (i+1) < b.ns.length - i; omega, ?_⟩
    try dsimp only
    rw [hst]
    conv=>whnf
    refine⟨rfl, ?_⟩
    conv=>whnf
    repeat'(first|exact trivial|exact rfl|refine And.intro ?_ ?_|((conv=>whnf);first|exact trivial|exact rfl|refine And.intro ?_ ?_|omega))
    all_goals first | (simp; done) | skip
   | false =>
    refine⟨fun hc=>absurd hc (by simp),fun hc=>?_⟩
    conv=>whnf
    refine⟨fun hc=>?_,fun hc=>absurd hc (by simp)⟩
    have hst:=hst.trans (show _=(false,acc ++ [b.ns[i]]) by rw [e1]; simp)
    conv=>whnf
    refine⟨i,rfl,hlt,hlt, ?_⟩
    conv=>whnf
    refine bs_step tB_ok (aNtc [b.ns[i]]) rfl rfl ?_
    conv=>whnf
    refine⟨⟨rfl,(by repeat'(first|exact trivial|exact rfl|refine And.intro ?_ ?_|((conv=>whnf);first|exact trivial|exact rfl|refine And.intro ?_ ?_|omega)))⟩, ?_⟩
    conv=>whnf
    refine app_step tB_ok (aNtc acc) [b.ns[i]] (fun _=>rfl) rfl rfl rfl rfl ?_
    conv=>whnf
    refine⟨⟨rfl,rfl,Nat.le_refl _,Nat.le_refl _,by show (acc.length+1) * 49≤_; omega⟩, ?_⟩
    conv=>whnf
    refine⟨_,wrapId ⟨by omega,by omega⟩, ?_⟩
    refine⟨i+1,hlt,by show b.ns.length - (i+1) < b.ns.length - i; omega, ?_⟩
    try dsimp only
    rw [hst]
    conv=>whnf
    refine⟨rfl, ?_⟩
    conv=>whnf
    repeat'(first|exact trivial|exact rfl|refine And.intro ?_ ?_|((conv=>whnf);first|exact trivial|exact rfl|refine And.intro ?_ ?_|omega))
    all_goals first | exact (congrArg aNtc app1.symm:_) | exact (congrArg aNtc app1:_) | (simp; done) | skip
 have hie:i=b.ns.length:=by simp at hc; omega
 subst hie
 rw [List.take_length,foldL_all,hcN,hNN]
 dsimp only
 conv=>whnf
 refine loop_step tB_ok (G:=Nat) 1 [18] (fun i=>[(20,iv .i64 i),(8,bv ((b.ws.take i).foldl (stepL Wgh.id I a.ws) (((cB || cC) || cN),a.ws)).1)]) (fun i=>[(11,true, .cells [.s 12 0 BB.length 6, .s 20 0 CC.length 5, .s 21 0 NN.length 6, .s 22 0 ((b.ws.take i).foldl (stepL Wgh.id I a.ws) (((cB || cC) || cN),a.ws)).2.length 8]),(22,true, .arr (aWgh ((b.ws.take i).foldl (stepL Wgh.id I a.ws) (((cB || cC) || cN),a.ws)).2))]) (fun i=>i≤b.ws.length) (fun i=>b.ws.length - i) ?_
 conv=>whnf
 refine⟨⟨0,Nat.zero_le _, ?_⟩, ?_⟩
 ·conv=>whnf
  repeat'(first|exact trivial|exact rfl|refine And.intro ?_ ?_|((conv=>whnf);first|exact trivial|exact rfl|refine And.intro ?_ ?_|omega))
 rintro i hi ρ1 t1 hρ1
 conv=>whnf
 refine⟨fun hc=>?_,fun hc=>?_⟩
 ·have hlt:i < b.ws.length:=by simpa using hc
  have hst:=take_fold (f:=stepL Wgh.id I a.ws) (b:=(((cB || cC) || cN),a.ws)) hlt
  have hsl:((b.ws.take i).foldl (stepL Wgh.id I a.ws) (((cB || cC) || cN),a.ws)).2.length≤300:=by
   have:=fold_len (key:=Wgh.id) (ids:=I) (a:=a.ws) (l:=b.ws.take i) (c:=((cB || cC) || cN)) (k:=a.ws)
   rw [List.length_take] at this
   omega
  generalize ((b.ws.take i).foldl (stepL Wgh.id I a.ws) (((cB || cC) || cN),a.ws))=S at *
  obtain ⟨c,acc⟩:=S
  dsimp only at hsl
  have e1:stepL Wgh.id I a.ws (c,acc) b.ws[i]=(c || (I.contains b.ws[i].id && !a.ws.contains b.ws[i]),bif I.contains b.ws[i].id then acc else acc ++ [b.ws[i]]):=rfl
  have hSm:=rSameWgh_t a b.ws[i] sa
  have hHs:=rHas_t I b.ws[i].id (by omega)
  generalize I.contains b.ws[i].id=old at *
  generalize a.ws.contains b.ws[i]=same at *
  conv=>whnf
  refine⟨i,rfl,hlt,hlt, ?_⟩
  conv=>whnf
  refine call_step hSm (by exact rfl) (by exact rfl) ?_
  conv=>whnf
  refine⟨?_, ?_, ?_⟩
  iterate 2 · repeat'(first|exact trivial|exact rfl|refine And.intro ?_ ?_|((conv=>whnf);first|exact trivial|exact rfl|refine And.intro ?_ ?_|omega))
  conv=>whnf
  refine⟨i,rfl,hlt,hlt, ?_⟩
  conv=>whnf
  refine call_step hHs (by exact rfl) (by exact rfl) ?_
  conv=>whnf
  refine⟨?_, ?_, ?_⟩
  iterate 2 · repeat'(first|exact trivial|exact rfl|refine And.intro ?_ ?_|((conv=>whnf);first|exact trivial|exact rfl|refine And.intro ?_ ?_|omega))
  conv=>whnf
  cases c with
  | true =>
   refine⟨fun hc=>?_,fun hc=>absurd hc (by simp)⟩
   conv=>whnf
   cases old with
   | true =>
    refine⟨fun hc=>absurd hc (by simp),fun hc=>?_⟩
    have hst:=hst.trans (show _=(true,acc) by rw [e1]; simp)
    conv=>whnf
    refine⟨_,wrapId ⟨by omega,by omega⟩, ?_⟩
    refine⟨i+1,hlt,by show b.ws.length - (i+1) < b.ws.length - i; omega, ?_⟩
    try dsimp only
    rw [hst]
    conv=>whnf
    refine⟨rfl, ?_⟩
    conv=>whnf
    repeat'(first|exact trivial|exact rfl|refine And.intro ?_ ?_|((conv=>whnf);first|exact trivial|exact rfl|refine And.intro ?_ ?_|omega))
    all_goals first | (simp; done) | skip
   | false =>
    refine⟨fun hc=>?_,fun hc=>absurd hc (by simp)⟩
    have hst:=hst.trans (show _=(true,acc ++ [b.ws[i]]) by rw [e1]; simp)
    conv=>whnf
    refine⟨i,rfl,hlt,hlt, ?_⟩
    conv=>whnf
    refine bs_step tB_ok (aWgh [b.ws[i]]) rfl rfl ?_
    conv=>whnf
    refine⟨⟨rfl,(by repeat'(first|exact trivial|exact rfl|refine And.intro ?_ ?_|((conv=>whnf);first|exact trivial|exact rfl|refine And.intro ?_ ?_|omega)))⟩, ?_⟩
    conv=>whnf
    refine app_step tB_ok (aWgh acc) [b.ws[i]] (fun _=>rfl) rfl rfl rfl rfl ?_
    conv=>whnf
    refine⟨⟨rfl,rfl,Nat.le_refl _,Nat.le_refl _,by show (acc.length+1) * 65≤_; omega⟩, ?_⟩
    conv=>whnf
    refine⟨_,wrapId ⟨by omega,by omega⟩, ?_⟩
    refine⟨i+1,hlt,by show b.ws.length - (i+1) < b.ws.length - i; omega, ?_⟩
    try dsimp only
    rw [hst]
    conv=>whnf
    refine⟨rfl, ?_⟩
    conv=>whnf
    repeat'(first|exact trivial|exact rfl|refine And.intro ?_ ?_|((conv=>whnf);first|exact trivial|exact rfl|refine And.intro ?_ ?_|omega))
    all_goals first | exact (congrArg aWgh app1.symm:_) | exact (congrArg aWgh app1:_) | (simp; done) | skip
  | false =>
   refine⟨fun hc=>absurd hc (by simp),fun hc=>?_⟩
   conv=>whnf
   cases old with
   | true =>
    refine⟨fun hc=>?_,fun hc=>absurd hc (by simp)⟩
    conv=>whnf
    refine⟨fun hc=>absurd hc (by simp),fun hc=>?_⟩
    have hst:=hst.trans (show _=(!same,acc) by rw [e1]; simp)
    conv=>whnf
    refine⟨_,wrapId ⟨by omega,by omega⟩, ?_⟩
    refine⟨i+1,hlt,by show b.ws.length - (i+1) < b.ws.length - i; omega, ?_⟩
    try dsimp only
    rw [hst]
    conv=>whnf
    refine⟨rfl, ?_⟩
    conv=>whnf
    repeat'(first|exact trivial|exact rfl|refine And.intro ?_ ?_|((conv=>whnf);first|exact trivial|exact rfl|refine And.intro ?_ ?_|omega))
    all_goals first | (simp; done) | skip
   | false =>
    refine⟨fun hc=>absurd hc (by simp),fun hc=>?_⟩
    conv=>whnf
    refine⟨fun hc=>?_,fun hc=>absurd hc (by simp)⟩
    have hst:=hst.trans (show _=(false,acc ++ [b.ws[i]]) by rw [e1]; simp)
    conv=>whnf
    refine⟨i,rfl,hlt,hlt, ?_⟩
    conv=>whnf
    refine bs_step tB_ok (aWgh [b.ws[i]]) rfl rfl ?_
    conv=>whnf
    refine⟨⟨rfl,(by repeat'(first|exact trivial|exact rfl|refine And.intro ?_ ?_|((conv=>whnf);first|exact trivial|exact rfl|refine And.intro ?_ ?_|omega)))⟩, ?_⟩
    conv=>whnf
    refine app_step tB_ok (aWgh acc) [b.ws[i]] (fun _=>rfl) rfl rfl rfl rfl ?_
    conv=>whnf
    refine⟨⟨rfl,rfl,Nat.le_refl _,Nat.le_refl _,by show (acc.length+1) * 65≤_; omega⟩, ?_⟩
    conv=>whnf
    refine⟨_,wrapId ⟨by omega,by omega⟩, ?_⟩
    refine⟨i+1,hlt,by show b.ws.length - (i+1) < b.ws.length - i; omega, ?_⟩
    try dsimp only
    rw [hst]
    conv=>whnf
    refine⟨rfl, ?_⟩
    conv=>whnf
    repeat'(first|exact trivial|exact rfl|refine And.intro ?_ ?_|((conv=>whnf);first|exact trivial|exact rfl|refine And.intro ?_ ?_|omega))
    all_goals first | exact (congrArg aWgh app1.symm:_) | exact (congrArg aWgh app1:_) | (simp; done) | skip
 have hie:i=b.ws.length:=by simp at hc; omega
 subst hie
 rw [List.take_length,foldL_all,hcW,hWW]
 dsimp only
 conv=>whnf
 generalize hcl:(((cB || cC) || cN) || cW)=cl at *
 cases cl with
 | true =>
  rw [cond_true] at e
  subst e
  refine⟨fun hc=>?_,fun hc=>absurd hc (by simp)⟩
  conv=>whnf
  repeat'(first|exact trivial|exact rfl|refine And.intro ?_ ?_|((conv=>whnf);first|exact trivial|exact rfl|refine And.intro ?_ ?_|omega))
 | false =>
 rw [cond_false] at e
 have hSd:=hSd rfl
 refine⟨fun hc=>absurd hc (by simp),fun hc=>?_⟩
 conv=>whnf
 by_cases h8:8 < BB.length
 ·rw [if_pos (.inl h8)] at e
  subst e
  refine⟨fun hc=>?_,fun hc=>absurd (of_decide_eq_false (show decide ((8:Int) < (BB.length:Int))=false from hc)) (by omega)⟩
  conv=>whnf
  repeat'(first|exact trivial|exact rfl|refine And.intro ?_ ?_|((conv=>whnf);first|exact trivial|exact rfl|refine And.intro ?_ ?_|omega))
 refine⟨fun hc=>absurd (of_decide_eq_true (show decide ((8:Int) < (BB.length:Int))=true from hc)) (by omega),fun hc=>?_⟩
 conv=>whnf
 refine⟨((CC.length+NN.length:Nat):Int),(congrArg IntKind.i64.wrap (show (CC.length:Int)+NN.length=((CC.length+NN.length:Nat):Int) by omega)).trans (wrapId ⟨by omega,by omega⟩), ?_⟩
 conv=>whnf
 refine⟨((CC.length+NN.length+WW.length:Nat):Int),(congrArg IntKind.i64.wrap (show ((CC.length+NN.length:Nat):Int)+WW.length=((CC.length+NN.length+WW.length:Nat):Int) by omega)).trans (wrapId ⟨by omega,by omega⟩), ?_⟩
 conv=>whnf
 by_cases h100:100 < CC.length+NN.length+WW.length
 ·rw [if_pos (.inr h100)] at e
  subst e
  refine⟨fun hc=>?_,fun hc=>absurd (of_decide_eq_false (show decide ((100:Int) < ((CC.length+NN.length+WW.length:Nat):Int))=false from hc)) (by omega)⟩
  conv=>whnf
  repeat'(first|exact trivial|exact rfl|refine And.intro ?_ ?_|((conv=>whnf);first|exact trivial|exact rfl|refine And.intro ?_ ?_|omega))
 rw [if_neg (fun h=>h.elim h8 h100)] at e
 subst e
 refine⟨fun hc=>absurd (of_decide_eq_true (show decide ((100:Int) < ((CC.length+NN.length+WW.length:Nat):Int))=true from hc)) (by omega),fun hc=>?_⟩
 conv=>whnf
 generalize sortedR ⟨BB,CC,NN,WW⟩=Q at *
 refine call_step hSd (by exact rfl) (by exact rfl) ?_
 conv=>whnf
 refine⟨?_, ?_, ?_⟩
 iterate 2 · repeat'(first|exact trivial|exact rfl|refine And.intro ?_ ?_|((conv=>whnf);first|exact trivial|exact rfl|refine And.intro ?_ ?_|omega))
 conv=>whnf
 repeat'(first|exact trivial|exact rfl|refine And.intro ?_ ?_|((conv=>whnf);first|exact trivial|exact rfl|refine And.intro ?_ ?_|omega))

end Go.Proofs

namespace Go.Proofs
open Go.Sx

end Go.Proofs

namespace Go.Proofs
open Go.Sx Go.ChangeShapes Go.WideShapes Go.RowKit Go.Deep

end Go.Proofs

namespace Go.Proofs
open Go.Sx

end Go.Proofs

namespace Go.Proofs
open Go.Sx

end Go.Proofs

namespace Go.Proofs
open Go.Sx Go.ChangeShapes Go.WideShapes Go.RowKit Go.Deep

theorem came_nums {base:Nat} {H:Type} {enc:TypeId × Value → H} {w:World} {v:Value} {d:DataW H} {p:List MemPlace} (hok:Value.okWide Tryz.prog w .any base 43 v)
  (h:DataW.Trod enc Tryz.prog w 0 (fun _=>true) true 43 v d p) (hw:∀ y ∈ d.weights Tryz.prog 43,y≤reachBytes) (k0:Nat) :
  ∃ (xs:List Int) (q0:Rg),xs.length≤140737488351232∧Came w v (.c (.s k0 0 xs.length 1)) [(k0,false, .arr (aInt xs))] [(k0,q0)]:=by
 obtain ⟨a,l,c,rfl⟩:=okWide_slice (by kernel_rfl:Tryz.prog.underlying 43=some (.slice 3)) hok
 obtain ⟨fuel,hf⟩:=h
 obtain ⟨ms,q0,l0,g0⟩:=key_sl (x:=(d,p)) (fun x:Int=>[x]) (fun _=>rfl) (fun V=>V 0) (fun V j z hz=>by
  match j,hz with
  | 0,hz=>simp at hz; exact⟨by decide,hz.symm⟩) (by kernel_rfl:Tryz.prog.underlying 43=some (.slice 3)) I_int (by decide) (by decide +kernel) hw hf k0
 refine⟨ms,q0,l0,fun ρ hρ=>?_⟩
 have e0:=hρ (k0,q0) (by simp)
 obtain ⟨u0,v0,r0⟩:=g0 ρ e0
 refine⟨u0,fun y hy=>?_⟩
 simp only [List.mem_singleton] at hy
 subst hy
 exact⟨rfl,v0,room_pos (f:=fun x:Int=>[x]) (hf:=fun _=>rfl) (xs:=ms) e0 r0⟩

end Go.Proofs

