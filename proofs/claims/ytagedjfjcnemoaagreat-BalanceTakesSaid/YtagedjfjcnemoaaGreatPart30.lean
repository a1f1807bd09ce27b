/-
  A part of the proof that a law answers true: lemmas of a symbolic walk, plain functions, or contracts of the functions walked (Rw, Pm29, Pm30). Conditions: none.
-/
import Derived.Test.YtagedjfjcnemoaaGreatPart29
import Derived.Test.YtagedjfjcnemoaaGreatPart14
set_option maxRecDepth 100000
set_option linter.unusedVariables false
set_option linter.unusedSimpArgs false
namespace Go.Proofs
open Go.Sx

def MinI (l:List Int) (last:Int) (i:Nat) (best:Int):Prop :=
 (best=1099511627777∧∀ x ∈ l.take i,¬ last < x) ∨ (best ∈ l∧last < best∧∀ y ∈ l.take i,last < y → best≤y)

theorem minI_zero (l:List Int) (last:Int):MinI l last 0 1099511627777:=.inl ⟨rfl,fun x hx=>by simp at hx⟩

theorem minI_take {l:List Int} {last best:Int} {i:Nat} (h:i < l.length) (hm:MinI l last i best) (h1:last < l[i]) (h2:l[i]≤1099511627776):MinI l last (i+1) (min best l[i]):=by
 have hmem:∀ x,x ∈ l.take (i+1) ↔ x ∈ l.take i ∨ x=l[i]:=fun x=>take_succ_mem h
 rcases hm with ⟨rfl,hn⟩ | ⟨hb,hl,hmin⟩
 ·have e:min 1099511627777 l[i]=l[i]:=by omega
  rw [e]
  refine .inr ⟨List.getElem_mem h,h1,fun y hy hly=>?_⟩
  rcases (hmem y).1 hy with hy | rfl
  ·exact absurd hly (hn y hy)
  ·exact Int.le_refl _
 ·by_cases hlt:best≤l[i]
  ·have e:min best l[i]=best:=by omega
   rw [e]
   refine .inr ⟨hb,hl,fun y hy hly=>?_⟩
   rcases (hmem y).1 hy with hy | rfl
   ·exact hmin y hy hly
   ·exact hlt
  ·have e:min best l[i]=l[i]:=by omega
   rw [e]
   refine .inr ⟨List.getElem_mem h,h1,fun y hy hly=>?_⟩
   rcases (hmem y).1 hy with hy | rfl
   ·have:=hmin y hy hly; omega
   ·exact Int.le_refl _

theorem minI_keep {l:List Int} {last best:Int} {i:Nat} (h:i < l.length) (hm:MinI l last i best) (h1:¬ last < l[i]):MinI l last (i+1) best:=by
 have hmem:∀ x,x ∈ l.take (i+1) ↔ x ∈ l.take i ∨ x=l[i]:=fun x=>take_succ_mem h
 rcases hm with ⟨rfl,hn⟩ | ⟨hb,hl,hmin⟩
 ·refine .inl ⟨rfl,fun y hy=>?_⟩
  rcases (hmem y).1 hy with hy | rfl
  ·exact hn y hy
  ·exact h1
 ·refine .inr ⟨hb,hl,fun y hy hly=>?_⟩
  rcases (hmem y).1 hy with hy | rfl
  ·exact hmin y hy hly
  ·exact absurd hly h1

def idK (x:Int):Int:=x

theorem minI_all {l:List Int} (hd:l.Nodup) (hp:∀ x ∈ l,0 < x) {k:Nat} (hk:k < l.length) {best:Int} (hm:MinI l (lastK idK l k) l.length best):(sortK idK l)[k]? = some best:=by
 have hd':(l.map idK).Nodup:=by rw [show l.map idK=l from List.map_id l]; exact hd
 rcases hm with ⟨_,hn⟩ | ⟨hb,hl,hmin⟩
 ·obtain ⟨x,hx,hlx⟩:=pick_some (key:=idK) hd' hp hk
  exact absurd hlx (hn x (by rw [List.take_length]; exact hx))
 ·exact pick_next (key:=idK) hd' hp hk hb hl fun y hy hly=>hmin y (by rw [List.take_length]; exact hy) hly

theorem sort_dist {l:List Int} (hd:l.Nodup):sortK idK l=distS (fun a b:Int=>decide (a < b)) l:=by
 have hd':(l.map idK).Nodup:=by rw [show l.map idK=l from List.map_id l]; exact hd
 have h1:=sortK_inc (key:=idK) hd'
 refine inc_extG (lt:=fun a b:Int=>decide (a < b)) (fun x=>by simp) (fun x y z h1 h2=>by simp at *; omega) (List.Pairwise.imp (fun {a b} h=>(show decide (idK a < idK b)=true from h)) h1) (distS_inc intLt_ok l) (fun x=>?_)
 rw [distS_mem intLt_ok]
 exact (sortK_perm idK l).mem_iff

set_option maxHeartbeats 1000000 in
theorem rIDs_t (r:Rd) (h:RdOK r):Triple Tryz.prog 109 [rdA r] (rdH r) 4 (.c (.s 4 0 (idsR r).length 1)) [(4,true, .arr (aInt (idsR r)))]:=by
 have hs:=h.sml
 have e:idsR r=sortK idK ((r.cs.map Chk.id ++ r.ns.map Ntc.id) ++ r.ws.map Wgh.id):=by
  unfold idsR allIds
  rw [← List.append_assoc]
  exact (sort_dist (by rw [List.append_assoc]; exact h.ids)).symm
 have hd:((r.cs.map Chk.id ++ r.ns.map Ntc.id) ++ r.ws.map Wgh.id).Nodup:=by rw [List.append_assoc]; exact h.ids
 have hp:∀ x ∈ (r.cs.map Chk.id ++ r.ns.map Ntc.id) ++ r.ws.map Wgh.id,0 < x∧x≤1099511627776:=fun x hx=>by
  rcases List.mem_append.1 hx with hx | hx
  ·rcases List.mem_append.1 hx with hx | hx
   ·obtain ⟨c,hc,rfl⟩:=List.mem_map.1 hx
    have:=(h.c hc).2.1; omega
   ·obtain ⟨c,hc,rfl⟩:=List.mem_map.1 hx
    have:=(h.n hc).2.1; omega
  ·obtain ⟨c,hc,rfl⟩:=List.mem_map.1 hx
   have:=(h.w hc).2.1; omega
 rw [e]
 clear e
 obtain ⟨h1,h2,h3,h4⟩:=hs
 clear h
 obtain ⟨bs,cs,ns,ws⟩:=r
 dsimp only at *
 refine triple_of tB_ok Tryz.func109 rfl Tryz.call109 rfl ?_
 intro ρ w hH
 conv=>whnf
 refine loop_step tB_ok (G:=Nat) 1 [] (fun i=>[(4,iv .i64 i),(3, .c (.s 5 0 ((cs.take i).map Chk.id).length 1))]) (fun i=>[(5,true, .arr (aInt ((cs.take i).map Chk.id)))]) (fun i=>i≤cs.length) (fun i=>cs.length - i) ?_
 conv=>whnf
 refine⟨⟨0,Nat.zero_le _, ?_⟩, ?_⟩
 ·conv=>whnf
  repeat'(first|exact trivial|exact rfl|refine And.intro ?_ ?_|((conv=>whnf);first|exact trivial|exact rfl|refine And.intro ?_ ?_|omega))
 rintro i hi ρ1 t1 hρ1
 conv=>whnf
 refine⟨fun hc=>?_,fun hc=>?_⟩
 ·have hlt:i < cs.length:=by simpa using hc
  have hL:( (cs.take i).map Chk.id).length≤100000:=by simp only [List.length_append,List.length_map,List.length_take]; omega
  have hnx: (cs.take (i+1)).map Chk.id=( (cs.take i).map Chk.id) ++ [Chk.id cs[i]]:=by rw [take_snoc hlt,List.map_append]; simp
  generalize  (cs.take i).map Chk.id=M at *
  conv=>whnf
  refine⟨i,rfl,hlt,hlt, ?_⟩
  conv=>whnf
  refine bs_step tB_ok (aInt [Chk.id cs[i]]) rfl rfl ?_
  conv=>whnf
  refine⟨⟨rfl,(by repeat'(first|exact trivial|exact rfl|refine And.intro ?_ ?_|((conv=>whnf);first|exact trivial|exact rfl|refine And.intro ?_ ?_|omega)))⟩, ?_⟩
  conv=>whnf
  refine app_step tB_ok (aInt M) [Chk.id cs[i]] (fun _=>rfl) rfl rfl rfl rfl ?_
  conv=>whnf
  refine⟨⟨rfl,rfl,Nat.le_refl _,Nat.le_refl _,by show (M.length+1) * 9≤_; omega⟩, ?_⟩
  conv=>whnf
  refine⟨_,wrapId ⟨by omega,by omega⟩, ?_⟩
  refine⟨i+1,hlt,by show cs.length - (i+1) < cs.length - i; omega, ?_⟩
  dsimp only
  rw [hnx]
  conv=>whnf
  refine⟨rfl, ?_⟩
  conv=>whnf
  repeat'(first|exact trivial|exact rfl|refine And.intro ?_ ?_|((conv=>whnf);first|exact trivial|exact rfl|refine And.intro ?_ ?_|omega))
  all_goals first | exact (congrArg aInt app1.symm:_) | exact (congrArg aInt app1:_) | simp
 have hie:i=cs.length:=by simp at hc; omega
 subst hie
 rw [List.take_length]
 have hL:(cs.map Chk.id).length≤100000:=by rw [List.length_map]; omega
 generalize cs.map Chk.id=L1 at *
 conv=>whnf
 refine loop_step tB_ok (G:=Nat) 1 [5] (fun i=>[(5,iv .i64 i),(3, .c (.s 6 0 (L1 ++ (ns.take i).map Ntc.id).length 1))]) (fun i=>[(6,true, .arr (aInt (L1 ++ (ns.take i).map Ntc.id)))]) (fun i=>i≤ns.length) (fun i=>ns.length - i) ?_
 conv=>whnf
 refine⟨⟨0,Nat.zero_le _, ?_⟩, ?_⟩
 ·conv=>whnf
  repeat'(first|exact trivial|exact rfl|refine And.intro ?_ ?_|((conv=>whnf);first|exact trivial|exact rfl|refine And.intro ?_ ?_|omega))
  all_goals first | (show aInt L1=aInt (L1 ++ []); rw [List.append_nil]) | simp
 rintro i hi ρ1 t1 hρ1
 conv=>whnf
 refine⟨fun hc=>?_,fun hc=>?_⟩
 ·have hlt:i < ns.length:=by simpa using hc
  have hL:(L1 ++ (ns.take i).map Ntc.id).length≤200000:=by simp only [List.length_append,List.length_map,List.length_take]; omega
  have hnx:L1 ++ (ns.take (i+1)).map Ntc.id=(L1 ++ (ns.take i).map Ntc.id) ++ [Ntc.id ns[i]]:=by rw [take_snoc hlt,List.map_append]; simp
  generalize L1 ++ (ns.take i).map Ntc.id=M at *
  conv=>whnf
  refine⟨i,rfl,hlt,hlt, ?_⟩
  conv=>whnf
  refine bs_step tB_ok (aInt [Ntc.id ns[i]]) rfl rfl ?_
  conv=>whnf
  refine⟨⟨rfl,(by repeat'(first|exact trivial|exact rfl|refine And.intro ?_ ?_|((conv=>whnf);first|exact trivial|exact rfl|refine And.intro ?_ ?_|omega)))⟩, ?_⟩
  conv=>whnf
  refine app_step tB_ok (aInt M) [Ntc.id ns[i]] (fun _=>rfl) rfl rfl rfl rfl ?_
  conv=>whnf
  refine⟨⟨rfl,rfl,Nat.le_refl _,Nat.le_refl _,by show (M.length+1) * 9≤_; omega⟩, ?_⟩
  conv=>whnf
  refine⟨_,wrapId ⟨by omega,by omega⟩, ?_⟩
  refine⟨i+1,hlt,by show ns.length - (i+1) < ns.length - i; omega, ?_⟩
  dsimp only
  rw [hnx]
  conv=>whnf
  refine⟨rfl, ?_⟩
  conv=>whnf
  repeat'(first|exact trivial|exact rfl|refine And.intro ?_ ?_|((conv=>whnf);first|exact trivial|exact rfl|refine And.intro ?_ ?_|omega))
  all_goals first | exact (congrArg aInt app1.symm:_) | exact (congrArg aInt app1:_) | simp
 have hie:i=ns.length:=by simp at hc; omega
 subst hie
 rw [List.take_length]
 have hL2:(L1 ++ ns.map Ntc.id).length≤200000:=by rw [List.length_append,List.length_map]; omega
 generalize L1 ++ ns.map Ntc.id=L2 at *
 conv=>whnf
 refine loop_step tB_ok (G:=Nat) 1 [6] (fun i=>[(6,iv .i64 i),(3, .c (.s 7 0 (L2 ++ (ws.take i).map Wgh.id).length 1))]) (fun i=>[(7,true, .arr (aInt (L2 ++ (ws.take i).map Wgh.id)))]) (fun i=>i≤ws.length) (fun i=>ws.length - i) ?_
 conv=>whnf
 refine⟨⟨0,Nat.zero_le _, ?_⟩, ?_⟩
 ·conv=>whnf
  repeat'(first|exact trivial|exact rfl|refine And.intro ?_ ?_|((conv=>whnf);first|exact trivial|exact rfl|refine And.intro ?_ ?_|omega))
  all_goals first | (show aInt L2=aInt (L2 ++ []); rw [List.append_nil]) | simp
 rintro i hi ρ1 t1 hρ1
 conv=>whnf
 refine⟨fun hc=>?_,fun hc=>?_⟩
 ·have hlt:i < ws.length:=by simpa using hc
  have hL:(L2 ++ (ws.take i).map Wgh.id).length≤300000:=by simp only [List.length_append,List.length_map,List.length_take]; omega
  have hnx:L2 ++ (ws.take (i+1)).map Wgh.id=(L2 ++ (ws.take i).map Wgh.id) ++ [Wgh.id ws[i]]:=by rw [take_snoc hlt,List.map_append]; simp
  generalize L2 ++ (ws.take i).map Wgh.id=M at *
  conv=>whnf
  refine⟨i,rfl,hlt,hlt, ?_⟩
  conv=>whnf
  refine bs_step tB_ok (aInt [Wgh.id ws[i]]) rfl rfl ?_
  conv=>whnf
  refine⟨⟨rfl,(by repeat'(first|exact trivial|exact rfl|refine And.intro ?_ ?_|((conv=>whnf);first|exact trivial|exact rfl|refine And.intro ?_ ?_|omega)))⟩, ?_⟩
  conv=>whnf
  refine app_step tB_ok (aInt M) [Wgh.id ws[i]] (fun _=>rfl) rfl rfl rfl rfl ?_
  conv=>whnf
  refine⟨⟨rfl,rfl,Nat.le_refl _,Nat.le_refl _,by show (M.length+1) * 9≤_; omega⟩, ?_⟩
  conv=>whnf
  refine⟨_,wrapId ⟨by omega,by omega⟩, ?_⟩
  refine⟨i+1,hlt,by show ws.length - (i+1) < ws.length - i; omega, ?_⟩
  dsimp only
  rw [hnx]
  conv=>whnf
  refine⟨rfl, ?_⟩
  conv=>whnf
  repeat'(first|exact trivial|exact rfl|refine And.intro ?_ ?_|((conv=>whnf);first|exact trivial|exact rfl|refine And.intro ?_ ?_|omega))
  all_goals first | exact (congrArg aInt app1.symm:_) | exact (congrArg aInt app1:_) | simp
 have hie:i=ws.length:=by simp at hc; omega
 subst hie
 rw [List.take_length]
 have hL3:(L2 ++ ws.map Wgh.id).length≤300000:=by rw [List.length_append,List.length_map]; omega
 generalize L2 ++ ws.map Wgh.id=L3 at *
 have hsl:=sortK_len idK L3
 conv=>whnf
 refine loop_step tB_ok (G:=Nat) 1 [] (fun k=>[(9,iv .i64 k),(8,iv .i64 (lastK idK L3 k)),(7, .c (.s 8 0 ((sortK idK L3).take k).length 1))]) (fun k=>[(8,true, .arr (aInt ((sortK idK L3).take k)))])
  (fun k=>k≤L3.length) (fun k=>L3.length - k) ?_
 conv=>whnf
 refine⟨⟨0,Nat.zero_le _, ?_⟩, ?_⟩
 ·conv=>whnf
  repeat'(first|exact trivial|exact rfl|refine And.intro ?_ ?_|((conv=>whnf);first|exact trivial|exact rfl|refine And.intro ?_ ?_|omega))
 rintro k hk ρ1 t1 hρ1
 conv=>whnf
 refine⟨fun hc=>?_,fun hc=>?_⟩
 ·have hkl:k < L3.length:=by simpa using hc
  have hfa:∀ best,MinI L3 (lastK idK L3 k) L3.length best → (sortK idK L3)[k]? = some best:=fun best hf=>minI_all hd (fun x hx=>(hp x hx).1) hkl hf
  have hT:=fun x=>sortK_take (key:=idK) (l:=L3) (k:=k) (x:=x)
  have hLs:=fun x=>lastK_succ (key:=idK) (l:=L3) (k:=k) (x:=x)
  have hkO:((sortK idK L3).take k).length≤1000000:=by rw [List.length_take]; omega
  generalize (sortK idK L3).take k=O at *
  generalize lastK idK L3 k=last at *
  conv=>whnf
  refine loop_step tB_ok (G:=Nat × Int) 0 [] (fun g=>[(11,iv .i64 g.1),(10,iv .i64 g.2)]) (fun _=>[]) (fun g=>g.1≤L3.length∧MinI L3 last g.1 g.2) (fun g=>L3.length - g.1) ?_
  conv=>whnf
  refine⟨⟨(0,1099511627777),⟨Nat.zero_le _,minI_zero _ _⟩, ?_⟩, ?_⟩
  ·conv=>whnf
   repeat'(first|exact trivial|exact rfl|refine And.intro ?_ ?_|((conv=>whnf);first|exact trivial|exact rfl|refine And.intro ?_ ?_|omega))
  rintro ⟨i,best⟩ ⟨hi,hf⟩ ρ2 t2 hρ2
  dsimp only at hi hf ⊢
  conv=>whnf
  refine⟨fun hc2=>?_,fun hc2=>?_⟩
  ·have hlt:i < L3.length:=by simpa using hc2
   conv=>whnf
   refine⟨i,rfl,hlt,hlt, ?_⟩
   conv=>whnf
   refine⟨fun hc3=>?_,fun hc3=>?_⟩
   ·have h1:last < L3[i]:=of_decide_eq_true (show decide (last < L3[i])=true from hc3)
    conv=>whnf
    refine⟨i,rfl,hlt,hlt, ?_⟩
    conv=>whnf
    refine⟨_,wrapId ⟨by omega,by omega⟩, ?_⟩
    refine⟨(i+1,min best L3[i]),⟨hlt,minI_take hlt hf h1 (hp _ (List.getElem_mem hlt)).2⟩,by show L3.length - (i+1) < L3.length - i; omega, ?_⟩
    try dsimp only
    conv=>whnf
    refine⟨rfl, ?_⟩
    conv=>whnf
    repeat'(first|exact trivial|exact rfl|refine And.intro ?_ ?_|((conv=>whnf);first|exact trivial|exact rfl|refine And.intro ?_ ?_|omega))
   ·have h1:¬ last < L3[i]:=of_decide_eq_false (show decide (last < L3[i])=false from hc3)
    conv=>whnf
    refine⟨_,wrapId ⟨by omega,by omega⟩, ?_⟩
    refine⟨(i+1,best),⟨hlt,minI_keep hlt hf h1⟩,by show L3.length - (i+1) < L3.length - i; omega, ?_⟩
    try dsimp only
    conv=>whnf
    refine⟨rfl, ?_⟩
    conv=>whnf
    repeat'(first|exact trivial|exact rfl|refine And.intro ?_ ?_|((conv=>whnf);first|exact trivial|exact rfl|refine And.intro ?_ ?_|omega))
  ·have hie:i=L3.length:=by simp at hc2; omega
   subst hie
   have hsx:=hfa best hf
   have hT:=hT _ hsx
   have hLs:=hLs _ hsx
   rw [show idK best=best from rfl] at hLs
   conv=>whnf
   refine bs_step tB_ok (aInt [best]) rfl rfl ?_
   conv=>whnf
   refine⟨⟨rfl,(by repeat'(first|exact trivial|exact rfl|refine And.intro ?_ ?_|((conv=>whnf);first|exact trivial|exact rfl|refine And.intro ?_ ?_|omega)))⟩, ?_⟩
   conv=>whnf
   refine app_step tB_ok (aInt O) [best] (fun _=>rfl) rfl rfl rfl rfl ?_
   conv=>whnf
   refine⟨⟨rfl,rfl,Nat.le_refl _,Nat.le_refl _,by show (O.length+1) * 9≤_; omega⟩, ?_⟩
   conv=>whnf
   refine⟨_,wrapId ⟨by omega,by omega⟩, ?_⟩
   refine⟨k+1,hkl,by show L3.length - (k+1) < L3.length - k; omega, ?_⟩
   try dsimp only
   rw [hT,hLs]
   conv=>whnf
   refine⟨rfl, ?_⟩
   conv=>whnf
   repeat'(first|exact trivial|exact rfl|refine And.intro ?_ ?_|((conv=>whnf);first|exact trivial|exact rfl|refine And.intro ?_ ?_|omega))
   all_goals first | exact (congrArg aInt app1.symm:_) | exact (congrArg aInt app1:_) | simp
 ·have hke:k=L3.length:=by simp at hc; omega
  subst hke
  rw [List.take_of_length_le (by omega)]
  conv=>whnf
  repeat'(first|exact trivial|exact rfl|refine And.intro ?_ ?_|((conv=>whnf);first|exact trivial|exact rfl|refine And.intro ?_ ?_|omega))

set_option maxHeartbeats 1000000 in
theorem rLess_t (r:Rd) (ids:List Int) (hs:Sml r) (hil:ids.length≤1000000) :
  Triple Tryz.prog 110 [rdA r, .c (.s 4 0 ids.length 1)] (rdH r ++ [(4,false, .arr (aInt ids))]) 5
   (.agg [.s 0 0 (lessR r ids).bs.length 6, .s 5 0 (lessR r ids).cs.length 5, .s 6 0 (lessR r ids).ns.length 6, .s 7 0 (lessR r ids).ws.length 8])
   [(5,true, .arr (aChk (lessR r ids).cs)),(6,true, .arr (aNtc (lessR r ids).ns)),(7,true, .arr (aWgh (lessR r ids).ws))]:=by
 have e:lessR r ids=⟨r.bs,r.cs.filter (fun c=>!ids.contains c.id),r.ns.filter (fun n=>!ids.contains n.id),r.ws.filter (fun w=>!ids.contains w.id)⟩:=rfl
 rw [e]
 clear e
 obtain ⟨h1,h2,h3,h4⟩:=hs
 obtain ⟨bs,cs,ns,ws⟩:=r
 dsimp only at *
 refine triple_of tB_ok Tryz.func110 rfl Tryz.call110 rfl ?_
 intro ρ w hH
 conv=>whnf
 refine loop_step tB_ok (G:=Nat) 3 [] (fun i=>[(6,iv .i64 i)]) (fun i=>[(7,true, .cells [.s 0 0 bs.length 6, .s 8 0 ((cs.take i).filter (fun c:Chk=>!ids.contains c.id)).length 5, .s 9 0 0 6, .s 10 0 0 8]),(8,true, .arr (aChk ((cs.take i).filter (fun c:Chk=>!ids.contains c.id)))),(9,true, .arr (aNtc [])),(10,true, .arr (aWgh []))]) (fun i=>i≤cs.length) (fun i=>cs.length - i) ?_
 conv=>whnf
 refine⟨⟨0,Nat.zero_le _, ?_⟩, ?_⟩
 ·conv=>whnf
  repeat'(first|exact trivial|exact rfl|refine And.intro ?_ ?_|((conv=>whnf);first|exact trivial|exact rfl|refine And.intro ?_ ?_|omega))
 rintro i hi ρ1 t1 hρ1
 conv=>whnf
 refine⟨fun hc=>?_,fun hc=>?_⟩
 ·have hlt:i < cs.length:=by simpa using hc
  have hM:((cs.take i).filter (fun c:Chk=>!ids.contains c.id)).length≤100000:=by
   have:=List.length_filter_le (fun c:Chk=>!ids.contains c.id) (cs.take i)
   rw [List.length_take] at this; omega
  have hnx:=filter_take_succ (p:=(fun c:Chk=>!ids.contains c.id)) hlt
  generalize (cs.take i).filter (fun c:Chk=>!ids.contains c.id)=M at *
  conv=>whnf
  refine⟨i,rfl,hlt,hlt, ?_⟩
  conv=>whnf
  refine call_step (rHas_t ids cs[i].id hil) rfl rfl ?_
  conv=>whnf
  refine⟨?_, ?_, ?_⟩
  iterate 2 · repeat'(first|exact trivial|exact rfl|refine And.intro ?_ ?_|((conv=>whnf);first|exact trivial|exact rfl|refine And.intro ?_ ?_|omega))
  conv=>whnf
  cases hb:ids.contains cs[i].id with
  | true =>
   rw [hb] at hnx
   have hnx:(cs.take (i+1)).filter (fun c:Chk=>!ids.contains c.id)=M:=by rw [hnx]; simp
   refine⟨fun hc=>absurd hc (by simp),fun hc=>?_⟩
   conv=>whnf
   refine⟨_,wrapId ⟨by omega,by omega⟩, ?_⟩
   refine⟨i+1,hlt,by show cs.length - (i+1) < cs.length - i; omega, ?_⟩
   try dsimp only
   rw [hnx]
   conv=>whnf
   refine⟨rfl, ?_⟩
   conv=>whnf
   repeat'(first|exact trivial|exact rfl|refine And.intro ?_ ?_|((conv=>whnf);first|exact trivial|exact rfl|refine And.intro ?_ ?_|omega))
  | false =>
   rw [hb] at hnx
   have hnx:(cs.take (i+1)).filter (fun c:Chk=>!ids.contains c.id)=M ++ [cs[i]]:=by rw [hnx]; simp
   refine⟨fun hc=>?_,fun hc=>absurd hc (by simp)⟩
   conv=>whnf
   refine⟨i,rfl,hlt,hlt, ?_⟩
   conv=>whnf
   refine bs_step tB_ok (aChk [cs[i]]) rfl rfl ?_
   conv=>whnf
   refine⟨⟨rfl,(by repeat'(first|exact trivial|exact rfl|refine And.intro ?_ ?_|((conv=>whnf);first|exact trivial|exact rfl|refine And.intro ?_ ?_|omega)))⟩, ?_⟩
   conv=>whnf
   refine app_step tB_ok (aChk M) [cs[i]] (fun _=>rfl) rfl rfl rfl rfl ?_
   conv=>whnf
   refine⟨⟨rfl,rfl,Nat.le_refl _,Nat.le_refl _,by show (M.length+1) * 41≤_; omega⟩, ?_⟩
   conv=>whnf
   refine⟨_,wrapId ⟨by omega,by omega⟩, ?_⟩
   refine⟨i+1,hlt,by show cs.length - (i+1) < cs.length - i; omega, ?_⟩
   try dsimp only
   rw [hnx]
   conv=>whnf
   refine⟨rfl, ?_⟩
   conv=>whnf
   repeat'(first|exact trivial|exact rfl|refine And.intro ?_ ?_|((conv=>whnf);first|exact trivial|exact rfl|refine And.intro ?_ ?_|omega))
   all_goals first | exact (congrArg aChk app1.symm:_) | exact (congrArg aChk app1:_) | simp
 have hie:i=cs.length:=by simp at hc; omega
 subst hie
 rw [List.take_length]
 generalize cs.filter (fun c:Chk=>!ids.contains c.id)=cs' at *
 conv=>whnf
 refine loop_step tB_ok (G:=Nat) 1 [9] (fun i=>[(7,iv .i64 i)]) (fun i=>[(7,true, .cells [.s 0 0 bs.length 6, .s 8 0 cs'.length 5, .s 11 0 ((ns.take i).filter (fun c:Ntc=>!ids.contains c.id)).length 6, .s 10 0 0 8]),(11,true, .arr (aNtc ((ns.take i).filter (fun c:Ntc=>!ids.contains c.id))))]) (fun i=>i≤ns.length) (fun i=>ns.length - i) ?_
 conv=>whnf
 refine⟨⟨0,Nat.zero_le _, ?_⟩, ?_⟩
 ·conv=>whnf
  repeat'(first|exact trivial|exact rfl|refine And.intro ?_ ?_|((conv=>whnf);first|exact trivial|exact rfl|refine And.intro ?_ ?_|omega))
 rintro i hi ρ1 t1 hρ1
 conv=>whnf
 refine⟨fun hc=>?_,fun hc=>?_⟩
 ·have hlt:i < ns.length:=by simpa using hc
  have hM:((ns.take i).filter (fun c:Ntc=>!ids.contains c.id)).length≤100000:=by
   have:=List.length_filter_le (fun c:Ntc=>!ids.contains c.id) (ns.take i)
   rw [List.length_take] at this; omega
  have hnx:=filter_take_succ (p:=(fun c:Ntc=>!ids.contains c.id)) hlt
  generalize (ns.take i).filter (fun c:Ntc=>!ids.contains c.id)=M at *
  conv=>whnf
  refine⟨i,rfl,hlt,hlt, ?_⟩
  conv=>whnf
  refine call_step (rHas_t ids ns[i].id hil) rfl rfl ?_
  conv=>whnf
  refine⟨?_, ?_, ?_⟩
  iterate 2 · repeat'(first|exact trivial|exact rfl|refine And.intro ?_ ?_|((conv=>whnf);first|exact trivial|exact rfl|refine And.intro ?_ ?_|omega))
  conv=>whnf
  cases hb:ids.contains ns[i].id with
  | true =>
   rw [hb] at hnx
   have hnx:(ns.take (i+1)).filter (fun c:Ntc=>!ids.contains c.id)=M:=by rw [hnx]; simp
   refine⟨fun hc=>absurd hc (by simp),fun hc=>?_⟩
   conv=>whnf
   refine⟨_,wrapId ⟨by omega,by omega⟩, ?_⟩
   refine⟨i+1,hlt,by show ns.length - (i+1) < ns.length - i; omega, ?_⟩
   try dsimp only
   rw [hnx]
   conv=>whnf
   refine⟨rfl, ?_⟩
   conv=>whnf
   repeat'(first|exact trivial|exact rfl|refine And.intro ?_ ?_|((conv=>whnf);first|exact trivial|exact rfl|refine And.intro ?_ ?_|omega))
  | false =>
   rw [hb] at hnx
   have hnx:(ns.take (i+1)).filter (fun c:Ntc=>!ids.contains c.id)=M ++ [ns[i]]:=by rw [hnx]; simp
   refine⟨fun hc=>?_,fun hc=>absurd hc (by simp)⟩
   conv=>whnf
   refine⟨i,rfl,hlt,hlt, ?_⟩
   conv=>whnf
   refine bs_step tB_ok (aNtc [ns[i]]) rfl rfl ?_
   conv=>whnf
   refine⟨⟨rfl,(by repeat'(first|exact trivial|exact rfl|refine And.intro ?_ ?_|((conv=>whnf);first|exact trivial|exact rfl|refine And.intro ?_ ?_|omega)))⟩, ?_⟩
   conv=>whnf
   refine app_step tB_ok (aNtc M) [ns[i]] (fun _=>rfl) rfl rfl rfl rfl ?_
   conv=>whnf
   refine⟨⟨rfl,rfl,Nat.le_refl _,Nat.le_refl _,by show (M.length+1) * 49≤_; omega⟩, ?_⟩
   conv=>whnf
   refine⟨_,wrapId ⟨by omega,by omega⟩, ?_⟩
   refine⟨i+1,hlt,by show ns.length - (i+1) < ns.length - i; omega, ?_⟩
   try dsimp only
   rw [hnx]
   conv=>whnf
   refine⟨rfl, ?_⟩
   conv=>whnf
   repeat'(first|exact trivial|exact rfl|refine And.intro ?_ ?_|((conv=>whnf);first|exact trivial|exact rfl|refine And.intro ?_ ?_|omega))
   all_goals first | exact (congrArg aNtc app1.symm:_) | exact (congrArg aNtc app1:_) | simp
 have hie:i=ns.length:=by simp at hc; omega
 subst hie
 rw [List.take_length]
 generalize ns.filter (fun c:Ntc=>!ids.contains c.id)=ns' at *
 conv=>whnf
 refine loop_step tB_ok (G:=Nat) 1 [10] (fun i=>[(8,iv .i64 i)]) (fun i=>[(7,true, .cells [.s 0 0 bs.length 6, .s 8 0 cs'.length 5, .s 11 0 ns'.length 6, .s 12 0 ((ws.take i).filter (fun c:Wgh=>!ids.contains c.id)).length 8]),(12,true, .arr (aWgh ((ws.take i).filter (fun c:Wgh=>!ids.contains c.id))))]) (fun i=>i≤ws.length) (fun i=>ws.length - i) ?_
 conv=>whnf
 refine⟨⟨0,Nat.zero_le _, ?_⟩, ?_⟩
 ·conv=>whnf
  repeat'(first|exact trivial|exact rfl|refine And.intro ?_ ?_|((conv=>whnf);first|exact trivial|exact rfl|refine And.intro ?_ ?_|omega))
 rintro i hi ρ1 t1 hρ1
 conv=>whnf
 refine⟨fun hc=>?_,fun hc=>?_⟩
 ·have hlt:i < ws.length:=by simpa using hc
  have hM:((ws.take i).filter (fun c:Wgh=>!ids.contains c.id)).length≤100000:=by
   have:=List.length_filter_le (fun c:Wgh=>!ids.contains c.id) (ws.take i)
   rw [List.length_take] at this; omega
  have hnx:=filter_take_succ (p:=(fun c:Wgh=>!ids.contains c.id)) hlt
  generalize (ws.take i).filter (fun c:Wgh=>!ids.contains c.id)=M at *
  conv=>whnf
  refine⟨i,rfl,hlt,hlt, ?_⟩
  conv=>whnf
  refine call_step (rHas_t ids ws[i].id hil) rfl rfl ?_
  conv=>whnf
  refine⟨?_, ?_, ?_⟩
  iterate 2 · repeat'(first|exact trivial|exact rfl|refine And.intro ?_ ?_|((conv=>whnf);first|exact trivial|exact rfl|refine And.intro ?_ ?_|omega))
  conv=>whnf
  cases hb:ids.contains ws[i].id with
  | true =>
   rw [hb] at hnx
   have hnx:(ws.take (i+1)).filter (fun c:Wgh=>!ids.contains c.id)=M:=by rw [hnx]; simp
   refine⟨fun hc=>absurd hc (by simp),fun hc=>?_⟩
   conv=>whnf
   refine⟨_,wrapId ⟨by omega,by omega⟩, ?_⟩
   refine⟨i+1,hlt,by show ws.length - (i+1) < ws.length - i; omega, ?_⟩
   try dsimp only
   rw [hnx]
   conv=>whnf
   refine⟨rfl, ?_⟩
   conv=>whnf
   repeat'(first|exact trivial|exact rfl|refine And.intro ?_ ?_|((conv=>whnf);first|exact trivial|exact rfl|refine And.intro ?_ ?_|omega))
  | false =>
   rw [hb] at hnx
   have hnx:(ws.take (i+1)).filter (fun c:Wgh=>!ids.contains c.id)=M ++ [ws[i]]:=by rw [hnx]; simp
   refine⟨fun hc=>?_,fun hc=>absurd hc (by simp)⟩
   conv=>whnf
   refine⟨i,rfl,hlt,hlt, ?_⟩
   conv=>whnf
   refine bs_step tB_ok (aWgh [ws[i]]) rfl rfl ?_
   conv=>whnf
   refine⟨⟨rfl,(by repeat'(first|exact trivial|exact rfl|refine And.intro ?_ ?_|((conv=>whnf);first|exact trivial|exact rfl|refine And.intro ?_ ?_|omega)))⟩, ?_⟩
   conv=>whnf
   refine app_step tB_ok (aWgh M) [ws[i]] (fun _=>rfl) rfl rfl rfl rfl ?_
   conv=>whnf
   refine⟨⟨rfl,rfl,Nat.le_refl _,Nat.le_refl _,by show (M.length+1) * 65≤_; omega⟩, ?_⟩
   conv=>whnf
   refine⟨_,wrapId ⟨by omega,by omega⟩, ?_⟩
   refine⟨i+1,hlt,by show ws.length - (i+1) < ws.length - i; omega, ?_⟩
   try dsimp only
   rw [hnx]
   conv=>whnf
   refine⟨rfl, ?_⟩
   conv=>whnf
   repeat'(first|exact trivial|exact rfl|refine And.intro ?_ ?_|((conv=>whnf);first|exact trivial|exact rfl|refine And.intro ?_ ?_|omega))
   all_goals first | exact (congrArg aWgh app1.symm:_) | exact (congrArg aWgh app1:_) | simp
 have hie:i=ws.length:=by simp at hc; omega
 subst hie
 rw [List.take_length]
 generalize ws.filter (fun c:Wgh=>!ids.contains c.id)=ws' at *
 conv=>whnf
 repeat'(first|exact trivial|exact rfl|refine And.intro ?_ ?_|((conv=>whnf);first|exact trivial|exact rfl|refine And.intro ?_ ?_|omega))

end Go.Proofs

/-
  Plain lemmas,part 29: all elements of a list,each once,are as many as the list has just if none stands twice. Conditions: none; plain lemmas.
-/
namespace Go
namespace Proofs

theorem insS_len_mem {α:Type} [DecidableEq α] {lt:α → α → Bool} (ok:LtOK lt) {x:α}:∀ {l:List α},Inc lt l → (insS lt l x).length=if x ∈ l then l.length else l.length+1
  | [],_=>by simp [insS]
  | y :: r,h=>by
    obtain ⟨h1,h2⟩:=List.pairwise_cons.1 h
    have ih:=insS_len_mem ok (x:=x) h2
    unfold insS
    by_cases hy:y=x
    · rw [if_pos hy,if_pos (by rw [hy]; exact List.mem_cons_self ..)]
    · rw [if_neg hy]
      cases hl:lt x y with
      | true =>
        have hn:¬ x ∈ y :: r:=by
          intro hm
          rcases List.mem_cons.1 hm with rfl | hm
          · exact hy rfl
          · have:=ok.tr _ _ _ hl (h1 x hm)
            rw [ok.irr] at this; cases this
        rw [if_neg hn]
        simp
      | false =>
        simp only [cond_false,List.length_cons]
        rw [ih]
        by_cases hm:x ∈ r
        · rw [if_pos hm,if_pos (List.mem_cons_of_mem _ hm)]
        · rw [if_neg hm,if_neg (fun hx=>by
            rcases List.mem_cons.1 hx with rfl | hx
            · exact hy rfl
            · exact hm hx)]

theorem distS_len_iff {α:Type} [DecidableEq α] {lt:α → α → Bool} (ok:LtOK lt):∀ (n:Nat) (l:List α),l.length=n → ((distS lt l).length=l.length ↔ l.Nodup)
  | 0,l,h=>by
    have:l=[]:=List.length_eq_zero_iff.1 h
    subst this
    simp [distS]
  | n+1,l,h=>by
    rcases List.eq_nil_or_concat l with rfl | ⟨q,x,rfl⟩
    · simp at h
    · rw [List.concat_eq_append] at h ⊢
      have hq:q.length=n:=by simpa using h
      have ih:=distS_len_iff ok n q hq
      have e:distS lt (q ++ [x])=insS lt (distS lt q) x:=by unfold distS; rw [List.foldl_append]; rfl
      have hle:=distS_len ok q
      rw [e,insS_len_mem ok (distS_inc ok q),List.length_append,List.length_singleton]
      have hnd:(q ++ [x]).Nodup ↔ q.Nodup∧x ∉ q:=by
        rw [List.nodup_append]
        constructor
        · rintro ⟨h1,_,h3⟩
          exact⟨h1,fun hx=>h3 x hx x (by simp) rfl⟩
        · rintro ⟨h1,h2⟩
          refine⟨h1,by simp,fun a ha b hb=>?_⟩
          simp only [List.mem_singleton] at hb
          subst hb
          rintro rfl
          exact h2 ha
      rw [hnd]
      by_cases hx:x ∈ q
      · rw [if_pos ((distS_mem ok).2 hx)]
        constructor
        · intro hh; omega
        · rintro ⟨_,h2⟩; exact absurd hx h2
      · rw [if_neg (fun hh=>hx ((distS_mem ok).1 hh))]
        constructor
        · intro hh; exact⟨ih.1 (by omega),hx⟩
        · rintro ⟨h1,_⟩; rw [ih.2 h1]

end Proofs
end Go

namespace Go
namespace Proofs

def zRd:Rd:=⟨[],[],[],[]⟩

open Classical in
noncomputable def mergeR (a b:Rd):Rd × Int :=
  if checkR a=0 then (if checkR b=0 then (if Joins a b then (if checkR (outR a b)=0 then (outR a b,0) else (zRd,checkR (outR a b))) else (zRd,6)) else (zRd,checkR b)) else (zRd,checkR a)

def stepB (s:Bool × List Bal) (x:Bal):Bool × List Bal :=
  (s.1 || (!decide ((findD s.2 x.id).id=0) && !decide (findD s.2 x.id=x)),if (findD s.2 x.id).id=0 then s.2 ++ [x] else s.2)

def hitB (a:List Bal) (x:Bal):Bool:=hasB a x.id && !decide (findD a x.id=x)

theorem findD_app {a k:List Bal} {id:Int}:findD (a ++ k) id=if hasB a id=true then findD a id else findD k id:=by
  unfold findD hasB findB
  rw [List.find?_append]
  cases h:a.find? fun b=>b.id == id <;> simp

theorem findD_noid {k:List Bal} {id:Int} (h:∀ y ∈ k,y.id ≠ id):findD k id=zBal:=by
  unfold findD findB
  rw [List.find?_eq_none.2 fun y hy=>by simpa using h y hy]; rfl

theorem hasB_id {a:List Bal} {id:Int} (h:hasB a id=true):findD a id ∈ a∧(findD a id).id=id:=by
  unfold hasB at h; unfold findD
  cases e:findB a id with
  | none=>rw [e] at h; cases h
  | some b=>exact⟨List.mem_of_find?_eq_some e,by simpa using List.find?_some e⟩

theorem hasB_iff {a:List Bal} {id:Int}:hasB a id=true ↔ ∃ y ∈ a,y.id=id:=by
  unfold hasB findB
  rw [List.find?_isSome]
  simp

theorem foldB {a:List Bal}:∀ (l:List Bal) {c:Bool} {k:List Bal},(l.map Bal.id).Nodup → (∀ x ∈ l,x.id ≠ 0) → (∀ x ∈ l,∀ y ∈ k,y.id ≠ x.id) →
    l.foldl stepB (c,a ++ k)=(c || l.any (hitB a),(a ++ k) ++ l.filter fun x=>!hasB a x.id)
  | [],c,k,_,_,_=>by simp
  | x :: r,c,k,hd,hp,hk=>by
    have hx:=hp x (by simp)
    simp only [List.map_cons,List.nodup_cons] at hd
    have hn:∀ y ∈ k,y.id ≠ x.id:=hk x (by simp)
    rw [List.foldl_cons]
    by_cases h:hasB a x.id=true
    · obtain ⟨_,hi⟩:=hasB_id h
      have e:stepB (c,a ++ k) x=(c || hitB a x,a ++ k):=by
        unfold stepB hitB
        rw [findD_app,if_pos h,hi,if_neg hx,h]
        simp [hx]
      rw [e,foldB r hd.2 (fun y hy=>hp y (by simp [hy])) (fun y hy=>hk y (by simp [hy]))]
      simp [h,Bool.or_assoc]
    · have h':hasB a x.id=false:=by simpa using h
      have e:stepB (c,a ++ k) x=(c,a ++ (k ++ [x])):=by
        unfold stepB
        rw [findD_app,if_neg h,findD_noid hn]
        simp [zBal]
      have hx0:hitB a x=false:=by unfold hitB; rw [h']; rfl
      rw [e,foldB r hd.2 (fun y hy=>hp y (by simp [hy])) (fun y hy z hz=>by
        rcases List.mem_append.1 hz with hz | hz
        · exact hk y (by simp [hy]) z hz
        · simp only [List.mem_singleton] at hz
          subst hz
          intro he
          exact hd.1 (List.mem_map.2 ⟨y,hy,he.symm⟩))]
      simp [h',hx0]

theorem foldB_all {a b:List Bal} (ha:(a.map Bal.id).Nodup) (hb:(b.map Bal.id).Nodup) (pa:∀ x ∈ a,x.id ≠ 0) (pb:∀ x ∈ b,x.id ≠ 0) :
    (a ++ b).foldl stepB (false,[])=(b.any (hitB a),a ++ b.filter fun x=>!hasB a x.id):=by
  rw [List.foldl_append]
  have h1:=foldB (a:=[]) a (c:=false) (k:=[]) ha pa (fun _ _ y hy=>by cases hy)
  have e1:a.any (hitB [])=false:=List.any_eq_false.2 fun x _=>by simp [hitB,hasB,findB]
  have e2:(a.filter fun x=>!hasB [] x.id)=a:=List.filter_eq_self.2 fun x _=>by simp [hasB,findB]
  rw [e1,e2] at h1
  have h1:a.foldl stepB (false,[])=(false,a):=h1
  rw [h1]
  have h2:=foldB (a:=a) b (c:=false) (k:=[]) hb pb (fun _ _ y hy=>by cases hy)
  rw [List.append_nil] at h2
  rw [h2,Bool.false_or]

theorem hit_iff {a b:List Bal} (ha:(a.map Bal.id).Nodup) (hb:(b.map Bal.id).Nodup):b.any (hitB a)=false ↔ JoinOK Bal.id a b:=by
  rw [List.any_eq_false]
  constructor
  · intro h
    refine join_of ha hb fun x hx hy=>?_
    have hh:hasB a x.id=true:=hasB_iff.2 hy
    have:=h x hx
    unfold hitB at this
    rw [hh] at this
    have he:findD a x.id=x:=by simpa using this
    exact he ▸ (hasB_id hh).1
  · intro h x hx
    unfold hitB
    by_cases hh:hasB a x.id=true
    · obtain ⟨h1,h2⟩:=hasB_id hh
      have:=h (findD a x.id) (List.mem_append.2 (.inl h1)) x (List.mem_append.2 (.inr hx)) h2
      simp [this]
    · simp [hh]

theorem hit_filter {a b:List Bal} (ha:(a.map Bal.id).Nodup) (h:JoinOK Bal.id a b):(b.filter fun x=>!hasB a x.id)=b.filter fun x=>!a.contains x:=by
  refine List.filter_congr fun x hx=>?_
  congr 1
  rw [Bool.eq_iff_iff,hasB_iff,List.contains_iff_mem]
  constructor
  · rintro ⟨y,hy,he⟩
    exact h y (List.mem_append.2 (.inl hy)) x (List.mem_append.2 (.inr hx)) he ▸ hy
  · intro hm
    exact⟨x,hm,rfl⟩

def stepL {α:Type} [DecidableEq α] (key:α → Int) (ids:List Int) (a:List α) (s:Bool × List α) (x:α):Bool × List α :=
  (s.1 || (ids.contains (key x) && !a.contains x),bif ids.contains (key x) then s.2 else s.2 ++ [x])

theorem foldL_all {α:Type} [DecidableEq α] {key:α → Int} {ids:List Int} {a:List α}:∀ (l:List α) {c:Bool} {k:List α},
    l.foldl (stepL key ids a) (c,k)=(c || l.any fun x=>ids.contains (key x) && !a.contains x,k ++ l.filter fun x=>!ids.contains (key x))
  | [],c,k=>by simp
  | x :: r,c,k=>by
    rw [List.foldl_cons,show stepL key ids a (c,k) x=(c || (ids.contains (key x) && !a.contains x),bif ids.contains (key x) then k else k ++ [x]) from rfl,foldL_all r]
    cases h:ids.contains (key x) <;> simp only [List.any_cons,List.filter_cons,h] <;> simp [Bool.or_assoc]

theorem any_iff {α:Type} [DecidableEq α] {key:α → Int} {ids:List Int} {a b:List α}:(b.any fun x=>ids.contains (key x) && !a.contains x)=false ↔ ∀ x ∈ b,key x ∈ ids → x ∈ a:=by
  rw [List.any_eq_false]
  refine⟨fun h x hx hk=>?_,fun h x hx=>?_⟩
  · have:=h x hx
    simpa [hk] using this
  · have:=h x hx
    simpa using this

theorem keep_filter {α:Type} [DecidableEq α] {key:α → Int} {ids:List Int} {a b:List α} (hi:∀ x ∈ a,key x ∈ ids) (h:∀ x ∈ b,key x ∈ ids → x ∈ a):(b.filter fun x=>!ids.contains (key x))=b.filter fun x=>!a.contains x:=by
  refine List.filter_congr fun x hx=>?_
  congr 1
  rw [Bool.eq_iff_iff,List.contains_iff_mem,List.contains_iff_mem]
  exact⟨h x hx,hi x⟩

def allR (a b:Rd):Rd:=⟨a.bs ++ b.bs.filter fun x=>!hasB a.bs x.id,a.cs ++ b.cs.filter fun x=>!(idsR a).contains x.id,a.ns ++ b.ns.filter fun x=>!(idsR a).contains x.id,a.ws ++ b.ws.filter fun x=>!(idsR a).contains x.id⟩
def clashR (a b:Rd):Bool:=((b.bs.any (hitB a.bs) || b.cs.any fun x=>(idsR a).contains x.id && !a.cs.contains x) || b.ns.any fun x=>(idsR a).contains x.id && !a.ns.contains x) || b.ws.any fun x=>(idsR a).contains x.id && !a.ws.contains x

theorem mem_idsR {r:Rd} {i:Int}:i ∈ idsR r ↔ i ∈ allIds r:=distS_mem intLt_ok

theorem clash_iff {a b:Rd} (ha:RdOK a) (hb:RdOK b):clashR a b=false ↔ Joins a b:=by
  rw [joins_iff ha hb]
  unfold clashR
  rw [Bool.or_eq_false_iff,Bool.or_eq_false_iff,Bool.or_eq_false_iff,hit_iff ha.balN hb.balN,any_iff (key:=Chk.id),any_iff (key:=Ntc.id),any_iff (key:=Wgh.id)]
  simp only [mem_idsR]
  exact⟨fun ⟨⟨⟨h1,h2⟩,h3⟩,h4⟩=>⟨h1,h2,h3,h4⟩,fun h=>⟨⟨⟨h.bs,h.cs⟩,h.ns⟩,h.ws⟩⟩

def sortedR (r:Rd):Rd:=⟨sortK Bal.id r.bs,sortK Chk.id r.cs,sortK Ntc.id r.ns,sortK Wgh.id r.ws⟩

theorem all_sorted {a b:Rd} (ha:RdOK a) (hb:RdOK b) (h:Joins a b):sortedR (allR a b)=outR a b:=by
  have hj:=(joins_iff ha hb).1 h
  unfold sortedR allR outR unionK
  rw [hit_filter ha.balN hj.bs]
  rw [keep_filter (key:=Chk.id) (fun x hx=>mem_idsR.2 (mem_allIds.2 (.inl ⟨x,hx,rfl⟩))) (fun x hx hi=>hj.cs x hx (mem_idsR.1 hi)),
    keep_filter (key:=Ntc.id) (fun x hx=>mem_idsR.2 (mem_allIds.2 (.inr (.inl ⟨x,hx,rfl⟩)))) (fun x hx hi=>hj.ns x hx (mem_idsR.1 hi)),
    keep_filter (key:=Wgh.id) (fun x hx=>mem_idsR.2 (mem_allIds.2 (.inr (.inr ⟨x,hx,rfl⟩)))) (fun x hx hi=>hj.ws x hx (mem_idsR.1 hi))]

theorem sorted_len (r:Rd):(sortedR r).bs.length=r.bs.length∧(sortedR r).cs.length=r.cs.length∧(sortedR r).ns.length=r.ns.length∧(sortedR r).ws.length=r.ws.length :=
  ⟨sortK_len _ _,sortK_len _ _,sortK_len _ _,sortK_len _ _⟩

theorem merge_ref {a b:Rd} (ha:RdOK a) (hb:RdOK b) :
    mergeR a b=bif clashR a b then (zRd,6) else if 8 < (allR a b).bs.length ∨ 100 < (allR a b).cs.length+(allR a b).ns.length+(allR a b).ws.length then (zRd,2) else (sortedR (allR a b),0):=by
  unfold mergeR
  rw [if_pos (checkR_ok.2 ha),if_pos (checkR_ok.2 hb)]
  cases hc:clashR a b with
  | true =>
    rw [if_neg (fun h=>by rw [(clash_iff ha hb).2 h] at hc; cases hc)]; rfl
  | false =>
    have h:=(clash_iff ha hb).1 hc
    obtain ⟨l1,l2,l3,l4⟩:=sorted_len (allR a b)
    have hs:=all_sorted ha hb h
    rw [hs] at l1 l2 l3 l4
    rw [if_pos h,hs,cond_false,out_check ha hb h,← l1,← l2,← l3,← l4]
    by_cases hl:8 < (outR a b).bs.length ∨ 100 < (outR a b).cs.length+(outR a b).ns.length+(outR a b).ws.length
    · rw [if_pos hl,if_pos hl,if_neg (by decide)]
    · rw [if_neg hl,if_neg hl,if_pos rfl]

theorem all_nums {a b:Rd} (ha:RdOK a) (hb:RdOK b) (h:Joins a b):NumOK (allR a b):=by
  have hs:=all_sorted ha hb h
  have hn:=out_num ha.num hb.num h
  have p1:=sortK_perm Bal.id (allR a b).bs
  have p2:=sortK_perm Chk.id (allR a b).cs
  have p3:=sortK_perm Ntc.id (allR a b).ns
  have p4:=sortK_perm Wgh.id (allR a b).ws
  rw [← hs] at hn
  exact⟨(p1.map _).nodup_iff.1 hn.bs,(p2.map _).nodup_iff.1 hn.cs,(p3.map _).nodup_iff.1 hn.ns,(p4.map _).nodup_iff.1 hn.ws⟩

end Proofs
end Go

