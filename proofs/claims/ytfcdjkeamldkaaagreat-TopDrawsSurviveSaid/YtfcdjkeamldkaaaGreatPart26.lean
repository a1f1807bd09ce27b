/-
  A part of the proof that a law answers true: lemmas of a symbolic walk, plain functions, or contracts of the functions walked (QW). Conditions: none.
-/
import Derived.Test.YtfcdjkeamldkaaaGreatPart25
import Derived.Test.YtfcdjkeamldkaaaGreatPart13
set_option maxRecDepth 100000
set_option linter.unusedVariables false
set_option linter.unusedSimpArgs false
namespace Go.Proofs
open Go.Sx

theorem recF_short (p:Pl) (hok:PlanOK p) (b s:Sec) (h:okR b s=true):∀ x ∈ recF p b s,x.length≤168:=by
 have h1:secOK b=true:=by unfold okR at h; simp at h; exact h.1
 have h2:secOK s=true:=by unfold okR at h; simp at h; exact h.2
 have b1:=secOK_iff h1
 have b2:=secOK_iff h2
 intro x hx
 unfold recF at hx
 rcases List.mem_append.1 hx with hx | hx
 ·simp only [List.mem_cons,List.not_mem_nil,or_false] at hx
  rcases hx with rfl | rfl | rfl | rfl
  ·rw [hexF_length,commitF_len]; decide
  ·rw [hexF_length,commitF_len]; decide
  ·have l1:=textF_length b.seed
   have l2:=textF_length b.salt
   unfold secText; rw [List.length_append]; omega
  ·have l1:=textF_length s.seed
   have l2:=textF_length s.salt
   unfold secText; rw [List.length_append]; omega
 ·obtain ⟨y,_,rfl⟩:=List.mem_map.1 hx
  have l1:=intF_length y.1
  have l2:=intF_length y.2.1
  have l3:=intF_length y.2.2
  unfold smpText; rw [List.length_append,List.length_append]; omega

theorem sumN_le (l:List (List UInt8)) (h:∀ x ∈ l,x.length≤168):∀ i,sumN l i≤2 * i:=by
 intro i
 unfold sumN
 induction i generalizing l with
 | zero=>simp
 | succ i ih =>
  cases l with
  | nil=>simp
  | cons x r =>
   have:=ih r fun y hy=>h y (List.mem_cons_of_mem _ hy)
   have hx:=h x List.mem_cons_self
   have hn:nfr x≤2:=by unfold nfr; omega
   simp only [List.take_succ_cons,List.map_cons,List.sum_cons]
   omega

theorem draw_len (p:Pl) (seed:List UInt8):(drawF p seed).length=p.bales.length * p.per.toNat:=drawN_len seed _ _




theorem recF_take (p:Pl) (b s:Sec) {r m:Nat} (h:r=m+4):(recF p b s).take r=hexF (commitF 1 b).1 :: hexF (commitF 2 s).1 :: secText b :: secText s :: ((drawF p (jointE p.id b s).1).take m).map smpText:=by
 subst h
 unfold recF
 rw [List.map_take]; rfl

theorem idx_at {l:List (List UInt8)} {i:Nat} (h:i < l.length):∀ hz,(aStr l).xs[addN 0 i]'hz=l[i]:=fun hz=>by
 have e:addN 0 i=i:=by rw [addN_eq]; omega
 show l[addN 0 i]'hz=l[i]
 congr 1




theorem draws_t (p:Pl) (hf:p.fib.length≤140737488355328) (hb:p.bales.length≤140737488355328) (b s:Sec) (hbl:b.seed.length≤140737488355328∧b.salt.length≤140737488355328) (hsl:s.seed.length≤140737488355328∧s.salt.length≤140737488355328)
  (committed:Int) (keep:List Int) (hkb:∀ x ∈ keep,-9223372036854775808≤x∧x≤9223372036854775807) :
  Triple Tryz.prog 3 [planS 0 p,secV b,secV s,iv .i64 committed, .c (.s 1 0 keep.length 1)] [(0,false, .arr (aBale p.bales)),(1,false, .arr (aInt keep))] 2 (bv true) []:=by
 have hpl:=plan_t p hf hb
 by_cases hP:planF p=0
 rotate_left
 ·have hne:(planF p != 0)=true:=by simp [hP]
  generalize planF p=e at hne hpl
  refine triple_of tB_ok Tryz.func3 rfl Tryz.call3 rfl ?_
  intro ρ w hH
  conv=>whnf
  refine call_step hpl rfl rfl ?_
  conv=>whnf
  refine⟨?_, ?_, ?_⟩
  iterate 2 · repeat'(first|exact trivial|exact rfl|refine And.intro ?_ ?_|((conv=>whnf);first|exact trivial|exact rfl|refine And.intro ?_ ?_|omega))
  conv=>whnf
  refine⟨fun hc=>?_,fun hc=>absurd (Eq.trans (Eq.symm hne) hc) (by decide)⟩
  conv=>whnf
  refine call_step awake_t rfl rfl ?_
  conv=>whnf
  refine⟨?_, ?_, ?_⟩
  iterate 2 · repeat'(first|exact trivial|exact rfl|refine And.intro ?_ ?_|((conv=>whnf);first|exact trivial|exact rfl|refine And.intro ?_ ?_|omega))
  conv=>whnf
  repeat'(first|exact trivial|exact rfl|refine And.intro ?_ ?_|((conv=>whnf);first|exact trivial|exact rfl|refine And.intro ?_ ?_|omega))
 have hok:=plan_ok hP
 have hne:(planF p != 0)=false:=by simp [hP]
 have hrec:=records_t p hf hP b s hbl hsl
 generalize planF p=e at hne hpl
 refine triple_of tB_ok Tryz.func3 rfl Tryz.call3 rfl ?_
 intro ρ w hH
 conv=>whnf
 refine call_step hpl rfl rfl ?_
 conv=>whnf
 refine⟨?_, ?_, ?_⟩
 iterate 2 · repeat'(first|exact trivial|exact rfl|refine And.intro ?_ ?_|((conv=>whnf);first|exact trivial|exact rfl|refine And.intro ?_ ?_|omega))
 conv=>whnf
 refine⟨fun hc=>absurd (Eq.trans (Eq.symm hne) hc) (by decide),fun hc=>?_⟩
 conv=>whnf
 refine⟨fun hc=>?_,fun hc=>?_⟩
 ·conv=>whnf
  refine call_step awake_t rfl rfl ?_
  conv=>whnf
  refine⟨?_, ?_, ?_⟩
  iterate 2 · repeat'(first|exact trivial|exact rfl|refine And.intro ?_ ?_|((conv=>whnf);first|exact trivial|exact rfl|refine And.intro ?_ ?_|omega))
  conv=>whnf
  repeat'(first|exact trivial|exact rfl|refine And.intro ?_ ?_|((conv=>whnf);first|exact trivial|exact rfl|refine And.intro ?_ ?_|omega))
 conv=>whnf
 have hbl6:p.bales.length≤6:=by have:=of_decide_eq_false hc; omega
 refine⟨fun hc=>?_,fun hc=>?_⟩
 ·conv=>whnf
  refine call_step awake_t rfl rfl ?_
  conv=>whnf
  refine⟨?_, ?_, ?_⟩
  iterate 2 · repeat'(first|exact trivial|exact rfl|refine And.intro ?_ ?_|((conv=>whnf);first|exact trivial|exact rfl|refine And.intro ?_ ?_|omega))
  conv=>whnf
  repeat'(first|exact trivial|exact rfl|refine And.intro ?_ ?_|((conv=>whnf);first|exact trivial|exact rfl|refine And.intro ?_ ?_|omega))
 conv=>whnf
 have hper6:p.per≤6:=by have:=of_decide_eq_false hc; omega
 refine⟨fun hc=>?_,fun hc=>?_⟩
 ·conv=>whnf
  refine call_step awake_t rfl rfl ?_
  conv=>whnf
  refine⟨?_, ?_, ?_⟩
  iterate 2 · repeat'(first|exact trivial|exact rfl|refine And.intro ?_ ?_|((conv=>whnf);first|exact trivial|exact rfl|refine And.intro ?_ ?_|omega))
  conv=>whnf
  repeat'(first|exact trivial|exact rfl|refine And.intro ?_ ?_|((conv=>whnf);first|exact trivial|exact rfl|refine And.intro ?_ ?_|omega))
 conv=>whnf
 have hkeep:keep.length≤40:=by have:=of_decide_eq_false hc; omega
 refine call_step hrec rfl rfl ?_
 conv=>whnf
 refine⟨?_, ?_, ?_⟩
 iterate 2 · repeat'(first|exact trivial|exact rfl|refine And.intro ?_ ?_|((conv=>whnf);first|exact trivial|exact rfl|refine And.intro ?_ ?_|omega))
 conv=>whnf
 have hJl:=jointE_len p.id b s
 refine allocA_step tB_ok 16 rfl rfl rfl ?_
 conv=>whnf
 refine storeA_step (l':=(jointE p.id b s).1) tB_ok rfl rfl rfl rfl rfl (by simp) (by rw [hJl]; simp) (by decide) ?_
 conv=>whnf
 cases hok2:okR b s with
 | false =>
  refine⟨fun hc=>?_,fun hc=>absurd hc (by simp)⟩
  refine call_step awake_t rfl rfl ?_
  conv=>whnf
  refine⟨?_, ?_, ?_⟩
  iterate 2 · repeat'(first|exact trivial|exact rfl|refine And.intro ?_ ?_|((conv=>whnf);first|exact trivial|exact rfl|refine And.intro ?_ ?_|omega))
  conv=>whnf
  repeat'(first|exact trivial|exact rfl|refine And.intro ?_ ?_|((conv=>whnf);first|exact trivial|exact rfl|refine And.intro ?_ ?_|omega))
 | true =>
  refine⟨fun hc=>absurd hc (by simp),fun hc=>?_⟩
  conv=>whnf
  have hDl:=draw_len p (jointE p.id b s).1
  have hmul:p.bales.length * p.per.toNat≤36:=Nat.le_trans (Nat.mul_le_mul hbl6 (show p.per.toNat≤6 by omega)) (by decide)
  have hLl:(recF p b s).length=4+(drawF p (jointE p.id b s).1).length:=by
   unfold recF
   rw [List.length_append,List.length_map]; rfl
  have hshort:=recF_short p hok b s hok2
  have hsum:=sumN_le _ hshort (recF p b s).length
  obtain ⟨c,R,hk,_,hkt⟩:=kept_t (recF p b s) (by omega) (fun x hx=>by have:=hshort x hx; omega) committed 120 (by decide) (by omega) keep (by omega) hkb
  refine call_step hkt rfl rfl ?_
  conv=>whnf
  refine⟨?_, ?_, ?_⟩
  iterate 2 · repeat'(first|exact trivial|exact rfl|refine And.intro ?_ ?_|((conv=>whnf);first|exact trivial|exact rfl|refine And.intro ?_ ?_|omega))
  conv=>whnf
  cases c with
  | true =>
   refine⟨fun hc=>?_,fun hc=>absurd hc (by simp)⟩
   refine call_step awake_t rfl rfl ?_
   conv=>whnf
   refine⟨?_, ?_, ?_⟩
   iterate 2 · repeat'(first|exact trivial|exact rfl|refine And.intro ?_ ?_|((conv=>whnf);first|exact trivial|exact rfl|refine And.intro ?_ ?_|omega))
   conv=>whnf
   repeat'(first|exact trivial|exact rfl|refine And.intro ?_ ?_|((conv=>whnf);first|exact trivial|exact rfl|refine And.intro ?_ ?_|omega))
  | false =>
   refine⟨fun hc=>absurd hc (by simp),fun hc=>?_⟩
   conv=>whnf
   have hk:∃ r,r≤(recF p b s).length∧(1≤committed → committed≤(recF p b s).length → committed≤r)∧R=(recF p b s).take r:=by
    rcases hk with ⟨h,_⟩ | ⟨_,h⟩
    ·cases h
    ·exact h
   obtain ⟨r,hr1,hr2,hr3⟩:=hk
   have hRl:R.length=r:=by rw [hr3,List.length_take]; omega
   refine⟨fun hc=>absurd hc (by simp),fun hc=>?_⟩
   conv=>whnf
   have hlt:decide (((recF p b s).length:Int) < (R.length:Int))=false:=decide_eq_false (by omega)
   refine⟨fun hc=>absurd (Eq.trans (Eq.symm hlt) hc) (by decide),fun hc=>?_⟩
   conv=>whnf
   refine⟨fun hc=>?_,fun hc=>?_⟩
   ·have hc1:0 < committed:=of_decide_eq_true hc
    conv=>whnf
    refine⟨fun hc=>?_,fun hc=>?_⟩
    ·have hc2:committed≤((recF p b s).length:Int):=of_decide_eq_true hc
     have hlt2:decide ((R.length:Int) < committed)=false:=decide_eq_false (by have:=hr2 (by omega) hc2; omega)
     conv=>whnf
     refine⟨fun hc=>absurd (Eq.trans (Eq.symm hlt2) hc) (by decide),fun hc=>?_⟩
     conv=>whnf
     refine loop_step tB_ok (G:=Nat) 0 [] (fun i=>[(17,iv .i64 i)]) (fun _=>[]) (fun i=>i≤R.length) (fun i=>R.length - i) ?_
     conv=>whnf
     refine⟨⟨0,Nat.zero_le _, ?_⟩, ?_⟩
     ·conv=>whnf
      repeat'(first|exact trivial|exact rfl|refine And.intro ?_ ?_|((conv=>whnf);first|exact trivial|exact rfl|refine And.intro ?_ ?_|omega))
     intro i hi ρ1 t1 hρ1
     have hi:i≤R.length:=hi
     conv=>whnf
     refine⟨fun hc=>?_,fun hc=>?_⟩
     ·have h:i < R.length:=by have:=of_decide_eq_true hc; omega
      have hz:i < (recF p b s).length:=by omega
      conv=>whnf
      refine⟨i,rfl,h, ?_⟩
      conv=>whnf
      refine⟨h, ?_⟩
      conv=>whnf
      refine⟨i,rfl,hz, ?_⟩
      conv=>whnf
      refine⟨hz, ?_⟩
      conv=>whnf
      have hx:∀ hz,(aStr R).xs[addN 0 i]'hz=R[i]:=idx_at h
      have hy:∀ hz,(aStr (recF p b s)).xs[addN 0 i]'hz=(recF p b s)[i]:=idx_at hz
      have hxy:R[i]=(recF p b s)[i]:=by
       have e:=congrArg (fun x=>x[i]?) hr3
       simp only [List.getElem?_take,List.getElem?_eq_getElem h,List.getElem?_eq_getElem hz] at e
       rw [if_pos (by omega)] at e
       exact Option.some.inj e
      refine sne_step (l:=R[i]) (l':=(recF p b s)[i]) rfl (congrArg strV (hx _)) (congrArg strV (hy _)) ?_
      rw [decide_eq_true hxy]
      conv=>whnf
      refine⟨fun hc=>absurd hc (by simp),fun hc=>?_⟩
      conv=>whnf
      refine⟨_,wrapId ⟨by omega,by omega⟩, ?_⟩
      refine⟨i+1,h,by show R.length - (i+1) < R.length - i; omega, ?_⟩
      conv=>whnf
      refine⟨rfl, ?_⟩
      conv=>whnf
      repeat'(first|exact trivial|exact rfl|refine And.intro ?_ ?_|((conv=>whnf);first|exact trivial|exact rfl|refine And.intro ?_ ?_|omega))
     conv=>whnf
     refine⟨fun hc=>?_,fun hc=>?_⟩
     ·conv=>whnf
      refine call_step awake_t rfl rfl ?_
      conv=>whnf
      refine⟨?_, ?_, ?_⟩
      iterate 2 · repeat'(first|exact trivial|exact rfl|refine And.intro ?_ ?_|((conv=>whnf);first|exact trivial|exact rfl|refine And.intro ?_ ?_|omega))
      conv=>whnf
      repeat'(first|exact trivial|exact rfl|refine And.intro ?_ ?_|((conv=>whnf);first|exact trivial|exact rfl|refine And.intro ?_ ?_|omega))
     have h4:4≤R.length:=by have:=of_decide_eq_false hc; omega
     obtain ⟨m,hm⟩:∃ m,r=m+4:=⟨r - 4,by omega⟩
     rw [recF_take p b s hm] at hr3
     subst hr3
     clear hkt
     have c1:=commitF_len 1 b
     have c2:=commitF_len 2 s
     conv=>whnf
     refine⟨0,rfl,Nat.succ_pos _, ?_⟩
     conv=>whnf
     refine⟨Nat.succ_pos _, ?_⟩
     conv=>whnf
     refine call_step (unhex_t (commitF 1 b).1 c1) rfl rfl ?_
     conv=>whnf
     refine⟨?_, ?_, ?_⟩
     iterate 2 · repeat'(first|exact trivial|exact rfl|refine And.intro ?_ ?_|((conv=>whnf);first|exact trivial|exact rfl|refine And.intro ?_ ?_|omega))
     conv=>whnf
     refine allocA_step tB_ok 16 rfl rfl rfl ?_
     conv=>whnf
     refine storeA_step (l':=(commitF 1 b).1) tB_ok rfl rfl rfl rfl rfl (by simp) (by rw [c1]; simp) (by decide) ?_
     conv=>whnf
     refine⟨1,rfl,Nat.succ_lt_succ (Nat.succ_pos _), ?_⟩
     conv=>whnf
     refine⟨Nat.succ_lt_succ (Nat.succ_pos _), ?_⟩
     conv=>whnf
     refine call_step (unhex_t (commitF 2 s).1 c2) rfl rfl ?_
     conv=>whnf
     refine⟨?_, ?_, ?_⟩
     iterate 2 · repeat'(first|exact trivial|exact rfl|refine And.intro ?_ ?_|((conv=>whnf);first|exact trivial|exact rfl|refine And.intro ?_ ?_|omega))
     conv=>whnf
     refine allocA_step tB_ok 16 rfl rfl rfl ?_
     conv=>whnf
     refine storeA_step (l':=(commitF 2 s).1) tB_ok rfl rfl rfl rfl rfl (by simp) (by rw [c2]; simp) (by decide) ?_
     conv=>whnf
     refine⟨2,rfl,Nat.succ_lt_succ (Nat.succ_lt_succ (Nat.succ_pos _)), ?_⟩
     conv=>whnf
     refine⟨Nat.succ_lt_succ (Nat.succ_lt_succ (Nat.succ_pos _)), ?_⟩
     conv=>whnf
     refine call_step (secOf_t b (by have l0:=hshort (secText b) (by unfold recF; simp); omega)) rfl rfl ?_
     conv=>whnf
     refine⟨?_, ?_, ?_⟩
     iterate 2 · repeat'(first|exact trivial|exact rfl|refine And.intro ?_ ?_|((conv=>whnf);first|exact trivial|exact rfl|refine And.intro ?_ ?_|omega))
     conv=>whnf
     refine⟨3,rfl,Nat.succ_lt_succ (Nat.succ_lt_succ (Nat.succ_lt_succ (Nat.succ_pos _))), ?_⟩
     conv=>whnf
     refine⟨Nat.succ_lt_succ (Nat.succ_lt_succ (Nat.succ_lt_succ (Nat.succ_pos _))), ?_⟩
     conv=>whnf
     refine call_step (secOf_t s (by have l0:=hshort (secText s) (by unfold recF; simp); omega)) rfl rfl ?_
     conv=>whnf
     refine⟨?_, ?_, ?_⟩
     iterate 2 · repeat'(first|exact trivial|exact rfl|refine And.intro ?_ ?_|((conv=>whnf);first|exact trivial|exact rfl|refine And.intro ?_ ?_|omega))
     conv=>whnf
     have o1:opensF 1 (commitF 1 b).1 b=true:=by
      have h1:secOK b=true:=by unfold okR at hok2; simp at hok2; exact hok2.1
      simp [opensF,h1]
     have o2:opensF 2 (commitF 2 s).1 s=true:=by
      have h1:secOK s=true:=by unfold okR at hok2; simp at hok2; exact hok2.2
      simp [opensF,h1]
     have q1:=opens_t 1 (by decide) (commitF 1 b).1 c1 b
     have q2:=opens_t 2 (by decide) (commitF 2 s).1 c2 s
     rw [o1] at q1
     rw [o2] at q2
     refine⟨fun hc=>absurd hc (by simp),fun hc=>?_⟩
     conv=>whnf
     refine⟨fun hc=>absurd hc (by simp),fun hc=>?_⟩
     conv=>whnf
     refine⟨fun hc=>absurd hc (by simp),fun hc=>?_⟩
     conv=>whnf
     refine⟨fun hc=>absurd hc (by simp),fun hc=>?_⟩
     conv=>whnf
     refine loadA_step (l:=(commitF 1 b).1) tB_ok rfl rfl rfl rfl rfl c1.symm ?_
     conv=>whnf
     refine call_step q1 rfl rfl ?_
     conv=>whnf
     refine⟨?_, ?_, ?_⟩
     iterate 2 · repeat'(first|exact trivial|exact rfl|refine And.intro ?_ ?_|((conv=>whnf);first|exact trivial|exact rfl|refine And.intro ?_ ?_|omega))
     conv=>whnf
     refine⟨fun hc=>absurd hc (by simp),fun hc=>?_⟩
     conv=>whnf
     refine loadA_step (l:=(commitF 2 s).1) tB_ok rfl rfl rfl rfl rfl c2.symm ?_
     conv=>whnf
     refine call_step q2 rfl rfl ?_
     conv=>whnf
     refine⟨?_, ?_, ?_⟩
     iterate 2 · repeat'(first|exact trivial|exact rfl|refine And.intro ?_ ?_|((conv=>whnf);first|exact trivial|exact rfl|refine And.intro ?_ ?_|omega))
     conv=>whnf
     refine⟨fun hc=>absurd hc (by simp),fun hc=>?_⟩
     conv=>whnf
     have hbd:=draw_bound hok (jointE p.id b s).1
     have hdc:=checkDraw_t p hf hP (commitF 1 b).1 (commitF 2 s).1 c1 c2 b s o1 o2
     have hmD:m≤(drawF p (jointE p.id b s).1).length:=by omega
     generalize drawF p (jointE p.id b s).1=D at hbd hdc hmD hLl hRl hDl ⊢
     refine loop_step tB_ok (G:=Nat) 1 [] (fun i=>[(27,iv .i64 ((i+4:Nat):Int)),(26, .c (.s 12 0 i 3))]) (fun i=>[(12,true, .arr (aSmp (D.take i)))]) (fun i=>i≤m) (fun i=>m - i) ?_
     conv=>whnf
     refine⟨⟨0,Nat.zero_le _, ?_⟩, ?_⟩
     ·conv=>whnf
      repeat'(first|exact trivial|exact rfl|refine And.intro ?_ ?_|((conv=>whnf);first|exact trivial|exact rfl|refine And.intro ?_ ?_|omega))
     have hcl:∀ R:List (List UInt8),R=hexF (commitF 1 b).1 :: hexF (commitF 2 s).1 :: secText b :: secText s :: (D.take m).map smpText → R.length=m+4:=fun R hR=>by
      rw [hR]; simp; omega
     have hcl:=hcl _ rfl
     intro i hi ρ1 t1 hρ1
     have hi:i≤m:=hi
     conv=>whnf
     refine⟨fun hc=>?_,fun hc=>?_⟩
     ·have h:i < m:=by have:=of_decide_eq_true hc; omega
      have hi':i < D.length:=by omega
      have h4i:i+4 < (hexF (commitF 1 b).1 :: hexF (commitF 2 s).1 :: secText b :: secText s :: (D.take m).map smpText).length:=by omega
      have hx:(hexF (commitF 1 b).1 :: hexF (commitF 2 s).1 :: secText b :: secText s :: (D.take m).map smpText)[i+4]'h4i=smpText D[i]:=by simp
      have hbi:=hbd D[i] (List.getElem_mem hi')
      have hso:=smpOf_t D[i] (by omega) (by omega) (by omega)
      rw [← hx] at hso
      have hDt:=take_snoc hi'
      generalize D[i]=y at hbi hso hDt
      conv=>whnf
      refine⟨i+4,rfl,h4i, ?_⟩
      conv=>whnf
      refine⟨h4i, ?_⟩
      conv=>whnf
      refine call_step hso rfl rfl ?_
      conv=>whnf
      refine⟨?_, ?_, ?_⟩
      iterate 2 · repeat'(first|exact trivial|exact rfl|refine And.intro ?_ ?_|((conv=>whnf);first|exact trivial|exact rfl|refine And.intro ?_ ?_|omega))
      conv=>whnf
      refine⟨fun hc=>absurd hc (by simp),fun hc=>?_⟩
      conv=>whnf
      have hpl:(D.take i).length=i:=by rw [List.length_take]; omega
      generalize D.take i=pr at hDt hpl
      refine bs_step tB_ok (aSmp [y]) rfl rfl ?_
      conv=>whnf
      refine⟨⟨rfl,(by repeat'(first|exact trivial|exact rfl|refine And.intro ?_ ?_|((conv=>whnf);first|exact trivial|exact rfl|refine And.intro ?_ ?_|omega)))⟩, ?_⟩
      conv=>whnf
      have e:pr.take i ++ (([y]:List Smp).drop 0).take 1=pr ++ [y]:=by
       rw [List.take_of_length_le (by omega)]; rfl
      refine appR_step tB_ok (aSmp pr) [y] (pr ++ [y]) (fun _=>rfl) rfl rfl rfl rfl ?_
      conv=>whnf
      refine⟨⟨rfl,rfl,(by show i≤pr.length; omega),Nat.le_refl _,by show (i+1) * 25≤140737488355328; omega,e⟩, ?_⟩
      conv=>whnf
      refine⟨((i+1+4:Nat):Int),by rw [show ((i+4:Nat):Int)+1=((i+1+4:Nat):Int) from by omega]; exact wrapId ⟨by omega,by omega⟩, ?_⟩
      conv=>whnf
      refine⟨i+1,h,by show m - (i+1) < m - i; omega, ?_⟩
      have elen:(pr ++ [y]).length=i+1:=by rw [List.length_append,hpl]; rfl
      dsimp only
      rw [hDt]
      conv=>whnf
      refine⟨rfl, ?_⟩
      conv=>whnf
      repeat' (first | exact elen | exact trivial | exact rfl | refine And.intro ?_ ?_ | ((conv=>whnf); first | exact elen | exact trivial | exact rfl | refine And.intro ?_ ?_ | omega))
     have hie:i=m:=by have:=of_decide_eq_false hc; omega
     subst hie
     have hpl:(D.take i).length=i:=by rw [List.length_take]; omega
     have hdc:=hdc (D.take i) (by omega)
     rw [hpl] at hdc
     have hLl2:((recF p b s).length:Int)=4+(D.length:Int):=by omega
     have hq:((decide (D=D.take i)) == (((hexF (commitF 1 b).1 :: hexF (commitF 2 s).1 :: secText b :: secText s :: (D.take i).map smpText).length:Int) == ((recF p b s).length:Int)))=true:=by
      rw [hLl2,hcl]
      by_cases hE:D=D.take i
      ·have:i=D.length:=by rw [← hpl,← hE]
       rw [decide_eq_true hE]; simp; omega
      ·have:i ≠ D.length:=fun h=>hE (by rw [h,List.take_length])
       rw [decide_eq_false hE]; simp; omega
     obtain ⟨cd,hcd,hcd2⟩:∃ cd:Int,(if D=D.take i then (0:Int) else 8)=cd∧decide (D=D.take i)=(cd == 0)∧(cd=0 ∨ cd=8):=by
      by_cases hE:D=D.take i
      ·rw [if_pos hE,decide_eq_true hE]; exact⟨0,rfl,rfl, .inl rfl⟩
      ·rw [if_neg hE,decide_eq_false hE]; exact⟨8,rfl,rfl, .inr rfl⟩
     obtain ⟨hcd2,hcd3⟩:=hcd2
     rw [hcd] at hdc
     rw [hcd2] at hq
     clear hcd hcd2
     conv=>whnf
     refine loadA_step (l:=(commitF 1 b).1) tB_ok rfl rfl rfl rfl rfl c1.symm ?_
     conv=>whnf
     refine loadA_step (l:=(commitF 2 s).1) tB_ok rfl rfl rfl rfl rfl c2.symm ?_
     conv=>whnf
     refine call_step hdc rfl rfl ?_
     conv=>whnf
     refine⟨?_, ?_, ?_⟩
     iterate 2 · repeat'(first|exact trivial|exact rfl|refine And.intro ?_ ?_|((conv=>whnf);first|exact trivial|exact rfl|refine And.intro ?_ ?_|omega))
     conv=>whnf
     refine call_step awake_t rfl rfl ?_
     conv=>whnf
     refine⟨?_, ?_, ?_⟩
     iterate 2 · repeat'(first|exact trivial|exact rfl|refine And.intro ?_ ?_|((conv=>whnf);first|exact trivial|exact rfl|refine And.intro ?_ ?_|omega))
     conv=>whnf
     refine⟨fun hc=>?_,fun hc=>absurd hc (by simp)⟩
     conv=>whnf
     refine⟨fun hc=>?_,fun hc=>absurd (Eq.trans (Eq.symm hq) hc) (by decide)⟩
     conv=>whnf
     rcases hcd3 with rfl | rfl
     ·refine⟨fun hc=>?_,fun hc=>absurd hc (by simp)⟩
      conv=>whnf
      repeat' (first | exact (congrArg Value.bool hq) | exact trivial | exact rfl | refine And.intro ?_ ?_ | ((conv=>whnf); first | exact (congrArg Value.bool hq) | exact trivial | exact rfl | refine And.intro ?_ ?_ | omega))
     ·refine⟨fun hc=>absurd hc (by simp),fun hc=>?_⟩
      conv=>whnf
      repeat' (first | exact (congrArg Value.bool hq) | exact trivial | exact rfl | refine And.intro ?_ ?_ | ((conv=>whnf); first | exact (congrArg Value.bool hq) | exact trivial | exact rfl | refine And.intro ?_ ?_ | omega))
    ·conv=>whnf
     refine loop_step tB_ok (G:=Nat) 0 [] (fun i=>[(17,iv .i64 i)]) (fun _=>[]) (fun i=>i≤R.length) (fun i=>R.length - i) ?_
     conv=>whnf
     refine⟨⟨0,Nat.zero_le _, ?_⟩, ?_⟩
     ·conv=>whnf
      repeat'(first|exact trivial|exact rfl|refine And.intro ?_ ?_|((conv=>whnf);first|exact trivial|exact rfl|refine And.intro ?_ ?_|omega))
     intro i hi ρ1 t1 hρ1
     have hi:i≤R.length:=hi
     conv=>whnf
     refine⟨fun hc=>?_,fun hc=>?_⟩
     ·have h:i < R.length:=by have:=of_decide_eq_true hc; omega
      have hz:i < (recF p b s).length:=by omega
      conv=>whnf
      refine⟨i,rfl,h, ?_⟩
      conv=>whnf
      refine⟨h, ?_⟩
      conv=>whnf
      refine⟨i,rfl,hz, ?_⟩
      conv=>whnf
      refine⟨hz, ?_⟩
      conv=>whnf
      have hx:∀ hz,(aStr R).xs[addN 0 i]'hz=R[i]:=idx_at h
      have hy:∀ hz,(aStr (recF p b s)).xs[addN 0 i]'hz=(recF p b s)[i]:=idx_at hz
      have hxy:R[i]=(recF p b s)[i]:=by
       have e:=congrArg (fun x=>x[i]?) hr3
       simp only [List.getElem?_take,List.getElem?_eq_getElem h,List.getElem?_eq_getElem hz] at e
       rw [if_pos (by omega)] at e
       exact Option.some.inj e
      refine sne_step (l:=R[i]) (l':=(recF p b s)[i]) rfl (congrArg strV (hx _)) (congrArg strV (hy _)) ?_
      rw [decide_eq_true hxy]
      conv=>whnf
      refine⟨fun hc=>absurd hc (by simp),fun hc=>?_⟩
      conv=>whnf
      refine⟨_,wrapId ⟨by omega,by omega⟩, ?_⟩
      refine⟨i+1,h,by show R.length - (i+1) < R.length - i; omega, ?_⟩
      conv=>whnf
      refine⟨rfl, ?_⟩
      conv=>whnf
      repeat'(first|exact trivial|exact rfl|refine And.intro ?_ ?_|((conv=>whnf);first|exact trivial|exact rfl|refine And.intro ?_ ?_|omega))
     conv=>whnf
     refine⟨fun hc=>?_,fun hc=>?_⟩
     ·conv=>whnf
      refine call_step awake_t rfl rfl ?_
      conv=>whnf
      refine⟨?_, ?_, ?_⟩
      iterate 2 · repeat'(first|exact trivial|exact rfl|refine And.intro ?_ ?_|((conv=>whnf);first|exact trivial|exact rfl|refine And.intro ?_ ?_|omega))
      conv=>whnf
      repeat'(first|exact trivial|exact rfl|refine And.intro ?_ ?_|((conv=>whnf);first|exact trivial|exact rfl|refine And.intro ?_ ?_|omega))
     have h4:4≤R.length:=by have:=of_decide_eq_false hc; omega
     obtain ⟨m,hm⟩:∃ m,r=m+4:=⟨r - 4,by omega⟩
     rw [recF_take p b s hm] at hr3
     subst hr3
     clear hkt
     have c1:=commitF_len 1 b
     have c2:=commitF_len 2 s
     conv=>whnf
     refine⟨0,rfl,Nat.succ_pos _, ?_⟩
     conv=>whnf
     refine⟨Nat.succ_pos _, ?_⟩
     conv=>whnf
     refine call_step (unhex_t (commitF 1 b).1 c1) rfl rfl ?_
     conv=>whnf
     refine⟨?_, ?_, ?_⟩
     iterate 2 · repeat'(first|exact trivial|exact rfl|refine And.intro ?_ ?_|((conv=>whnf);first|exact trivial|exact rfl|refine And.intro ?_ ?_|omega))
     conv=>whnf
     refine allocA_step tB_ok 16 rfl rfl rfl ?_
     conv=>whnf
     refine storeA_step (l':=(commitF 1 b).1) tB_ok rfl rfl rfl rfl rfl (by simp) (by rw [c1]; simp) (by decide) ?_
     conv=>whnf
     refine⟨1,rfl,Nat.succ_lt_succ (Nat.succ_pos _), ?_⟩
     conv=>whnf
     refine⟨Nat.succ_lt_succ (Nat.succ_pos _), ?_⟩
     conv=>whnf
     refine call_step (unhex_t (commitF 2 s).1 c2) rfl rfl ?_
     conv=>whnf
     refine⟨?_, ?_, ?_⟩
     iterate 2 · repeat'(first|exact trivial|exact rfl|refine And.intro ?_ ?_|((conv=>whnf);first|exact trivial|exact rfl|refine And.intro ?_ ?_|omega))
     conv=>whnf
     refine allocA_step tB_ok 16 rfl rfl rfl ?_
     conv=>whnf
     refine storeA_step (l':=(commitF 2 s).1) tB_ok rfl rfl rfl rfl rfl (by simp) (by rw [c2]; simp) (by decide) ?_
     conv=>whnf
     refine⟨2,rfl,Nat.succ_lt_succ (Nat.succ_lt_succ (Nat.succ_pos _)), ?_⟩
     conv=>whnf
     refine⟨Nat.succ_lt_succ (Nat.succ_lt_succ (Nat.succ_pos _)), ?_⟩
     conv=>whnf
     refine call_step (secOf_t b (by have l0:=hshort (secText b) (by unfold recF; simp); omega)) rfl rfl ?_
     conv=>whnf
     refine⟨?_, ?_, ?_⟩
     iterate 2 · repeat'(first|exact trivial|exact rfl|refine And.intro ?_ ?_|((conv=>whnf);first|exact trivial|exact rfl|refine And.intro ?_ ?_|omega))
     conv=>whnf
     refine⟨3,rfl,Nat.succ_lt_succ (Nat.succ_lt_succ (Nat.succ_lt_succ (Nat.succ_pos _))), ?_⟩
     conv=>whnf
     refine⟨Nat.succ_lt_succ (Nat.succ_lt_succ (Nat.succ_lt_succ (Nat.succ_pos _))), ?_⟩
     conv=>whnf
     refine call_step (secOf_t s (by have l0:=hshort (secText s) (by unfold recF; simp); omega)) rfl rfl ?_
     conv=>whnf
     refine⟨?_, ?_, ?_⟩
     iterate 2 · repeat'(first|exact trivial|exact rfl|refine And.intro ?_ ?_|((conv=>whnf);first|exact trivial|exact rfl|refine And.intro ?_ ?_|omega))
     conv=>whnf
     have o1:opensF 1 (commitF 1 b).1 b=true:=by
      have h1:secOK b=true:=by unfold okR at hok2; simp at hok2; exact hok2.1
      simp [opensF,h1]
     have o2:opensF 2 (commitF 2 s).1 s=true:=by
      have h1:secOK s=true:=by unfold okR at hok2; simp at hok2; exact hok2.2
      simp [opensF,h1]
     have q1:=opens_t 1 (by decide) (commitF 1 b).1 c1 b
     have q2:=opens_t 2 (by decide) (commitF 2 s).1 c2 s
     rw [o1] at q1
     rw [o2] at q2
     refine⟨fun hc=>absurd hc (by simp),fun hc=>?_⟩
     conv=>whnf
     refine⟨fun hc=>absurd hc (by simp),fun hc=>?_⟩
     conv=>whnf
     refine⟨fun hc=>absurd hc (by simp),fun hc=>?_⟩
     conv=>whnf
     refine⟨fun hc=>absurd hc (by simp),fun hc=>?_⟩
     conv=>whnf
     refine loadA_step (l:=(commitF 1 b).1) tB_ok rfl rfl rfl rfl rfl c1.symm ?_
     conv=>whnf
     refine call_step q1 rfl rfl ?_
     conv=>whnf
     refine⟨?_, ?_, ?_⟩
     iterate 2 · repeat'(first|exact trivial|exact rfl|refine And.intro ?_ ?_|((conv=>whnf);first|exact trivial|exact rfl|refine And.intro ?_ ?_|omega))
     conv=>whnf
     refine⟨fun hc=>absurd hc (by simp),fun hc=>?_⟩
     conv=>whnf
     refine loadA_step (l:=(commitF 2 s).1) tB_ok rfl rfl rfl rfl rfl c2.symm ?_
     conv=>whnf
     refine call_step q2 rfl rfl ?_
     conv=>whnf
     refine⟨?_, ?_, ?_⟩
     iterate 2 · repeat'(first|exact trivial|exact rfl|refine And.intro ?_ ?_|((conv=>whnf);first|exact trivial|exact rfl|refine And.intro ?_ ?_|omega))
     conv=>whnf
     refine⟨fun hc=>absurd hc (by simp),fun hc=>?_⟩
     conv=>whnf
     have hbd:=draw_bound hok (jointE p.id b s).1
     have hdc:=checkDraw_t p hf hP (commitF 1 b).1 (commitF 2 s).1 c1 c2 b s o1 o2
     have hmD:m≤(drawF p (jointE p.id b s).1).length:=by omega
     generalize drawF p (jointE p.id b s).1=D at hbd hdc hmD hLl hRl hDl ⊢
     refine loop_step tB_ok (G:=Nat) 1 [] (fun i=>[(27,iv .i64 ((i+4:Nat):Int)),(26, .c (.s 12 0 i 3))]) (fun i=>[(12,true, .arr (aSmp (D.take i)))]) (fun i=>i≤m) (fun i=>m - i) ?_
     conv=>whnf
     refine⟨⟨0,Nat.zero_le _, ?_⟩, ?_⟩
     ·conv=>whnf
      repeat'(first|exact trivial|exact rfl|refine And.intro ?_ ?_|((conv=>whnf);first|exact trivial|exact rfl|refine And.intro ?_ ?_|omega))
     have hcl:∀ R:List (List UInt8),R=hexF (commitF 1 b).1 :: hexF (commitF 2 s).1 :: secText b :: secText s :: (D.take m).map smpText → R.length=m+4:=fun R hR=>by
      rw [hR]; simp; omega
     have hcl:=hcl _ rfl
     intro i hi ρ1 t1 hρ1
     have hi:i≤m:=hi
     conv=>whnf
     refine⟨fun hc=>?_,fun hc=>?_⟩
     ·have h:i < m:=by have:=of_decide_eq_true hc; omega
      have hi':i < D.length:=by omega
      have h4i:i+4 < (hexF (commitF 1 b).1 :: hexF (commitF 2 s).1 :: secText b :: secText s :: (D.take m).map smpText).length:=by omega
      have hx:(hexF (commitF 1 b).1 :: hexF (commitF 2 s).1 :: secText b :: secText s :: (D.take m).map smpText)[i+4]'h4i=smpText D[i]:=by simp
      have hbi:=hbd D[i] (List.getElem_mem hi')
      have hso:=smpOf_t D[i] (by omega) (by omega) (by omega)
      rw [← hx] at hso
      have hDt:=take_snoc hi'
      generalize D[i]=y at hbi hso hDt
      conv=>whnf
      refine⟨i+4,rfl,h4i, ?_⟩
      conv=>whnf
      refine⟨h4i, ?_⟩
      conv=>whnf
      refine call_step hso rfl rfl ?_
      conv=>whnf
      refine⟨?_, ?_, ?_⟩
      iterate 2 · repeat'(first|exact trivial|exact rfl|refine And.intro ?_ ?_|((conv=>whnf);first|exact trivial|exact rfl|refine And.intro ?_ ?_|omega))
      conv=>whnf
      refine⟨fun hc=>absurd hc (by simp),fun hc=>?_⟩
      conv=>whnf
      have hpl:(D.take i).length=i:=by rw [List.length_take]; omega
      generalize D.take i=pr at hDt hpl
      refine bs_step tB_ok (aSmp [y]) rfl rfl ?_
      conv=>whnf
      refine⟨⟨rfl,(by repeat'(first|exact trivial|exact rfl|refine And.intro ?_ ?_|((conv=>whnf);first|exact trivial|exact rfl|refine And.intro ?_ ?_|omega)))⟩, ?_⟩
      conv=>whnf
      have e:pr.take i ++ (([y]:List Smp).drop 0).take 1=pr ++ [y]:=by
       rw [List.take_of_length_le (by omega)]; rfl
      refine appR_step tB_ok (aSmp pr) [y] (pr ++ [y]) (fun _=>rfl) rfl rfl rfl rfl ?_
      conv=>whnf
      refine⟨⟨rfl,rfl,(by show i≤pr.length; omega),Nat.le_refl _,by show (i+1) * 25≤140737488355328; omega,e⟩, ?_⟩
      conv=>whnf
      refine⟨((i+1+4:Nat):Int),by rw [show ((i+4:Nat):Int)+1=((i+1+4:Nat):Int) from by omega]; exact wrapId ⟨by omega,by omega⟩, ?_⟩
      conv=>whnf
      refine⟨i+1,h,by show m - (i+1) < m - i; omega, ?_⟩
      have elen:(pr ++ [y]).length=i+1:=by rw [List.length_append,hpl]; rfl
      dsimp only
      rw [hDt]
      conv=>whnf
      refine⟨rfl, ?_⟩
      conv=>whnf
      repeat' (first | exact elen | exact trivial | exact rfl | refine And.intro ?_ ?_ | ((conv=>whnf); first | exact elen | exact trivial | exact rfl | refine And.intro ?_ ?_ | omega))
     have hie:i=m:=by have:=of_decide_eq_false hc; omega
     subst hie
     have hpl:(D.take i).length=i:=by rw [List.length_take]; omega
     have hdc:=hdc (D.take i) (by omega)
     rw [hpl] at hdc
     have hLl2:((recF p b s).length:Int)=4+(D.length:Int):=by omega
     have hq:((decide (D=D.take i)) == (((hexF (commitF 1 b).1 :: hexF (commitF 2 s).1 :: secText b :: secText s :: (D.take i).map smpText).length:Int) == ((recF p b s).length:Int)))=true:=by
      rw [hLl2,hcl]
      by_cases hE:D=D.take i
      ·have:i=D.length:=by rw [← hpl,← hE]
       rw [decide_eq_true hE]; simp; omega
      ·have:i ≠ D.length:=fun h=>hE (by rw [h,List.take_length])
       rw [decide_eq_false hE]; simp; omega
     obtain ⟨cd,hcd,hcd2⟩:∃ cd:Int,(if D=D.take i then (0:Int) else 8)=cd∧decide (D=D.take i)=(cd == 0)∧(cd=0 ∨ cd=8):=by
      by_cases hE:D=D.take i
      ·rw [if_pos hE,decide_eq_true hE]; exact⟨0,rfl,rfl, .inl rfl⟩
      ·rw [if_neg hE,decide_eq_false hE]; exact⟨8,rfl,rfl, .inr rfl⟩
     obtain ⟨hcd2,hcd3⟩:=hcd2
     rw [hcd] at hdc
     rw [hcd2] at hq
     clear hcd hcd2
     conv=>whnf
     refine loadA_step (l:=(commitF 1 b).1) tB_ok rfl rfl rfl rfl rfl c1.symm ?_
     conv=>whnf
     refine loadA_step (l:=(commitF 2 s).1) tB_ok rfl rfl rfl rfl rfl c2.symm ?_
     conv=>whnf
     refine call_step hdc rfl rfl ?_
     conv=>whnf
     refine⟨?_, ?_, ?_⟩
     iterate 2 · repeat'(first|exact trivial|exact rfl|refine And.intro ?_ ?_|((conv=>whnf);first|exact trivial|exact rfl|refine And.intro ?_ ?_|omega))
     conv=>whnf
     refine call_step awake_t rfl rfl ?_
     conv=>whnf
     refine⟨?_, ?_, ?_⟩
     iterate 2 · repeat'(first|exact trivial|exact rfl|refine And.intro ?_ ?_|((conv=>whnf);first|exact trivial|exact rfl|refine And.intro ?_ ?_|omega))
     conv=>whnf
     refine⟨fun hc=>?_,fun hc=>absurd hc (by simp)⟩
     conv=>whnf
     refine⟨fun hc=>?_,fun hc=>absurd (Eq.trans (Eq.symm hq) hc) (by decide)⟩
     conv=>whnf
     rcases hcd3 with rfl | rfl
     ·refine⟨fun hc=>?_,fun hc=>absurd hc (by simp)⟩
      conv=>whnf
      repeat' (first | exact (congrArg Value.bool hq) | exact trivial | exact rfl | refine And.intro ?_ ?_ | ((conv=>whnf); first | exact (congrArg Value.bool hq) | exact trivial | exact rfl | refine And.intro ?_ ?_ | omega))
     ·refine⟨fun hc=>absurd hc (by simp),fun hc=>?_⟩
      conv=>whnf
      repeat' (first | exact (congrArg Value.bool hq) | exact trivial | exact rfl | refine And.intro ?_ ?_ | ((conv=>whnf); first | exact (congrArg Value.bool hq) | exact trivial | exact rfl | refine And.intro ?_ ?_ | omega))
   ·conv=>whnf
    refine loop_step tB_ok (G:=Nat) 0 [] (fun i=>[(17,iv .i64 i)]) (fun _=>[]) (fun i=>i≤R.length) (fun i=>R.length - i) ?_
    conv=>whnf
    refine⟨⟨0,Nat.zero_le _, ?_⟩, ?_⟩
    ·conv=>whnf
     repeat'(first|exact trivial|exact rfl|refine And.intro ?_ ?_|((conv=>whnf);first|exact trivial|exact rfl|refine And.intro ?_ ?_|omega))
    intro i hi ρ1 t1 hρ1
    have hi:i≤R.length:=hi
    conv=>whnf
    refine⟨fun hc=>?_,fun hc=>?_⟩
    ·have h:i < R.length:=by have:=of_decide_eq_true hc; omega
     have hz:i < (recF p b s).length:=by omega
     conv=>whnf
     refine⟨i,rfl,h, ?_⟩
     conv=>whnf
     refine⟨h, ?_⟩
     conv=>whnf
     refine⟨i,rfl,hz, ?_⟩
     conv=>whnf
     refine⟨hz, ?_⟩
     conv=>whnf
     have hx:∀ hz,(aStr R).xs[addN 0 i]'hz=R[i]:=idx_at h
     have hy:∀ hz,(aStr (recF p b s)).xs[addN 0 i]'hz=(recF p b s)[i]:=idx_at hz
     have hxy:R[i]=(recF p b s)[i]:=by
      have e:=congrArg (fun x=>x[i]?) hr3
      simp only [List.getElem?_take,List.getElem?_eq_getElem h,List.getElem?_eq_getElem hz] at e
      rw [if_pos (by omega)] at e
      exact Option.some.inj e
     refine sne_step (l:=R[i]) (l':=(recF p b s)[i]) rfl (congrArg strV (hx _)) (congrArg strV (hy _)) ?_
     rw [decide_eq_true hxy]
     conv=>whnf
     refine⟨fun hc=>absurd hc (by simp),fun hc=>?_⟩
     conv=>whnf
     refine⟨_,wrapId ⟨by omega,by omega⟩, ?_⟩
     refine⟨i+1,h,by show R.length - (i+1) < R.length - i; omega, ?_⟩
     conv=>whnf
     refine⟨rfl, ?_⟩
     conv=>whnf
     repeat'(first|exact trivial|exact rfl|refine And.intro ?_ ?_|((conv=>whnf);first|exact trivial|exact rfl|refine And.intro ?_ ?_|omega))
    conv=>whnf
    refine⟨fun hc=>?_,fun hc=>?_⟩
    ·conv=>whnf
     refine call_step awake_t rfl rfl ?_
     conv=>whnf
     refine⟨?_, ?_, ?_⟩
     iterate 2 · repeat'(first|exact trivial|exact rfl|refine And.intro ?_ ?_|((conv=>whnf);first|exact trivial|exact rfl|refine And.intro ?_ ?_|omega))
     conv=>whnf
     repeat'(first|exact trivial|exact rfl|refine And.intro ?_ ?_|((conv=>whnf);first|exact trivial|exact rfl|refine And.intro ?_ ?_|omega))
    have h4:4≤R.length:=by have:=of_decide_eq_false hc; omega
    obtain ⟨m,hm⟩:∃ m,r=m+4:=⟨r - 4,by omega⟩
    rw [recF_take p b s hm] at hr3
    subst hr3
    clear hkt
    have c1:=commitF_len 1 b
    have c2:=commitF_len 2 s
    conv=>whnf
    refine⟨0,rfl,Nat.succ_pos _, ?_⟩
    conv=>whnf
    refine⟨Nat.succ_pos _, ?_⟩
    conv=>whnf
    refine call_step (unhex_t (commitF 1 b).1 c1) rfl rfl ?_
    conv=>whnf
    refine⟨?_, ?_, ?_⟩
    iterate 2 · repeat'(first|exact trivial|exact rfl|refine And.intro ?_ ?_|((conv=>whnf);first|exact trivial|exact rfl|refine And.intro ?_ ?_|omega))
    conv=>whnf
    refine allocA_step tB_ok 16 rfl rfl rfl ?_
    conv=>whnf
    refine storeA_step (l':=(commitF 1 b).1) tB_ok rfl rfl rfl rfl rfl (by simp) (by rw [c1]; simp) (by decide) ?_
    conv=>whnf
    refine⟨1,rfl,Nat.succ_lt_succ (Nat.succ_pos _), ?_⟩
    conv=>whnf
    refine⟨Nat.succ_lt_succ (Nat.succ_pos _), ?_⟩
    conv=>whnf
    refine call_step (unhex_t (commitF 2 s).1 c2) rfl rfl ?_
    conv=>whnf
    refine⟨?_, ?_, ?_⟩
    iterate 2 · repeat'(first|exact trivial|exact rfl|refine And.intro ?_ ?_|((conv=>whnf);first|exact trivial|exact rfl|refine And.intro ?_ ?_|omega))
    conv=>whnf
    refine allocA_step tB_ok 16 rfl rfl rfl ?_
    conv=>whnf
    refine storeA_step (l':=(commitF 2 s).1) tB_ok rfl rfl rfl rfl rfl (by simp) (by rw [c2]; simp) (by decide) ?_
    conv=>whnf
    refine⟨2,rfl,Nat.succ_lt_succ (Nat.succ_lt_succ (Nat.succ_pos _)), ?_⟩
    conv=>whnf
    refine⟨Nat.succ_lt_succ (Nat.succ_lt_succ (Nat.succ_pos _)), ?_⟩
    conv=>whnf
    refine call_step (secOf_t b (by have l0:=hshort (secText b) (by unfold recF; simp); omega)) rfl rfl ?_
    conv=>whnf
    refine⟨?_, ?_, ?_⟩
    iterate 2 · repeat'(first|exact trivial|exact rfl|refine And.intro ?_ ?_|((conv=>whnf);first|exact trivial|exact rfl|refine And.intro ?_ ?_|omega))
    conv=>whnf
    refine⟨3,rfl,Nat.succ_lt_succ (Nat.succ_lt_succ (Nat.succ_lt_succ (Nat.succ_pos _))), ?_⟩
    conv=>whnf
    refine⟨Nat.succ_lt_succ (Nat.succ_lt_succ (Nat.succ_lt_succ (Nat.succ_pos _))), ?_⟩
    conv=>whnf
    refine call_step (secOf_t s (by have l0:=hshort (secText s) (by unfold recF; simp); omega)) rfl rfl ?_
    conv=>whnf
    refine⟨?_, ?_, ?_⟩
    iterate 2 · repeat'(first|exact trivial|exact rfl|refine And.intro ?_ ?_|((conv=>whnf);first|exact trivial|exact rfl|refine And.intro ?_ ?_|omega))
    conv=>whnf
    have o1:opensF 1 (commitF 1 b).1 b=true:=by
     have h1:secOK b=true:=by unfold okR at hok2; simp at hok2; exact hok2.1
     simp [opensF,h1]
    have o2:opensF 2 (commitF 2 s).1 s=true:=by
     have h1:secOK s=true:=by unfold okR at hok2; simp at hok2; exact hok2.2
     simp [opensF,h1]
    have q1:=opens_t 1 (by decide) (commitF 1 b).1 c1 b
    have q2:=opens_t 2 (by decide) (commitF 2 s).1 c2 s
    rw [o1] at q1
    rw [o2] at q2
    refine⟨fun hc=>absurd hc (by simp),fun hc=>?_⟩
    conv=>whnf
    refine⟨fun hc=>absurd hc (by simp),fun hc=>?_⟩
    conv=>whnf
    refine⟨fun hc=>absurd hc (by simp),fun hc=>?_⟩
    conv=>whnf
    refine⟨fun hc=>absurd hc (by simp),fun hc=>?_⟩
    conv=>whnf
    refine loadA_step (l:=(commitF 1 b).1) tB_ok rfl rfl rfl rfl rfl c1.symm ?_
    conv=>whnf
    refine call_step q1 rfl rfl ?_
    conv=>whnf
    refine⟨?_, ?_, ?_⟩
    iterate 2 · repeat'(first|exact trivial|exact rfl|refine And.intro ?_ ?_|((conv=>whnf);first|exact trivial|exact rfl|refine And.intro ?_ ?_|omega))
    conv=>whnf
    refine⟨fun hc=>absurd hc (by simp),fun hc=>?_⟩
    conv=>whnf
    refine loadA_step (l:=(commitF 2 s).1) tB_ok rfl rfl rfl rfl rfl c2.symm ?_
    conv=>whnf
    refine call_step q2 rfl rfl ?_
    conv=>whnf
    refine⟨?_, ?_, ?_⟩
    iterate 2 · repeat'(first|exact trivial|exact rfl|refine And.intro ?_ ?_|((conv=>whnf);first|exact trivial|exact rfl|refine And.intro ?_ ?_|omega))
    conv=>whnf
    refine⟨fun hc=>absurd hc (by simp),fun hc=>?_⟩
    conv=>whnf
    have hbd:=draw_bound hok (jointE p.id b s).1
    have hdc:=checkDraw_t p hf hP (commitF 1 b).1 (commitF 2 s).1 c1 c2 b s o1 o2
    have hmD:m≤(drawF p (jointE p.id b s).1).length:=by omega
    generalize drawF p (jointE p.id b s).1=D at hbd hdc hmD hLl hRl hDl ⊢
    refine loop_step tB_ok (G:=Nat) 1 [] (fun i=>[(27,iv .i64 ((i+4:Nat):Int)),(26, .c (.s 12 0 i 3))]) (fun i=>[(12,true, .arr (aSmp (D.take i)))]) (fun i=>i≤m) (fun i=>m - i) ?_
    conv=>whnf
    refine⟨⟨0,Nat.zero_le _, ?_⟩, ?_⟩
    ·conv=>whnf
     repeat'(first|exact trivial|exact rfl|refine And.intro ?_ ?_|((conv=>whnf);first|exact trivial|exact rfl|refine And.intro ?_ ?_|omega))
    have hcl:∀ R:List (List UInt8),R=hexF (commitF 1 b).1 :: hexF (commitF 2 s).1 :: secText b :: secText s :: (D.take m).map smpText → R.length=m+4:=fun R hR=>by
     rw [hR]; simp; omega
    have hcl:=hcl _ rfl
    intro i hi ρ1 t1 hρ1
    have hi:i≤m:=hi
    conv=>whnf
    refine⟨fun hc=>?_,fun hc=>?_⟩
    ·have h:i < m:=by have:=of_decide_eq_true hc; omega
     have hi':i < D.length:=by omega
     have h4i:i+4 < (hexF (commitF 1 b).1 :: hexF (commitF 2 s).1 :: secText b :: secText s :: (D.take m).map smpText).length:=by omega
     have hx:(hexF (commitF 1 b).1 :: hexF (commitF 2 s).1 :: secText b :: secText s :: (D.take m).map smpText)[i+4]'h4i=smpText D[i]:=by simp
     have hbi:=hbd D[i] (List.getElem_mem hi')
     have hso:=smpOf_t D[i] (by omega) (by omega) (by omega)
     rw [← hx] at hso
     have hDt:=take_snoc hi'
     generalize D[i]=y at hbi hso hDt
     conv=>whnf
     refine⟨i+4,rfl,h4i, ?_⟩
     conv=>whnf
     refine⟨h4i, ?_⟩
     conv=>whnf
     refine call_step hso rfl rfl ?_
     conv=>whnf
     refine⟨?_, ?_, ?_⟩
     iterate 2 · repeat'(first|exact trivial|exact rfl|refine And.intro ?_ ?_|((conv=>whnf);first|exact trivial|exact rfl|refine And.intro ?_ ?_|omega))
     conv=>whnf
     refine⟨fun hc=>absurd hc (by simp),fun hc=>?_⟩
     conv=>whnf
     have hpl:(D.take i).length=i:=by rw [List.length_take]; omega
     generalize D.take i=pr at hDt hpl
     refine bs_step tB_ok (aSmp [y]) rfl rfl ?_
     conv=>whnf
     refine⟨⟨rfl,(by repeat'(first|exact trivial|exact rfl|refine And.intro ?_ ?_|((conv=>whnf);first|exact trivial|exact rfl|refine And.intro ?_ ?_|omega)))⟩, ?_⟩
     conv=>whnf
     have e:pr.take i ++ (([y]:List Smp).drop 0).take 1=pr ++ [y]:=by
      rw [List.take_of_length_le (by omega)]; rfl
     refine appR_step tB_ok (aSmp pr) [y] (pr ++ [y]) (fun _=>rfl) rfl rfl rfl rfl ?_
     conv=>whnf
     refine⟨⟨rfl,rfl,(by show i≤pr.length; omega),Nat.le_refl _,by show (i+1) * 25≤140737488355328; omega,e⟩, ?_⟩
     conv=>whnf
     refine⟨((i+1+4:Nat):Int),by rw [show ((i+4:Nat):Int)+1=((i+1+4:Nat):Int) from by omega]; exact wrapId ⟨by omega,by omega⟩, ?_⟩
     conv=>whnf
     refine⟨i+1,h,by show m - (i+1) < m - i; omega, ?_⟩
     have elen:(pr ++ [y]).length=i+1:=by rw [List.length_append,hpl]; rfl
     dsimp only
     rw [hDt]
     conv=>whnf
     refine⟨rfl, ?_⟩
     conv=>whnf
     repeat' (first | exact elen | exact trivial | exact rfl | refine And.intro ?_ ?_ | ((conv=>whnf); first | exact elen | exact trivial | exact rfl | refine And.intro ?_ ?_ | omega))
    have hie:i=m:=by have:=of_decide_eq_false hc; omega
    subst hie
    have hpl:(D.take i).length=i:=by rw [List.length_take]; omega
    have hdc:=hdc (D.take i) (by omega)
    rw [hpl] at hdc
    have hLl2:((recF p b s).length:Int)=4+(D.length:Int):=by omega
    have hq:((decide (D=D.take i)) == (((hexF (commitF 1 b).1 :: hexF (commitF 2 s).1 :: secText b :: secText s :: (D.take i).map smpText).length:Int) == ((recF p b s).length:Int)))=true:=by
     rw [hLl2,hcl]
     by_cases hE:D=D.take i
     ·have:i=D.length:=by rw [← hpl,← hE]
      rw [decide_eq_true hE]; simp; omega
     ·have:i ≠ D.length:=fun h=>hE (by rw [h,List.take_length])
      rw [decide_eq_false hE]; simp; omega
    obtain ⟨cd,hcd,hcd2⟩:∃ cd:Int,(if D=D.take i then (0:Int) else 8)=cd∧decide (D=D.take i)=(cd == 0)∧(cd=0 ∨ cd=8):=by
     by_cases hE:D=D.take i
     ·rw [if_pos hE,decide_eq_true hE]; exact⟨0,rfl,rfl, .inl rfl⟩
     ·rw [if_neg hE,decide_eq_false hE]; exact⟨8,rfl,rfl, .inr rfl⟩
    obtain ⟨hcd2,hcd3⟩:=hcd2
    rw [hcd] at hdc
    rw [hcd2] at hq
    clear hcd hcd2
    conv=>whnf
    refine loadA_step (l:=(commitF 1 b).1) tB_ok rfl rfl rfl rfl rfl c1.symm ?_
    conv=>whnf
    refine loadA_step (l:=(commitF 2 s).1) tB_ok rfl rfl rfl rfl rfl c2.symm ?_
    conv=>whnf
    refine call_step hdc rfl rfl ?_
    conv=>whnf
    refine⟨?_, ?_, ?_⟩
    iterate 2 · repeat'(first|exact trivial|exact rfl|refine And.intro ?_ ?_|((conv=>whnf);first|exact trivial|exact rfl|refine And.intro ?_ ?_|omega))
    conv=>whnf
    refine call_step awake_t rfl rfl ?_
    conv=>whnf
    refine⟨?_, ?_, ?_⟩
    iterate 2 · repeat'(first|exact trivial|exact rfl|refine And.intro ?_ ?_|((conv=>whnf);first|exact trivial|exact rfl|refine And.intro ?_ ?_|omega))
    conv=>whnf
    refine⟨fun hc=>?_,fun hc=>absurd hc (by simp)⟩
    conv=>whnf
    refine⟨fun hc=>?_,fun hc=>absurd (Eq.trans (Eq.symm hq) hc) (by decide)⟩
    conv=>whnf
    rcases hcd3 with rfl | rfl
    ·refine⟨fun hc=>?_,fun hc=>absurd hc (by simp)⟩
     conv=>whnf
     repeat' (first | exact (congrArg Value.bool hq) | exact trivial | exact rfl | refine And.intro ?_ ?_ | ((conv=>whnf); first | exact (congrArg Value.bool hq) | exact trivial | exact rfl | refine And.intro ?_ ?_ | omega))
    ·refine⟨fun hc=>absurd hc (by simp),fun hc=>?_⟩
     conv=>whnf
     repeat' (first | exact (congrArg Value.bool hq) | exact trivial | exact rfl | refine And.intro ?_ ?_ | ((conv=>whnf); first | exact (congrArg Value.bool hq) | exact trivial | exact rfl | refine And.intro ?_ ?_ | omega))

end Go.Proofs

