/-
  A part of the proof that a law answers true: lemmas of a symbolic walk, plain functions, or contracts of the functions walked (Ui, Uj, Sx60, Sx61, Sx62, Sx63). Conditions: none.
-/
import Derived.Test.YtfcdjkeamldkaaaGreatPart13
import Derived.Test.YtfcdjkeamldkaaaGreatPart12
import Derived.Test.YtfcdjkeamldkaaaGreatPart08
set_option maxRecDepth 100000
set_option linter.unusedVariables false
set_option linter.unusedSimpArgs false
namespace Go.Proofs
open Go.Sx

def secText (s:Sec):List UInt8:=textF s.seed ++ textF s.salt
def smpText (x:Smp):List UInt8:=intF x.1 ++ intF x.2.1 ++ intF x.2.2

theorem lies_app (a b c:List UInt8) {n:Nat} (h:n=a.length):Lies (a ++ b ++ c) n b:=by
 subst h
 refine⟨by simp only [List.length_append]; omega,fun j x hj=>?_⟩
 have hlt:=(List.getElem?_eq_some_iff.1 hj).1
 rw [List.append_assoc,List.getElem?_append_right (by omega),Nat.add_sub_cancel_left,List.getElem?_append_left hlt]
 exact hj

theorem secText_t (s:Sec) (h1:s.seed.length≤140737488355328) (h2:s.salt.length≤140737488355328):Triple Tryz.prog 28 [secV s] [] 0 (strV (secText s)) []:=by
 have l1:=textF_length s.seed
 have l2:=textF_length s.salt
 refine triple_of tB_ok Tryz.func28 rfl Tryz.call28 rfl ?_
 intro ρ w hH
 conv=>whnf
 refine call_step (text_t s.seed h1) rfl rfl ?_
 conv=>whnf
 refine⟨?_, ?_, ?_⟩
 iterate 2 · repeat'(first|exact trivial|exact rfl|refine And.intro ?_ ?_|((conv=>whnf);first|exact trivial|exact rfl|refine And.intro ?_ ?_|omega))
 conv=>whnf
 refine call_step (text_t s.salt h2) rfl rfl ?_
 conv=>whnf
 refine⟨?_, ?_, ?_⟩
 iterate 2 · repeat'(first|exact trivial|exact rfl|refine And.intro ?_ ?_|((conv=>whnf);first|exact trivial|exact rfl|refine And.intro ?_ ?_|omega))
 conv=>whnf
 refine cat_step (l:=textF s.seed) (l':=textF s.salt) rfl rfl rfl (by omega) ?_
 conv=>whnf
 repeat'(first|exact trivial|exact rfl|refine And.intro ?_ ?_|((conv=>whnf);first|exact trivial|exact rfl|refine And.intro ?_ ?_|omega))

theorem smpText_t (x:Smp) (h1:-9223372036854775808≤x.1∧x.1≤9223372036854775807) (h2:-9223372036854775808≤x.2.1∧x.2.1≤9223372036854775807) (h3:-9223372036854775808≤x.2.2∧x.2.2≤9223372036854775807) :
  Triple Tryz.prog 25 [.agg [.v (.int .i64 x.1), .v (.int .i64 x.2.1), .v (.int .i64 x.2.2)]] [] 0 (strV (smpText x)) []:=by
 have l1:=intF_length x.1
 have l2:=intF_length x.2.1
 have l3:=intF_length x.2.2
 refine triple_of tB_ok Tryz.func25 rfl Tryz.call25 rfl ?_
 intro ρ w hH
 conv=>whnf
 refine call_step (int_t x.1 h1) rfl rfl ?_
 conv=>whnf
 refine⟨?_, ?_, ?_⟩
 iterate 2 · repeat'(first|exact trivial|exact rfl|refine And.intro ?_ ?_|((conv=>whnf);first|exact trivial|exact rfl|refine And.intro ?_ ?_|omega))
 conv=>whnf
 refine call_step (int_t x.2.1 h2) rfl rfl ?_
 conv=>whnf
 refine⟨?_, ?_, ?_⟩
 iterate 2 · repeat'(first|exact trivial|exact rfl|refine And.intro ?_ ?_|((conv=>whnf);first|exact trivial|exact rfl|refine And.intro ?_ ?_|omega))
 conv=>whnf
 refine cat_step (l:=intF x.1) (l':=intF x.2.1) rfl rfl rfl (by omega) ?_
 conv=>whnf
 refine call_step (int_t x.2.2 h3) rfl rfl ?_
 conv=>whnf
 refine⟨?_, ?_, ?_⟩
 iterate 2 · repeat'(first|exact trivial|exact rfl|refine And.intro ?_ ?_|((conv=>whnf);first|exact trivial|exact rfl|refine And.intro ?_ ?_|omega))
 conv=>whnf
 refine cat_step (l:=intF x.1 ++ intF x.2.1) (l':=intF x.2.2) rfl rfl rfl (by rw [List.length_append]; omega) ?_
 conv=>whnf
 repeat'(first|exact trivial|exact rfl|refine And.intro ?_ ?_|((conv=>whnf);first|exact trivial|exact rfl|refine And.intro ?_ ?_|omega))

theorem secOf_t (s:Sec) (hl:(secText s).length≤1000000000):Triple Tryz.prog 10 [strV (secText s)] [] 0 (.tup [.inr [strC s.seed,strC s.salt], .inl (.v (.bool true))]) []:=by
 have e0:secText s=[] ++ textF s.seed ++ textF s.salt:=rfl
 have e1:secText s=textF s.seed ++ textF s.salt ++ []:=by rw [List.append_nil]; rfl
 have a0:Lies (secText s) 0 (textF s.seed):=by rw [e0]; exact lies_app _ _ _ rfl
 have a1:Lies (secText s) (0+(textF s.seed).length) (textF s.salt):=by rw [e1]; exact lies_app _ _ _ (by omega)
 refine triple_of tB_ok Tryz.func10 rfl Tryz.call10 rfl ?_
 intro ρ w hH
 conv=>whnf
 refine call_step (newReader_t (secText s)) rfl rfl ?_
 conv=>whnf
 refine⟨?_, ?_, ?_⟩
 iterate 2 · repeat'(first|exact trivial|exact rfl|refine And.intro ?_ ?_|((conv=>whnf);first|exact trivial|exact rfl|refine And.intro ?_ ?_|omega))
 conv=>whnf
 refine call_step (rText_t (secText s) 0 s.seed hl a0) rfl rfl ?_
 conv=>whnf
 refine⟨?_, ?_, ?_⟩
 iterate 2 · repeat'(first|exact trivial|exact rfl|refine And.intro ?_ ?_|((conv=>whnf);first|exact trivial|exact rfl|refine And.intro ?_ ?_|omega))
 conv=>whnf
 refine call_step (rText_t (secText s) (0+(textF s.seed).length) s.salt hl a1) rfl rfl ?_
 conv=>whnf
 refine⟨?_, ?_, ?_⟩
 iterate 2 · repeat'(first|exact trivial|exact rfl|refine And.intro ?_ ?_|((conv=>whnf);first|exact trivial|exact rfl|refine And.intro ?_ ?_|omega))
 conv=>whnf
 refine⟨fun hc=>?_,fun hc=>absurd hc (by simp)⟩
 conv=>whnf
 refine⟨fun hc=>?_,fun hc=>absurd hc (by simp)⟩
 conv=>whnf
 refine call_step (done_t (secText s) (0+(textF s.seed).length+(textF s.salt).length)) rfl rfl ?_
 rw [show (((0+(textF s.seed).length+(textF s.salt).length:Nat):Int) == ((secText s).length:Int))=true from by simp [secText]]
 conv=>whnf
 refine⟨?_, ?_, ?_⟩
 iterate 2 · repeat'(first|exact trivial|exact rfl|refine And.intro ?_ ?_|((conv=>whnf);first|exact trivial|exact rfl|refine And.intro ?_ ?_|omega))
 conv=>whnf
 repeat'(first|exact trivial|exact rfl|refine And.intro ?_ ?_|((conv=>whnf);first|exact trivial|exact rfl|refine And.intro ?_ ?_|omega))

theorem smpOf_t (x:Smp) (h1:-9223372036854775808≤x.1∧x.1≤9223372036854775807) (h2:-9223372036854775808≤x.2.1∧x.2.1≤9223372036854775807) (h3:-9223372036854775808≤x.2.2∧x.2.2≤9223372036854775807) :
  Triple Tryz.prog 12 [strV (smpText x)] [] 0 (.tup [.inr [.v (.int .i64 x.1), .v (.int .i64 x.2.1), .v (.int .i64 x.2.2)], .inl (.v (.bool true))]) []:=by
 have l1:=intF_length x.1
 have l2:=intF_length x.2.1
 have l3:=intF_length x.2.2
 have hl:(smpText x).length≤1000000000:=by unfold smpText; simp only [List.length_append]; omega
 have e0:smpText x=[] ++ intF x.1 ++ (intF x.2.1 ++ intF x.2.2):=by simp [smpText]
 have e1:smpText x=intF x.1 ++ intF x.2.1 ++ intF x.2.2:=rfl
 have e2:smpText x=(intF x.1 ++ intF x.2.1) ++ intF x.2.2 ++ []:=by simp [smpText]
 have a0:Lies (smpText x) 0 (intF x.1):=by rw [e0]; exact lies_app _ _ _ rfl
 have a1:Lies (smpText x) (0+(intF x.1).length) (intF x.2.1):=by rw [e1]; exact lies_app _ _ _ (by omega)
 have a2:Lies (smpText x) (0+(intF x.1).length+(intF x.2.1).length) (intF x.2.2):=by rw [e2]; exact lies_app _ _ _ (by rw [List.length_append]; omega)
 refine triple_of tB_ok Tryz.func12 rfl Tryz.call12 rfl ?_
 intro ρ w hH
 conv=>whnf
 refine call_step (newReader_t (smpText x)) rfl rfl ?_
 conv=>whnf
 refine⟨?_, ?_, ?_⟩
 iterate 2 · repeat'(first|exact trivial|exact rfl|refine And.intro ?_ ?_|((conv=>whnf);first|exact trivial|exact rfl|refine And.intro ?_ ?_|omega))
 conv=>whnf
 refine call_step (rInt_t (smpText x) 0 x.1 h1 hl a0) rfl rfl ?_
 conv=>whnf
 refine⟨?_, ?_, ?_⟩
 iterate 2 · repeat'(first|exact trivial|exact rfl|refine And.intro ?_ ?_|((conv=>whnf);first|exact trivial|exact rfl|refine And.intro ?_ ?_|omega))
 conv=>whnf
 refine call_step (rInt_t (smpText x) (0+(intF x.1).length) x.2.1 h2 hl a1) rfl rfl ?_
 conv=>whnf
 refine⟨?_, ?_, ?_⟩
 iterate 2 · repeat'(first|exact trivial|exact rfl|refine And.intro ?_ ?_|((conv=>whnf);first|exact trivial|exact rfl|refine And.intro ?_ ?_|omega))
 conv=>whnf
 refine call_step (rInt_t (smpText x) (0+(intF x.1).length+(intF x.2.1).length) x.2.2 h3 hl a2) rfl rfl ?_
 conv=>whnf
 refine⟨?_, ?_, ?_⟩
 iterate 2 · repeat'(first|exact trivial|exact rfl|refine And.intro ?_ ?_|((conv=>whnf);first|exact trivial|exact rfl|refine And.intro ?_ ?_|omega))
 conv=>whnf
 refine⟨fun hc=>?_,fun hc=>absurd hc (by simp)⟩
 conv=>whnf
 refine⟨fun hc=>?_,fun hc=>absurd hc (by simp)⟩
 conv=>whnf
 refine⟨fun hc=>?_,fun hc=>absurd hc (by simp)⟩
 conv=>whnf
 refine call_step (done_t (smpText x) (0+(intF x.1).length+(intF x.2.1).length+(intF x.2.2).length)) rfl rfl ?_
 rw [show (((0+(intF x.1).length+(intF x.2.1).length+(intF x.2.2).length:Nat):Int) == ((smpText x).length:Int))=true from by simp only [smpText,List.length_append]; simp]
 conv=>whnf
 refine⟨?_, ?_, ?_⟩
 iterate 2 · repeat'(first|exact trivial|exact rfl|refine And.intro ?_ ?_|((conv=>whnf);first|exact trivial|exact rfl|refine And.intro ?_ ?_|omega))
 conv=>whnf
 repeat'(first|exact trivial|exact rfl|refine And.intro ?_ ?_|((conv=>whnf);first|exact trivial|exact rfl|refine And.intro ?_ ?_|omega))

end Go.Proofs

namespace Go.Proofs
open Go.Sx

theorem order_mem (seed:List UInt8) (b:Int × Int) (hb:1≤b.2∧b.2≤200) (x:Int) (hx:x ∈ orderF seed b):1≤x∧x≤b.2:=by
 unfold orderF at hx
 obtain ⟨y,hy,rfl⟩:=List.mem_map.1 hx
 have:=permN_mem (sumF 51 [seed,intF b.1]) b.2.toNat (by omega) (b.2.toNat - 1) (Nat.le_refl _) y hy
 omega

theorem draw_mem {p:Pl} (hok:PlanOK p) (seed:List UInt8) (x:Smp) (hx:x ∈ drawF p seed) :
  ∃ b ∈ p.bales,∃ k:Nat,(k:Int) < p.per∧x.1=b.1∧x.2.1=k+1∧x.2.2 ∈ orderF seed b∧(orderF seed b).getD k 0=x.2.2:=by
 unfold drawF at hx
 obtain ⟨b,hb,hx⟩:=List.mem_flatMap.1 hx
 unfold smpF at hx
 obtain ⟨k,hk,rfl⟩:=List.mem_map.1 hx
 have hk:=List.mem_range.1 hk
 have hb2:=hok.bale b hb
 have hper:=hok.per
 have hl:=orderF_length seed b
 refine⟨b,hb,k,by omega,rfl,rfl, ?_,rfl⟩
 show (orderF seed b).getD k 0 ∈ _
 rw [List.getD,List.getElem?_eq_getElem (show k < (orderF seed b).length by omega)]
 exact List.getElem_mem _

theorem draw_bound {p:Pl} (hok:PlanOK p) (seed:List UInt8) (x:Smp) (hx:x ∈ drawF p seed):(1≤x.1∧x.1≤1099511627776)∧(1≤x.2.1∧x.2.1≤12)∧1≤x.2.2∧x.2.2≤200:=by
 obtain ⟨b,hb,k,hk,h1,h2,h3,_⟩:=draw_mem hok seed x hx
 have hb2:=hok.bale b hb
 have hper:=hok.per
 have:=order_mem seed b ⟨by omega,hb2.2.2⟩ x.2.2 h3
 omega

def okR (b s:Sec):Bool:=secOK b && secOK s

def recF (p:Pl) (b s:Sec):List (List UInt8):=[hexF (commitF 1 b).1,hexF (commitF 2 s).1,secText b,secText s] ++ (drawF p (jointE p.id b s).1).map smpText


theorem records_t (p:Pl) (hf:p.fib.length≤140737488355328) (hp:planF p=0) (b s:Sec) (hb:b.seed.length≤140737488355328∧b.salt.length≤140737488355328) (hs:s.seed.length≤140737488355328∧s.salt.length≤140737488355328) :
  Triple Tryz.prog 7 [planS 0 p,secV b,secV s] [(0,false, .arr (aBale p.bales))] 1
   (.tup [.inl (.s 1 0 (recF p b s).length 1), .inl (.v (arrV (jointE p.id b s).1)), .inl (.v (.bool (okR b s)))]) [(1,true, .arr (aStr (recF p b s)))]:=by
 have hok:=plan_ok hp
 have hlen:=hok.len
 have hc1:=commitF_len 1 b
 have hc2:=commitF_len 2 s
 have hj:=jointE_len p.id b s
 have hdl:(drawF p (jointE p.id b s).1).length≤480:=by
  unfold drawF
  rw [drawN_len]
  calc _≤40 * 12:=Nat.mul_le_mul (by omega) (by have:=hok.per; omega)
   _=480:=rfl
 have hbd:=draw_bound hok (jointE p.id b s).1
 have hrec:recF p b s=[hexF (commitF 1 b).1,hexF (commitF 2 s).1,secText b,secText s] ++ (drawF p (jointE p.id b s).1).map smpText:=rfl
 refine triple_of tB_ok Tryz.func7 rfl Tryz.call7 rfl ?_
 intro ρ w hH
 conv=>whnf
 refine allocA_step tB_ok 16 rfl rfl rfl ?_
 conv=>whnf
 refine call_step (commit_t 1 (by decide) b) rfl rfl ?_
 conv=>whnf
 refine⟨?_, ?_, ?_⟩
 iterate 2 · repeat'(first|exact trivial|exact rfl|refine And.intro ?_ ?_|((conv=>whnf);first|exact trivial|exact rfl|refine And.intro ?_ ?_|omega))
 conv=>whnf
 refine allocA_step tB_ok 16 rfl rfl rfl ?_
 conv=>whnf
 refine storeA_step (l':=(commitF 1 b).1) tB_ok rfl rfl rfl rfl rfl (by simp) (by rw [hc1]; simp) (by decide) ?_
 conv=>whnf
 refine call_step (commit_t 2 (by decide) s) rfl rfl ?_
 conv=>whnf
 refine⟨?_, ?_, ?_⟩
 iterate 2 · repeat'(first|exact trivial|exact rfl|refine And.intro ?_ ?_|((conv=>whnf);first|exact trivial|exact rfl|refine And.intro ?_ ?_|omega))
 conv=>whnf
 refine allocA_step tB_ok 16 rfl rfl rfl ?_
 conv=>whnf
 refine storeA_step (l':=(commitF 2 s).1) tB_ok rfl rfl rfl rfl rfl (by simp) (by rw [hc2]; simp) (by decide) ?_
 conv=>whnf
 refine call_step (joint_t p.id hok.id b s) rfl rfl ?_
 conv=>whnf
 refine⟨?_, ?_, ?_⟩
 iterate 2 · repeat'(first|exact trivial|exact rfl|refine And.intro ?_ ?_|((conv=>whnf);first|exact trivial|exact rfl|refine And.intro ?_ ?_|omega))
 conv=>whnf
 refine allocA_step tB_ok 16 rfl rfl rfl ?_
 conv=>whnf
 refine storeA_step (l':=(jointE p.id b s).1) tB_ok rfl rfl rfl rfl rfl (by simp) (by rw [hj]; simp) (by decide) ?_
 conv=>whnf
 refine loadA_step (l:=(jointE p.id b s).1) tB_ok rfl rfl rfl rfl rfl hj.symm ?_
 conv=>whnf
 refine call_step (draw_t p hf hp (jointE p.id b s).1 hj) rfl rfl ?_
 conv=>whnf
 refine⟨?_, ?_, ?_⟩
 iterate 2 · repeat'(first|exact trivial|exact rfl|refine And.intro ?_ ?_|((conv=>whnf);first|exact trivial|exact rfl|refine And.intro ?_ ?_|omega))
 generalize drawF p (jointE p.id b s).1=D at hdl hbd hrec ⊢
 conv=>whnf
 refine loadA_step (l:=(commitF 1 b).1) tB_ok rfl rfl rfl rfl rfl hc1.symm ?_
 conv=>whnf
 refine call_step (hex_t (commitF 1 b).1 hc1) rfl rfl ?_
 conv=>whnf
 refine⟨?_, ?_, ?_⟩
 iterate 2 · repeat'(first|exact trivial|exact rfl|refine And.intro ?_ ?_|((conv=>whnf);first|exact trivial|exact rfl|refine And.intro ?_ ?_|omega))
 conv=>whnf
 refine loadA_step (l:=(commitF 2 s).1) tB_ok rfl rfl rfl rfl rfl hc2.symm ?_
 conv=>whnf
 refine call_step (hex_t (commitF 2 s).1 hc2) rfl rfl ?_
 conv=>whnf
 refine⟨?_, ?_, ?_⟩
 iterate 2 · repeat'(first|exact trivial|exact rfl|refine And.intro ?_ ?_|((conv=>whnf);first|exact trivial|exact rfl|refine And.intro ?_ ?_|omega))
 conv=>whnf
 refine call_step (secText_t b hb.1 hb.2) rfl rfl ?_
 conv=>whnf
 refine⟨?_, ?_, ?_⟩
 iterate 2 · repeat'(first|exact trivial|exact rfl|refine And.intro ?_ ?_|((conv=>whnf);first|exact trivial|exact rfl|refine And.intro ?_ ?_|omega))
 conv=>whnf
 refine call_step (secText_t s hs.1 hs.2) rfl rfl ?_
 conv=>whnf
 refine⟨?_, ?_, ?_⟩
 iterate 2 · repeat'(first|exact trivial|exact rfl|refine And.intro ?_ ?_|((conv=>whnf);first|exact trivial|exact rfl|refine And.intro ?_ ?_|omega))
 conv=>whnf
 refine bs_step tB_ok (aStr [hexF (commitF 1 b).1,hexF (commitF 2 s).1,secText b,secText s]) rfl rfl ?_
 conv=>whnf
 refine⟨⟨rfl,(by repeat'(first|exact trivial|exact rfl|refine And.intro ?_ ?_|((conv=>whnf);first|exact trivial|exact rfl|refine And.intro ?_ ?_|omega)))⟩, ?_⟩
 generalize hL0:[hexF (commitF 1 b).1,hexF (commitF 2 s).1,secText b,secText s]=L0 at hrec ⊢
 have hL0l:L0.length=4:=by rw [← hL0]; rfl
 conv=>whnf
 refine loop_step tB_ok (G:=Nat) 1 [9] (fun k=>[(18,iv .i64 k),(17, .c (.s 10 0 (L0 ++ (D.take k).map smpText).length 1))]) (fun k=>[(10,true, .arr (aStr (L0 ++ (D.take k).map smpText)))])
  (fun k=>k≤D.length) (fun k=>D.length - k) ?_
 conv=>whnf
 refine⟨⟨0,Nat.zero_le _, ?_⟩, ?_⟩
 ·dsimp only
  rw [List.take_zero,List.map_nil,List.append_nil,hL0l]
  conv=>whnf
  repeat'(first|exact trivial|exact rfl|refine And.intro ?_ ?_|((conv=>whnf);first|exact trivial|exact rfl|refine And.intro ?_ ?_|omega))
 intro k hk ρ1 t1 hρ1
 conv=>whnf
 refine⟨fun hc=>?_,fun hc=>?_⟩
 ·have h:k < D.length:=by simp at hc; omega
  have hx:=hbd D[k] (List.getElem_mem h)
  have hpl:(L0 ++ (D.take k).map smpText).length≤484:=by rw [List.length_append,hL0l,List.length_map,List.length_take]; omega
  have hst:L0 ++ (D.take (k+1)).map smpText=L0 ++ (D.take k).map smpText ++ [smpText D[k]]:=by
   rw [take_snoc h,List.map_append,← List.append_assoc]; rfl
  generalize L0 ++ (D.take k).map smpText=pr at hpl hst ⊢
  conv=>whnf
  refine⟨k,rfl,h, ?_⟩
  conv=>whnf
  refine⟨h, ?_⟩
  conv=>whnf
  refine call_step (smpText_t D[k] (by omega) (by omega) (by omega)) rfl rfl ?_
  conv=>whnf
  refine⟨?_, ?_, ?_⟩
  iterate 2 · repeat'(first|exact trivial|exact rfl|refine And.intro ?_ ?_|((conv=>whnf);first|exact trivial|exact rfl|refine And.intro ?_ ?_|omega))
  generalize smpText D[k]=x at hst ⊢
  conv=>whnf
  refine bs_step tB_ok (aStr [x]) rfl rfl ?_
  conv=>whnf
  refine⟨⟨rfl,(by repeat'(first|exact trivial|exact rfl|refine And.intro ?_ ?_|((conv=>whnf);first|exact trivial|exact rfl|refine And.intro ?_ ?_|omega)))⟩, ?_⟩
  conv=>whnf
  refine app_step tB_ok (aStr pr) [x] (fun _=>rfl) rfl rfl rfl rfl ?_
  conv=>whnf
  refine⟨⟨rfl,rfl,Nat.le_refl _,Nat.le_refl _,by show (pr.length+1) * 17≤140737488355328; omega⟩, ?_⟩
  have e2:aStr (pr.take pr.length ++ (([x]:List (List UInt8)).drop 0).take 1)=aStr (pr ++ [x]):=congrArg aStr app1
  have e3:(pr ++ [x]).length=pr.length+1:=by rw [List.length_append]; rfl
  conv=>whnf
  refine⟨_,wrapId ⟨by omega,by omega⟩, ?_⟩
  refine⟨k+1,h,by show D.length - (k+1) < D.length - k; omega, ?_⟩
  dsimp only
  rw [hst,e3,← e2]
  conv=>whnf
  refine⟨rfl, ?_⟩
  conv=>whnf
  repeat'(first|exact trivial|exact rfl|refine And.intro ?_ ?_|((conv=>whnf);first|exact trivial|exact rfl|refine And.intro ?_ ?_|omega))
 ·have hke:k=D.length:=by simp at hc; omega
  subst hke
  rw [List.take_length,← hrec]
  cases hsb:secOK b with
  | true =>
   have x1:(commitF 1 b).2=0:=by simp [commitF,hsb]
   cases hss:secOK s with
   | true =>
    have x2:(commitF 2 s).2=0:=by simp [commitF,hss]
    have x3:(jointE p.id b s).2=0:=by simp [jointE,hsb,hss]
    rw [show okR b s=true from by simp [okR,hsb,hss],x1,x2,x3]
    conv=>whnf
    refine loadA_step (l:=(jointE p.id b s).1) tB_ok rfl rfl rfl rfl rfl hj.symm ?_
    conv=>whnf
    refine⟨fun hc=>?_,fun hc=>absurd hc (by simp)⟩
    conv=>whnf
    refine⟨fun hc=>?_,fun hc=>absurd hc (by simp)⟩
    conv=>whnf
    refine⟨fun hc=>?_,fun hc=>absurd hc (by simp)⟩
    conv=>whnf
    refine storeA_step (l':=(jointE p.id b s).1) tB_ok rfl rfl rfl rfl rfl (by simp) (by rw [hj]; simp) (by decide) ?_
    conv=>whnf
    refine⟨bytesV (jointE p.id b s).1,⟨(res_bytes hj).1,(by rw [bytesV_length,hj]),rfl⟩, ?_⟩
    conv=>whnf
    repeat'(first|exact trivial|exact rfl|refine And.intro ?_ ?_|((conv=>whnf);first|exact trivial|exact rfl|refine And.intro ?_ ?_|omega))
   | false =>
    have x2:(commitF 2 s).2=1:=by simp [commitF,hss]
    rw [show okR b s=false from by simp [okR,hsb,hss],x1,x2]
    conv=>whnf
    refine loadA_step (l:=(jointE p.id b s).1) tB_ok rfl rfl rfl rfl rfl hj.symm ?_
    conv=>whnf
    refine⟨fun hc=>?_,fun hc=>absurd hc (by simp)⟩
    conv=>whnf
    refine⟨fun hc=>absurd hc (by simp),fun hc=>?_⟩
    conv=>whnf
    refine storeA_step (l':=(jointE p.id b s).1) tB_ok rfl rfl rfl rfl rfl (by simp) (by rw [hj]; simp) (by decide) ?_
    conv=>whnf
    refine⟨bytesV (jointE p.id b s).1,⟨(res_bytes hj).1,(by rw [bytesV_length,hj]),rfl⟩, ?_⟩
    conv=>whnf
    repeat'(first|exact trivial|exact rfl|refine And.intro ?_ ?_|((conv=>whnf);first|exact trivial|exact rfl|refine And.intro ?_ ?_|omega))
  | false =>
   have x1:(commitF 1 b).2=1:=by simp [commitF,hsb]
   rw [show okR b s=false from by simp [okR,hsb],x1]
   conv=>whnf
   refine loadA_step (l:=(jointE p.id b s).1) tB_ok rfl rfl rfl rfl rfl hj.symm ?_
   conv=>whnf
   refine⟨fun hc=>absurd hc (by simp),fun hc=>?_⟩
   conv=>whnf
   refine storeA_step (l':=(jointE p.id b s).1) tB_ok rfl rfl rfl rfl rfl (by simp) (by rw [hj]; simp) (by decide) ?_
   conv=>whnf
   refine⟨bytesV (jointE p.id b s).1,⟨(res_bytes hj).1,(by rw [bytesV_length,hj]),rfl⟩, ?_⟩
   conv=>whnf
   repeat'(first|exact trivial|exact rfl|refine And.intro ?_ ?_|((conv=>whnf);first|exact trivial|exact rfl|refine And.intro ?_ ?_|omega))

end Go.Proofs

namespace Go
namespace Sx

structure Sct where
  l:List UInt8
  h:l.length=128

def zSct:Sct:=⟨List.replicate 128 0,by simp⟩

theorem bytesC_nms {l:List UInt8} {c:SC} (h:c ∈ bytesC l):c.nms=[]:=by
  obtain ⟨b,_,rfl⟩:=List.mem_map.1 h; rfl

def aSec (xs:List Sct):Arr:=⟨Sct,128,fun x=>bytesC x.l,[],fun x=>by rw [bytesC_length,x.h],(fun x c hc k hk=>by rw [bytesC_nms hc] at hk; cases hk),xs,none,none⟩

def aRowG {β:Type} (nm:List Nat) (pd:β → SC) (hp:∀ b,∀ k ∈ (pd b).nms,k ∈ nm) (xs:List (Sct × β)):Arr :=
  ⟨Sct × β,129,fun x=>bytesC x.1.l ++ [pd x.2],nm,fun x=>by rw [List.length_append,bytesC_length,x.1.h]; rfl,(fun x c hc k hk=>by
    rcases List.mem_append.1 hc with hc | hc
    · rw [bytesC_nms hc] at hk; cases hk
    · simp at hc; subst hc; exact hp _ k hk),xs,none,none⟩

def pnd (kp:Nat):Option Nat → SC
  | none=>.v (.slice none 0 0)
  | some i=>.ghost kp i

def aRow (kp:Nat) (xs:List (Sct × Option Nat)):Arr:=aRowG [kp] (pnd kp) (by intro b k hk; cases b <;> simp [pnd,SC.nms] at hk ⊢; exact hk) xs

def aRowN (xs:List Sct):Arr:=⟨Sct,129,fun x=>bytesC x.l ++ [.v (.slice none 0 0)],[],fun x=>by rw [List.length_append,bytesC_length,x.h]; rfl,(fun x c hc k hk=>by
    rcases List.mem_append.1 hc with hc | hc
    · rw [bytesC_nms hc] at hk; cases hk
    · simp at hc; subst hc; cases hk),xs,none,none⟩

def pendB (P:List (Option Sct)):Bx where
  Φ r w:=∀ (i:Nat) (s:Sct),P[i]? = some (some s) → 0 < r.cap∧∃ b off c,r.ext[i]? = some (.slice (some ⟨b,off,none⟩) 1 c)∧1≤c∧∀ j (h:j < s.l.length),w.cell? ⟨b,off+j,none⟩=some (.int .u8 (s.l[j]'h).toNat)
  loc r w w' hb h i s hi:=by
    obtain ⟨hc,b,off,c,he,h1,hcell⟩:=h i s hi
    refine⟨hc,b,off,c,he,h1,fun j hj=>?_⟩
    rw [← hcell j hj]
    refine cell?_congr (a:=⟨b,off+j,none⟩) (hb hc b (.inr ?_))
    exact List.mem_flatMap.2 ⟨_,List.mem_of_getElem? he,by rw [sblk_of h1]; simp⟩

section
variable {cx:Cx} {B:Tabs} {o:Oper} {e:Env} {H:Heap} {nx:Nat} {K:Eff → Prop}

theorem row_last {l:List UInt8} {c:SC} (h:l.length=128):(bytesC l ++ [c])[128]? = some c:=by
  rw [List.getElem?_append_right (by rw [bytesC_length,h]; exact Nat.le_refl _),bytesC_length,h]; rfl

theorem loadSec_step (hB:TabsOK cx.P B) {t:TypeId} {ti:TI} {x:Operand} {k i:Nat} {own:Bool} {A:Arr} (s:Sct) (c:SC) (ho:o.op=.load t x) (ht:lookT B.T t=some ti) (hag:ti.kd.isAgg=true) (hn:ti.size=128)
    (hx:ev e x=.c (.p k i 129 0)) (hl:look H k=some (own, .arr A)) (hA:A.sz=129) (hi:∃ x,A.xs[i]? = some x∧A.enc x=bytesC s.l ++ [c])
    (hK:K ⟨arrS s.l,[k],[],[]⟩):∃ f,CallOK cx o e H nx f∧K f:=by
  refine loadA_gen hB s.l ho ht hag hx hl (by rw [hn,s.h]) (.inl hA) (fun j hj=>?_) hK
  obtain ⟨x,hx,he⟩:=hi
  refine⟨i,j,by show i * A.sz+j=i * A.sz+0+j; omega, ?_⟩
  rw [arr_cell?,hx]
  show (A.enc x)[j]? = _
  rw [he,List.getElem?_append_left (by rw [bytesC_length]; exact hj)]
  exact bytesC_get.2 ⟨hj,rfl⟩

theorem loadS_step (hB:TabsOK cx.P B) {t:TypeId} {ti:TI} {x:Operand} {k i:Nat} {own:Bool} {xs:List Sct} (s:Sct) (ho:o.op=.load t x) (ht:lookT B.T t=some ti) (hag:ti.kd.isAgg=true) (hn:ti.size=128)
    (hx:ev e x=.c (.p k i 128 0)) (hl:look H k=some (own, .arr (aSec xs))) (hi:xs[i]? = some s)
    (hK:K ⟨arrS s.l,[k],[],[]⟩):∃ f,CallOK cx o e H nx f∧K f:=by
  refine loadA_gen hB s.l ho ht hag hx hl (by rw [hn,s.h]) (.inl rfl) (fun j hj=>?_) hK
  refine⟨i,j,by show i * 128+j=i * 128+0+j; omega, ?_⟩
  rw [arr_cell?]
  show (xs[i]?).bind _=_
  rw [hi]
  exact bytesC_get.2 ⟨hj,rfl⟩

theorem loadRow_step (hB:TabsOK cx.P B) {t:TypeId} {ti:TI} {x:Operand} {k i:Nat} {own:Bool} {A:Arr} (s:Sct) (c:SC) (ho:o.op=.load t x) (ht:lookT B.T t=some ti) (hag:ti.kd.isAgg=true) (hn:ti.size=129)
    (hx:ev e x=.c (.p k i 129 0)) (hl:look H k=some (own, .arr A)) (hA:A.sz=129) (hi:∃ x,A.xs[i]? = some x∧A.enc x=bytesC s.l ++ [c])
    (hK:K ⟨.pk (bytesV s.l) [c],[k],[],[]⟩):∃ f,CallOK cx o e H nx f∧K f:=by
  obtain ⟨z,hz,he⟩:=hi
  refine pure_step (by simp [ho]) ⟨fun n _ hb=>?_, ?_⟩ hK
  · intro j hj
    have hq:=(hb k (by simp) own _ hl).2
    have hj:j ∈ c.nms:=by
      obtain ⟨d,hd,hu⟩:=usesL_iff.1 hj
      simp at hd; subst hd
      obtain ⟨i',h1,h2⟩:=SC.uses_iff.1 hu
      simp at h2; subst h2; exact h1
    exact hq j (anyMem_iff.2 ⟨j,A.hn z c (by rw [he]; simp) j hj,by simp⟩)
  intro ρ a w hr hreg
  have hso:=hreg k (by simp) own _ hl
  have h1:=reads_fit (x:=x) (by simp [ho,Op.operands]) hr
  rw [hx] at h1; simp only [SV.rel,SC.rel] at h1
  have hcell:∀ j d,(bytesC s.l ++ [c])[j]? = some d → ∃ v,w.cell? (adr ρ k (i * 129+j))=some v∧d.rel ρ v:=by
    intro j d hd
    have:=hso.at_ i j d (by rw [arr_cell?,hz]; show (A.enc z)[j]? = _; rw [he]; exact hd)
    have e1:(SO.arr A).sz=129:=hA
    rw [e1] at this; exact this
  obtain ⟨u,hu,hur⟩:=hcell 128 c (row_last s.h)
  have hcells:∀ (j:Nat) v,(bytesV s.l ++ [u])[j]? = some v → w.cell? ((adr ρ k (i * 129+0)).add j)=some v:=by
    intro j v hv
    rw [adr_add,Nat.add_zero]
    by_cases hj:j < s.l.length
    · rw [List.getElem?_append_left (by rw [bytesV_length]; exact hj),bytesV_get hj] at hv
      cases hv
      obtain ⟨v',hv',hrel⟩:=hcell j _ (by rw [List.getElem?_append_left (by rw [bytesC_length]; exact hj)]; exact bytesC_get.2 ⟨hj,rfl⟩)
      rw [hv']; exact congrArg some hrel
    · have hlt:=(List.getElem?_eq_some_iff.1 hv).1
      rw [List.length_append,bytesV_length] at hlt
      have hj2:j=128:=by have:=s.h; simp at hlt; omega
      subst hj2
      rw [List.getElem?_append_right (by rw [bytesV_length,s.h]; exact Nat.le_refl _),bytesV_length,s.h] at hv
      simp at hv; subst hv; exact hu
  have hload:=run_loadCells (P:=cx.P) hcells
  have hsize:=run_sizeOf hB ht w
  have hagg:=run_isAgg w (hB.T.get ht)
  rw [hag] at hagg
  have hln:(bytesV s.l ++ [u]).length=ti.size:=by rw [List.length_append,bytesV_length,hn,s.h]; rfl
  rw [hln] at hload
  simp only [Nat.add_zero] at h1 hload
  refine⟨.agg (bytesV s.l ++ [u]).toArray, ?_,[u],rfl,hur,trivial⟩
  simp [execOp,ho,h1,Instr.loadAt,Instr.sureAddr,loadVar,hagg,hsize,hload]

theorem loadNil_step (hB:TabsOK cx.P B) {t:TypeId} {ti:TI} {x:Operand} {k i:Nat} {own:Bool} {A:Arr} (s:Sct) (u:Value) (ho:o.op=.load t x) (ht:lookT B.T t=some ti) (hag:ti.kd.isAgg=false)
    (hx:ev e x=.c (.p k i 129 128)) (hl:look H k=some (own, .arr A)) (hA:A.sz=129) (hi:∃ x,A.xs[i]? = some x∧A.enc x=bytesC s.l ++ [.v u])
    (hK:K ⟨.c (.v u),[k],[],[]⟩):∃ f,CallOK cx o e H nx f∧K f:=by
  obtain ⟨z,hz,he⟩:=hi
  refine pure_step (by simp [ho]) ⟨fun n _ _=>below_lit n _, ?_⟩ hK
  intro ρ a w hr hreg
  have hso:=hreg k (by simp) own _ hl
  have h1:=reads_fit (x:=x) (by simp [ho,Op.operands]) hr
  rw [hx] at h1; simp only [SV.rel,SC.rel] at h1
  obtain ⟨v,hv,hrel⟩:=hso.at_ i 128 _ (by rw [arr_cell?,hz]; show (A.enc z)[128]? = _; rw [he]; exact row_last s.h)
  have e1:(SO.arr A).sz=129:=hA
  rw [e1] at hv
  have hrel:v=u:=hrel
  subst hrel
  have hagg:=run_isAgg w (hB.T.get ht)
  rw [hag] at hagg
  exact⟨v,by simp [execOp,ho,h1,Instr.loadAt,Instr.sureAddr,loadVar,hagg,hv],rfl⟩

end

end Sx
end Go

namespace Go
namespace Sx
section
variable {cx:Cx} {B:Tabs} {o:Oper} {e:Env} {H:Heap} {nx:Nat} {K:Eff → Prop}

theorem storeArr_step (hB:TabsOK cx.P B) {t:TypeId} {ti:TI} {x y:Operand} {k i sz off:Nat} (A:Arr) {new:List SC} (ho:o.op=.store t x y) (ht:lookT B.T t=some ti)
    (hx:ev e x=.c (.p k i sz off)) (hl:look H k=some (true, .arr A)) (hszA:sz=A.sz) (hnl:new.length=ti.size) (hpos:1≤ti.size) (hle:off+new.length≤A.sz)
    (hnew:∀ ρ v,(ev e y).rel ρ v → relL ρ new v.cells.toList∧∀ u ∈ v.cells.toList,(∀ xs,u ≠ .agg xs)∧(∀ xs,u ≠ .tuple xs))
    (hi:i < A.xs.length) (x':A.α) (hx':A.enc x'=splice (A.enc (A.xs[i]'hi)) off new)
    (hK:K ⟨.c .junk,[k],[(k,true, .arr (A.setXs (A.xs.set i x')))],[]⟩):∃ f,CallOK cx o e H nx f∧K f:=by
  have hloc:=store_key (cx:=cx) (e:=e) (H:=H) (i:=i) (off:=off) (sz:=sz) (new:=new) hB ho hx ht hnl hpos hnew
    (.arr A) (.arr (A.setXs (A.xs.set i x'))) new (fun _ _ h=>h) hl (by simp) rfl ?_ ?_ rfl rfl rfl (.inl hszA.symm) ?_ (by simp) rfl ?_ ?_
  · exact⟨_,⟨hloc,fun k hk=>by cases hk⟩,hK⟩
  · intro ρ hwf
    simp only [SO.sz,SO.room,SO.wf] at *
    have h1:i+1≤(ρ k).cap:=Nat.le_trans hi hwf
    have h2:(i+1) * A.sz≤(ρ k).cap * A.sz:=Nat.mul_le_mul_right _ h1
    rw [Nat.add_mul] at h2; omega
  · intro r; simp [SO.room,Arr.setXs]
  · intro r hwf; simpa [SO.wf,Arr.setXs] using hwf
  · intro r _ i' j c hc
    have h0:(SO.arr (A.setXs (A.xs.set i x'))).cell? i' j=((A.xs.set i x')[i']?).bind fun x=>(A.enc x)[j]?:=by
      show _=((A.setXs (A.xs.set i x')).xs[i']?).bind _
      simp only [SO.cell?]
      cases (A.setXs (A.xs.set i x')).xs[i']? <;> rfl
    rw [h0] at hc
    simp only [SO.cell?,SO.sz] at ⊢
    rw [List.getElem?_set] at hc
    by_cases hii:i=i'
    · subst hii
      rw [if_pos rfl,if_pos hi] at hc
      simp only [Option.bind_some] at hc
      rw [hx'] at hc
      have hlenA:=A.hl (A.xs[i]'hi)
      rcases splice_get (by rw [hlenA]; exact hle) hc with ⟨h1,h2,h3⟩ | ⟨h1,h2⟩
      · refine .inr ⟨by omega,by omega, ?_⟩
        rw [show i * A.sz+j - (i * A.sz+off)=j - off from by omega]; exact h3
      · refine .inl ⟨by omega, ?_⟩
        simp [hi,h2]
    · rw [if_neg hii] at hc
      refine .inl ⟨?_,by cases hxx:A.xs[i']? <;> simp_all⟩
      have hj:j < A.sz:=by
        cases hxx:A.xs[i']? with
        | none=>simp [hxx] at hc
        | some z =>
          simp only [hxx,Option.bind_some] at hc
          have:=(List.getElem?_eq_some_iff.1 hc).1
          rw [A.hl] at this; exact this
      rcases Nat.lt_or_gt_of_ne hii with hlt | hgt
      · have:=Nat.mul_le_mul_right A.sz (show i+1≤i' from hlt)
        rw [Nat.add_mul] at this; right; omega
      · have:=Nat.mul_le_mul_right A.sz (show i'+1≤i from hgt)
        rw [Nat.add_mul] at this; left; omega
  · intro n h1 _ j hj
    exact h1 j hj

theorem splice_sec {l l':List UInt8} {c:SC} (h:l.length=128) (h':l'.length=128):splice (bytesC l ++ [c]) 0 (bytesC l')=bytesC l' ++ [c]:=by
  simp [splice,bytesC_length,h,h']

theorem splice_last {l:List UInt8} {c c':SC} (h:l.length=128):splice (bytesC l ++ [c]) 128 [c']=bytesC l ++ [c']:=by
  unfold splice
  rw [List.take_append_of_le_length (by rw [bytesC_length,h]; exact Nat.le_refl _),List.take_of_length_le (by rw [bytesC_length,h]; exact Nat.le_refl _),List.drop_of_length_le (by simp [bytesC_length,h])]
  simp

theorem splice_all {l l':List UInt8} {c c':SC} (h:l.length=128) (h':l'.length=128):splice (bytesC l ++ [c]) 0 (bytesC l' ++ [c'])=bytesC l' ++ [c']:=by
  unfold splice
  rw [List.drop_of_length_le (by simp [bytesC_length,h,h'])]
  simp

theorem storeSec_step (hB:TabsOK cx.P B) {t:TypeId} {ti:TI} {x y:Operand} {k i:Nat} (A:Arr) (s s':Sct) (c:SC) (ho:o.op=.store t x y) (ht:lookT B.T t=some ti) (hn:ti.size=128)
    (hx:ev e x=.c (.p k i 129 0)) (hy:ev e y=arrS s'.l) (hl:look H k=some (true, .arr A)) (hA:A.sz=129) (hi:i < A.xs.length) (he:A.enc (A.xs[i]'hi)=bytesC s.l ++ [c]) (x':A.α) (hx':A.enc x'=bytesC s'.l ++ [c])
    (hK:K ⟨.c .junk,[k],[(k,true, .arr (A.setXs (A.xs.set i x')))],[]⟩):∃ f,CallOK cx o e H nx f∧K f :=
  storeArr_step hB A ho ht hx hl hA.symm (new:=bytesC s'.l) (by rw [bytesC_length,s'.h,hn]) (by omega) (by rw [bytesC_length,s'.h,hA]; omega) (fun ρ v hv=>by rw [hy] at hv; exact arrS_cells hv)
    hi x' (by rw [hx',he,splice_sec s.h s'.h]) hK

theorem storePnd_step (hB:TabsOK cx.P B) {t:TypeId} {ti:TI} {x y:Operand} {k i:Nat} (A:Arr) (s:Sct) (c:SC) (u:Value) (ho:o.op=.store t x y) (ht:lookT B.T t=some ti) (hn:ti.size=1)
    (hx:ev e x=.c (.p k i 129 128)) (hy:ev e y=.c (.v u)) (hu:(∀ xs,u ≠ .agg xs)∧(∀ xs,u ≠ .tuple xs)) (hl:look H k=some (true, .arr A)) (hA:A.sz=129) (hi:i < A.xs.length) (he:A.enc (A.xs[i]'hi)=bytesC s.l ++ [c]) (x':A.α) (hx':A.enc x'=bytesC s.l ++ [.v u])
    (hK:K ⟨.c .junk,[k],[(k,true, .arr (A.setXs (A.xs.set i x')))],[]⟩):∃ f,CallOK cx o e H nx f∧K f:=by
  refine storeArr_step hB A ho ht hx hl hA.symm (new:=[.v u]) (by rw [hn]; rfl) (by omega) (by rw [hA]; exact Nat.le_refl _) (fun ρ v hv=>?_)
    hi x' (by rw [hx',he,splice_last s.h]) hK
  rw [hy] at hv
  have hv:v=u:=hv
  subst hv
  have hc:v.cells.toList=[v]:=by
    cases v <;> first | rfl | exact absurd rfl (hu.1 _)
  rw [hc]
  exact⟨⟨rfl,trivial⟩,fun z hz=>by simp at hz; subst hz; exact hu⟩

theorem pk_cells {ρ:Asg} {l:List UInt8} {c:SC} {v:Value} (hc:∀ u,c.rel ρ u → (∀ xs,u ≠ .agg xs)∧(∀ xs,u ≠ .tuple xs)) (h:(SV.pk (bytesV l) [c]).rel ρ v) :
    relL ρ (bytesC l ++ [c]) v.cells.toList∧∀ u ∈ v.cells.toList,(∀ xs,u ≠ .agg xs)∧(∀ xs,u ≠ .tuple xs):=by
  obtain ⟨us,rfl,hr⟩:=h
  cases us with
  | nil=>exact hr.elim
  | cons u us =>
    cases us with
    | cons _ _=>exact hr.2.elim
    | nil =>
      have e1:(Value.agg (bytesV l ++ [u]).toArray).cells.toList=bytesV l ++ [u]:=rfl
      rw [e1]
      refine⟨?_, ?_⟩
      · have:∀ (l:List UInt8),relL ρ (bytesC l ++ [c]) (bytesV l ++ [u]):=by
          intro l
          induction l with
          | nil=>exact hr
          | cons b l ih=>exact⟨rfl,ih⟩
        exact this l
      · intro z hz
        rcases List.mem_append.1 hz with hz | hz
        · exact bytesV_one z hz
        · simp at hz; subst hz; exact hc _ hr.1

theorem pnd_atom {ρ:Asg} {kp:Nat} {b:Option Nat} {u:Value} (h:(pnd kp b).rel ρ u):(∀ xs,u ≠ .agg xs)∧(∀ xs,u ≠ .tuple xs):=by
  cases b with
  | none=>have h:u=_:=h; subst h; exact⟨fun _=>by simp,fun _=>by simp⟩
  | some i=>obtain ⟨_,_,_,rfl,_⟩:=h; exact⟨fun _=>by simp,fun _=>by simp⟩

theorem storeRow_step (hB:TabsOK cx.P B) {t:TypeId} {ti:TI} {x y:Operand} {k i kp:Nat} (A:Arr) (s s':Sct) (c:SC) (b:Option Nat) (ho:o.op=.store t x y) (ht:lookT B.T t=some ti) (hn:ti.size=129)
    (hx:ev e x=.c (.p k i 129 0)) (hy:ev e y=.pk (bytesV s'.l) [pnd kp b]) (hl:look H k=some (true, .arr A)) (hA:A.sz=129) (hi:i < A.xs.length) (he:A.enc (A.xs[i]'hi)=bytesC s.l ++ [c]) (x':A.α) (hx':A.enc x'=bytesC s'.l ++ [pnd kp b])
    (hK:K ⟨.c .junk,[k],[(k,true, .arr (A.setXs (A.xs.set i x')))],[]⟩):∃ f,CallOK cx o e H nx f∧K f :=
  storeArr_step hB A ho ht hx hl hA.symm (new:=bytesC s'.l ++ [pnd kp b]) (by rw [List.length_append,bytesC_length,s'.h,hn]; rfl) (by omega) (by rw [List.length_append,bytesC_length,s'.h,hA]; exact Nat.le_refl _)
    (fun ρ v hv=>by rw [hy] at hv; exact pk_cells (fun _=>pnd_atom) hv)
    hi x' (by rw [hx',he,splice_all s.h s'.h]) hK

theorem aRow_cell {kp:Nat} {xs:List (Sct × Option Nat)} {i j:Nat}:(SO.arr (aRow kp xs)).cell? i j=(xs[i]?).bind fun x=>(bytesC x.1.l ++ [pnd kp x.2])[j]?:=arr_cell? _ i j

theorem storeVar_step (hB:TabsOK cx.P B) {t:TypeId} {ti:TI} {x y:Operand} {k kp:Nat} (s s':Sct) (i:Nat) (ho:o.op=.store t x y) (ht:lookT B.T t=some ti) (hn:ti.size=129)
    (hx:ev e x=.c (.p k 0 129 0)) (hy:ev e y=.pk (bytesV s'.l) [.ghost kp i]) (hl:look H k=some (true, .arr (aRowN [s])))
    (hK:K ⟨.c .junk,[k],[(k,true, .arr (aRow kp [(s',some i)]))],[]⟩):∃ f,CallOK cx o e H nx f∧K f:=by
  have hloc:=store_key (cx:=cx) (e:=e) (H:=H) (i:=0) (off:=0) (sz:=129) (new:=bytesC s'.l ++ [.ghost kp i]) hB ho hx ht (by rw [List.length_append,bytesC_length,s'.h,hn]; rfl) (by omega)
    (fun ρ v hv=>by rw [hy] at hv; exact pk_cells (fun _ h=>pnd_atom (b:=some i) h) hv)
    (.arr (aRowN [s])) (.arr (aRow kp [(s',some i)])) (bytesC s'.l ++ [.ghost kp i]) (fun _ _ h=>h) hl (by simp) rfl ?_ (fun _=>rfl) rfl rfl rfl (.inr rfl) (fun _ h=>h) (by simp) rfl ?_ ?_
  · exact⟨_,⟨hloc,fun k hk=>by cases hk⟩,hK⟩
  · intro ρ hw
    have hw:1≤(ρ k).cap:=hw
    rw [List.length_append,bytesC_length,s'.h]
    show 0 * 129+0+(128+1)≤(ρ k).cap * 129
    omega
  · intro r _ i' j c hc
    rw [aRow_cell] at hc
    cases i' with
    | succ i'=>simp at hc
    | zero =>
      have hc:(bytesC s'.l ++ [.ghost kp i])[j]? = some c:=hc
      have hlt:=(List.getElem?_eq_some_iff.1 hc).1
      refine .inr ⟨Nat.zero_le _, ?_, ?_⟩
      · show 0 * 129+j < 0 * 129+0+_
        omega
      · show (bytesC s'.l ++ [.ghost kp i])[0 * 129+j - (0 * 129+0)]? = _
        rw [show 0 * 129+j - (0 * 129+0)=j from by omega]; exact hc
  · intro n _ hb j hj
    have hj:j ∈ [kp]:=by obtain ⟨z,h1,h2⟩:=anyMem_iff.1 hj; simp at h2; subst h2; exact h1
    simp at hj; subst hj
    refine hb j ?_
    rw [hy]
    exact usesL_iff.2 ⟨.ghost j i,by simp,SC.uses_iff.2 ⟨j,by simp [SC.nms],by simp⟩⟩

end
end Sx
end Go

namespace Go
namespace Sx
section
variable {cx:Cx} {B:Tabs} {o:Oper} {e:Env} {H:Heap} {nx:Nat} {K:Eff → Prop}

abbrev nilV:Value:=.slice none 0 0

theorem fill_one {place:Nat → Option (Nat × Nat)} {cs:Array Value} {v:Value} {sz:Nat} (hp:place 0=some (0,sz)) (h1:v.cells.size=sz) (h2:sz≤cs.size) :
    Instr.fill place cs [(0,v)]=some (v.cells.toList ++ cs.toList.drop sz).toArray:=by
  have h3:(v.cells.zipIdx.foldl (fun cs (p:Value × Nat)=>cs.setIfInBounds (0+p.2) p.1) cs)=(v.cells.toList ++ cs.toList.drop sz).toArray:=by
    apply Array.toList_inj.1
    rw [← Array.foldl_toList,Array.toList_zipIdx]
    have:=fold_set v.cells.toList 0 cs 0 (by simp [h1]; omega)
    rw [this]
    simp [h1]
  have hn:¬ (v.cells.size ≠ sz ∨ 0+v.cells.size > cs.size):=by omega
  simp only [Instr.fill,hp]
  rw [if_neg (by simpa using hn)]
  exact congrArg some h3

theorem new_rows {ρ:Asg} {w:World} {t:TypeId} {A:Arr} {us:List Value} (hA:A.sz=129) (h:∀ i x j d,A.xs[i]? = some x → (A.enc x)[j]? = some d → ∃ v,us[i * 129+j]? = some v∧d.rel (upd ρ nx ⟨w.heap.size,0,A.xs.length,[]⟩) v) (hl:us.length=A.xs.length * 129)
    (hfx:A.fx=none) (hty:A.ty=none):SatO (upd ρ nx ⟨w.heap.size,0,A.xs.length,[]⟩) (push w (.cells us.toArray t (0,0))) nx true (.arr A) :=
  satO_new_arr (Nat.le_refl _) (by simp [hl,hA]) (fun i x hx j d hd=>by
    obtain ⟨v,hv,hr⟩:=h i x j d hx hd
    exact⟨v,by rw [hA]; simpa using hv,hr⟩) (fun n h=>by rw [hfx] at h; cases h) (fun n h=>by rw [hty] at h; cases h)

theorem rowVals {ρ:Asg} {l:List UInt8} {c:SC} {u:Value} (hl:l.length=128) (hc:c.rel ρ u) {j:Nat} {d:SC} (h:(bytesC l ++ [c])[j]? = some d):∃ v,(bytesV l ++ [u])[j]? = some v∧d.rel ρ v:=by
  by_cases hj:j < 128
  · rw [List.getElem?_append_left (by rw [bytesC_length,hl]; exact hj)] at h
    obtain ⟨h1,rfl⟩:=bytesC_get.1 h
    exact⟨_,by rw [List.getElem?_append_left (by rw [bytesV_length,hl]; exact hj)]; exact bytesV_get h1,rfl⟩
  · have hlt:=(List.getElem?_eq_some_iff.1 h).1
    rw [List.length_append,bytesC_length,hl] at hlt
    have hj2:j=128:=by simp at hlt; omega
    subst hj2
    rw [row_last hl] at h
    cases h
    exact⟨u,by rw [List.getElem?_append_right (by rw [bytesV_length,hl]; exact Nat.le_refl _),bytesV_length,hl]; rfl,hc⟩

theorem below_aRowN (xs:List Sct) (n:Nat):(SO.arr (aRowN xs)).below n:=fun j hj=>by
  simp [SO.uses,aRowN,anyMem] at hj
theorem below_aSec (xs:List Sct) (n:Nat):(SO.arr (aSec xs)).below n:=fun j hj=>by
  simp [SO.uses,aSec,anyMem] at hj

theorem allocRow_step (hB:TabsOK cx.P B) {t:TypeId} {ti:TI} (ho:o.op=.alloc t) (ht:lookT B.T t=some ti) (hz:ti.zero=List.replicate 128 (.int .u8 0) ++ [nilV])
    (hK:K ⟨.c (.p nx 0 129 0),[],[(nx,true, .arr (aRowN [zSct]))],[nx]⟩):∃ f,CallOK cx o e H nx f∧K f:=by
  refine new_step (loc_new (by simp [ho]) below_p (fun m _=>below_aRowN _ m) ?_) hK
  intro ρ a w _ _
  obtain ⟨z,hzr,hzz⟩:=run_zero w (hB.T.get ht)
  have hzc:z.cells=(bytesV zSct.l ++ [nilV]).toArray:=by
    apply Array.toList_inj.1
    rw [hzz,hz]; show _=bytesV (List.replicate 128 0) ++ _; rw [bytesV_replicate]
  refine⟨.pointer (some (adr (upd ρ nx ⟨w.heap.size,0,1,[]⟩) nx 0)), .cells z.cells t (0,0),1, ?_, ?_, ?_⟩
  · simp [execOp,ho,Instr.alloc,hzr,newVar,newRow,newObj,Sem.run,adr,upd_eq,push]
  · simp [SV.rel,SC.rel]
  · rw [hzc]
    refine new_rows (A:=aRowN [zSct]) rfl (fun i x j d hx hd=>?_) (by rw [List.length_append,bytesV_length,zSct.h]; rfl) rfl rfl
    have hx:[zSct][i]? = some x:=hx
    cases i with
    | succ i=>simp at hx
    | zero =>
      have hx:zSct=x:=Option.some.inj hx
      subst hx
      have:=rowVals (ρ:=upd ρ nx ⟨w.heap.size,0,1,[]⟩) zSct.h (c:=.v nilV) (u:=nilV) rfl hd
      rw [Nat.zero_mul,Nat.zero_add]; exact this

theorem boxRow_step {t:TypeId} {x:Operand} {kp i:Nat} (s:Sct) (ho:o.op=.box t x) (hx:ev e x=.pk (bytesV s.l) [.ghost kp i])
    (hK:K ⟨.c (.p nx 0 129 0),[],[(nx,true, .arr (aRow kp [(s,some i)]))],[nx]⟩):∃ f,CallOK cx o e H nx f∧K f:=by
  have hmx:x ∈ o.op.operands.toList:=by simp [ho,Op.operands]
  refine new_step (loc_new (by simp [ho]) below_p (fun m hm=>?_) ?_) hK
  · intro j hj
    have hj:j ∈ [kp]:=by obtain ⟨z,h1,h2⟩:=anyMem_iff.1 hj; simp at h2; subst h2; exact h1
    simp at hj; subst hj
    refine reads_below hmx hm j ?_
    rw [hx]
    exact usesL_iff.2 ⟨.ghost j i,by simp,SC.uses_iff.2 ⟨j,by simp [SC.nms],by simp⟩⟩
  intro ρ a w hr hfr
  have h1:=reads_fit (x:=x) hmx hr
  have hne:kp ≠ nx:=by
    rintro rfl
    have hu:(ev e x).uses [kp]=true:=by rw [hx]; exact usesL_iff.2 ⟨.ghost kp i,by simp,SC.uses_iff.2 ⟨kp,by simp [SC.nms],by simp⟩⟩
    cases hxx:x with
    | tmp t =>
      rw [hxx] at hu hmx
      have:=hfr t hmx
      simp only [ev] at hu
      rw [this] at hu; cases hu
    | const v=>rw [hxx] at hu; simp only [ev] at hu; rw [evC_uses] at hu; cases hu
    | global g=>rw [hxx] at hx; simp [ev] at hx
    | func g=>rw [hxx] at hx; simp [ev] at hx
  rw [hx] at h1
  obtain ⟨us,hv,hrel⟩:=h1
  obtain ⟨u,rfl,hu⟩:∃ u,us=[u]∧(SC.ghost kp i).rel ρ u:=by
    cases us with
    | nil=>exact hrel.elim
    | cons u us=>cases us with
      | nil=>exact⟨u,rfl,hrel.1⟩
      | cons _ _=>exact hrel.2.elim
  refine⟨.pointer (some (adr (upd ρ nx ⟨w.heap.size,0,1,[]⟩) nx 0)), .cells (bytesV s.l ++ [u]).toArray t (0,0),1, ?_, ?_, ?_⟩
  · simp [execOp,ho,hv,Value.cells,Instr.box,newVar,newRow,newObj,Sem.run,adr,upd_eq,push]
  · simp [SV.rel,SC.rel]
  · refine new_rows (A:=aRow kp [(s,some i)]) rfl (fun i' x j d hx hd=>?_) (by rw [List.length_append,bytesV_length,s.h]; rfl) rfl rfl
    have hx:[(s,some i)][i']? = some x:=hx
    cases i' with
    | succ i'=>simp at hx
    | zero =>
      have hx:(s,some i)=x:=Option.some.inj hx
      subst hx
      have hu':(SC.ghost kp i).rel (upd ρ nx ⟨w.heap.size,0,1,[]⟩) u:=SC.rel_agree (fun k hk=>upd_ne (by simp [SC.nms] at hk; omega)) hu
      have:=rowVals (ρ:=upd ρ nx ⟨w.heap.size,0,1,[]⟩) s.h hu' hd
      rw [Nat.zero_mul,Nat.zero_add]; exact this

theorem buildRow_step (hB:TabsOK cx.P B) {t:TypeId} {ti:TI} {y:Operand} {ft gt:TypeId} {tf tg:TI} {off2:Nat} (s:Sct) (ho:o.op=.build t #[(0,y)]) (ht:lookT B.T t=some ti) (hk:ti.kd=.struct [(0,ft),(off2,gt)]) (htf:lookT B.T ft=some tf) (htg:lookT B.T gt=some tg) (hsf:tf.size=128)
    (hz:ti.zero=List.replicate 128 (.int .u8 0) ++ [nilV]) (hy:ev e y=arrS s.l) (hK:K ⟨.pk (bytesV s.l) [.v (.slice none 0 0)],[],[],[]⟩):∃ f,CallOK cx o e H nx f∧K f:=by
  have hmy:y ∈ o.op.operands.toList:=by simp [ho,Op.operands]
  refine pure_step (by simp [ho]) ⟨fun n _ _=>?_,fun ρ a w hr _=>⟨.agg (bytesV s.l ++ [nilV]).toArray, ?_,(show (SV.pk (bytesV s.l) [.v nilV]).rel ρ _ from ⟨[nilV],rfl,rfl,trivial⟩)⟩⟩ hK
  · intro j hj
    obtain ⟨d,hd,hu⟩:=usesL_iff.1 hj
    simp at hd; subst hd
    simp [SC.uses,SC.nms,anyMem] at hu
  have hv:=lit_of hmy hy hr
  obtain ⟨z,hzr,hzz⟩:=run_zero w (hB.T.get ht)
  obtain ⟨d,hd,hkd⟩:=run_und_kd hB.T ht w
  have hs1:=run_sizeOf hB htf w
  have hs2:=run_sizeOf hB htg w
  rw [hk] at hkd
  obtain ⟨fs,rfl,hfs⟩:∃ fs:Array Field,d=.struct fs∧fs.toList.map (fun f=>(f.offset,f.type))=[(0,ft),(off2,gt)]:=by
    cases d <;> simp [kdOf] at hkd
    rename_i fs
    exact⟨fs,rfl,hkd⟩
  obtain ⟨f1,f2,hfl,h1,h2,h3,h4⟩:∃ f1 f2,fs.toList=[f1,f2]∧f1.offset=0∧f1.type=ft∧f2.offset=off2∧f2.type=gt:=by
    match hh:fs.toList,hfs with
    | [f1,f2],hfs=>simp at hfs; exact⟨f1,f2,rfl,hfs.1.1,hfs.1.2,hfs.2.1,hfs.2.2⟩
    | [],hfs=>simp at hfs
    | [_],hfs=>simp at hfs
    | _ :: _ :: _ :: _,hfs=>simp at hfs
  have hfs2:fs=#[f1,f2]:=Array.toList_inj.1 (by rw [hfl])
  subst hfs2
  have hzl:z.cells.toList=List.replicate 128 (.int .u8 0) ++ [nilV]:=by rw [hzz,hz]
  have hzs:z.cells.size=129:=by have:=congrArg List.length hzl; simpa using this
  have hfill:=fill_one (place:=fun i=>([((0:Nat),128),(off2,tg.size)]:List (Nat × Nat))[i]?) (cs:=z.cells) (v:=arrV s.l) (sz:=128) rfl (by simp [arrV,Value.cells,bytesV_length,s.h]) (by omega)
  rw [hzl] at hfill
  have e1:((arrV s.l).cells.toList ++ (List.replicate 128 (Value.int .u8 0) ++ [nilV]).drop 128)=bytesV s.l ++ [nilV]:=by
    rw [List.drop_append_of_le_length (by simp),List.drop_of_length_le (by simp)]; rfl
  rw [e1] at hfill
  simp [execOp,ho,hv,Instr.build,hzr,hd,hs1,hs2,h1,h2,h3,h4,hsf,hfill]

end
end Sx
end Go

namespace Go
namespace Sx
section
variable {cx:Cx} {B:Tabs} {o:Oper} {e:Env} {H:Heap} {nx:Nat} {K:Eff → Prop}

theorem bs1_step (hB:TabsOK cx.P B) {t el s0 b0:TypeId} {z0:List Value} {ti:TI} {y:Operand} (A:Arr) (x:A.α) (hA:A.nm=[]) (hxs:A.xs=[x]) (hfx:A.fx=none) (hty:A.ty=none) (ho:o.op=.buildSlice t 1 #[(0,y)])
    (ht:lookT B.T t=some ⟨.slice el,s0,b0,z0⟩) (hti:lookT B.T el=some ti) (hsz:ti.size=A.sz) (hpos:1≤ti.size) (hle:ti.size≤16777216)
    (hv:∀ ρ v,(ev e y).rel ρ v → relL ρ (A.enc x) v.cells.toList)
    (hK:K ⟨.c (.s nx 0 1 A.sz),[],[(nx,true, .arr A)],[nx]⟩):∃ f,CallOK cx o e H nx f∧K f:=by
  have hmy:y ∈ o.op.operands.toList:=by simp [ho,Op.operands]
  refine new_step (loc_new (by simp [ho]) below_s (fun n _ j hj=>by simp only [SO.uses,hA] at hj; cases hj) ?_) hK
  intro ρ a w hr _
  obtain ⟨i,z,hi,hz,hisz,hiby,hzz⟩:=ti_parts hB hti
  have hrel:=hv ρ _ (reads_fit hmy hr)
  have hrel':relL (upd ρ nx ⟨w.heap.size,0,A.xs.length,[]⟩) (A.enc x) (a.eval y).cells.toList:=by
    refine relL_agree (fun c hc k hk=>?_) hrel
    have:=A.hn x c hc k hk
    rw [hA] at this; cases this
  have hln:=relL_length hrel
  rw [A.hl] at hln
  have hcs:(a.eval y).cells.size=ti.size:=by simp at hln; omega
  have hsize:(sizeOf el).run cx.P w=.ok i.size w:=by simp [sizeOf,typeInfo,hi]
  have hzr:(zeroValue el).run cx.P w=.ok z w:=by simp [zeroValue,typeInfo,hi,hz]
  have hfill:=fill_one (place:=fun j=>some (j * i.size,i.size)) (cs:=(Array.range (1 * i.size)).map (z.cells[· % z.cells.size]!)) (v:=a.eval y) (sz:=i.size) (by simp) (by omega) (by simp)
  have hd:((Array.range (1 * i.size)).map (z.cells[· % z.cells.size]!)).toList.drop i.size=[]:=List.drop_of_length_le (by simp)
  rw [hd,List.append_nil] at hfill
  have h0:¬ (1 * i.size=0):=by omega
  have hbig:¬ (1 * i.size > 2 ^ 24):=by omega
  refine⟨.slice (some ⟨w.heap.size,0,none⟩) 1 1, .cells (a.eval y).cells el (0,0),A.xs.length, ?_, ?_,satO_new_arr (Nat.le_refl _) (by rw [hxs,hcs,hsz]; simp) ?_ (fun n h=>by rw [hfx] at h; cases h) (fun n h=>by rw [hty] at h; cases h)⟩
  · have h2:(Array.map (fun x=>(x.fst,a.eval x.snd)) #[((0:Nat),y)]).toList=[(0,a.eval y)]:=by simp
    simp only [execOp,ho,Instr.buildSlice,Sem.run_bind,run_underlying (und_slice hB ht),Result.andThen_ok,hsize,if_neg hbig,if_neg h0,hzr,h2,Sem.run_pure,hfill,newRow,newObj,Sem.run]
    rfl
  · simp only [SV.rel,SC.rel,upd_eq,Nat.sub_zero,Nat.zero_mul,Nat.zero_add,hxs]
    exact⟨_,rfl,Nat.le_refl _,fun _=>by simp [adr,upd_eq]⟩
  · intro i' xx hxx j d hd
    rw [hxs] at hxx
    cases i' with
    | succ i'=>simp at hxx
    | zero =>
      have hxx:x=xx:=Option.some.inj hxx
      subst hxx
      obtain ⟨v,hv,hvr⟩:=relL_get hrel' hd
      exact⟨v,by rw [Nat.zero_mul,Nat.zero_add]; simpa using hv,hvr⟩

theorem bsSec_step (hB:TabsOK cx.P B) {t el s0 b0:TypeId} {z0:List Value} {ti:TI} {y:Operand} (s:Sct) (ho:o.op=.buildSlice t 1 #[(0,y)])
    (ht:lookT B.T t=some ⟨.slice el,s0,b0,z0⟩) (hti:lookT B.T el=some ti) (hsz:ti.size=128) (hy:ev e y=arrS s.l)
    (hK:K ⟨.c (.s nx 0 1 128),[],[(nx,true, .arr (aSec [s]))],[nx]⟩):∃ f,CallOK cx o e H nx f∧K f :=
  bs1_step hB (aSec [s]) s rfl rfl rfl rfl ho ht hti hsz (by omega) (by omega) (fun ρ v hv=>by rw [hy] at hv; exact (arrS_cells hv).1) hK

theorem bsRow_step (hB:TabsOK cx.P B) {t el s0 b0:TypeId} {z0:List Value} {ti:TI} {y:Operand} (s:Sct) (ho:o.op=.buildSlice t 1 #[(0,y)])
    (ht:lookT B.T t=some ⟨.slice el,s0,b0,z0⟩) (hti:lookT B.T el=some ti) (hsz:ti.size=129) (hy:ev e y=.pk (bytesV s.l) [.v nilV])
    (hK:K ⟨.c (.s nx 0 1 129),[],[(nx,true, .arr (aRowN [s]))],[nx]⟩):∃ f,CallOK cx o e H nx f∧K f :=
  bs1_step hB (aRowN [s]) s rfl rfl rfl rfl ho ht hti hsz (by omega) (by omega) (fun ρ v hv=>by rw [hy] at hv; exact (pk_cells (fun u h=>pnd_atom (kp:=0) (b:=none) h) hv).1) hK

theorem mkRows_step (hB:TabsOK cx.P B) {t el s0 b0:TypeId} {z0:List Value} {ti:TI} {x y:Operand} (n:Nat) (ho:o.op=.makeSlice t x y) (ht:lookT B.T t=some ⟨.slice el,s0,b0,z0⟩) (hti:lookT B.T el=some ti) (hsz:ti.size=129)
    (hz:ti.zero=List.replicate 128 (.int .u8 0) ++ [nilV]) (hby:ti.bytes≤1000) (hx:ev e x=iv .i64 (n:Int)) (hy:ev e y=iv .i64 (n:Int)) (hn:n≤100000000)
    (hK:K ⟨.c (.s nx 0 n 129),[],[(nx,true, .arr (aRowN (List.replicate n zSct)))],[nx]⟩):∃ f,CallOK cx o e H nx f∧K f:=by
  have hmx:x ∈ o.op.operands.toList:=by simp [ho,Op.operands]
  have hmy:y ∈ o.op.operands.toList:=by simp [ho,Op.operands]
  refine new_step (loc_new (by simp [ho]) below_s (fun m _=>below_aRowN _ m) ?_) hK
  intro ρ a w hr _
  obtain ⟨i,z,hi,hz',hisz,hiby,hzz⟩:=ti_parts hB hti
  have hx':=lit_of hmx hx hr
  have hy':=lit_of hmy hy hr
  have hbd:i.bytes * n≤281474976710656:=by
    rw [hiby]
    exact Nat.le_trans (Nat.mul_le_mul hby hn) (by decide)
  have hrun:=run_make (P:=cx.P) w t el i z (und_slice hB ht) hi hz' .i64 .i64 (n:Int) (n:Int) (by omega) (by omega) (by rw [← Int.natCast_mul]; omega) (by omega)
  have hzl:z.cells.toList=bytesV zSct.l ++ [nilV]:=by
    rw [hzz,hz]; show _=bytesV (List.replicate 128 0) ++ _; rw [bytesV_replicate]
  have hzs:z.cells.size=129:=by
    have:=congrArg List.length hzl
    rw [List.length_append,bytesV_length,zSct.h] at this
    simpa using this
  refine⟨.slice (some ⟨w.heap.size,0,none⟩) n n, .cells (madeCells z.cells (n * 129)) el (0,0),n, ?_, ?_,satO_new_arr (by show (List.replicate n zSct).length≤n; simp) (by rw [size_madeCells]; rfl) ?_⟩
  · simp only [execOp,ho,hx',hy',Sem.run_bind,hrun,Result.andThen_ok,Sem.run_pure,Int.toNat_natCast]
    rw [hisz,hsz]
    rfl
  · simp only [SV.rel,SC.rel,upd_eq,Nat.sub_zero,Nat.zero_mul,Nat.zero_add]
    exact⟨_,rfl,Nat.le_refl _,fun _=>by simp [adr,upd_eq]⟩
  · intro i' xx hxx j d hd
    have hxx:(List.replicate n zSct)[i']? = some xx:=hxx
    obtain ⟨hlt,hxx⟩:=List.getElem?_eq_some_iff.1 hxx
    have hlt:i' < n:=by simpa using hlt
    have hxx:xx=zSct:=by rw [← hxx]; exact List.getElem_replicate _
    subst hxx
    obtain ⟨v,hv,hvr⟩:=rowVals (ρ:=upd ρ nx ⟨w.heap.size,0,n,[]⟩) zSct.h (c:=.v nilV) (u:=nilV) rfl hd
    refine⟨v, ?_,hvr⟩
    have hj:j < 129:=by
      have h8:=(List.getElem?_eq_some_iff.1 hd).1
      rw [show ((aRowN (List.replicate n zSct)).enc zSct).length=129 from (aRowN (List.replicate n zSct)).hl zSct] at h8; exact h8
    rw [← hzl] at hv
    have hv':z.cells[j]? = some v:=by simpa using hv
    obtain ⟨h0,hv3⟩:=Array.getElem?_eq_some_iff.1 hv'
    have hmod:(i' * 129+j) % 129=j:=by rw [Nat.mul_comm,Nat.mul_add_mod]; exact Nat.mod_eq_of_lt hj
    have hlt2:i' * 129+j < n * 129:=by
      have:=Nat.mul_le_mul_right 129 (show i'+1≤n from hlt)
      omega
    show (madeCells z.cells (n * 129))[i' * 129+j]? = some v
    have hv4:z.cells[j]! = v:=by rw [getElem!_def,hv']
    simp [madeCells,hlt2,hzs,hmod,hv4]

theorem allOne_aSec (s:Sct) (xs:List Sct):allOne ((aSec xs).enc s)=true:=by
  show allOne (bytesC s.l)=true
  induction s.l with
  | nil=>rfl
  | cons b l ih=>exact ih

theorem allOne_aRowN (s:Sct) (xs:List Sct):allOne ((aRowN xs).enc s)=true:=by
  show allOne (bytesC s.l ++ [.v nilV])=true
  induction s.l with
  | nil=>rfl
  | cons b l ih=>exact ih

end
end Sx
end Go

