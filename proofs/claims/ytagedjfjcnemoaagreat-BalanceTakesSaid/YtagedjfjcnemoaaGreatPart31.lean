/-
  A part of the proof that a law answers true: lemmas of a symbolic walk, plain functions, or contracts of the functions walked (RT, RE, Rv, RJ, RU, Sx48). Conditions: none.
-/
import Derived.Test.YtagedjfjcnemoaaGreatPart29
import Derived.Test.YtagedjfjcnemoaaGreatPart30
import Derived.Test.YtagedjfjcnemoaaGreatPart28
set_option maxRecDepth 100000
set_option linter.unusedVariables false
set_option linter.unusedSimpArgs false
namespace Go.Proofs
open Go.Sx

theorem wo1_t (n:Int):Triple Tryz.prog 134 [iv .i64 n] [] 0 (bv (!withinF n 1 1099511627776)) []:=by
 refine triple_of tB_ok Tryz.func134 rfl Tryz.call134 rfl ?_
 intro ρ w hH
 conv=>whnf
 refine call_step (bWithin_t n 1 1099511627776) (by exact rfl) (by exact rfl) ?_
 conv=>whnf
 refine⟨?_, ?_, ?_⟩
 iterate 2 · repeat'(first|exact trivial|exact rfl|refine And.intro ?_ ?_|((conv=>whnf);first|exact trivial|exact rfl|refine And.intro ?_ ?_|omega))
 conv=>whnf
 repeat'(first|exact trivial|exact rfl|refine And.intro ?_ ?_|((conv=>whnf);first|exact trivial|exact rfl|refine And.intro ?_ ?_|omega))

abbrev outP (n:Int):Bool:=!withinF n 1 1099511627776

theorem indexOut_t (xs:List Int) (hx:xs.length≤100000) :
  Triple Tryz.prog 201 [.c (.s 0 0 xs.length 1), .c (.f 134 [])] [(0,false, .arr (aInt xs))] 1 (iv .i64 (idxF outP 0 xs)) []:=by
 refine triple_of tB_ok Tryz.func201 rfl Tryz.call201 rfl ?_
 intro ρ w hH
 conv=>whnf
 refine loop_step tB_ok (G:=Nat) 0 [] (fun i=>[(8,iv .i64 i)]) (fun i=>[]) (fun i=>i≤xs.length∧∀ x ∈ xs.take i,outP x=false) (fun i=>xs.length - i) ?_
 conv=>whnf
 refine⟨⟨0,⟨Nat.zero_le _,by simp⟩, ?_⟩, ?_⟩
 ·conv=>whnf
  repeat'(first|exact trivial|exact rfl|refine And.intro ?_ ?_|((conv=>whnf);first|exact trivial|exact rfl|refine And.intro ?_ ?_|omega))
 intro i hi ρ1 t1 hρ1
 obtain ⟨hi,hn⟩:=hi
 conv=>whnf
 refine⟨fun hc=>?_,fun hc=>?_⟩
 ·have hc:i < xs.length:=by simpa using hc
  have hlt:=hc
  conv=>whnf
  refine⟨i,rfl,hc,hc, ?_⟩
  conv=>whnf
  refine call_step (wo1_t xs[i]) (by exact rfl) (by exact rfl) ?_
  conv=>whnf
  refine⟨?_, ?_, ?_⟩
  iterate 2 · repeat'(first|exact trivial|exact rfl|refine And.intro ?_ ?_|((conv=>whnf);first|exact trivial|exact rfl|refine And.intro ?_ ?_|omega))
  conv=>whnf
  refine⟨fun hc=>?_,fun hc=>?_⟩
  ·conv=>whnf
   refine⟨?_,trivial⟩
   show (i:Int)=idxF outP 0 xs
   rw [idxF_at (k:=i) hlt hn hc,Nat.zero_add]
  ·conv=>whnf
   refine⟨_,wrapId ⟨by omega,by omega⟩, ?_⟩
   refine⟨i+1,⟨by omega, ?_⟩,by show xs.length - (i+1) < xs.length - i; omega, ?_⟩
   ·intro x hxx
    rw [take_snoc hlt] at hxx
    rcases List.mem_append.1 hxx with hxx | hxx
    ·exact hn x hxx
    ·simp only [List.mem_singleton] at hxx; rw [hxx]; exact hc
   conv=>whnf
   refine⟨rfl, ?_⟩
   conv=>whnf
   repeat'(first|exact trivial|exact rfl|refine And.intro ?_ ?_|((conv=>whnf);first|exact trivial|exact rfl|refine And.intro ?_ ?_|omega))
 ·have hi2:i=xs.length:=by simp at hc; omega
  subst hi2
  rw [List.take_length] at hn
  conv=>whnf
  refine⟨?_,trivial⟩
  show (-1:Int)=idxF outP 0 xs
  rw [idxF_none hn]

theorem containsOut_t (xs:List Int) (hx:xs.length≤100000) :
  Triple Tryz.prog 133 [.c (.s 0 0 xs.length 1), .c (.f 134 [])] [(0,false, .arr (aInt xs))] 1 (bv (xs.any outP)) []:=by
 have hI:=indexOut_t xs hx
 have e:decide (0≤idxF outP 0 xs)=xs.any outP:=by
  rcases idxF_cases outP xs with ⟨h1,h2⟩ | ⟨k,hk,h1,_,h2⟩
  ·rw [h1,List.any_eq_false.2 fun x hx=>by rw [h2 x hx]; simp]; rfl
  ·rw [h1,List.any_eq_true.2 ⟨xs[k],List.getElem_mem hk,h2⟩]; exact decide_eq_true (by omega)
 rw [← e]
 generalize idxF outP 0 xs=z at *
 refine triple_of tB_ok Tryz.func133 rfl Tryz.call133 rfl ?_
 intro ρ w hH
 conv=>whnf
 refine call_step hI (by exact rfl) (by exact rfl) ?_
 conv=>whnf
 refine⟨?_, ?_, ?_⟩
 iterate 2 · repeat'(first|exact trivial|exact rfl|refine And.intro ?_ ?_|((conv=>whnf);first|exact trivial|exact rfl|refine And.intro ?_ ?_|omega))
 conv=>whnf
 repeat'(first|exact trivial|exact rfl|refine And.intro ?_ ?_|((conv=>whnf);first|exact trivial|exact rfl|refine And.intro ?_ ?_|omega))

def woutR (r:Rd) (ids:List Int):Rd × Int:=if checkR r=0 then (bif ids.any outP then (zRd,1) else (lessR r ids,0)) else (zRd,checkR r)

abbrev retRd (k0 k1 k2 k3:Nat) (x:Rd × Int):SV:=.tup [.inr [.s k0 0 x.1.bs.length 6, .s k2 0 x.1.cs.length 5, .s k3 0 x.1.ns.length 6, .s k1 0 x.1.ws.length 8], .inl (.v (.int .i64 x.2))]
abbrev ownRd (k0 k1 k2 k3:Nat) (r:Rd):Heap:=[(k0,true, .arr (aBal r.bs)),(k1,true, .arr (aWgh r.ws)),(k2,true, .arr (aChk r.cs)),(k3,true, .arr (aNtc r.ns))]

theorem bWithout_t (r:Rd) (ids:List Int) (hs:Sml r) (hi:ids.length≤100000):Triple Tryz.prog 64 [rdA r, .c (.s 4 0 ids.length 1)] (rdH r ++ [(4,false, .arr (aInt ids))]) 5
  (retRd 5 6 7 8 (woutR r ids)) (ownRd 5 6 7 8 (woutR r ids).1):=by
 have hC:=check_rd_t r (Nat.le_trans hs.bs (by decide)) (Nat.le_trans hs.cs (by decide)) (Nat.le_trans hs.ns (by decide)) (Nat.le_trans hs.ws (by decide))
 have e:woutR r ids=if checkR r=0 then (bif ids.any outP then (zRd,1) else (lessR r ids,0)) else (zRd,checkR r):=rfl
 have hA:=containsOut_t ids hi
 have hW:=without_t r ids hs (by omega)
 generalize checkR r=c at *
 by_cases h0:c=0
 rotate_left
 ·rw [if_neg h0] at e
  rw [e]
  refine triple_of tB_ok Tryz.func64 rfl Tryz.call64 rfl ?_
  intro ρ w hH
  conv=>whnf
  refine call_step hC (by exact rfl) (by exact rfl) ?_
  conv=>whnf
  refine⟨?_, ?_, ?_⟩
  iterate 2 · repeat'(first|exact trivial|exact rfl|refine And.intro ?_ ?_|((conv=>whnf);first|exact trivial|exact rfl|refine And.intro ?_ ?_|omega))
  conv=>whnf
  refine⟨fun hcc=>?_,fun hcc=>absurd (by simpa using (show (c != 0)=false from hcc)) h0⟩
  conv=>whnf
  repeat'(first|exact trivial|exact rfl|refine And.intro ?_ ?_|((conv=>whnf);first|exact trivial|exact rfl|refine And.intro ?_ ?_|omega))
 subst h0
 rw [if_pos rfl] at e
 generalize ids.any outP=b at *
 cases b with
 | true =>
  rw [cond_true] at e
  rw [e]
  refine triple_of tB_ok Tryz.func64 rfl Tryz.call64 rfl ?_
  intro ρ w hH
  conv=>whnf
  refine call_step hC (by exact rfl) (by exact rfl) ?_
  conv=>whnf
  refine⟨?_, ?_, ?_⟩
  iterate 2 · repeat'(first|exact trivial|exact rfl|refine And.intro ?_ ?_|((conv=>whnf);first|exact trivial|exact rfl|refine And.intro ?_ ?_|omega))
  conv=>whnf
  refine⟨fun hc=>absurd hc (by simp),fun hc=>?_⟩
  conv=>whnf
  refine call_step hA (by exact rfl) (by exact rfl) ?_
  conv=>whnf
  refine⟨?_, ?_, ?_⟩
  iterate 2 · repeat'(first|exact trivial|exact rfl|refine And.intro ?_ ?_|((conv=>whnf);first|exact trivial|exact rfl|refine And.intro ?_ ?_|omega))
  conv=>whnf
  refine⟨fun hc=>?_,fun hc=>absurd hc (by simp)⟩
  conv=>whnf
  repeat'(first|exact trivial|exact rfl|refine And.intro ?_ ?_|((conv=>whnf);first|exact trivial|exact rfl|refine And.intro ?_ ?_|omega))
 | false =>
  rw [cond_false] at e
  rw [e]
  dsimp only
  generalize lessR r ids=q at *
  obtain ⟨b',c',n',w'⟩:=q
  refine triple_of tB_ok Tryz.func64 rfl Tryz.call64 rfl ?_
  intro ρ w hH
  conv=>whnf
  refine call_step hC (by exact rfl) (by exact rfl) ?_
  conv=>whnf
  refine⟨?_, ?_, ?_⟩
  iterate 2 · repeat'(first|exact trivial|exact rfl|refine And.intro ?_ ?_|((conv=>whnf);first|exact trivial|exact rfl|refine And.intro ?_ ?_|omega))
  conv=>whnf
  refine⟨fun hc=>absurd hc (by simp),fun hc=>?_⟩
  conv=>whnf
  refine call_step hA (by exact rfl) (by exact rfl) ?_
  conv=>whnf
  refine⟨?_, ?_, ?_⟩
  iterate 2 · repeat'(first|exact trivial|exact rfl|refine And.intro ?_ ?_|((conv=>whnf);first|exact trivial|exact rfl|refine And.intro ?_ ?_|omega))
  conv=>whnf
  refine⟨fun hc=>absurd hc (by simp),fun hc=>?_⟩
  conv=>whnf
  refine call_step hW (by exact rfl) (by exact rfl) ?_
  conv=>whnf
  refine⟨?_, ?_, ?_⟩
  iterate 2 · repeat'(first|exact trivial|exact rfl|refine And.intro ?_ ?_|((conv=>whnf);first|exact trivial|exact rfl|refine And.intro ?_ ?_|omega))
  conv=>whnf
  repeat'(first|exact trivial|exact rfl|refine And.intro ?_ ?_|((conv=>whnf);first|exact trivial|exact rfl|refine And.intro ?_ ?_|omega))

theorem joinL_snd {α:Type} [DecidableEq α] {key:α → Int} {a b:List α}:(joinL key a b).2=decide (JoinOK key a b):=by
 unfold joinL; split <;> simp_all

theorem joinL_pos {α:Type} [DecidableEq α] {key:α → Int} {a b:List α} (h:JoinOK key a b):joinL key a b=(unionK key a b,true):=if_pos h

theorem ids_len_iff {r:Rd}:(idsR r).length=r.cs.length+r.ns.length+r.ws.length ↔ (allIds r).Nodup:=by
 have h:=distS_len_iff intLt_ok (allIds r).length (allIds r) rfl
 have e:(allIds r).length=r.cs.length+r.ns.length+r.ws.length:=by unfold allIds; simp only [List.length_append,List.length_map]; omega
 rw [e] at h
 exact h

abbrev mgA (a b:Rd):List SV:=[rdA a, .agg [.s 4 0 b.bs.length 6, .s 6 0 b.cs.length 5, .s 7 0 b.ns.length 6, .s 5 0 b.ws.length 8]]
abbrev mgH (a b:Rd):Heap:=rdH a ++ [(4,false, .arr (aBal b.bs)),(5,false, .arr (aWgh b.ws)),(6,false, .arr (aChk b.cs)),(7,false, .arr (aNtc b.ns))]

set_option maxHeartbeats 4000000 in
theorem bMerge_t (a b:Rd) (sa:Sml a) (sb:Sml b):Triple Tryz.prog 58 (mgA a b) (mgH a b) 8 (retRd 8 9 10 11 (mergeR a b)) (ownRd 8 9 10 11 (mergeR a b).1):=by
 classical
 have e:mergeR a b=if checkR a=0 then (if checkR b=0 then (if Joins a b then (if checkR (outR a b)=0 then (outR a b,0) else (zRd,checkR (outR a b))) else (zRd,6)) else (zRd,checkR b)) else (zRd,checkR a):=by unfold mergeR; rfl
 have hCa:=check_rd_t a (Nat.le_trans sa.bs (by decide)) (Nat.le_trans sa.cs (by decide)) (Nat.le_trans sa.ns (by decide)) (Nat.le_trans sa.ws (by decide))
 have hCb:=check_rd_t b (Nat.le_trans sb.bs (by decide)) (Nat.le_trans sb.cs (by decide)) (Nat.le_trans sb.ns (by decide)) (Nat.le_trans sb.ws (by decide))
 by_cases ha0:checkR a=0
 rotate_left
 ·rw [if_neg ha0] at e
  rw [e]
  generalize checkR a=ca at *
  refine triple_of tB_ok Tryz.func58 rfl Tryz.call58 rfl ?_
  intro ρ w hH
  conv=>whnf
  refine bsN_step tB_ok (aRows 4 [0,1,2,3,4,5,6,7] [[.s 0 0 a.bs.length 6, .s 2 0 a.cs.length 5, .s 3 0 a.ns.length 6, .s 1 0 a.ws.length 8],[.s 4 0 b.bs.length 6, .s 6 0 b.cs.length 5, .s 7 0 b.ns.length 6, .s 5 0 b.ws.length 8]]) rfl ?_
  conv=>whnf
  refine⟨(by repeat'(first|exact trivial|exact rfl|refine And.intro ?_ ?_|((conv=>whnf);first|exact trivial|exact rfl|refine And.intro ?_ ?_|omega))), ?_⟩
  conv=>whnf
  refine loop_step tB_ok (G:=Nat) 0 [] (fun i=>[(16,iv .i64 i)]) (fun _=>[]) (fun i=>i≤0) (fun i=>2 - i) ?_
  conv=>whnf
  refine⟨⟨0,by decide, ?_⟩, ?_⟩
  ·conv=>whnf
   repeat'(first|exact trivial|exact rfl|refine And.intro ?_ ?_|((conv=>whnf);first|exact trivial|exact rfl|refine And.intro ?_ ?_|omega))
  intro i hi ρ1 t1 hρ1
  obtain rfl:i=0:=by omega
  conv=>whnf
  refine⟨fun hc=>?_,fun hc=>absurd (show decide (((0:Nat):Int) < 2)=false from hc) (by decide)⟩
  conv=>whnf
  refine⟨0,rfl,by decide,by show 0 < 2; decide, ?_⟩
  conv=>whnf
  refine call_step hCa (by exact rfl) (by exact rfl) ?_
  conv=>whnf
  refine⟨?_, ?_, ?_⟩
  iterate 2 · repeat'(first|exact trivial|exact rfl|refine And.intro ?_ ?_|((conv=>whnf);first|exact trivial|exact rfl|refine And.intro ?_ ?_|omega))
  conv=>whnf
  refine⟨fun hcc=>?_,fun hcc=>absurd (by simpa using (show (ca != 0)=false from hcc)) ha0⟩
  conv=>whnf
  repeat'(first|exact trivial|exact rfl|refine And.intro ?_ ?_|((conv=>whnf);first|exact trivial|exact rfl|refine And.intro ?_ ?_|omega))
 by_cases hb0:checkR b=0
 rotate_left
 ·rw [if_pos ha0,if_neg hb0] at e
  rw [e]
  rw [ha0] at hCa
  generalize checkR b=cb at *
  refine triple_of tB_ok Tryz.func58 rfl Tryz.call58 rfl ?_
  intro ρ w hH
  conv=>whnf
  refine bsN_step tB_ok (aRows 4 [0,1,2,3,4,5,6,7] [[.s 0 0 a.bs.length 6, .s 2 0 a.cs.length 5, .s 3 0 a.ns.length 6, .s 1 0 a.ws.length 8],[.s 4 0 b.bs.length 6, .s 6 0 b.cs.length 5, .s 7 0 b.ns.length 6, .s 5 0 b.ws.length 8]]) rfl ?_
  conv=>whnf
  refine⟨(by repeat'(first|exact trivial|exact rfl|refine And.intro ?_ ?_|((conv=>whnf);first|exact trivial|exact rfl|refine And.intro ?_ ?_|omega))), ?_⟩
  conv=>whnf
  refine loop_step tB_ok (G:=Nat) 0 [] (fun i=>[(16,iv .i64 i)]) (fun _=>[]) (fun i=>i≤1) (fun i=>2 - i) ?_
  conv=>whnf
  refine⟨⟨0,by decide, ?_⟩, ?_⟩
  ·conv=>whnf
   repeat'(first|exact trivial|exact rfl|refine And.intro ?_ ?_|((conv=>whnf);first|exact trivial|exact rfl|refine And.intro ?_ ?_|omega))
  intro i hi ρ1 t1 hρ1
  rcases (by omega:i=0 ∨ i=1) with rfl | rfl
  ·skip
   conv=>whnf
   refine⟨fun hc=>?_,fun hc=>absurd (show decide (((0:Nat):Int) < 2)=false from hc) (by decide)⟩
   conv=>whnf
   refine⟨0,rfl,by decide,by show 0 < 2; decide, ?_⟩
   conv=>whnf
   refine call_step hCa (by exact rfl) (by exact rfl) ?_
   conv=>whnf
   refine⟨?_, ?_, ?_⟩
   iterate 2 · repeat'(first|exact trivial|exact rfl|refine And.intro ?_ ?_|((conv=>whnf);first|exact trivial|exact rfl|refine And.intro ?_ ?_|omega))
   conv=>whnf
   refine⟨fun hc=>absurd hc (by simp),fun hc=>?_⟩
   conv=>whnf
   refine⟨1,rfl, ?_⟩
   refine⟨1,by decide,by decide, ?_⟩
   conv=>whnf
   refine⟨rfl, ?_⟩
   conv=>whnf
   repeat'(first|exact trivial|exact rfl|refine And.intro ?_ ?_|((conv=>whnf);first|exact trivial|exact rfl|refine And.intro ?_ ?_|omega))
  ·skip
   conv=>whnf
   refine⟨fun hc=>?_,fun hc=>absurd (show decide (((1:Nat):Int) < 2)=false from hc) (by decide)⟩
   conv=>whnf
   refine⟨1,rfl,by decide,by show 1 < 2; decide, ?_⟩
   conv=>whnf
   refine call_step hCb (by exact rfl) (by exact rfl) ?_
   conv=>whnf
   refine⟨?_, ?_, ?_⟩
   iterate 2 · repeat'(first|exact trivial|exact rfl|refine And.intro ?_ ?_|((conv=>whnf);first|exact trivial|exact rfl|refine And.intro ?_ ?_|omega))
   conv=>whnf
   refine⟨fun hcc=>?_,fun hcc=>absurd (by simpa using (show (cb != 0)=false from hcc)) hb0⟩
   conv=>whnf
   repeat'(first|exact trivial|exact rfl|refine And.intro ?_ ?_|((conv=>whnf);first|exact trivial|exact rfl|refine And.intro ?_ ?_|omega))
 rw [if_pos ha0,if_pos hb0] at e
 have ha:=checkR_ok.1 ha0
 have hb:=checkR_ok.1 hb0
 rw [ha0] at hCa
 rw [hb0] at hCb
 have hj0:=joinedBal_t a.bs b.bs sa.bs sb.bs ha.balN hb.balN
 have hj1:=joinedChk_t a.cs b.cs sa.cs sb.cs ha.cN hb.cN
 have hj2:=joinedNtc_t a.ns b.ns sa.ns sb.ns ha.nN hb.nN
 have hj3:=joinedWgh_t a.ws b.ws sa.ws sb.ws ha.wN hb.wN
 by_cases hJ:JoinOK Bal.id a.bs b.bs∧JoinOK Chk.id a.cs b.cs∧JoinOK Ntc.id a.ns b.ns∧JoinOK Wgh.id a.ws b.ws
 rotate_left
 ·rw [if_neg (fun h:Joins a b=>hJ ⟨h.bs,h.cs,h.ns,h.ws⟩)] at e
  rw [e]
  have hne:((joinL Bal.id a.bs b.bs).2 && ((joinL Chk.id a.cs b.cs).2 && ((joinL Ntc.id a.ns b.ns).2 && (joinL Wgh.id a.ws b.ws).2)))=false:=by
   rw [joinL_snd,joinL_snd,joinL_snd,joinL_snd,Bool.eq_false_iff]
   simpa using hJ
  generalize joinL Bal.id a.bs b.bs=J0 at *
  generalize joinL Chk.id a.cs b.cs=J1 at *
  generalize joinL Ntc.id a.ns b.ns=J2 at *
  generalize joinL Wgh.id a.ws b.ws=J3 at *
  refine triple_of tB_ok Tryz.func58 rfl Tryz.call58 rfl ?_
  intro ρ w hH
  conv=>whnf
  refine bsN_step tB_ok (aRows 4 [0,1,2,3,4,5,6,7] [[.s 0 0 a.bs.length 6, .s 2 0 a.cs.length 5, .s 3 0 a.ns.length 6, .s 1 0 a.ws.length 8],[.s 4 0 b.bs.length 6, .s 6 0 b.cs.length 5, .s 7 0 b.ns.length 6, .s 5 0 b.ws.length 8]]) rfl ?_
  conv=>whnf
  refine⟨(by repeat'(first|exact trivial|exact rfl|refine And.intro ?_ ?_|((conv=>whnf);first|exact trivial|exact rfl|refine And.intro ?_ ?_|omega))), ?_⟩
  conv=>whnf
  refine loop_step tB_ok (G:=Nat) 0 [] (fun i=>[(16,iv .i64 i)]) (fun _=>[]) (fun i=>i≤2) (fun i=>2 - i) ?_
  conv=>whnf
  refine⟨⟨0,by decide, ?_⟩, ?_⟩
  ·conv=>whnf
   repeat'(first|exact trivial|exact rfl|refine And.intro ?_ ?_|((conv=>whnf);first|exact trivial|exact rfl|refine And.intro ?_ ?_|omega))
  intro i hi ρ1 t1 hρ1
  rcases (by omega:i=0 ∨ i=1 ∨ i=2) with rfl | rfl | rfl
  ·skip
   conv=>whnf
   refine⟨fun hc=>?_,fun hc=>absurd (show decide (((0:Nat):Int) < 2)=false from hc) (by decide)⟩
   conv=>whnf
   refine⟨0,rfl,by decide,by show 0 < 2; decide, ?_⟩
   conv=>whnf
   refine call_step hCa (by exact rfl) (by exact rfl) ?_
   conv=>whnf
   refine⟨?_, ?_, ?_⟩
   iterate 2 · repeat'(first|exact trivial|exact rfl|refine And.intro ?_ ?_|((conv=>whnf);first|exact trivial|exact rfl|refine And.intro ?_ ?_|omega))
   conv=>whnf
   refine⟨fun hc=>absurd hc (by simp),fun hc=>?_⟩
   conv=>whnf
   refine⟨1,rfl, ?_⟩
   refine⟨1,by decide,by decide, ?_⟩
   conv=>whnf
   refine⟨rfl, ?_⟩
   conv=>whnf
   repeat'(first|exact trivial|exact rfl|refine And.intro ?_ ?_|((conv=>whnf);first|exact trivial|exact rfl|refine And.intro ?_ ?_|omega))
  ·skip
   conv=>whnf
   refine⟨fun hc=>?_,fun hc=>absurd (show decide (((1:Nat):Int) < 2)=false from hc) (by decide)⟩
   conv=>whnf
   refine⟨1,rfl,by decide,by show 1 < 2; decide, ?_⟩
   conv=>whnf
   refine call_step hCb (by exact rfl) (by exact rfl) ?_
   conv=>whnf
   refine⟨?_, ?_, ?_⟩
   iterate 2 · repeat'(first|exact trivial|exact rfl|refine And.intro ?_ ?_|((conv=>whnf);first|exact trivial|exact rfl|refine And.intro ?_ ?_|omega))
   conv=>whnf
   refine⟨fun hc=>absurd hc (by simp),fun hc=>?_⟩
   conv=>whnf
   refine⟨2,rfl, ?_⟩
   refine⟨2,by decide,by decide, ?_⟩
   conv=>whnf
   refine⟨rfl, ?_⟩
   conv=>whnf
   repeat'(first|exact trivial|exact rfl|refine And.intro ?_ ?_|((conv=>whnf);first|exact trivial|exact rfl|refine And.intro ?_ ?_|omega))
  conv=>whnf
  refine⟨fun hc=>absurd (show decide (((2:Nat):Int) < 2)=true from hc) (by decide),fun hc=>?_⟩
  conv=>whnf
  refine call_step hj0 (by exact rfl) (by exact rfl) ?_
  conv=>whnf
  refine⟨?_, ?_, ?_⟩
  iterate 2 · repeat'(first|exact trivial|exact rfl|refine And.intro ?_ ?_|((conv=>whnf);first|exact trivial|exact rfl|refine And.intro ?_ ?_|omega))
  conv=>whnf
  refine⟨0,rfl,by decide, ?_⟩
  conv=>whnf
  refine call_step hj1 (by exact rfl) (by exact rfl) ?_
  conv=>whnf
  refine⟨?_, ?_, ?_⟩
  iterate 2 · repeat'(first|exact trivial|exact rfl|refine And.intro ?_ ?_|((conv=>whnf);first|exact trivial|exact rfl|refine And.intro ?_ ?_|omega))
  conv=>whnf
  refine⟨1,rfl,by decide, ?_⟩
  conv=>whnf
  refine call_step hj2 (by exact rfl) (by exact rfl) ?_
  conv=>whnf
  refine⟨?_, ?_, ?_⟩
  iterate 2 · repeat'(first|exact trivial|exact rfl|refine And.intro ?_ ?_|((conv=>whnf);first|exact trivial|exact rfl|refine And.intro ?_ ?_|omega))
  conv=>whnf
  refine⟨2,rfl,by decide, ?_⟩
  conv=>whnf
  refine call_step hj3 (by exact rfl) (by exact rfl) ?_
  conv=>whnf
  refine⟨?_, ?_, ?_⟩
  iterate 2 · repeat'(first|exact trivial|exact rfl|refine And.intro ?_ ?_|((conv=>whnf);first|exact trivial|exact rfl|refine And.intro ?_ ?_|omega))
  conv=>whnf
  refine⟨3,rfl,by decide, ?_⟩
  conv=>whnf
  refine⟨fun hg=>?_,fun hg=>absurd (show (!((J0.2 == true) && ((J1.2 == true) && ((J2.2 == true) && ((J3.2 == true) && true)))))=false from hg) (by simpa using hne)⟩
  conv=>whnf
  repeat'(first|exact trivial|exact rfl|refine And.intro ?_ ?_|((conv=>whnf);first|exact trivial|exact rfl|refine And.intro ?_ ?_|omega))
 obtain ⟨k0,k1,k2,k3⟩:=hJ
 rw [joinL_pos k0] at hj0
 rw [joinL_pos k1] at hj1
 rw [joinL_pos k2] at hj2
 rw [joinL_pos k3] at hj3
 have hU:outR a b=⟨unionK Bal.id a.bs b.bs,unionK Chk.id a.cs b.cs,unionK Ntc.id a.ns b.ns,unionK Wgh.id a.ws b.ws⟩:=rfl
 have q1:=ha.nb
 have q2:=hb.nb
 have q3:=ha.nr
 have q4:=hb.nr
 have l0:(unionK Bal.id a.bs b.bs).length≤16:=by have:=unionK_len (key:=Bal.id) (a:=a.bs) (b:=b.bs); omega
 have l1:(unionK Chk.id a.cs b.cs).length≤200:=by have:=unionK_len (key:=Chk.id) (a:=a.cs) (b:=b.cs); omega
 have l2:(unionK Ntc.id a.ns b.ns).length≤200:=by have:=unionK_len (key:=Ntc.id) (a:=a.ns) (b:=b.ns); omega
 have l3:(unionK Wgh.id a.ws b.ws).length≤200:=by have:=unionK_len (key:=Wgh.id) (a:=a.ws) (b:=b.ws); omega
 have hIff:=ids_len_iff (r:=outR a b)
 have hJI:Joins a b ↔ (allIds (outR a b)).Nodup:=⟨fun h=>h.ids,fun h=>⟨k0,k1,k2,k3,h⟩⟩
 rw [← hJI] at hIff
 rw [hU] at e hIff
 generalize unionK Bal.id a.bs b.bs=u0 at *
 generalize unionK Chk.id a.cs b.cs=u1 at *
 generalize unionK Ntc.id a.ns b.ns=u2 at *
 generalize unionK Wgh.id a.ws b.ws=u3 at *
 clear hU hJI q1 q2 q3 q4
 have hCo:=check_rd_t ⟨u0,u1,u2,u3⟩ (by show u0.length≤_; omega) (by show u1.length≤_; omega) (by show u2.length≤_; omega) (by show u3.length≤_; omega)
 have hI:=bIds_t ⟨u0,u1,u2,u3⟩ ⟨by show u0.length≤_; omega,by show u1.length≤_; omega,by show u2.length≤_; omega,by show u3.length≤_; omega⟩
 have hIff:(idsR ⟨u0,u1,u2,u3⟩).length=u1.length+u2.length+u3.length ↔ Joins a b:=hIff
 generalize idsR ⟨u0,u1,u2,u3⟩=I at *
 generalize checkR ⟨u0,u1,u2,u3⟩=co at *
 by_cases hjj:Joins a b
 rotate_left
 ·rw [if_neg hjj] at e
  rw [e]
  refine triple_of tB_ok Tryz.func58 rfl Tryz.call58 rfl ?_
  intro ρ w hH
  conv=>whnf
  refine bsN_step tB_ok (aRows 4 [0,1,2,3,4,5,6,7] [[.s 0 0 a.bs.length 6, .s 2 0 a.cs.length 5, .s 3 0 a.ns.length 6, .s 1 0 a.ws.length 8],[.s 4 0 b.bs.length 6, .s 6 0 b.cs.length 5, .s 7 0 b.ns.length 6, .s 5 0 b.ws.length 8]]) rfl ?_
  conv=>whnf
  refine⟨(by repeat'(first|exact trivial|exact rfl|refine And.intro ?_ ?_|((conv=>whnf);first|exact trivial|exact rfl|refine And.intro ?_ ?_|omega))), ?_⟩
  conv=>whnf
  refine loop_step tB_ok (G:=Nat) 0 [] (fun i=>[(16,iv .i64 i)]) (fun _=>[]) (fun i=>i≤2) (fun i=>2 - i) ?_
  conv=>whnf
  refine⟨⟨0,by decide, ?_⟩, ?_⟩
  ·conv=>whnf
   repeat'(first|exact trivial|exact rfl|refine And.intro ?_ ?_|((conv=>whnf);first|exact trivial|exact rfl|refine And.intro ?_ ?_|omega))
  intro i hi ρ1 t1 hρ1
  rcases (by omega:i=0 ∨ i=1 ∨ i=2) with rfl | rfl | rfl
  ·skip
   conv=>whnf
   refine⟨fun hc=>?_,fun hc=>absurd (show decide (((0:Nat):Int) < 2)=false from hc) (by decide)⟩
   conv=>whnf
   refine⟨0,rfl,by decide,by show 0 < 2; decide, ?_⟩
   conv=>whnf
   refine call_step hCa (by exact rfl) (by exact rfl) ?_
   conv=>whnf
   refine⟨?_, ?_, ?_⟩
   iterate 2 · repeat'(first|exact trivial|exact rfl|refine And.intro ?_ ?_|((conv=>whnf);first|exact trivial|exact rfl|refine And.intro ?_ ?_|omega))
   conv=>whnf
   refine⟨fun hc=>absurd hc (by simp),fun hc=>?_⟩
   conv=>whnf
   refine⟨1,rfl, ?_⟩
   refine⟨1,by decide,by decide, ?_⟩
   conv=>whnf
   refine⟨rfl, ?_⟩
   conv=>whnf
   repeat'(first|exact trivial|exact rfl|refine And.intro ?_ ?_|((conv=>whnf);first|exact trivial|exact rfl|refine And.intro ?_ ?_|omega))
  ·skip
   conv=>whnf
   refine⟨fun hc=>?_,fun hc=>absurd (show decide (((1:Nat):Int) < 2)=false from hc) (by decide)⟩
   conv=>whnf
   refine⟨1,rfl,by decide,by show 1 < 2; decide, ?_⟩
   conv=>whnf
   refine call_step hCb (by exact rfl) (by exact rfl) ?_
   conv=>whnf
   refine⟨?_, ?_, ?_⟩
   iterate 2 · repeat'(first|exact trivial|exact rfl|refine And.intro ?_ ?_|((conv=>whnf);first|exact trivial|exact rfl|refine And.intro ?_ ?_|omega))
   conv=>whnf
   refine⟨fun hc=>absurd hc (by simp),fun hc=>?_⟩
   conv=>whnf
   refine⟨2,rfl, ?_⟩
   refine⟨2,by decide,by decide, ?_⟩
   conv=>whnf
   refine⟨rfl, ?_⟩
   conv=>whnf
   repeat'(first|exact trivial|exact rfl|refine And.intro ?_ ?_|((conv=>whnf);first|exact trivial|exact rfl|refine And.intro ?_ ?_|omega))
  conv=>whnf
  refine⟨fun hc=>absurd (show decide (((2:Nat):Int) < 2)=true from hc) (by decide),fun hc=>?_⟩
  conv=>whnf
  refine call_step hj0 (by exact rfl) (by exact rfl) ?_
  conv=>whnf
  refine⟨?_, ?_, ?_⟩
  iterate 2 · repeat'(first|exact trivial|exact rfl|refine And.intro ?_ ?_|((conv=>whnf);first|exact trivial|exact rfl|refine And.intro ?_ ?_|omega))
  conv=>whnf
  refine⟨0,rfl,by decide, ?_⟩
  conv=>whnf
  refine call_step hj1 (by exact rfl) (by exact rfl) ?_
  conv=>whnf
  refine⟨?_, ?_, ?_⟩
  iterate 2 · repeat'(first|exact trivial|exact rfl|refine And.intro ?_ ?_|((conv=>whnf);first|exact trivial|exact rfl|refine And.intro ?_ ?_|omega))
  conv=>whnf
  refine⟨1,rfl,by decide, ?_⟩
  conv=>whnf
  refine call_step hj2 (by exact rfl) (by exact rfl) ?_
  conv=>whnf
  refine⟨?_, ?_, ?_⟩
  iterate 2 · repeat'(first|exact trivial|exact rfl|refine And.intro ?_ ?_|((conv=>whnf);first|exact trivial|exact rfl|refine And.intro ?_ ?_|omega))
  conv=>whnf
  refine⟨2,rfl,by decide, ?_⟩
  conv=>whnf
  refine call_step hj3 (by exact rfl) (by exact rfl) ?_
  conv=>whnf
  refine⟨?_, ?_, ?_⟩
  iterate 2 · repeat'(first|exact trivial|exact rfl|refine And.intro ?_ ?_|((conv=>whnf);first|exact trivial|exact rfl|refine And.intro ?_ ?_|omega))
  conv=>whnf
  refine⟨3,rfl,by decide, ?_⟩
  conv=>whnf
  refine⟨fun hg=>absurd (show (false:Bool)=true from hg) (by decide),fun hg=>?_⟩
  conv=>whnf
  refine call_step hI (by exact rfl) (by exact rfl) ?_
  conv=>whnf
  refine⟨?_, ?_, ?_⟩
  iterate 2 · repeat'(first|exact trivial|exact rfl|refine And.intro ?_ ?_|((conv=>whnf);first|exact trivial|exact rfl|refine And.intro ?_ ?_|omega))
  conv=>whnf
  refine⟨((u1.length+u2.length:Nat):Int),(congrArg IntKind.i64.wrap (show (u1.length:Int)+u2.length=((u1.length+u2.length:Nat):Int) by omega)).trans (wrapId ⟨by omega,by omega⟩), ?_⟩
  conv=>whnf
  refine⟨((u1.length+u2.length+u3.length:Nat):Int),(congrArg IntKind.i64.wrap (show ((u1.length+u2.length:Nat):Int)+u3.length=((u1.length+u2.length+u3.length:Nat):Int) by omega)).trans (wrapId ⟨by omega,by omega⟩), ?_⟩
  conv=>whnf
  refine⟨fun hcc=>?_,fun hcc=>absurd (hIff.1 (by have:((I.length:Int) != (u1.length+u2.length+u3.length:Nat))=false:=hcc; simp at this; omega)) hjj⟩
  conv=>whnf
  repeat'(first|exact trivial|exact rfl|refine And.intro ?_ ?_|((conv=>whnf);first|exact trivial|exact rfl|refine And.intro ?_ ?_|omega))
 rw [if_pos hjj] at e
 have hIl:=hIff.2 hjj
 by_cases hc0:co=0
 rotate_left
 ·rw [if_neg hc0] at e
  rw [e]
  refine triple_of tB_ok Tryz.func58 rfl Tryz.call58 rfl ?_
  intro ρ w hH
  conv=>whnf
  refine bsN_step tB_ok (aRows 4 [0,1,2,3,4,5,6,7] [[.s 0 0 a.bs.length 6, .s 2 0 a.cs.length 5, .s 3 0 a.ns.length 6, .s 1 0 a.ws.length 8],[.s 4 0 b.bs.length 6, .s 6 0 b.cs.length 5, .s 7 0 b.ns.length 6, .s 5 0 b.ws.length 8]]) rfl ?_
  conv=>whnf
  refine⟨(by repeat'(first|exact trivial|exact rfl|refine And.intro ?_ ?_|((conv=>whnf);first|exact trivial|exact rfl|refine And.intro ?_ ?_|omega))), ?_⟩
  conv=>whnf
  refine loop_step tB_ok (G:=Nat) 0 [] (fun i=>[(16,iv .i64 i)]) (fun _=>[]) (fun i=>i≤2) (fun i=>2 - i) ?_
  conv=>whnf
  refine⟨⟨0,by decide, ?_⟩, ?_⟩
  ·conv=>whnf
   repeat'(first|exact trivial|exact rfl|refine And.intro ?_ ?_|((conv=>whnf);first|exact trivial|exact rfl|refine And.intro ?_ ?_|omega))
  intro i hi ρ1 t1 hρ1
  rcases (by omega:i=0 ∨ i=1 ∨ i=2) with rfl | rfl | rfl
  ·skip
   conv=>whnf
   refine⟨fun hc=>?_,fun hc=>absurd (show decide (((0:Nat):Int) < 2)=false from hc) (by decide)⟩
   conv=>whnf
   refine⟨0,rfl,by decide,by show 0 < 2; decide, ?_⟩
   conv=>whnf
   refine call_step hCa (by exact rfl) (by exact rfl) ?_
   conv=>whnf
   refine⟨?_, ?_, ?_⟩
   iterate 2 · repeat'(first|exact trivial|exact rfl|refine And.intro ?_ ?_|((conv=>whnf);first|exact trivial|exact rfl|refine And.intro ?_ ?_|omega))
   conv=>whnf
   refine⟨fun hc=>absurd hc (by simp),fun hc=>?_⟩
   conv=>whnf
   refine⟨1,rfl, ?_⟩
   refine⟨1,by decide,by decide, ?_⟩
   conv=>whnf
   refine⟨rfl, ?_⟩
   conv=>whnf
   repeat'(first|exact trivial|exact rfl|refine And.intro ?_ ?_|((conv=>whnf);first|exact trivial|exact rfl|refine And.intro ?_ ?_|omega))
  ·skip
   conv=>whnf
   refine⟨fun hc=>?_,fun hc=>absurd (show decide (((1:Nat):Int) < 2)=false from hc) (by decide)⟩
   conv=>whnf
   refine⟨1,rfl,by decide,by show 1 < 2; decide, ?_⟩
   conv=>whnf
   refine call_step hCb (by exact rfl) (by exact rfl) ?_
   conv=>whnf
   refine⟨?_, ?_, ?_⟩
   iterate 2 · repeat'(first|exact trivial|exact rfl|refine And.intro ?_ ?_|((conv=>whnf);first|exact trivial|exact rfl|refine And.intro ?_ ?_|omega))
   conv=>whnf
   refine⟨fun hc=>absurd hc (by simp),fun hc=>?_⟩
   conv=>whnf
   refine⟨2,rfl, ?_⟩
   refine⟨2,by decide,by decide, ?_⟩
   conv=>whnf
   refine⟨rfl, ?_⟩
   conv=>whnf
   repeat'(first|exact trivial|exact rfl|refine And.intro ?_ ?_|((conv=>whnf);first|exact trivial|exact rfl|refine And.intro ?_ ?_|omega))
  conv=>whnf
  refine⟨fun hc=>absurd (show decide (((2:Nat):Int) < 2)=true from hc) (by decide),fun hc=>?_⟩
  conv=>whnf
  refine call_step hj0 (by exact rfl) (by exact rfl) ?_
  conv=>whnf
  refine⟨?_, ?_, ?_⟩
  iterate 2 · repeat'(first|exact trivial|exact rfl|refine And.intro ?_ ?_|((conv=>whnf);first|exact trivial|exact rfl|refine And.intro ?_ ?_|omega))
  conv=>whnf
  refine⟨0,rfl,by decide, ?_⟩
  conv=>whnf
  refine call_step hj1 (by exact rfl) (by exact rfl) ?_
  conv=>whnf
  refine⟨?_, ?_, ?_⟩
  iterate 2 · repeat'(first|exact trivial|exact rfl|refine And.intro ?_ ?_|((conv=>whnf);first|exact trivial|exact rfl|refine And.intro ?_ ?_|omega))
  conv=>whnf
  refine⟨1,rfl,by decide, ?_⟩
  conv=>whnf
  refine call_step hj2 (by exact rfl) (by exact rfl) ?_
  conv=>whnf
  refine⟨?_, ?_, ?_⟩
  iterate 2 · repeat'(first|exact trivial|exact rfl|refine And.intro ?_ ?_|((conv=>whnf);first|exact trivial|exact rfl|refine And.intro ?_ ?_|omega))
  conv=>whnf
  refine⟨2,rfl,by decide, ?_⟩
  conv=>whnf
  refine call_step hj3 (by exact rfl) (by exact rfl) ?_
  conv=>whnf
  refine⟨?_, ?_, ?_⟩
  iterate 2 · repeat'(first|exact trivial|exact rfl|refine And.intro ?_ ?_|((conv=>whnf);first|exact trivial|exact rfl|refine And.intro ?_ ?_|omega))
  conv=>whnf
  refine⟨3,rfl,by decide, ?_⟩
  conv=>whnf
  refine⟨fun hg=>absurd (show (false:Bool)=true from hg) (by decide),fun hg=>?_⟩
  conv=>whnf
  refine call_step hI (by exact rfl) (by exact rfl) ?_
  conv=>whnf
  refine⟨?_, ?_, ?_⟩
  iterate 2 · repeat'(first|exact trivial|exact rfl|refine And.intro ?_ ?_|((conv=>whnf);first|exact trivial|exact rfl|refine And.intro ?_ ?_|omega))
  conv=>whnf
  refine⟨((u1.length+u2.length:Nat):Int),(congrArg IntKind.i64.wrap (show (u1.length:Int)+u2.length=((u1.length+u2.length:Nat):Int) by omega)).trans (wrapId ⟨by omega,by omega⟩), ?_⟩
  conv=>whnf
  refine⟨((u1.length+u2.length+u3.length:Nat):Int),(congrArg IntKind.i64.wrap (show ((u1.length+u2.length:Nat):Int)+u3.length=((u1.length+u2.length+u3.length:Nat):Int) by omega)).trans (wrapId ⟨by omega,by omega⟩), ?_⟩
  conv=>whnf
  refine⟨fun hcc=>absurd (show ((I.length:Int) != (u1.length+u2.length+u3.length:Nat))=true from hcc) (by rw [hIl]; simp),fun hcc=>?_⟩
  conv=>whnf
  refine call_step hCo (by exact rfl) (by exact rfl) ?_
  conv=>whnf
  refine⟨?_, ?_, ?_⟩
  iterate 2 · repeat'(first|exact trivial|exact rfl|refine And.intro ?_ ?_|((conv=>whnf);first|exact trivial|exact rfl|refine And.intro ?_ ?_|omega))
  conv=>whnf
  refine⟨fun hcc=>?_,fun hcc=>absurd (by simpa using (show (co != 0)=false from hcc)) hc0⟩
  conv=>whnf
  repeat'(first|exact trivial|exact rfl|refine And.intro ?_ ?_|((conv=>whnf);first|exact trivial|exact rfl|refine And.intro ?_ ?_|omega))
 rw [if_pos hc0] at e
 rw [hc0] at hCo
 rw [e]
 dsimp only
 refine triple_of tB_ok Tryz.func58 rfl Tryz.call58 rfl ?_
 intro ρ w hH
 conv=>whnf
 refine bsN_step tB_ok (aRows 4 [0,1,2,3,4,5,6,7] [[.s 0 0 a.bs.length 6, .s 2 0 a.cs.length 5, .s 3 0 a.ns.length 6, .s 1 0 a.ws.length 8],[.s 4 0 b.bs.length 6, .s 6 0 b.cs.length 5, .s 7 0 b.ns.length 6, .s 5 0 b.ws.length 8]]) rfl ?_
 conv=>whnf
 refine⟨(by repeat'(first|exact trivial|exact rfl|refine And.intro ?_ ?_|((conv=>whnf);first|exact trivial|exact rfl|refine And.intro ?_ ?_|omega))), ?_⟩
 conv=>whnf
 refine loop_step tB_ok (G:=Nat) 0 [] (fun i=>[(16,iv .i64 i)]) (fun _=>[]) (fun i=>i≤2) (fun i=>2 - i) ?_
 conv=>whnf
 refine⟨⟨0,by decide, ?_⟩, ?_⟩
 ·conv=>whnf
  repeat'(first|exact trivial|exact rfl|refine And.intro ?_ ?_|((conv=>whnf);first|exact trivial|exact rfl|refine And.intro ?_ ?_|omega))
 intro i hi ρ1 t1 hρ1
 rcases (by omega:i=0 ∨ i=1 ∨ i=2) with rfl | rfl | rfl
 ·skip
  conv=>whnf
  refine⟨fun hc=>?_,fun hc=>absurd (show decide (((0:Nat):Int) < 2)=false from hc) (by decide)⟩
  conv=>whnf
  refine⟨0,rfl,by decide,by show 0 < 2; decide, ?_⟩
  conv=>whnf
  refine call_step hCa (by exact rfl) (by exact rfl) ?_
  conv=>whnf
  refine⟨?_, ?_, ?_⟩
  iterate 2 · repeat'(first|exact trivial|exact rfl|refine And.intro ?_ ?_|((conv=>whnf);first|exact trivial|exact rfl|refine And.intro ?_ ?_|omega))
  conv=>whnf
  refine⟨fun hc=>absurd hc (by simp),fun hc=>?_⟩
  conv=>whnf
  refine⟨1,rfl, ?_⟩
  refine⟨1,by decide,by decide, ?_⟩
  conv=>whnf
  refine⟨rfl, ?_⟩
  conv=>whnf
  repeat'(first|exact trivial|exact rfl|refine And.intro ?_ ?_|((conv=>whnf);first|exact trivial|exact rfl|refine And.intro ?_ ?_|omega))
 ·skip
  conv=>whnf
  refine⟨fun hc=>?_,fun hc=>absurd (show decide (((1:Nat):Int) < 2)=false from hc) (by decide)⟩
  conv=>whnf
  refine⟨1,rfl,by decide,by show 1 < 2; decide, ?_⟩
  conv=>whnf
  refine call_step hCb (by exact rfl) (by exact rfl) ?_
  conv=>whnf
  refine⟨?_, ?_, ?_⟩
  iterate 2 · repeat'(first|exact trivial|exact rfl|refine And.intro ?_ ?_|((conv=>whnf);first|exact trivial|exact rfl|refine And.intro ?_ ?_|omega))
  conv=>whnf
  refine⟨fun hc=>absurd hc (by simp),fun hc=>?_⟩
  conv=>whnf
  refine⟨2,rfl, ?_⟩
  refine⟨2,by decide,by decide, ?_⟩
  conv=>whnf
  refine⟨rfl, ?_⟩
  conv=>whnf
  repeat'(first|exact trivial|exact rfl|refine And.intro ?_ ?_|((conv=>whnf);first|exact trivial|exact rfl|refine And.intro ?_ ?_|omega))
 conv=>whnf
 refine⟨fun hc=>absurd (show decide (((2:Nat):Int) < 2)=true from hc) (by decide),fun hc=>?_⟩
 conv=>whnf
 refine call_step hj0 (by exact rfl) (by exact rfl) ?_
 conv=>whnf
 refine⟨?_, ?_, ?_⟩
 iterate 2 · repeat'(first|exact trivial|exact rfl|refine And.intro ?_ ?_|((conv=>whnf);first|exact trivial|exact rfl|refine And.intro ?_ ?_|omega))
 conv=>whnf
 refine⟨0,rfl,by decide, ?_⟩
 conv=>whnf
 refine call_step hj1 (by exact rfl) (by exact rfl) ?_
 conv=>whnf
 refine⟨?_, ?_, ?_⟩
 iterate 2 · repeat'(first|exact trivial|exact rfl|refine And.intro ?_ ?_|((conv=>whnf);first|exact trivial|exact rfl|refine And.intro ?_ ?_|omega))
 conv=>whnf
 refine⟨1,rfl,by decide, ?_⟩
 conv=>whnf
 refine call_step hj2 (by exact rfl) (by exact rfl) ?_
 conv=>whnf
 refine⟨?_, ?_, ?_⟩
 iterate 2 · repeat'(first|exact trivial|exact rfl|refine And.intro ?_ ?_|((conv=>whnf);first|exact trivial|exact rfl|refine And.intro ?_ ?_|omega))
 conv=>whnf
 refine⟨2,rfl,by decide, ?_⟩
 conv=>whnf
 refine call_step hj3 (by exact rfl) (by exact rfl) ?_
 conv=>whnf
 refine⟨?_, ?_, ?_⟩
 iterate 2 · repeat'(first|exact trivial|exact rfl|refine And.intro ?_ ?_|((conv=>whnf);first|exact trivial|exact rfl|refine And.intro ?_ ?_|omega))
 conv=>whnf
 refine⟨3,rfl,by decide, ?_⟩
 conv=>whnf
 refine⟨fun hg=>absurd (show (false:Bool)=true from hg) (by decide),fun hg=>?_⟩
 conv=>whnf
 refine call_step hI (by exact rfl) (by exact rfl) ?_
 conv=>whnf
 refine⟨?_, ?_, ?_⟩
 iterate 2 · repeat'(first|exact trivial|exact rfl|refine And.intro ?_ ?_|((conv=>whnf);first|exact trivial|exact rfl|refine And.intro ?_ ?_|omega))
 conv=>whnf
 refine⟨((u1.length+u2.length:Nat):Int),(congrArg IntKind.i64.wrap (show (u1.length:Int)+u2.length=((u1.length+u2.length:Nat):Int) by omega)).trans (wrapId ⟨by omega,by omega⟩), ?_⟩
 conv=>whnf
 refine⟨((u1.length+u2.length+u3.length:Nat):Int),(congrArg IntKind.i64.wrap (show ((u1.length+u2.length:Nat):Int)+u3.length=((u1.length+u2.length+u3.length:Nat):Int) by omega)).trans (wrapId ⟨by omega,by omega⟩), ?_⟩
 conv=>whnf
 refine⟨fun hcc=>absurd (show ((I.length:Int) != (u1.length+u2.length+u3.length:Nat))=true from hcc) (by rw [hIl]; simp),fun hcc=>?_⟩
 conv=>whnf
 refine call_step hCo (by exact rfl) (by exact rfl) ?_
 conv=>whnf
 refine⟨?_, ?_, ?_⟩
 iterate 2 · repeat'(first|exact trivial|exact rfl|refine And.intro ?_ ?_|((conv=>whnf);first|exact trivial|exact rfl|refine And.intro ?_ ?_|omega))
 conv=>whnf
 refine⟨fun hc=>absurd hc (by simp),fun hc=>?_⟩
 conv=>whnf
 repeat'(first|exact trivial|exact rfl|refine And.intro ?_ ?_|((conv=>whnf);first|exact trivial|exact rfl|refine And.intro ?_ ?_|omega))

end Go.Proofs

namespace Go.Proofs
open Go.Sx

end Go.Proofs

namespace Go.Proofs
open Go.Sx

end Go.Proofs

namespace Go.Proofs
open Go.Sx

theorem all_snoc {α:Type} {l:List α} {P:α → Prop} {i:Nat} (h:i < l.length) (hn:∀ x ∈ l.take i,P x) (hp:P l[i]):∀ x ∈ l.take (i+1),P x:=by
 intro x hx
 rw [take_snoc h] at hx
 rcases List.mem_append.1 hx with hx | hx
 ·exact hn x hx
 ·simp only [List.mem_singleton] at hx; rw [hx]; exact hp

end Go.Proofs

namespace Go.Proofs
open Go.Sx

theorem rSameChk_t (r:Rd) (x:Chk) (hs:Sml r):Triple Tryz.prog 135 [rdA r,svChk x] (rdH r) 4 (bv (r.cs.contains x)) []:=by
 have hl:=hs.cs
 have hyes:∀ (i:Nat) (h:i < r.cs.length),r.cs[i]=x → r.cs.contains x=true:=fun i h he=>by rw [← he]; simp
 have hno:(∀ y ∈ r.cs,y ≠ x) → r.cs.contains x=false:=fun h=>by rw [Bool.eq_false_iff]; intro hc; exact h x (List.contains_iff_mem.1 hc) rfl
 generalize r.cs.contains x=R at *
 clear hs
 obtain ⟨bs,cs,ns,ws⟩:=r
 dsimp only at *
 refine triple_of tB_ok Tryz.func135 rfl Tryz.call135 rfl ?_
 intro ρ w hH
 conv=>whnf
 refine loop_step tB_ok (G:=Nat) 0 [] (fun i=>[(5,iv .i64 i)]) (fun _=>[]) (fun i=>i≤cs.length∧∀ y ∈ cs.take i,y ≠ x) (fun i=>cs.length - i) ?_
 conv=>whnf
 refine⟨⟨0,⟨Nat.zero_le _,by simp⟩, ?_⟩, ?_⟩
 ·conv=>whnf
  repeat'(first|exact trivial|exact rfl|refine And.intro ?_ ?_|((conv=>whnf);first|exact trivial|exact rfl|refine And.intro ?_ ?_|omega))
 rintro i ⟨hi,hn⟩ ρ1 t1 hρ1
 conv=>whnf
 refine⟨fun hc=>?_,fun hc=>?_⟩
 ·have hlt:i < cs.length:=by simpa using hc
  conv=>whnf
  refine⟨i,rfl,hlt,hlt, ?_⟩
  conv=>whnf
  refine⟨fun hc2=>?_,fun hc2=>?_⟩
  ·have h1:cs[i]=x:=eqChk_t (show eqChk cs[i] x=true from hc2)
   rw [hyes i hlt h1]
   conv=>whnf
   repeat'(first|exact trivial|exact rfl|refine And.intro ?_ ?_|((conv=>whnf);first|exact trivial|exact rfl|refine And.intro ?_ ?_|omega))
  ·have h1:¬ cs[i]=x:=fun he=>by
    have h2:eqChk cs[i] x=false:=hc2
    rw [he,eqChk_r] at h2; cases h2
   conv=>whnf
   refine⟨_,wrapId ⟨by omega,by omega⟩, ?_⟩
   refine⟨i+1,⟨hlt,all_snoc hlt hn h1⟩,by show cs.length - (i+1) < cs.length - i; omega, ?_⟩
   conv=>whnf
   refine⟨rfl, ?_⟩
   conv=>whnf
   repeat'(first|exact trivial|exact rfl|refine And.intro ?_ ?_|((conv=>whnf);first|exact trivial|exact rfl|refine And.intro ?_ ?_|omega))
 ·have hie:i=cs.length:=by simp at hc; omega
  subst hie
  rw [List.take_length] at hn
  rw [hno hn]
  conv=>whnf
  repeat'(first|exact trivial|exact rfl|refine And.intro ?_ ?_|((conv=>whnf);first|exact trivial|exact rfl|refine And.intro ?_ ?_|omega))
theorem rSameNtc_t (r:Rd) (x:Ntc) (hs:Sml r):Triple Tryz.prog 136 [rdA r,svNtc x] (rdH r) 4 (bv (r.ns.contains x)) []:=by
 have hl:=hs.ns
 have hyes:∀ (i:Nat) (h:i < r.ns.length),r.ns[i]=x → r.ns.contains x=true:=fun i h he=>by rw [← he]; simp
 have hno:(∀ y ∈ r.ns,y ≠ x) → r.ns.contains x=false:=fun h=>by rw [Bool.eq_false_iff]; intro hc; exact h x (List.contains_iff_mem.1 hc) rfl
 generalize r.ns.contains x=R at *
 clear hs
 obtain ⟨bs,cs,ns,ws⟩:=r
 dsimp only at *
 refine triple_of tB_ok Tryz.func136 rfl Tryz.call136 rfl ?_
 intro ρ w hH
 conv=>whnf
 refine loop_step tB_ok (G:=Nat) 0 [] (fun i=>[(5,iv .i64 i)]) (fun _=>[]) (fun i=>i≤ns.length∧∀ y ∈ ns.take i,y ≠ x) (fun i=>ns.length - i) ?_
 conv=>whnf
 refine⟨⟨0,⟨Nat.zero_le _,by simp⟩, ?_⟩, ?_⟩
 ·conv=>whnf
  repeat'(first|exact trivial|exact rfl|refine And.intro ?_ ?_|((conv=>whnf);first|exact trivial|exact rfl|refine And.intro ?_ ?_|omega))
 rintro i ⟨hi,hn⟩ ρ1 t1 hρ1
 conv=>whnf
 refine⟨fun hc=>?_,fun hc=>?_⟩
 ·have hlt:i < ns.length:=by simpa using hc
  conv=>whnf
  refine⟨i,rfl,hlt,hlt, ?_⟩
  conv=>whnf
  refine⟨fun hc2=>?_,fun hc2=>?_⟩
  ·have h1:ns[i]=x:=eqNtc_t (show eqNtc ns[i] x=true from hc2)
   rw [hyes i hlt h1]
   conv=>whnf
   repeat'(first|exact trivial|exact rfl|refine And.intro ?_ ?_|((conv=>whnf);first|exact trivial|exact rfl|refine And.intro ?_ ?_|omega))
  ·have h1:¬ ns[i]=x:=fun he=>by
    have h2:eqNtc ns[i] x=false:=hc2
    rw [he,eqNtc_r] at h2; cases h2
   conv=>whnf
   refine⟨_,wrapId ⟨by omega,by omega⟩, ?_⟩
   refine⟨i+1,⟨hlt,all_snoc hlt hn h1⟩,by show ns.length - (i+1) < ns.length - i; omega, ?_⟩
   conv=>whnf
   refine⟨rfl, ?_⟩
   conv=>whnf
   repeat'(first|exact trivial|exact rfl|refine And.intro ?_ ?_|((conv=>whnf);first|exact trivial|exact rfl|refine And.intro ?_ ?_|omega))
 ·have hie:i=ns.length:=by simp at hc; omega
  subst hie
  rw [List.take_length] at hn
  rw [hno hn]
  conv=>whnf
  repeat'(first|exact trivial|exact rfl|refine And.intro ?_ ?_|((conv=>whnf);first|exact trivial|exact rfl|refine And.intro ?_ ?_|omega))
theorem rSameWgh_t (r:Rd) (x:Wgh) (hs:Sml r):Triple Tryz.prog 137 [rdA r,svWgh x] (rdH r) 4 (bv (r.ws.contains x)) []:=by
 have hl:=hs.ws
 have hyes:∀ (i:Nat) (h:i < r.ws.length),r.ws[i]=x → r.ws.contains x=true:=fun i h he=>by rw [← he]; simp
 have hno:(∀ y ∈ r.ws,y ≠ x) → r.ws.contains x=false:=fun h=>by rw [Bool.eq_false_iff]; intro hc; exact h x (List.contains_iff_mem.1 hc) rfl
 generalize r.ws.contains x=R at *
 clear hs
 obtain ⟨bs,cs,ns,ws⟩:=r
 dsimp only at *
 refine triple_of tB_ok Tryz.func137 rfl Tryz.call137 rfl ?_
 intro ρ w hH
 conv=>whnf
 refine loop_step tB_ok (G:=Nat) 0 [] (fun i=>[(5,iv .i64 i)]) (fun _=>[]) (fun i=>i≤ws.length∧∀ y ∈ ws.take i,y ≠ x) (fun i=>ws.length - i) ?_
 conv=>whnf
 refine⟨⟨0,⟨Nat.zero_le _,by simp⟩, ?_⟩, ?_⟩
 ·conv=>whnf
  repeat'(first|exact trivial|exact rfl|refine And.intro ?_ ?_|((conv=>whnf);first|exact trivial|exact rfl|refine And.intro ?_ ?_|omega))
 rintro i ⟨hi,hn⟩ ρ1 t1 hρ1
 conv=>whnf
 refine⟨fun hc=>?_,fun hc=>?_⟩
 ·have hlt:i < ws.length:=by simpa using hc
  conv=>whnf
  refine⟨i,rfl,hlt,hlt, ?_⟩
  conv=>whnf
  refine⟨fun hc2=>?_,fun hc2=>?_⟩
  ·have h1:ws[i]=x:=eqWgh_t (show eqWgh ws[i] x=true from hc2)
   rw [hyes i hlt h1]
   conv=>whnf
   repeat'(first|exact trivial|exact rfl|refine And.intro ?_ ?_|((conv=>whnf);first|exact trivial|exact rfl|refine And.intro ?_ ?_|omega))
  ·have h1:¬ ws[i]=x:=fun he=>by
    have h2:eqWgh ws[i] x=false:=hc2
    rw [he,eqWgh_r] at h2; cases h2
   conv=>whnf
   refine⟨_,wrapId ⟨by omega,by omega⟩, ?_⟩
   refine⟨i+1,⟨hlt,all_snoc hlt hn h1⟩,by show ws.length - (i+1) < ws.length - i; omega, ?_⟩
   conv=>whnf
   refine⟨rfl, ?_⟩
   conv=>whnf
   repeat'(first|exact trivial|exact rfl|refine And.intro ?_ ?_|((conv=>whnf);first|exact trivial|exact rfl|refine And.intro ?_ ?_|omega))
 ·have hie:i=ws.length:=by simp at hc; omega
  subst hie
  rw [List.take_length] at hn
  rw [hno hn]
  conv=>whnf
  repeat'(first|exact trivial|exact rfl|refine And.intro ?_ ?_|((conv=>whnf);first|exact trivial|exact rfl|refine And.intro ?_ ?_|omega))

theorem rWithoutN_t (r:Rd) (ids:List Int) (hs:Sml r) (hi:ids.length≤100000) (h:checkR r ≠ 0 ∨ ids.any outP=true):Triple Tryz.prog 65 [rdA r, .c (.s 4 0 ids.length 1)] (rdH r ++ [(4,false, .arr (aInt ids))]) 5
  (retRd 5 6 7 8 (woutR r ids)) (ownRd 5 6 7 8 (woutR r ids).1):=by
 have hC:=rCheck_t r hs
 have e:woutR r ids=if checkR r=0 then (bif ids.any outP then (zRd,1) else (lessR r ids,0)) else (zRd,checkR r):=rfl
 generalize checkR r=c at *
 by_cases h0:c=0
 rotate_left
 ·rw [if_neg h0] at e
  rw [e]
  refine triple_of tB_ok Tryz.func65 rfl Tryz.call65 rfl ?_
  intro ρ w hH
  conv=>whnf
  refine call_step hC (by exact rfl) (by exact rfl) ?_
  conv=>whnf
  refine⟨?_, ?_, ?_⟩
  iterate 2 · repeat'(first|exact trivial|exact rfl|refine And.intro ?_ ?_|((conv=>whnf);first|exact trivial|exact rfl|refine And.intro ?_ ?_|omega))
  conv=>whnf
  refine⟨fun hcc=>?_,fun hcc=>absurd (by simpa using (show (c != 0)=false from hcc)) h0⟩
  conv=>whnf
  repeat'(first|exact trivial|exact rfl|refine And.intro ?_ ?_|((conv=>whnf);first|exact trivial|exact rfl|refine And.intro ?_ ?_|omega))
 subst h0
 have hA:ids.any outP=true:=h.resolve_left (by simp)
 rw [if_pos rfl,hA] at e
 have e:woutR r ids=(zRd,1):=e
 rw [e]
 refine triple_of tB_ok Tryz.func65 rfl Tryz.call65 rfl ?_
 intro ρ w hH
 conv=>whnf
 refine call_step hC (by exact rfl) (by exact rfl) ?_
 conv=>whnf
 refine⟨?_, ?_, ?_⟩
 iterate 2 · repeat'(first|exact trivial|exact rfl|refine And.intro ?_ ?_|((conv=>whnf);first|exact trivial|exact rfl|refine And.intro ?_ ?_|omega))
 conv=>whnf
 refine⟨fun hc=>absurd hc (by simp),fun hc=>?_⟩
 conv=>whnf
 refine loop_step tB_ok (G:=Nat) 0 [] (fun i=>[(7,iv .i64 i)]) (fun _=>[]) (fun i=>i≤ids.length∧∀ y ∈ ids.take i,outP y=false) (fun i=>ids.length - i) ?_
 conv=>whnf
 refine⟨⟨0,⟨Nat.zero_le _,by simp⟩, ?_⟩, ?_⟩
 ·conv=>whnf
  repeat'(first|exact trivial|exact rfl|refine And.intro ?_ ?_|((conv=>whnf);first|exact trivial|exact rfl|refine And.intro ?_ ?_|omega))
 rintro i ⟨hi',hn⟩ ρ1 t1 hρ1
 conv=>whnf
 refine⟨fun hc=>?_,fun hc=>?_⟩
 ·have hlt:i < ids.length:=by simpa using hc
  conv=>whnf
  refine⟨i,rfl,hlt,hlt, ?_⟩
  conv=>whnf
  refine call_step (rIn_t ids[i] 1 1099511627776) (by exact rfl) (by exact rfl) ?_
  conv=>whnf
  refine⟨?_, ?_, ?_⟩
  iterate 2 · repeat'(first|exact trivial|exact rfl|refine And.intro ?_ ?_|((conv=>whnf);first|exact trivial|exact rfl|refine And.intro ?_ ?_|omega))
  conv=>whnf
  refine⟨fun hc2=>?_,fun hc2=>?_⟩
  ·conv=>whnf
   repeat'(first|exact trivial|exact rfl|refine And.intro ?_ ?_|((conv=>whnf);first|exact trivial|exact rfl|refine And.intro ?_ ?_|omega))
  ·conv=>whnf
   refine⟨_,wrapId ⟨by omega,by omega⟩, ?_⟩
   refine⟨i+1,⟨hlt,all_snoc hlt hn (show outP ids[i]=false from hc2)⟩,by show ids.length - (i+1) < ids.length - i; omega, ?_⟩
   conv=>whnf
   refine⟨rfl, ?_⟩
   conv=>whnf
   repeat'(first|exact trivial|exact rfl|refine And.intro ?_ ?_|((conv=>whnf);first|exact trivial|exact rfl|refine And.intro ?_ ?_|omega))
 ·have hie:i=ids.length:=by simp at hc; omega
  subst hie
  rw [List.take_length] at hn
  rw [List.any_eq_false.2 fun x hx=>by rw [hn x hx]; simp] at hA
  cases hA

theorem rWithoutY_t (r:Rd) (ids:List Int) (hs:Sml r) (hi:ids.length≤100000) (h0:checkR r=0) (hA:ids.any outP=false):Triple Tryz.prog 65 [rdA r, .c (.s 4 0 ids.length 1)] (rdH r ++ [(4,false, .arr (aInt ids))]) 5
  (.tup [.inr [.s 0 0 (lessR r ids).bs.length 6, .s 5 0 (lessR r ids).cs.length 5, .s 6 0 (lessR r ids).ns.length 6, .s 7 0 (lessR r ids).ws.length 8], .inl (.v (.int .i64 0))])
  [(5,true, .arr (aChk (lessR r ids).cs)),(6,true, .arr (aNtc (lessR r ids).ns)),(7,true, .arr (aWgh (lessR r ids).ws))]:=by
 have hC:=rCheck_t r hs
 have hL:=rLess_t r ids hs (by omega)
 rw [h0] at hC
 have hA:=fun x hx=>List.any_eq_false.1 hA x hx
 generalize lessR r ids=q at *
 obtain ⟨b',c',n',w'⟩:=q
 dsimp only at *
 refine triple_of tB_ok Tryz.func65 rfl Tryz.call65 rfl ?_
 intro ρ w hH
 conv=>whnf
 refine call_step hC (by exact rfl) (by exact rfl) ?_
 conv=>whnf
 refine⟨?_, ?_, ?_⟩
 iterate 2 · repeat'(first|exact trivial|exact rfl|refine And.intro ?_ ?_|((conv=>whnf);first|exact trivial|exact rfl|refine And.intro ?_ ?_|omega))
 conv=>whnf
 refine⟨fun hc=>absurd hc (by simp),fun hc=>?_⟩
 conv=>whnf
 refine loop_step tB_ok (G:=Nat) 0 [] (fun i=>[(7,iv .i64 i)]) (fun _=>[]) (fun i=>i≤ids.length) (fun i=>ids.length - i) ?_
 conv=>whnf
 refine⟨⟨0,Nat.zero_le _, ?_⟩, ?_⟩
 ·conv=>whnf
  repeat'(first|exact trivial|exact rfl|refine And.intro ?_ ?_|((conv=>whnf);first|exact trivial|exact rfl|refine And.intro ?_ ?_|omega))
 rintro i hi' ρ1 t1 hρ1
 conv=>whnf
 refine⟨fun hc=>?_,fun hc=>?_⟩
 ·have hlt:i < ids.length:=by simpa using hc
  conv=>whnf
  refine⟨i,rfl,hlt,hlt, ?_⟩
  conv=>whnf
  refine call_step (rIn_t ids[i] 1 1099511627776) (by exact rfl) (by exact rfl) ?_
  conv=>whnf
  refine⟨?_, ?_, ?_⟩
  iterate 2 · repeat'(first|exact trivial|exact rfl|refine And.intro ?_ ?_|((conv=>whnf);first|exact trivial|exact rfl|refine And.intro ?_ ?_|omega))
  conv=>whnf
  refine⟨fun hc2=>absurd (show outP ids[i]=true from hc2) (hA _ (List.getElem_mem hlt)),fun hc2=>?_⟩
  conv=>whnf
  refine⟨_,wrapId ⟨by omega,by omega⟩, ?_⟩
  refine⟨i+1,hlt,by show ids.length - (i+1) < ids.length - i; omega, ?_⟩
  conv=>whnf
  refine⟨rfl, ?_⟩
  conv=>whnf
  repeat'(first|exact trivial|exact rfl|refine And.intro ?_ ?_|((conv=>whnf);first|exact trivial|exact rfl|refine And.intro ?_ ?_|omega))
 ·have hie:i=ids.length:=by simp at hc; omega
  subst hie
  conv=>whnf
  refine call_step hL (by exact rfl) (by exact rfl) ?_
  conv=>whnf
  refine⟨?_, ?_, ?_⟩
  iterate 2 · repeat'(first|exact trivial|exact rfl|refine And.intro ?_ ?_|((conv=>whnf);first|exact trivial|exact rfl|refine And.intro ?_ ?_|omega))
  conv=>whnf
  repeat'(first|exact trivial|exact rfl|refine And.intro ?_ ?_|((conv=>whnf);first|exact trivial|exact rfl|refine And.intro ?_ ?_|omega))

theorem rSame_t (r:Rd) (hs:Sml r):Triple Tryz.prog 59 (mgA r r) (mgH r r) 8 (bv true) []:=by
 obtain ⟨h1,h2,h3,h4⟩:=hs
 obtain ⟨bs,cs,ns,ws⟩:=r
 dsimp only at *
 refine triple_of tB_ok Tryz.func59 rfl Tryz.call59 rfl ?_
 intro ρ w hH
 conv=>whnf
 refine⟨fun hc=>absurd (show ((bs.length:Int) != bs.length)=true from hc) (by simp),fun hc=>?_⟩
 conv=>whnf
 refine⟨fun hc=>absurd (show ((cs.length:Int) != cs.length)=true from hc) (by simp),fun hc=>?_⟩
 conv=>whnf
 refine⟨fun hc=>absurd (show ((ns.length:Int) != ns.length)=true from hc) (by simp),fun hc=>?_⟩
 conv=>whnf
 refine⟨fun hc=>absurd (show ((ws.length:Int) != ws.length)=true from hc) (by simp),fun hc=>?_⟩
 conv=>whnf
 refine loop_step tB_ok (G:=Nat) 0 [] (fun i=>[(5,iv .i64 i)]) (fun _=>[]) (fun i=>i≤bs.length) (fun i=>bs.length - i) ?_
 conv=>whnf
 refine⟨⟨0,Nat.zero_le _, ?_⟩, ?_⟩
 ·conv=>whnf
  repeat'(first|exact trivial|exact rfl|refine And.intro ?_ ?_|((conv=>whnf);first|exact trivial|exact rfl|refine And.intro ?_ ?_|omega))
 rintro i hi ρ1 t1 hρ1
 conv=>whnf
 refine⟨fun hc=>?_,fun hc=>?_⟩
 ·have hlt:i < bs.length:=by simpa using hc
  conv=>whnf
  refine⟨i,rfl,hlt,hlt, ?_⟩
  conv=>whnf
  refine⟨i,rfl,hlt,hlt, ?_⟩
  conv=>whnf
  refine⟨fun hc2=>?_,fun hc2=>?_⟩
  ·have h2:(!eqBal bs[i] bs[i])=true:=hc2
   rw [eqBal_r] at h2; cases h2
  ·conv=>whnf
   refine⟨_,wrapId ⟨by omega,by omega⟩, ?_⟩
   refine⟨i+1,hlt,by show bs.length - (i+1) < bs.length - i; omega, ?_⟩
   conv=>whnf
   refine⟨rfl, ?_⟩
   conv=>whnf
   repeat'(first|exact trivial|exact rfl|refine And.intro ?_ ?_|((conv=>whnf);first|exact trivial|exact rfl|refine And.intro ?_ ?_|omega))
 have hie:i=bs.length:=by simp at hc; omega
 subst hie
 conv=>whnf
 refine loop_step tB_ok (G:=Nat) 0 [] (fun i=>[(6,iv .i64 i)]) (fun _=>[]) (fun i=>i≤cs.length) (fun i=>cs.length - i) ?_
 conv=>whnf
 refine⟨⟨0,Nat.zero_le _, ?_⟩, ?_⟩
 ·conv=>whnf
  repeat'(first|exact trivial|exact rfl|refine And.intro ?_ ?_|((conv=>whnf);first|exact trivial|exact rfl|refine And.intro ?_ ?_|omega))
 rintro i hi ρ1 t1 hρ1
 conv=>whnf
 refine⟨fun hc=>?_,fun hc=>?_⟩
 ·have hlt:i < cs.length:=by simpa using hc
  conv=>whnf
  refine⟨i,rfl,hlt,hlt, ?_⟩
  conv=>whnf
  refine⟨i,rfl,hlt,hlt, ?_⟩
  conv=>whnf
  refine⟨fun hc2=>?_,fun hc2=>?_⟩
  ·have h2:(!eqChk cs[i] cs[i])=true:=hc2
   rw [eqChk_r] at h2; cases h2
  ·conv=>whnf
   refine⟨_,wrapId ⟨by omega,by omega⟩, ?_⟩
   refine⟨i+1,hlt,by show cs.length - (i+1) < cs.length - i; omega, ?_⟩
   conv=>whnf
   refine⟨rfl, ?_⟩
   conv=>whnf
   repeat'(first|exact trivial|exact rfl|refine And.intro ?_ ?_|((conv=>whnf);first|exact trivial|exact rfl|refine And.intro ?_ ?_|omega))
 have hie:i=cs.length:=by simp at hc; omega
 subst hie
 conv=>whnf
 refine loop_step tB_ok (G:=Nat) 0 [] (fun i=>[(7,iv .i64 i)]) (fun _=>[]) (fun i=>i≤ns.length) (fun i=>ns.length - i) ?_
 conv=>whnf
 refine⟨⟨0,Nat.zero_le _, ?_⟩, ?_⟩
 ·conv=>whnf
  repeat'(first|exact trivial|exact rfl|refine And.intro ?_ ?_|((conv=>whnf);first|exact trivial|exact rfl|refine And.intro ?_ ?_|omega))
 rintro i hi ρ1 t1 hρ1
 conv=>whnf
 refine⟨fun hc=>?_,fun hc=>?_⟩
 ·have hlt:i < ns.length:=by simpa using hc
  conv=>whnf
  refine⟨i,rfl,hlt,hlt, ?_⟩
  conv=>whnf
  refine⟨i,rfl,hlt,hlt, ?_⟩
  conv=>whnf
  refine⟨fun hc2=>?_,fun hc2=>?_⟩
  ·have h2:(!eqNtc ns[i] ns[i])=true:=hc2
   rw [eqNtc_r] at h2; cases h2
  ·conv=>whnf
   refine⟨_,wrapId ⟨by omega,by omega⟩, ?_⟩
   refine⟨i+1,hlt,by show ns.length - (i+1) < ns.length - i; omega, ?_⟩
   conv=>whnf
   refine⟨rfl, ?_⟩
   conv=>whnf
   repeat'(first|exact trivial|exact rfl|refine And.intro ?_ ?_|((conv=>whnf);first|exact trivial|exact rfl|refine And.intro ?_ ?_|omega))
 have hie:i=ns.length:=by simp at hc; omega
 subst hie
 conv=>whnf
 refine loop_step tB_ok (G:=Nat) 0 [] (fun i=>[(8,iv .i64 i)]) (fun _=>[]) (fun i=>i≤ws.length) (fun i=>ws.length - i) ?_
 conv=>whnf
 refine⟨⟨0,Nat.zero_le _, ?_⟩, ?_⟩
 ·conv=>whnf
  repeat'(first|exact trivial|exact rfl|refine And.intro ?_ ?_|((conv=>whnf);first|exact trivial|exact rfl|refine And.intro ?_ ?_|omega))
 rintro i hi ρ1 t1 hρ1
 conv=>whnf
 refine⟨fun hc=>?_,fun hc=>?_⟩
 ·have hlt:i < ws.length:=by simpa using hc
  conv=>whnf
  refine⟨i,rfl,hlt,hlt, ?_⟩
  conv=>whnf
  refine⟨i,rfl,hlt,hlt, ?_⟩
  conv=>whnf
  refine⟨fun hc2=>?_,fun hc2=>?_⟩
  ·have h2:(!eqWgh ws[i] ws[i])=true:=hc2
   rw [eqWgh_r] at h2; cases h2
  ·conv=>whnf
   refine⟨_,wrapId ⟨by omega,by omega⟩, ?_⟩
   refine⟨i+1,hlt,by show ws.length - (i+1) < ws.length - i; omega, ?_⟩
   conv=>whnf
   refine⟨rfl, ?_⟩
   conv=>whnf
   repeat'(first|exact trivial|exact rfl|refine And.intro ?_ ?_|((conv=>whnf);first|exact trivial|exact rfl|refine And.intro ?_ ?_|omega))
 have hie:i=ws.length:=by simp at hc; omega
 subst hie
 conv=>whnf
 repeat'(first|exact trivial|exact rfl|refine And.intro ?_ ?_|((conv=>whnf);first|exact trivial|exact rfl|refine And.intro ?_ ?_|omega))

end Go.Proofs

namespace Go
namespace Sx

end Sx
end Go

