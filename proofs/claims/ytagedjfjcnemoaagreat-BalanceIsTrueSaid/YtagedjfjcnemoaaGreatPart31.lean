/-
  A part of the proof that a law answers true: lemmas of a symbolic walk, plain functions, or contracts of the functions walked (RE, Ru, Rv, RJ, RK, RL, RM, Rz, RN, RR). Conditions: none.
-/
import Derived.Test.YtagedjfjcnemoaaGreatPart30
import Derived.Test.YtagedjfjcnemoaaGreatPart26
set_option maxRecDepth 100000
set_option linter.unusedVariables false
set_option linter.unusedSimpArgs false
namespace Go.Proofs
open Go.Sx

theorem fitVal_t (pt:List Int) (i:Int) (hi:i < pt.length):Triple Tryz.prog 131 [iv .i64 i, .c (.p 0 0 0 0)] [(0,false, .cells [.s 1 0 pt.length 1]),(1,false, .arr (aInt pt))] 2 (iv .i64 (ptV pt i)) []:=by
 have e:ptV pt i=if i < 0 then 0 else pt.getD i.toNat 0:=rfl
 generalize ptV pt i=R at *
 refine triple_of tB_ok Tryz.func131 rfl Tryz.call131 rfl ?_
 intro ρ w hH
 conv=>whnf
 refine⟨fun hc=>?_,fun hc=>?_⟩
 ·have h0:i < 0:=of_decide_eq_true (show decide (i < 0)=true from hc)
  rw [if_pos h0] at e
  subst e
  conv=>whnf
  repeat'(first|exact trivial|exact rfl|refine And.intro ?_ ?_|((conv=>whnf);first|exact trivial|exact rfl|refine And.intro ?_ ?_|omega))
 ·have h0:¬ i < 0:=of_decide_eq_false (show decide (i < 0)=false from hc)
  rw [if_neg h0] at e
  obtain ⟨k,rfl⟩:∃ k:Nat,i=k:=⟨i.toNat,by omega⟩
  have hk:k < pt.length:=by omega
  rw [Int.toNat_natCast,List.getD_eq_getElem?_getD,List.getElem?_eq_getElem hk] at e
  have e:R=pt[k]:=e
  subst e
  conv=>whnf
  refine⟨k,rfl,hk,hk, ?_⟩
  conv=>whnf
  repeat'(first|exact trivial|exact rfl|refine And.intro ?_ ?_|((conv=>whnf);first|exact trivial|exact rfl|refine And.intro ?_ ?_|omega))

abbrev trA (r:Rd) (ma sh:List Int):List SV:=[rdA r, .agg [.s 4 0 ma.length 1, .s 5 0 sh.length 1]]
abbrev trH (r:Rd) (ma sh:List Int):Heap:=rdH r ++ [(4,false, .arr (aInt ma)),(5,false, .arr (aInt sh))]

theorem fits_eq (r:Rd) (ma sh:List Int):fitsF r ma sh=if checkR r=0 then (if ma.length=(objsF r).length then (if sh.length=(momsF r []).length then (match (boxLinks 0 (boxR r []) ++ lnkR r []).find? (badF (ma ++ sh)) with
  | some l=>(l.i,false)
  | none=>(0,true)) else (0,false)) else (0,false)) else (0,false):=by
 unfold fitsF
 by_cases h0:checkR r=0
 ·by_cases h1:ma.length=(objsF r).length
  ·by_cases h2:sh.length=(momsF r []).length
   ·rw [if_pos ⟨h0,h1,h2⟩,if_pos h0,if_pos h1,if_pos h2]; rfl
   ·rw [if_neg (fun h=>h2 h.2.2),if_pos h0,if_pos h1,if_neg h2]
  ·rw [if_neg (fun h=>h1 h.2.1),if_pos h0,if_neg h1]
 ·rw [if_neg (fun h=>h0 h.1),if_neg h0]

theorem find_at {α:Type} {l:List α} {p:α → Bool} {i:Nat} (h:i < l.length) (hn:∀ x ∈ l.take i,p x=false) (hp:p l[i]=true):l.find? p=some l[i]:=by
 have e:l=l.take i ++ l[i] :: l.drop (i+1):=by rw [← List.drop_eq_getElem_cons h,List.take_append_drop]
 have h1:(l.take i).find? p=none:=List.find?_eq_none.2 (fun x hx=>by rw [hn x hx]; simp)
 have h2:(l.take i ++ l[i] :: l.drop (i+1)).find? p=some l[i]:=by
  rw [List.find?_append,h1,List.find?_cons,hp]; rfl
 rw [← e] at h2
 exact h2

set_option maxHeartbeats 4000000 in
theorem bFits_t (r:Rd) (ma sh:List Int) (hs:Sml r):Triple Tryz.prog 63 (trA r ma sh) (trH r ma sh) 6 (.tup [.inl (.v (.int .i64 (fitsF r ma sh).1)), .inl (.v (.bool (fitsF r ma sh).2))]) []:=by
 have e:=fits_eq r ma sh
 have hC:=check_rd_t r (Nat.le_trans hs.bs (by decide)) (Nat.le_trans hs.cs (by decide)) (Nat.le_trans hs.ns (by decide)) (Nat.le_trans hs.ws (by decide))
 generalize fitsF r ma sh=R at *
 by_cases h0:checkR r=0
 rotate_left
 ·rw [if_neg h0] at e
  subst e
  generalize checkR r=c at *
  refine triple_of tW_ok Tryz.func63 rfl Tryz.call63 rfl ?_
  intro ρ w hH
  conv=>whnf
  refine call_step hC rfl rfl ?_
  conv=>whnf
  refine⟨?_, ?_, ?_⟩
  iterate 2 · repeat'(first|exact trivial|exact rfl|refine And.intro ?_ ?_|((conv=>whnf);first|exact trivial|exact rfl|refine And.intro ?_ ?_|omega))
  conv=>whnf
  refine⟨fun hcc=>?_,fun hcc=>absurd (by simpa using (show (c != 0)=false from hcc)) h0⟩
  conv=>whnf
  repeat'(first|exact trivial|exact rfl|refine And.intro ?_ ?_|((conv=>whnf);first|exact trivial|exact rfl|refine And.intro ?_ ?_|omega))
 rw [if_pos h0] at e
 rw [h0] at hC
 have h:=checkR_ok.1 h0
 have hSp:=spreadNil_t r h.sml
 by_cases h1:ma.length=(objsF r).length
 rotate_left
 ·rw [if_neg h1] at e
  subst e
  generalize objsF r=os at *
  generalize momsF r []=ms at *
  refine triple_of tW_ok Tryz.func63 rfl Tryz.call63 rfl ?_
  intro ρ w hH
  conv=>whnf
  refine call_step hC rfl rfl ?_
  conv=>whnf
  refine⟨?_, ?_, ?_⟩
  iterate 2 · repeat'(first|exact trivial|exact rfl|refine And.intro ?_ ?_|((conv=>whnf);first|exact trivial|exact rfl|refine And.intro ?_ ?_|omega))
  conv=>whnf
  refine⟨fun hc=>absurd hc (by simp),fun hc=>?_⟩
  conv=>whnf
  refine call_step hSp rfl rfl ?_
  conv=>whnf
  refine⟨?_, ?_, ?_⟩
  iterate 2 · repeat'(first|exact trivial|exact rfl|refine And.intro ?_ ?_|((conv=>whnf);first|exact trivial|exact rfl|refine And.intro ?_ ?_|omega))
  conv=>whnf
  refine⟨fun hc=>?_,fun hc=>absurd (show ma.length=os.length by have:=(show ((ma.length:Int) != os.length)=false from hc); simp at this; omega) h1⟩
  conv=>whnf
  repeat'(first|exact trivial|exact rfl|refine And.intro ?_ ?_|((conv=>whnf);first|exact trivial|exact rfl|refine And.intro ?_ ?_|omega))
 rw [if_pos h1] at e
 by_cases h2:sh.length=(momsF r []).length
 rotate_left
 ·rw [if_neg h2] at e
  subst e
  generalize objsF r=os at *
  generalize momsF r []=ms at *
  refine triple_of tW_ok Tryz.func63 rfl Tryz.call63 rfl ?_
  intro ρ w hH
  conv=>whnf
  refine call_step hC rfl rfl ?_
  conv=>whnf
  refine⟨?_, ?_, ?_⟩
  iterate 2 · repeat'(first|exact trivial|exact rfl|refine And.intro ?_ ?_|((conv=>whnf);first|exact trivial|exact rfl|refine And.intro ?_ ?_|omega))
  conv=>whnf
  refine⟨fun hc=>absurd hc (by simp),fun hc=>?_⟩
  conv=>whnf
  refine call_step hSp rfl rfl ?_
  conv=>whnf
  refine⟨?_, ?_, ?_⟩
  iterate 2 · repeat'(first|exact trivial|exact rfl|refine And.intro ?_ ?_|((conv=>whnf);first|exact trivial|exact rfl|refine And.intro ?_ ?_|omega))
  conv=>whnf
  refine⟨fun hc=>absurd (show ((ma.length:Int) != os.length)=true from hc) (by rw [h1]; simp),fun hc=>?_⟩
  conv=>whnf
  refine⟨fun hc=>?_,fun hc=>absurd (show sh.length=ms.length by have:=(show ((sh.length:Int) != ms.length)=false from hc); simp at this; omega) h2⟩
  conv=>whnf
  repeat'(first|exact trivial|exact rfl|refine And.intro ?_ ?_|((conv=>whnf);first|exact trivial|exact rfl|refine And.intro ?_ ?_|omega))
 rw [if_pos h2] at e
 have hsh:=sheet_ok h (more:=[]) (by simp) (by simp)
 have hsy:SysOK (boxR r []) (lnkR r []):=rd_sys h (by simp) (by simp)
 have hS:Triple Tryz.prog 83 [.c (.p 4 0 0 0)] (shH r (objsF r) (momsF r [])) 9
   (.agg [.s 9 0 (boxR r []).length 2, .s 10 0 (lnkR r []).length 4]) [(9,true, .arr (aSpan (boxR r []))),(10,true, .arr (aLink (lnkR r [])))]:=sysOf_t r _ _ hsh
 have hB:=Base_t _ _ hsy
 have hok:=allF_ok hsy
 have hal:=allF_le hsy
 have hpl:(ma ++ sh).length=(boxR r []).length:=by rw [List.length_append,h1,h2,boxR_len]
 have hnb:=hsy.nb
 have hcI:=concatBInt_t ma sh (by rw [List.length_append] at hpl; omega) (by rw [List.length_append] at hpl; omega)
 have hnl:=hsy.nl
 have hall:(allF (boxR r []) (lnkR r []))=boxLinks 0 (boxR r []) ++ lnkR r []:=rfl
 rw [hall] at hok hal
 have hcL:=concatBLink_t (boxLinks 0 (boxR r [])) (lnkR r []) (by rw [List.length_append] at hal; omega) (by omega)
 rw [← hpl] at hok
 generalize boxLinks 0 (boxR r [])=bl at *
 generalize boxR r []=bx at *
 generalize lnkR r []=lk at *
 generalize ma ++ sh=pt at *
 generalize bl ++ lk=L at *
 have hv:=fitVal_t pt
 generalize objsF r=os at *
 generalize momsF r []=ms at *
 refine triple_of tW_ok Tryz.func63 rfl Tryz.call63 rfl ?_
 intro ρ w hH
 conv=>whnf
 refine call_step hC rfl rfl ?_
 conv=>whnf
 refine⟨?_, ?_, ?_⟩
 iterate 2 · repeat'(first|exact trivial|exact rfl|refine And.intro ?_ ?_|((conv=>whnf);first|exact trivial|exact rfl|refine And.intro ?_ ?_|omega))
 conv=>whnf
 refine⟨fun hc=>absurd hc (by simp),fun hc=>?_⟩
 conv=>whnf
 refine call_step hSp rfl rfl ?_
 conv=>whnf
 refine⟨?_, ?_, ?_⟩
 iterate 2 · repeat'(first|exact trivial|exact rfl|refine And.intro ?_ ?_|((conv=>whnf);first|exact trivial|exact rfl|refine And.intro ?_ ?_|omega))
 conv=>whnf
 refine⟨fun hc=>absurd (show ((ma.length:Int) != os.length)=true from hc) (by rw [h1]; simp),fun hc=>?_⟩
 conv=>whnf
 refine⟨fun hc=>absurd (show ((sh.length:Int) != ms.length)=true from hc) (by rw [h2]; simp),fun hc=>?_⟩
 conv=>whnf
 refine call_step hS rfl rfl ?_
 conv=>whnf
 refine⟨?_, ?_, ?_⟩
 iterate 2 · repeat'(first|exact trivial|exact rfl|refine And.intro ?_ ?_|((conv=>whnf);first|exact trivial|exact rfl|refine And.intro ?_ ?_|omega))
 conv=>whnf
 refine call_step hB rfl rfl ?_
 conv=>whnf
 refine⟨?_, ?_, ?_⟩
 iterate 2 · repeat'(first|exact trivial|exact rfl|refine And.intro ?_ ?_|((conv=>whnf);first|exact trivial|exact rfl|refine And.intro ?_ ?_|omega))
 conv=>whnf
 refine bsN_step tW_ok ((aRows 1 [1,2] [[.s 1 0 ma.length 1],[.s 2 0 sh.length 1]]).ren (rnf [(2,5),(1,4),(0,18)])) rfl ?_
 conv=>whnf
 refine⟨(by repeat'(first|exact trivial|exact rfl|refine And.intro ?_ ?_|((conv=>whnf);first|exact trivial|exact rfl|refine And.intro ?_ ?_|omega))), ?_⟩
 conv=>whnf
 refine call_step hcI rfl rfl ?_
 conv=>whnf
 refine⟨?_, ?_, ?_⟩
 iterate 2 · repeat'(first|exact trivial|exact rfl|refine And.intro ?_ ?_|((conv=>whnf);first|exact trivial|exact rfl|refine And.intro ?_ ?_|omega))
 conv=>whnf
 refine bsN_step tW_ok ((aRows 1 [1,2] [[.s 1 0 bl.length 4],[.s 2 0 lk.length 4]]).ren (rnf [(2,15),(1,17),(0,21)])) rfl ?_
 conv=>whnf
 refine⟨(by repeat'(first|exact trivial|exact rfl|refine And.intro ?_ ?_|((conv=>whnf);first|exact trivial|exact rfl|refine And.intro ?_ ?_|omega))), ?_⟩
 conv=>whnf
 refine call_step hcL rfl rfl ?_
 conv=>whnf
 refine⟨?_, ?_, ?_⟩
 iterate 2 · repeat'(first|exact trivial|exact rfl|refine And.intro ?_ ?_|((conv=>whnf);first|exact trivial|exact rfl|refine And.intro ?_ ?_|omega))
 conv=>whnf
 refine loop_step tW_ok (G:=Nat) 0 [] (fun i=>[(63,iv .i64 i),(12,iv .i64 0),(13,bv true)]) (fun _=>[]) (fun i=>i≤L.length∧∀ l ∈ L.take i,badF pt l=false) (fun i=>L.length - i) ?_
 conv=>whnf
 refine⟨⟨0,⟨Nat.zero_le _,by simp⟩, ?_⟩, ?_⟩
 ·conv=>whnf
  repeat'(first|exact trivial|exact rfl|refine And.intro ?_ ?_|((conv=>whnf);first|exact trivial|exact rfl|refine And.intro ?_ ?_|omega))
 rintro i ⟨hi,hn⟩ ρ1 t1 hρ1
 conv=>whnf
 refine⟨fun hc=>?_,fun hc=>?_⟩
 ·have hlt:i < L.length:=by simpa using hc
  obtain ⟨⟨a1,a2⟩,⟨a3,a4⟩,a5,a6⟩:=hok L[i] (List.getElem_mem hlt)
  have v1:=hv L[i].f a2
  have v2:=hv L[i].t a4
  have hb:badF pt L[i]=((decide (L[i].f < 0) && decide (L[i].m < ptV pt L[i].t)) || ((decide (L[i].t < 0) && decide (ptV pt L[i].f < -L[i].m)) || (decide (0≤L[i].f) && (decide (0≤L[i].t) && decide (L[i].m < Go.IntKind.i64.wrap (ptV pt L[i].t - ptV pt L[i].f)))))):=rfl
  generalize ptV pt L[i].f=vf at *
  generalize ptV pt L[i].t=vt at *
  conv=>whnf
  refine⟨i,rfl,hlt,hlt, ?_⟩
  conv=>whnf
  refine call_step v1 rfl rfl ?_
  conv=>whnf
  refine⟨?_, ?_, ?_⟩
  iterate 2 · repeat'(first|exact trivial|exact rfl|refine And.intro ?_ ?_|((conv=>whnf);first|exact trivial|exact rfl|refine And.intro ?_ ?_|omega))
  conv=>whnf
  refine call_step v2 rfl rfl ?_
  conv=>whnf
  refine⟨?_, ?_, ?_⟩
  iterate 2 · repeat'(first|exact trivial|exact rfl|refine And.intro ?_ ?_|((conv=>whnf);first|exact trivial|exact rfl|refine And.intro ?_ ?_|omega))
  conv=>whnf
  refine⟨fun k1=>?_,fun k1=>?_⟩
  ·have k1:decide (L[i].f < 0)=true:=k1
   have k5:decide (0≤L[i].f)=false:=decide_eq_false (by have:=of_decide_eq_true k1; omega)
   conv=>whnf
   refine⟨fun k2=>?_,fun k2=>?_⟩
   ·have k2:decide (L[i].m < vt)=true:=k2
    rw [k1,k2,Bool.true_and,Bool.true_or] at hb
    have hf:L.find? (badF pt)=some L[i]:=find_at hlt hn hb
    rw [hf] at e
    subst e
    conv=>whnf
    repeat'(first|exact trivial|exact rfl|refine And.intro ?_ ?_|((conv=>whnf);first|exact trivial|exact rfl|refine And.intro ?_ ?_|omega))
   have k2:decide (L[i].m < vt)=false:=k2
   conv=>whnf
   refine⟨fun k3=>?_,fun k3=>?_⟩
   ·have k3:decide (L[i].t < 0)=true:=k3
    conv=>whnf
    refine⟨-L[i].m,(congrArg IntKind.i64.wrap (show (0:Int) - L[i].m=-L[i].m by omega)).trans (wrapId ⟨by omega,by omega⟩), ?_⟩
    conv=>whnf
    refine⟨fun k4=>?_,fun k4=>?_⟩
    ·have k4:decide (vf < -L[i].m)=true:=k4
     rw [k1,k2,k3,k4,Bool.true_and,Bool.true_and,Bool.false_or,Bool.true_or] at hb
     have hf:L.find? (badF pt)=some L[i]:=find_at hlt hn hb
     rw [hf] at e
     subst e
     conv=>whnf
     repeat'(first|exact trivial|exact rfl|refine And.intro ?_ ?_|((conv=>whnf);first|exact trivial|exact rfl|refine And.intro ?_ ?_|omega))
    have k4:decide (vf < -L[i].m)=false:=k4
    conv=>whnf
    refine⟨fun kk=>absurd (show decide (0≤L[i].f)=true from kk) (by rw [k5]; simp),fun kk=>?_⟩
    rw [k1,k2,k3,k4,k5,Bool.true_and,Bool.false_or,Bool.false_or,Bool.false_and] at hb
    conv=>whnf
    refine⟨_,wrapId ⟨by omega,by omega⟩, ?_⟩
    refine⟨i+1,⟨hlt, ?_⟩,by show L.length - (i+1) < L.length - i; omega, ?_⟩
    ·intro l hl
     rw [take_snoc hlt] at hl
     rcases List.mem_append.1 hl with hl | hl
     ·exact hn l hl
     ·simp only [List.mem_singleton] at hl; rw [hl]; exact hb
    conv=>whnf
    refine⟨rfl, ?_⟩
    conv=>whnf
    repeat'(first|exact trivial|exact rfl|refine And.intro ?_ ?_|((conv=>whnf);first|exact trivial|exact rfl|refine And.intro ?_ ?_|omega))
   have k3:decide (L[i].t < 0)=false:=k3
   conv=>whnf
   refine⟨fun kk=>absurd (show decide (0≤L[i].f)=true from kk) (by rw [k5]; simp),fun kk=>?_⟩
   rw [k1,k2,k3,k5,Bool.true_and,Bool.false_and,Bool.false_or,Bool.false_or,Bool.false_and] at hb
   conv=>whnf
   refine⟨_,wrapId ⟨by omega,by omega⟩, ?_⟩
   refine⟨i+1,⟨hlt, ?_⟩,by show L.length - (i+1) < L.length - i; omega, ?_⟩
   ·intro l hl
    rw [take_snoc hlt] at hl
    rcases List.mem_append.1 hl with hl | hl
    ·exact hn l hl
    ·simp only [List.mem_singleton] at hl; rw [hl]; exact hb
   conv=>whnf
   refine⟨rfl, ?_⟩
   conv=>whnf
   repeat'(first|exact trivial|exact rfl|refine And.intro ?_ ?_|((conv=>whnf);first|exact trivial|exact rfl|refine And.intro ?_ ?_|omega))
  have k1:decide (L[i].f < 0)=false:=k1
  have k5:decide (0≤L[i].f)=true:=decide_eq_true (by have:=of_decide_eq_false k1; omega)
  conv=>whnf
  refine⟨fun k3=>?_,fun k3=>?_⟩
  ·have k3:decide (L[i].t < 0)=true:=k3
   have k6:decide (0≤L[i].t)=false:=decide_eq_false (by have:=of_decide_eq_true k3; omega)
   conv=>whnf
   refine⟨-L[i].m,(congrArg IntKind.i64.wrap (show (0:Int) - L[i].m=-L[i].m by omega)).trans (wrapId ⟨by omega,by omega⟩), ?_⟩
   conv=>whnf
   refine⟨fun k4=>?_,fun k4=>?_⟩
   ·have k4:decide (vf < -L[i].m)=true:=k4
    rw [k1,k3,k4,Bool.false_and,Bool.true_and,Bool.false_or,Bool.true_or] at hb
    have hf:L.find? (badF pt)=some L[i]:=find_at hlt hn hb
    rw [hf] at e
    subst e
    conv=>whnf
    repeat'(first|exact trivial|exact rfl|refine And.intro ?_ ?_|((conv=>whnf);first|exact trivial|exact rfl|refine And.intro ?_ ?_|omega))
   have k4:decide (vf < -L[i].m)=false:=k4
   conv=>whnf
   refine⟨fun kk=>?_,fun kk=>absurd (show decide (0≤L[i].f)=false from kk) (by rw [k5]; simp)⟩
   conv=>whnf
   refine⟨fun kk=>absurd (show decide (0≤L[i].t)=true from kk) (by rw [k6]; simp),fun kk=>?_⟩
   rw [k1,k3,k4,k5,k6,Bool.false_and,Bool.true_and,Bool.false_or,Bool.false_or,Bool.true_and,Bool.false_and] at hb
   conv=>whnf
   refine⟨_,wrapId ⟨by omega,by omega⟩, ?_⟩
   refine⟨i+1,⟨hlt, ?_⟩,by show L.length - (i+1) < L.length - i; omega, ?_⟩
   ·intro l hl
    rw [take_snoc hlt] at hl
    rcases List.mem_append.1 hl with hl | hl
    ·exact hn l hl
    ·simp only [List.mem_singleton] at hl; rw [hl]; exact hb
   conv=>whnf
   refine⟨rfl, ?_⟩
   conv=>whnf
   repeat'(first|exact trivial|exact rfl|refine And.intro ?_ ?_|((conv=>whnf);first|exact trivial|exact rfl|refine And.intro ?_ ?_|omega))
  have k3:decide (L[i].t < 0)=false:=k3
  have k6:decide (0≤L[i].t)=true:=decide_eq_true (by have:=of_decide_eq_false k3; omega)
  conv=>whnf
  refine⟨fun kk=>?_,fun kk=>absurd (show decide (0≤L[i].f)=false from kk) (by rw [k5]; simp)⟩
  conv=>whnf
  refine⟨fun kk=>?_,fun kk=>absurd (show decide (0≤L[i].t)=false from kk) (by rw [k6]; simp)⟩
  conv=>whnf
  refine⟨_,rfl, ?_⟩
  conv=>whnf
  refine⟨fun k7=>?_,fun k7=>?_⟩
  ·have k7:decide (L[i].m < Go.IntKind.i64.wrap (vt - vf))=true:=k7
   rw [k1,k3,k5,k6,k7,Bool.false_and,Bool.false_and,Bool.false_or,Bool.false_or,Bool.true_and,Bool.true_and] at hb
   have hf:L.find? (badF pt)=some L[i]:=find_at hlt hn hb
   rw [hf] at e
   subst e
   conv=>whnf
   repeat'(first|exact trivial|exact rfl|refine And.intro ?_ ?_|((conv=>whnf);first|exact trivial|exact rfl|refine And.intro ?_ ?_|omega))
  have k7:decide (L[i].m < Go.IntKind.i64.wrap (vt - vf))=false:=k7
  rw [k1,k3,k5,k6,k7,Bool.false_and,Bool.false_and,Bool.false_or,Bool.false_or,Bool.true_and,Bool.true_and] at hb
  conv=>whnf
  refine⟨_,wrapId ⟨by omega,by omega⟩, ?_⟩
  refine⟨i+1,⟨hlt, ?_⟩,by show L.length - (i+1) < L.length - i; omega, ?_⟩
  ·intro l hl
   rw [take_snoc hlt] at hl
   rcases List.mem_append.1 hl with hl | hl
   ·exact hn l hl
   ·simp only [List.mem_singleton] at hl; rw [hl]; exact hb
  conv=>whnf
  refine⟨rfl, ?_⟩
  conv=>whnf
  repeat'(first|exact trivial|exact rfl|refine And.intro ?_ ?_|((conv=>whnf);first|exact trivial|exact rfl|refine And.intro ?_ ?_|omega))
 ·have hie:i=L.length:=by simp at hc; omega
  subst hie
  rw [List.take_length] at hn
  have hf:L.find? (badF pt)=none:=List.find?_eq_none.2 (fun l hl=>by rw [hn l hl]; simp)
  rw [hf] at e
  subst e
  conv=>whnf
  repeat'(first|exact trivial|exact rfl|refine And.intro ?_ ?_|((conv=>whnf);first|exact trivial|exact rfl|refine And.intro ?_ ?_|omega))

end Go.Proofs

namespace Go.Proofs
open Go.Sx

end Go.Proofs

namespace Go.Proofs
open Go.Sx

end Go.Proofs

namespace Go.Proofs
open Go.Sx

theorem all_snoc {α:Type} {l:List α} {P:α → Prop} {i:Nat} (h:i < l.length) (hn:∀ x ∈ l.take i,P x) (hp:P l[i]):∀ x ∈ l.take (i+1),P x:=by
 intro x hx
 rw [take_snoc h] at hx
 rcases List.mem_append.1 hx with hx | hx
 ·exact hn x hx
 ·simp only [List.mem_singleton] at hx; rw [hx]; exact hp

theorem lawAtThg_t (l:List Thg) (ma sh:List Int) (x:Thg) (hl:ma.length=l.length) (hll:l.length≤1000):Triple Tryz.prog 68 [.c (.s 0 0 l.length 4), .agg [.s 1 0 ma.length 1, .s 2 0 sh.length 1],svThg x] [(0,false, .arr (aThg l)),(1,false, .arr (aInt ma)),(2,false, .arr (aInt sh))] 3 (iv .i64 (atF ma (plF l x))) []:=by
 have hf:∀ (i:Nat) (h:i < l.length) (h2:i < ma.length),(∀ y ∈ l.take i,y ≠ x) → l[i]=x → atF ma (plF l x)=ma[i]:=fun i h h2 hn he=>by
  rw [plF_take h hn he]
  unfold atF
  rw [if_neg (show ¬ ((i:Int) < 0) by omega),Int.toNat_natCast,List.getD_eq_getElem?_getD,List.getElem?_eq_getElem h2]; rfl
 have hz:(∀ y ∈ l,y ≠ x) → atF ma (plF l x)=0:=fun hn=>by rw [plF_none hn]; rfl
 generalize atF ma (plF l x)=R at *
 refine triple_of tB_ok Tryz.func68 rfl Tryz.call68 rfl ?_
 intro ρ w hH
 conv=>whnf
 refine loop_step tB_ok (G:=Nat) 0 [] (fun i=>[(10,iv .i64 i)]) (fun _=>[]) (fun i=>i≤l.length∧∀ y ∈ l.take i,y ≠ x) (fun i=>l.length - i) ?_
 conv=>whnf
 refine⟨⟨0,⟨Nat.zero_le _,by simp⟩, ?_⟩, ?_⟩
 ·conv=>whnf
  repeat'(first|exact trivial|exact rfl|refine And.intro ?_ ?_|((conv=>whnf);first|exact trivial|exact rfl|refine And.intro ?_ ?_|omega))
 rintro i ⟨hi,hn⟩ ρ1 t1 hρ1
 conv=>whnf
 refine⟨fun hc=>?_,fun hc=>?_⟩
 ·have hlt:i < l.length:=by simpa using hc
  have hlv:i < ma.length:=by omega
  conv=>whnf
  refine⟨i,rfl,hlt,hlt, ?_⟩
  conv=>whnf
  refine⟨fun hc=>?_,fun hc=>?_⟩
  ·have h1:l[i]=x:=eqThg_t (show eqThg l[i] x=true from hc)
   rw [hf i hlt hlv hn h1]
   conv=>whnf
   refine⟨i,rfl,hlv,hlv, ?_⟩
   conv=>whnf
   repeat'(first|exact trivial|exact rfl|refine And.intro ?_ ?_|((conv=>whnf);first|exact trivial|exact rfl|refine And.intro ?_ ?_|omega))
  ·have h1:¬ l[i]=x:=fun he=>by
    have h2:eqThg l[i] x=false:=hc
    rw [he,eqThg_r] at h2; cases h2
   conv=>whnf
   refine⟨_,wrapId ⟨by omega,by omega⟩, ?_⟩
   refine⟨i+1,⟨hlt,all_snoc hlt hn h1⟩,by show l.length - (i+1) < l.length - i; omega, ?_⟩
   try dsimp only
   conv=>whnf
   refine⟨rfl, ?_⟩
   conv=>whnf
   repeat'(first|exact trivial|exact rfl|refine And.intro ?_ ?_|((conv=>whnf);first|exact trivial|exact rfl|refine And.intro ?_ ?_|omega))
 ·have hie:i=l.length:=by simp at hc; omega
  subst hie
  rw [List.take_length] at hn
  rw [hz hn]
  conv=>whnf
  repeat'(first|exact trivial|exact rfl|refine And.intro ?_ ?_|((conv=>whnf);first|exact trivial|exact rfl|refine And.intro ?_ ?_|omega))
theorem lawAtMom_t (l:List Mom) (ma sh:List Int) (x:Mom) (hl:sh.length=l.length) (hll:l.length≤1000):Triple Tryz.prog 69 [.c (.s 0 0 l.length 2), .agg [.s 1 0 ma.length 1, .s 2 0 sh.length 1],svMom x] [(0,false, .arr (aMom l)),(1,false, .arr (aInt ma)),(2,false, .arr (aInt sh))] 3 (iv .i64 (atF sh (plF l x))) []:=by
 have hf:∀ (i:Nat) (h:i < l.length) (h2:i < sh.length),(∀ y ∈ l.take i,y ≠ x) → l[i]=x → atF sh (plF l x)=sh[i]:=fun i h h2 hn he=>by
  rw [plF_take h hn he]
  unfold atF
  rw [if_neg (show ¬ ((i:Int) < 0) by omega),Int.toNat_natCast,List.getD_eq_getElem?_getD,List.getElem?_eq_getElem h2]; rfl
 have hz:(∀ y ∈ l,y ≠ x) → atF sh (plF l x)=0:=fun hn=>by rw [plF_none hn]; rfl
 generalize atF sh (plF l x)=R at *
 refine triple_of tB_ok Tryz.func69 rfl Tryz.call69 rfl ?_
 intro ρ w hH
 conv=>whnf
 refine loop_step tB_ok (G:=Nat) 0 [] (fun i=>[(10,iv .i64 i)]) (fun _=>[]) (fun i=>i≤l.length∧∀ y ∈ l.take i,y ≠ x) (fun i=>l.length - i) ?_
 conv=>whnf
 refine⟨⟨0,⟨Nat.zero_le _,by simp⟩, ?_⟩, ?_⟩
 ·conv=>whnf
  repeat'(first|exact trivial|exact rfl|refine And.intro ?_ ?_|((conv=>whnf);first|exact trivial|exact rfl|refine And.intro ?_ ?_|omega))
 rintro i ⟨hi,hn⟩ ρ1 t1 hρ1
 conv=>whnf
 refine⟨fun hc=>?_,fun hc=>?_⟩
 ·have hlt:i < l.length:=by simpa using hc
  have hlv:i < sh.length:=by omega
  conv=>whnf
  refine⟨i,rfl,hlt,hlt, ?_⟩
  conv=>whnf
  refine⟨fun hc=>?_,fun hc=>?_⟩
  ·have h1:l[i]=x:=eqMom_t (show eqMom l[i] x=true from hc)
   rw [hf i hlt hlv hn h1]
   conv=>whnf
   refine⟨i,rfl,hlv,hlv, ?_⟩
   conv=>whnf
   repeat'(first|exact trivial|exact rfl|refine And.intro ?_ ?_|((conv=>whnf);first|exact trivial|exact rfl|refine And.intro ?_ ?_|omega))
  ·have h1:¬ l[i]=x:=fun he=>by
    have h2:eqMom l[i] x=false:=hc
    rw [he,eqMom_r] at h2; cases h2
   conv=>whnf
   refine⟨_,wrapId ⟨by omega,by omega⟩, ?_⟩
   refine⟨i+1,⟨hlt,all_snoc hlt hn h1⟩,by show l.length - (i+1) < l.length - i; omega, ?_⟩
   try dsimp only
   conv=>whnf
   refine⟨rfl, ?_⟩
   conv=>whnf
   repeat'(first|exact trivial|exact rfl|refine And.intro ?_ ?_|((conv=>whnf);first|exact trivial|exact rfl|refine And.intro ?_ ?_|omega))
 ·have hie:i=l.length:=by simp at hc; omega
  subst hie
  rw [List.take_length] at hn
  rw [hz hn]
  conv=>whnf
  repeat'(first|exact trivial|exact rfl|refine And.intro ?_ ?_|((conv=>whnf);first|exact trivial|exact rfl|refine And.intro ?_ ?_|omega))

end Go.Proofs

namespace Go.Proofs
open Go.Sx

end Go.Proofs

namespace Go.Proofs
open Go.Sx

end Go.Proofs

namespace Go.Proofs
open Go.Sx

end Go.Proofs

namespace Go.Proofs
open Go.Sx


abbrev svSpn (x:Int × Int):SV:=.agg [.v (.int .i64 x.1), .v (.int .i64 x.2)]

theorem change_eq (r:Rd) (bal lo hi:Int):changeF r bal lo hi=if checkR r=0 then (if momOK r ⟨bal,lo⟩=true then (if momOK r ⟨bal,hi⟩=true then (if lo≤hi then
  betweenF (boxR r [⟨bal,lo⟩,⟨bal,hi⟩]) (lnkR r [⟨bal,lo⟩,⟨bal,hi⟩]) ((objsF r).length+plF (momsF r [⟨bal,lo⟩,⟨bal,hi⟩]) ⟨bal,lo⟩) ((objsF r).length+plF (momsF r [⟨bal,lo⟩,⟨bal,hi⟩]) ⟨bal,hi⟩) else ((0,0),1)) else ((0,0),1)) else ((0,0),1)) else ((0,0),checkR r):=by
 unfold changeF
 by_cases h0:checkR r=0
 ·rw [if_pos h0,if_pos h0]
  by_cases h1:momOK r ⟨bal,lo⟩=true
  ·by_cases h2:momOK r ⟨bal,hi⟩=true
   ·by_cases h3:lo≤hi
    ·rw [if_pos ⟨h1,h2,h3⟩,if_pos h1,if_pos h2,if_pos h3]
    ·rw [if_neg (fun h=>h3 h.2.2),if_pos h1,if_pos h2,if_neg h3]
   ·rw [if_neg (fun h=>h2 h.2.1),if_pos h1,if_neg h2]
  ·rw [if_neg (fun h=>h1 h.1),if_neg h1]
 ·rw [if_neg h0,if_neg h0]

set_option maxHeartbeats 1000000 in
theorem change_t (r:Rd) (bal:Int) (t:Int × Int) (hs:Sml r):Triple Tryz.prog 37 [rdA r,iv .i64 bal,svSpn t] (rdH r) 4 (rngT (changeF r bal t.1 t.2)) []:=by
 obtain ⟨lo,hi⟩:=t
 dsimp only
 have hC:=check_rd_t r (Nat.le_trans hs.bs (by decide)) (Nat.le_trans hs.cs (by decide)) (Nat.le_trans hs.ns (by decide)) (Nat.le_trans hs.ws (by decide))
 have e:=change_eq r bal lo hi
 have hA:=bMoment_t r ⟨bal,lo⟩ (Nat.le_trans hs.bs (by decide))
 have hB:=bMoment_t r ⟨bal,hi⟩ (Nat.le_trans hs.bs (by decide))
 generalize changeF r bal lo hi=R at *
 by_cases h0:checkR r=0
 rotate_left
 ·rw [if_neg h0] at e
  subst e
  generalize checkR r=c at *
  refine triple_of tB_ok Tryz.func37 rfl Tryz.call37 rfl ?_
  intro ρ w hH
  conv=>whnf
  refine call_step hC rfl rfl ?_
  conv=>whnf
  refine⟨?_, ?_, ?_⟩
  iterate 2 · repeat'(first|exact trivial|exact rfl|refine And.intro ?_ ?_|((conv=>whnf);first|exact trivial|exact rfl|refine And.intro ?_ ?_|omega))
  conv=>whnf
  refine⟨fun hcc=>?_,fun hcc=>absurd (by simpa using (show (c != 0)=false from hcc)) h0⟩
  conv=>whnf
  repeat'(first|exact trivial|exact rfl|refine And.intro ?_ ?_|((conv=>whnf);first|exact trivial|exact rfl|refine And.intro ?_ ?_|omega))
 rw [if_pos h0] at e
 rw [h0] at hC
 have h:=checkR_ok.1 h0
 by_cases h1:momOK r ⟨bal,lo⟩=true
 rotate_left
 ·rw [if_neg h1] at e
  subst e
  rw [Bool.not_eq_true] at h1
  rw [h1] at hA
  refine triple_of tB_ok Tryz.func37 rfl Tryz.call37 rfl ?_
  intro ρ w hH
  conv=>whnf
  refine call_step hC rfl rfl ?_
  conv=>whnf
  refine⟨?_, ?_, ?_⟩
  iterate 2 · repeat'(first|exact trivial|exact rfl|refine And.intro ?_ ?_|((conv=>whnf);first|exact trivial|exact rfl|refine And.intro ?_ ?_|omega))
  conv=>whnf
  refine⟨fun hc=>absurd hc (by simp),fun hc=>?_⟩
  conv=>whnf
  refine call_step hA rfl rfl ?_
  conv=>whnf
  refine⟨?_, ?_, ?_⟩
  iterate 2 · repeat'(first|exact trivial|exact rfl|refine And.intro ?_ ?_|((conv=>whnf);first|exact trivial|exact rfl|refine And.intro ?_ ?_|omega))
  conv=>whnf
  refine⟨fun hc=>?_,fun hc=>absurd hc (by simp)⟩
  conv=>whnf
  repeat'(first|exact trivial|exact rfl|refine And.intro ?_ ?_|((conv=>whnf);first|exact trivial|exact rfl|refine And.intro ?_ ?_|omega))
 rw [if_pos h1] at e
 have h1b:=h1
 rw [h1] at hA
 by_cases h2:momOK r ⟨bal,hi⟩=true
 rotate_left
 ·rw [if_neg h2] at e
  subst e
  rw [Bool.not_eq_true] at h2
  rw [h2] at hB
  refine triple_of tB_ok Tryz.func37 rfl Tryz.call37 rfl ?_
  intro ρ w hH
  conv=>whnf
  refine call_step hC rfl rfl ?_
  conv=>whnf
  refine⟨?_, ?_, ?_⟩
  iterate 2 · repeat'(first|exact trivial|exact rfl|refine And.intro ?_ ?_|((conv=>whnf);first|exact trivial|exact rfl|refine And.intro ?_ ?_|omega))
  conv=>whnf
  refine⟨fun hc=>absurd hc (by simp),fun hc=>?_⟩
  conv=>whnf
  refine call_step hA rfl rfl ?_
  conv=>whnf
  refine⟨?_, ?_, ?_⟩
  iterate 2 · repeat'(first|exact trivial|exact rfl|refine And.intro ?_ ?_|((conv=>whnf);first|exact trivial|exact rfl|refine And.intro ?_ ?_|omega))
  conv=>whnf
  refine⟨fun hc=>absurd hc (by simp),fun hc=>?_⟩
  conv=>whnf
  refine call_step hB rfl rfl ?_
  conv=>whnf
  refine⟨?_, ?_, ?_⟩
  iterate 2 · repeat'(first|exact trivial|exact rfl|refine And.intro ?_ ?_|((conv=>whnf);first|exact trivial|exact rfl|refine And.intro ?_ ?_|omega))
  conv=>whnf
  refine⟨fun hc=>?_,fun hc=>absurd hc (by simp)⟩
  conv=>whnf
  repeat'(first|exact trivial|exact rfl|refine And.intro ?_ ?_|((conv=>whnf);first|exact trivial|exact rfl|refine And.intro ?_ ?_|omega))
 rw [if_pos h2] at e
 have h2b:=h2
 rw [h2] at hB
 by_cases h3:lo≤hi
 rotate_left
 ·rw [if_neg h3] at e
  subst e
  refine triple_of tB_ok Tryz.func37 rfl Tryz.call37 rfl ?_
  intro ρ w hH
  conv=>whnf
  refine call_step hC rfl rfl ?_
  conv=>whnf
  refine⟨?_, ?_, ?_⟩
  iterate 2 · repeat'(first|exact trivial|exact rfl|refine And.intro ?_ ?_|((conv=>whnf);first|exact trivial|exact rfl|refine And.intro ?_ ?_|omega))
  conv=>whnf
  refine⟨fun hc=>absurd hc (by simp),fun hc=>?_⟩
  conv=>whnf
  refine call_step hA rfl rfl ?_
  conv=>whnf
  refine⟨?_, ?_, ?_⟩
  iterate 2 · repeat'(first|exact trivial|exact rfl|refine And.intro ?_ ?_|((conv=>whnf);first|exact trivial|exact rfl|refine And.intro ?_ ?_|omega))
  conv=>whnf
  refine⟨fun hc=>absurd hc (by simp),fun hc=>?_⟩
  conv=>whnf
  refine call_step hB rfl rfl ?_
  conv=>whnf
  refine⟨?_, ?_, ?_⟩
  iterate 2 · repeat'(first|exact trivial|exact rfl|refine And.intro ?_ ?_|((conv=>whnf);first|exact trivial|exact rfl|refine And.intro ?_ ?_|omega))
  conv=>whnf
  refine⟨fun hc=>absurd hc (by simp),fun hc=>?_⟩
  conv=>whnf
  refine⟨fun hc=>?_,fun hc=>absurd (of_decide_eq_false (show decide (hi < lo)=false from hc)) (by omega)⟩
  conv=>whnf
  repeat'(first|exact trivial|exact rfl|refine And.intro ?_ ?_|((conv=>whnf);first|exact trivial|exact rfl|refine And.intro ?_ ?_|omega))
 rw [if_pos h3] at e
 have hmo:∀ x ∈ [(⟨bal,lo⟩:Mom),⟨bal,hi⟩],momOK r x=true:=by
  intro x hx
  simp only [List.mem_cons,List.not_mem_nil,or_false] at hx
  rcases hx with rfl | rfl
  ·exact h1b
  ·exact h2b
 have hsh:=sheet_ok h (more:=[(⟨bal,lo⟩:Mom),⟨bal,hi⟩]) (by simp) hmo
 have hsy:SysOK (boxR r [(⟨bal,lo⟩:Mom),⟨bal,hi⟩]) (lnkR r [(⟨bal,lo⟩:Mom),⟨bal,hi⟩]):=rd_sys h (by simp) hmo
 have hina:(⟨bal,lo⟩:Mom) ∈ momsF r [(⟨bal,lo⟩:Mom),⟨bal,hi⟩]:=momsF_mem.2 (.inr (.inr (by simp)))
 have hinb:(⟨bal,hi⟩:Mom) ∈ momsF r [(⟨bal,lo⟩:Mom),⟨bal,hi⟩]:=momsF_mem.2 (.inr (.inr (by simp)))
 have hBt:Triple Tryz.prog 111 [.c (.p 4 0 0 0),iv .i64 ((objsF r).length+plF (momsF r [(⟨bal,lo⟩:Mom),⟨bal,hi⟩]) ⟨bal,lo⟩),iv .i64 ((objsF r).length+plF (momsF r [(⟨bal,lo⟩:Mom),⟨bal,hi⟩]) ⟨bal,hi⟩)] (shH r (objsF r) (momsF r [(⟨bal,lo⟩:Mom),⟨bal,hi⟩])) 9 (rngT (betweenF (boxR r [(⟨bal,lo⟩:Mom),⟨bal,hi⟩]) (lnkR r [(⟨bal,lo⟩:Mom),⟨bal,hi⟩]) ((objsF r).length+plF (momsF r [(⟨bal,lo⟩:Mom),⟨bal,hi⟩]) ⟨bal,lo⟩) ((objsF r).length+plF (momsF r [(⟨bal,lo⟩:Mom),⟨bal,hi⟩]) ⟨bal,hi⟩))) []:=between_t r _ _ hsh hsy _ _ (mom_bd hina) (mom_bd hinb)
 have hSp:=spread_t r [(⟨bal,lo⟩:Mom),⟨bal,hi⟩] (by simp) hs.ws hs.cs
 have la:=look_mom (n:=(objsF r).length) hina
 have lb:=look_mom (n:=(objsF r).length) hinb
 rw [← e] at hBt
 clear e hsy hsh hmo
 generalize plF (momsF r [(⟨bal,lo⟩:Mom),⟨bal,hi⟩]) ⟨bal,lo⟩=p at *
 generalize plF (momsF r [(⟨bal,lo⟩:Mom),⟨bal,hi⟩]) ⟨bal,hi⟩=q at *
 generalize objsF r=os at *
 generalize momsF r [(⟨bal,lo⟩:Mom),⟨bal,hi⟩]=ms at *
 refine triple_of tB_ok Tryz.func37 rfl Tryz.call37 rfl ?_
 intro ρ w hH
 conv=>whnf
 refine call_step hC rfl rfl ?_
 conv=>whnf
 refine⟨?_, ?_, ?_⟩
 iterate 2 · repeat'(first|exact trivial|exact rfl|refine And.intro ?_ ?_|((conv=>whnf);first|exact trivial|exact rfl|refine And.intro ?_ ?_|omega))
 conv=>whnf
 refine⟨fun hc=>absurd hc (by simp),fun hc=>?_⟩
 conv=>whnf
 refine call_step hA rfl rfl ?_
 conv=>whnf
 refine⟨?_, ?_, ?_⟩
 iterate 2 · repeat'(first|exact trivial|exact rfl|refine And.intro ?_ ?_|((conv=>whnf);first|exact trivial|exact rfl|refine And.intro ?_ ?_|omega))
 conv=>whnf
 refine⟨fun hc=>absurd hc (by simp),fun hc=>?_⟩
 conv=>whnf
 refine call_step hB rfl rfl ?_
 conv=>whnf
 refine⟨?_, ?_, ?_⟩
 iterate 2 · repeat'(first|exact trivial|exact rfl|refine And.intro ?_ ?_|((conv=>whnf);first|exact trivial|exact rfl|refine And.intro ?_ ?_|omega))
 conv=>whnf
 refine⟨fun hc=>absurd hc (by simp),fun hc=>?_⟩
 conv=>whnf
 refine⟨fun hc=>absurd (of_decide_eq_true (show decide (hi < lo)=true from hc)) (by omega),fun hc=>?_⟩
 conv=>whnf
 refine bs_step tB_ok (aMom [⟨bal,lo⟩,⟨bal,hi⟩]) rfl rfl ?_
 conv=>whnf
 refine⟨⟨rfl,(by repeat'(first|exact trivial|exact rfl|refine And.intro ?_ ?_|((conv=>whnf);first|exact trivial|exact rfl|refine And.intro ?_ ?_|omega)))⟩, ?_⟩
 conv=>whnf
 refine call_step hSp rfl rfl ?_
 conv=>whnf
 refine⟨?_, ?_, ?_⟩
 iterate 2 · repeat'(first|exact trivial|exact rfl|refine And.intro ?_ ?_|((conv=>whnf);first|exact trivial|exact rfl|refine And.intro ?_ ?_|omega))
 conv=>whnf
 refine lookKV_step tB_ok 53 3 true false 2 [0] keyMom zeroInt_ok rfl ?_
 conv=>whnf
 refine⟨_,_,_,rfl,la, ?_⟩
 conv=>whnf
 refine lookKV_step tB_ok 53 3 true false 2 [0] keyMom zeroInt_ok rfl ?_
 conv=>whnf
 refine⟨_,_,_,rfl,lb, ?_⟩
 conv=>whnf
 refine call_step hBt rfl rfl ?_
 conv=>whnf
 refine⟨?_, ?_, ?_⟩
 iterate 2 · repeat'(first|exact trivial|exact rfl|refine And.intro ?_ ?_|((conv=>whnf);first|exact trivial|exact rfl|refine And.intro ?_ ?_|omega))
 conv=>whnf
 repeat'(first|exact trivial|exact rfl|refine And.intro ?_ ?_|((conv=>whnf);first|exact trivial|exact rfl|refine And.intro ?_ ?_|omega))

end Go.Proofs

namespace Go.Proofs
open Go.Sx

def pickT (l:List Int) (i:Nat):Int:=l.getD (i % l.length) 0
def intoT (n lo hi:Int):Int:=max lo (min hi n)

theorem intoT_in {n lo hi:Int} (h:lo≤hi):lo≤intoT n lo hi∧intoT n lo hi≤hi:=by unfold intoT; omega

theorem pickT_t (l:List Int) (i:Nat) (hl:l.length≤140737488351232):Triple Tryz.prog 140 [.c (.s 0 0 l.length 1),iv .i64 i] [(0,false, .arr (aInt l))] 1 (iv .i64 (pickT l i)) []:=by
 refine triple_of tB_ok Tryz.func140 rfl Tryz.call140 rfl ?_
 intro ρ w hH
 conv=>whnf
 refine⟨fun hc=>?_,fun hc=>?_⟩
 ·have h0:l.length=0:=by have:=(show ((l.length:Int) == 0)=true from hc); simp at this; simp [this]
  obtain rfl:=List.length_eq_zero_iff.1 h0
  rw [show pickT [] i=0 from rfl]
  conv=>whnf
  repeat'(first|exact trivial|exact rfl|refine And.intro ?_ ?_|((conv=>whnf);first|exact trivial|exact rfl|refine And.intro ?_ ?_|omega))
 ·have h0:0 < l.length:=by
   rcases Nat.eq_zero_or_pos l.length with e | e
   ·have:=(show ((l.length:Int) == 0)=false from hc); rw [e] at this; cases this
   ·exact e
  have hm:i % l.length < l.length:=Nat.mod_lt _ h0
  rw [show pickT l i=l[i % l.length] by unfold pickT; rw [List.getD_eq_getElem?_getD,List.getElem?_eq_getElem hm]; rfl]
  conv=>whnf
  refine⟨by omega,((i % l.length:Nat):Int),rfl, ?_⟩
  conv=>whnf
  refine⟨i % l.length,rfl,hm,hm, ?_⟩
  conv=>whnf
  repeat'(first|exact trivial|exact rfl|refine And.intro ?_ ?_|((conv=>whnf);first|exact trivial|exact rfl|refine And.intro ?_ ?_|omega))

theorem intoT_t (n lo hi:Int):Triple Tryz.prog 139 [iv .i64 n, .agg [.v (.int .i64 lo), .v (.int .i64 hi)]] [] 0 (iv .i64 (intoT n lo hi)) []:=by
 refine triple_of tB_ok Tryz.func139 rfl Tryz.call139 rfl ?_
 intro ρ w hH
 conv=>whnf
 repeat'(first|exact trivial|exact rfl|refine And.intro ?_ ?_|((conv=>whnf);first|exact trivial|exact rfl|refine And.intro ?_ ?_|omega))

theorem driftT_t (r:Rd) (id:Int) (hb:r.bs.length≤1000000):Triple Tryz.prog 141 [rdA r,iv .i64 id] (rdH r) 4 (iv .i64 (findD r.bs id).dr) []:=by
 have hs:∀ (i:Nat) (h:i < r.bs.length),(∀ x ∈ r.bs.take i,(x.id == id)=false) → (r.bs[i].id == id)=true → findD r.bs id=r.bs[i]:=fun i h h1 h2=>(findD_some h h1 h2).1
 have hz:(∀ x ∈ r.bs,(x.id == id)=false) → findD r.bs id=zBal:=fun h=>(findD_none h).1
 generalize findD r.bs id=d at *
 obtain ⟨bs,cs,ns,ws⟩:=r
 dsimp only at *
 refine triple_of tB_ok Tryz.func141 rfl Tryz.call141 rfl ?_
 intro ρ w hH
 conv=>whnf
 refine loop_step tB_ok (G:=Nat) 0 [] (fun i=>[(10,iv .i64 i)]) (fun _=>[]) (fun i=>i≤bs.length∧∀ x ∈ bs.take i,(x.id == id)=false) (fun i=>bs.length - i) ?_
 conv=>whnf
 refine⟨⟨0,⟨Nat.zero_le _,by simp⟩, ?_⟩, ?_⟩
 ·conv=>whnf
  repeat'(first|exact trivial|exact rfl|refine And.intro ?_ ?_|((conv=>whnf);first|exact trivial|exact rfl|refine And.intro ?_ ?_|omega))
 rintro i ⟨hi,hn⟩ ρ1 t1 hρ1
 conv=>whnf
 refine⟨fun hc=>?_,fun hc=>?_⟩
 ·have hlt:i < bs.length:=by simpa using hc
  conv=>whnf
  refine⟨i,rfl,hlt,hlt, ?_⟩
  conv=>whnf
  refine⟨fun hc=>?_,fun hc=>?_⟩
  ·obtain rfl:=hs i hlt hn hc
   conv=>whnf
   repeat'(first|exact trivial|exact rfl|refine And.intro ?_ ?_|((conv=>whnf);first|exact trivial|exact rfl|refine And.intro ?_ ?_|omega))
  ·skip
   conv=>whnf
   refine⟨_,wrapId ⟨by omega,by omega⟩, ?_⟩
   refine⟨i+1,⟨hlt,all_snoc hlt hn hc⟩,by show bs.length - (i+1) < bs.length - i; omega, ?_⟩
   conv=>whnf
   refine⟨rfl, ?_⟩
   conv=>whnf
   repeat'(first|exact trivial|exact rfl|refine And.intro ?_ ?_|((conv=>whnf);first|exact trivial|exact rfl|refine And.intro ?_ ?_|omega))
 ·have hie:i=bs.length:=by simp at hc; omega
  subst hie
  rw [List.take_length] at hn
  obtain rfl:=hz hn
  conv=>whnf
  repeat'(first|exact trivial|exact rfl|refine And.intro ?_ ?_|((conv=>whnf);first|exact trivial|exact rfl|refine And.intro ?_ ?_|omega))

def shownT (bs:List Bal) (id mass shift off:Int):Int × Bool :=
 if hasB bs id=true then (mass - shift+intoT off (-(findD bs id).half) (findD bs id).half,decide (0≤mass - shift+intoT off (-(findD bs id).half) (findD bs id).half) && decide (mass - shift+intoT off (-(findD bs id).half) (findD bs id).half≤10000000)) else (0,false)

theorem shownT_t (r:Rd) (id mass shift off:Int) (hb:r.bs.length≤1000000) (hv:∀ b ∈ r.bs,validF b=true) (hm:-20000000≤mass∧mass≤20000000) (hsf:-20000000≤shift∧shift≤20000000) :
  Triple Tryz.prog 142 [rdA r,iv .i64 id,iv .i64 mass,iv .i64 shift,iv .i64 off] (rdH r) 4 (.tup [.inl (.v (.int .i64 (shownT r.bs id mass shift off).1)), .inl (.v (.bool (shownT r.bs id mass shift off).2))]) []:=by
 have hs:∀ (i:Nat) (h:i < r.bs.length),(∀ x ∈ r.bs.take i,(x.id == id)=false) → (r.bs[i].id == id)=true → findD r.bs id=r.bs[i]∧hasB r.bs id=true:=fun i h=>findD_some h
 have hz:(∀ x ∈ r.bs,(x.id == id)=false) → findD r.bs id=zBal∧hasB r.bs id=false:=findD_none
 have e:shownT r.bs id mass shift off=if hasB r.bs id=true then (mass - shift+intoT off (-(findD r.bs id).half) (findD r.bs id).half,decide (0≤mass - shift+intoT off (-(findD r.bs id).half) (findD r.bs id).half) && decide (mass - shift+intoT off (-(findD r.bs id).half) (findD r.bs id).half≤10000000)) else (0,false):=rfl
 generalize shownT r.bs id mass shift off=R at *
 generalize findD r.bs id=d at *
 generalize hasB r.bs id=ok at *
 obtain ⟨bs,cs,ns,ws⟩:=r
 dsimp only at *
 refine triple_of tB_ok Tryz.func142 rfl Tryz.call142 rfl ?_
 intro ρ w hH
 conv=>whnf
 refine loop_step tB_ok (G:=Nat) 0 [] (fun i=>[(18,iv .i64 i)]) (fun _=>[]) (fun i=>i≤bs.length∧∀ x ∈ bs.take i,(x.id == id)=false) (fun i=>bs.length - i) ?_
 conv=>whnf
 refine⟨⟨0,⟨Nat.zero_le _,by simp⟩, ?_⟩, ?_⟩
 ·conv=>whnf
  repeat'(first|exact trivial|exact rfl|refine And.intro ?_ ?_|((conv=>whnf);first|exact trivial|exact rfl|refine And.intro ?_ ?_|omega))
 rintro i ⟨hi,hn⟩ ρ1 t1 hρ1
 conv=>whnf
 refine⟨fun hc=>?_,fun hc=>?_⟩
 ·have hlt:i < bs.length:=by simpa using hc
  conv=>whnf
  refine⟨i,rfl,hlt,hlt, ?_⟩
  conv=>whnf
  refine⟨fun hc=>?_,fun hc=>?_⟩
  ·obtain ⟨rfl,rfl⟩:=hs i hlt hn hc
   rw [if_pos rfl] at e
   obtain ⟨_,hhalf,_⟩:=valid_bd (hv _ (List.getElem_mem hlt))
   have hin:=intoT_in (n:=off) (lo:=-bs[i].half) (hi:=bs[i].half) (by omega)
   have hI:=intoT_t off (-bs[i].half) bs[i].half
   generalize intoT off (-bs[i].half) bs[i].half=z at *
   subst e
   conv=>whnf
   refine⟨mass - shift,wrapId (z:=mass - shift) ⟨by omega,by omega⟩, ?_⟩
   conv=>whnf
   refine⟨-bs[i].half,(congrArg IntKind.i64.wrap (show (0:Int) - bs[i].half=-bs[i].half by omega)).trans (wrapId ⟨by omega,by omega⟩), ?_⟩
   conv=>whnf
   refine call_step hI rfl rfl ?_
   conv=>whnf
   refine⟨?_, ?_, ?_⟩
   iterate 2 · repeat'(first|exact trivial|exact rfl|refine And.intro ?_ ?_|((conv=>whnf);first|exact trivial|exact rfl|refine And.intro ?_ ?_|omega))
   conv=>whnf
   refine⟨mass - shift+z,wrapId (z:=mass - shift+z) ⟨by omega,by omega⟩, ?_⟩
   conv=>whnf
   refine⟨fun hc2=>?_,fun hc2=>?_⟩
   ·have h0:decide (0≤mass - shift+z)=true:=hc2
    rw [h0,Bool.true_and]
    conv=>whnf
    repeat'(first|exact trivial|exact rfl|refine And.intro ?_ ?_|((conv=>whnf);first|exact trivial|exact rfl|refine And.intro ?_ ?_|omega))
   ·have h0:decide (0≤mass - shift+z)=false:=hc2
    rw [h0,Bool.false_and]
    conv=>whnf
    repeat'(first|exact trivial|exact rfl|refine And.intro ?_ ?_|((conv=>whnf);first|exact trivial|exact rfl|refine And.intro ?_ ?_|omega))
  ·skip
   conv=>whnf
   refine⟨_,wrapId ⟨by omega,by omega⟩, ?_⟩
   refine⟨i+1,⟨hlt,all_snoc hlt hn hc⟩,by show bs.length - (i+1) < bs.length - i; omega, ?_⟩
   conv=>whnf
   refine⟨rfl, ?_⟩
   conv=>whnf
   repeat'(first|exact trivial|exact rfl|refine And.intro ?_ ?_|((conv=>whnf);first|exact trivial|exact rfl|refine And.intro ?_ ?_|omega))
 ·have hie:i=bs.length:=by simp at hc; omega
  subst hie
  rw [List.take_length] at hn
  obtain ⟨_,rfl⟩:=hz hn
  rw [if_neg (by simp)] at e
  subst e
  conv=>whnf
  repeat'(first|exact trivial|exact rfl|refine And.intro ?_ ?_|((conv=>whnf);first|exact trivial|exact rfl|refine And.intro ?_ ?_|omega))

end Go.Proofs

namespace Go.Proofs
open Go.Sx

def upT {α:Type} (g:List α → Option α):Nat → Option (List α)
 | 0=>some []
 | i+1=>match upT g i with
  | none=>none
  | some l=>match g l with
   | none=>none
   | some x=>some (l ++ [x])

theorem upT_len {α:Type} {g:List α → Option α}:∀ {n:Nat} {l:List α},upT g n=some l → l.length=n
 | 0,l,h=>by simp [upT] at h; subst h; rfl
 | n+1,l,h=>by
  simp only [upT] at h
  cases h1:upT g n with
  | none=>rw [h1] at h; cases h
  | some k =>
   rw [h1] at h; simp only at h
   cases h2:g k with
   | none=>rw [h2] at h; cases h
   | some x=>rw [h2] at h; cases h; rw [List.length_append,upT_len h1]; rfl

theorem upT_at {α:Type} {g:List α → Option α}:∀ {n:Nat} {l:List α},upT g n=some l → ∀ i,i < n → ∃ x,l[i]? = some x∧g (l.take i)=some x
 | 0,l,h,i,hi=>by omega
 | n+1,l,h,i,hi=>by
  simp only [upT] at h
  cases h1:upT g n with
  | none=>rw [h1] at h; cases h
  | some k =>
   rw [h1] at h; simp only at h
   cases h2:g k with
   | none=>rw [h2] at h; cases h
   | some x =>
    rw [h2] at h; cases h
    have hk:=upT_len h1
    rcases Nat.lt_or_eq_of_le (Nat.le_of_lt_succ hi) with hlt | rfl
    ·obtain ⟨y,e1,e2⟩:=upT_at h1 i hlt
     exact⟨y,by rw [List.getElem?_append_left (by omega)]; exact e1,by rw [List.take_append_of_le_length (by omega)]; exact e2⟩
    ·exact⟨x,by rw [← hk,List.getElem?_concat_length],by rw [← hk,List.take_left]; exact h2⟩

theorem upT_none {α:Type} {g:List α → Option α} {i:Nat} (h:upT g i=none):∀ (d:Nat),upT g (i+d)=none
 | 0=>h
 | d+1=>by
  show upT g ((i+d)+1)=none
  simp only [upT]; rw [upT_none h d]

def stepM (os:List Thg) (o:Thg) (ma:List Int) (n:Int):Nat → Int
 | 0=>n
 | k+1=>if isHvy (os.getD k default) o=true then min (stepM os o ma n k) (ma.getD k 0) else stepM os o ma n k

theorem stepM_le (os:List Thg) (o:Thg) (ma:List Int) (n:Int):∀ k,stepM os o ma n k≤n
 | 0=>Int.le_refl _
 | k+1=>by
  have:=stepM_le os o ma n k
  simp only [stepM]; split <;> omega

theorem stepM_nn {os:List Thg} {o:Thg} {ma:List Int} {n:Int} (hn:0≤n) (hm:∀ k,0≤ma.getD k 0):∀ k,0≤stepM os o ma n k
 | 0=>hn
 | k+1=>by
  have:=stepM_nn (os:=os) (o:=o) hn hm k
  have:=hm k
  simp only [stepM]; split <;> omega

theorem stepM_hvy {os:List Thg} {o:Thg} {ma:List Int} {n:Int}:∀ {i k:Nat},k < i → isHvy (os.getD k default) o=true → stepM os o ma n i≤ma.getD k 0
 | 0,k,h,_=>by omega
 | i+1,k,h,hh=>by
  rcases Nat.lt_or_eq_of_le (Nat.le_of_lt_succ h) with hlt | rfl
  ·have:=stepM_hvy (ma:=ma) (n:=n) hlt hh
   simp only [stepM]; split <;> omega
  ·simp only [stepM]; rw [if_pos hh]; omega

def gM (r:Rd) (xs:List Int) (ma:List Int):Option Int :=
 some (stepM (objsF r) ((objsF r).getD ma.length default) ma (intoT (pickT xs ma.length) 0 (capF r ((objsF r).getD ma.length default))) ma.length)

def spanT (r:Rd) (sh:List Int):Int × Int :=
 if 0 < sh.length∧((momsF r []).getD (sh.length - 1) default).bal=((momsF r []).getD sh.length default).bal then
  (max (sideF r ((momsF r []).getD sh.length default)).lo (sh.getD (sh.length - 1) 0 - (findD r.bs ((momsF r []).getD sh.length default).bal).dr * (((momsF r []).getD sh.length default).tick - ((momsF r []).getD (sh.length - 1) default).tick)),
   min (sideF r ((momsF r []).getD sh.length default)).hi (sh.getD (sh.length - 1) 0+(findD r.bs ((momsF r []).getD sh.length default).bal).dr * (((momsF r []).getD sh.length default).tick - ((momsF r []).getD (sh.length - 1) default).tick)))
 else ((sideF r ((momsF r []).getD sh.length default)).lo,(sideF r ((momsF r []).getD sh.length default)).hi)

def gS (r:Rd) (xs:List Int) (sh:List Int):Option Int :=
 if (spanT r sh).1≤(spanT r sh).2 then some (intoT (pickT xs sh.length) (spanT r sh).1 (spanT r sh).2) else none

def shW (r:Rd) (ma sh xo:List Int) (i:Nat) (w:Wgh):Int × Bool:=shownT r.bs w.bal (atF ma (plF (objsF r) w.o)) (atF sh (plF (momsF r []) (wMom w))) (pickT xo i)
def shC (r:Rd) (sh xo:List Int) (i:Nat) (c:Chk):Int × Bool:=shownT r.bs c.bal c.mass (atF sh (plF (momsF r []) (cMom c))) (pickT xo (i+r.ws.length))

def gW (r:Rd) (ma sh xo:List Int) (l:List Wgh):Option Wgh :=
 if (shW r ma sh xo l.length (r.ws.getD l.length default)).2=true then some { r.ws.getD l.length default with shown:=(shW r ma sh xo l.length (r.ws.getD l.length default)).1 } else none
def gC (r:Rd) (sh xo:List Int) (l:List Chk):Option Chk :=
 if (shC r sh xo l.length (r.cs.getD l.length default)).2=true then some { r.cs.getD l.length default with shown:=(shC r sh xo l.length (r.cs.getD l.length default)).1 } else none

structure MadeT (r:Rd) (xm xs xo:List Int) (ma sh:List Int) (ws:List Wgh) (cs:List Chk):Prop where
 hma:upT (gM r xm) (objsF r).length=some ma
 hsh:upT (gS r xs) (momsF r []).length=some sh
 hws:upT (gW r ma sh xo) r.ws.length=some ws
 hcs:upT (gC r sh xo) r.cs.length=some cs

theorem shownT_bd {bs:List Bal} {id mass shift off:Int} (hv:∀ b ∈ bs,validF b=true) (h:(shownT bs id mass shift off).2=true) :
  (0≤(shownT bs id mass shift off).1∧(shownT bs id mass shift off).1≤10000000)∧mass - shift≤(shownT bs id mass shift off).1+(findD bs id).half∧shift - mass≤(findD bs id).half - (shownT bs id mass shift off).1:=by
 unfold shownT at *
 by_cases hb:hasB bs id=true
 ·rw [if_pos hb] at *
  simp only [Bool.and_eq_true,decide_eq_true_eq] at h
  have hm:findD bs id ∈ bs:=by
   unfold hasB at hb; unfold findD
   cases e:findB bs id with
   | none=>rw [e] at hb; cases hb
   | some b=>exact List.mem_of_find?_eq_some e
  obtain ⟨_,hh,_⟩:=valid_bd (hv _ hm)
  have:=intoT_in (n:=off) (lo:=-(findD bs id).half) (hi:=(findD bs id).half) (by omega)
  refine⟨h, ?_, ?_⟩ <;> dsimp only <;> omega
 ·rw [if_neg hb] at h; cases h

theorem updL {α β:Type} [Inhabited α] {f:α → β} {g:List α → Option α} {l k:List α} (hg:∀ (p:List α) (x:α),g p=some x → f x=f (l.getD p.length default)) (h:upT g l.length=some k):k.map f=l.map f:=by
 have hk:=upT_len h
 refine List.ext_getElem? fun i=>?_
 rw [List.getElem?_map,List.getElem?_map]
 by_cases hi:i < l.length
 ·obtain ⟨x,e1,e2⟩:=upT_at h i hi
  rw [e1,List.getElem?_eq_getElem hi]
  have:=hg _ _ e2
  rw [List.length_take,Nat.min_eq_left (by omega),List.getD_eq_getElem?_getD,List.getElem?_eq_getElem hi] at this
  simpa using this
 ·rw [List.getElem?_eq_none (by omega),List.getElem?_eq_none (by omega)]

theorem gW_same {r:Rd} {ma sh xo:List Int} {p:List Wgh} {x:Wgh} (h:gW r ma sh xo p=some x):(x.id,x.bal,x.tick,x.o)=((r.ws.getD p.length default).id,(r.ws.getD p.length default).bal,(r.ws.getD p.length default).tick,(r.ws.getD p.length default).o):=by
 unfold gW at h; split at h
 ·cases h; rfl
 ·cases h
theorem gC_same {r:Rd} {sh xo:List Int} {p:List Chk} {x:Chk} (h:gC r sh xo p=some x):(x.id,x.bal,x.tick,x.mass)=((r.cs.getD p.length default).id,(r.cs.getD p.length default).bal,(r.cs.getD p.length default).tick,(r.cs.getD p.length default).mass):=by
 unfold gC at h; split at h
 ·cases h; rfl
 ·cases h

def withT (r:Rd) (ws:List Wgh) (cs:List Chk):Rd:=⟨r.bs,cs,r.ns,ws⟩

theorem cap_map {bs:List Bal} {o:Thg}:∀ {ws ks:List Wgh} {n:Int},ws.map (fun w=>(w.bal,w.o))=ks.map (fun w=>(w.bal,w.o)) → ws.foldl (capStep bs o) n=ks.foldl (capStep bs o) n
 | [],[],_,_=>rfl
 | [],_ :: _,_,h=>by simp at h
 | _ :: _,[],_,h=>by simp at h
 | a :: r,b :: s,n,h=>by
  simp only [List.map_cons,List.cons.injEq,Prod.mk.injEq] at h
  simp only [List.foldl_cons]
  rw [show capStep bs o n a=capStep bs o n b by unfold capStep; rw [h.1.1,h.1.2]]
  exact cap_map h.2

theorem mk_same {r:Rd} {xm xs xo ma sh:List Int} {ws:List Wgh} {cs:List Chk} (h:MadeT r xm xs xo ma sh ws cs) :
  ws.map (fun w=>(w.id,w.bal,w.tick,w.o))=r.ws.map (fun w=>(w.id,w.bal,w.tick,w.o))∧cs.map (fun c=>(c.id,c.bal,c.tick,c.mass))=r.cs.map (fun c=>(c.id,c.bal,c.tick,c.mass)) :=
 ⟨updL (fun _ _=>gW_same) h.hws,updL (fun _ _=>gC_same) h.hcs⟩

theorem map_of {α β γ:Type} {f:α → β} {l k:List α} (h:l.map f=k.map f) (g:β → γ):l.map (fun x=>g (f x))=k.map (fun x=>g (f x)):=by
 have:=congrArg (List.map g) h
 rw [List.map_map,List.map_map] at this
 exact this

theorem mk_objs {r:Rd} {xm xs xo ma sh:List Int} {ws:List Wgh} {cs:List Chk} (h:MadeT r xm xs xo ma sh ws cs) :
  objsF (withT r ws cs)=objsF r∧momsF (withT r ws cs) []=momsF r []∧(∀ o,capF (withT r ws cs) o=capF r o)∧(∀ m,sideF (withT r ws cs) m=sideF r m):=by
 obtain ⟨h1,h2⟩:=mk_same h
 have e1:=map_of h1 (fun t=>t.2.2.2)
 have e2:=map_of h1 (fun t=>Mom.mk t.2.1 t.2.2.1)
 have e3:=map_of h2 (fun t=>Mom.mk t.2.1 t.2.2.1)
 have e4:=map_of h1 (fun t=>(t.2.1,t.2.2.2))
 refine⟨congrArg (distS thgLt) e1, ?_,fun o=>cap_map e4,fun m=>rfl⟩
 show distS momLt (ws.map wMom ++ (cs.map cMom ++ []))=distS momLt (r.ws.map wMom ++ (r.cs.map cMom ++ []))
 rw [show ws.map wMom=r.ws.map wMom from e2,show cs.map cMom=r.cs.map cMom from e3]

theorem mk_ok {r:Rd} (hr:RdOK r) {xm xs xo ma sh:List Int} {ws:List Wgh} {cs:List Chk} (h:MadeT r xm xs xo ma sh ws cs):RdOK (withT r ws cs):=by
 obtain ⟨h1,h2⟩:=mk_same h
 have i1:=map_of h1 (fun t=>t.1)
 have i2:=map_of h2 (fun t=>t.1)
 have lw:=upT_len h.hws
 have lc:=upT_len h.hcs
 refine⟨hr.nb, ?_,hr.bal,hr.balN,fun c hc=>?_,hr.ntc,fun w hw=>?_, ?_⟩
 ·have:=hr.nr
  show cs.length+r.ns.length+ws.length≤100
  omega
 ·show idOK c.id=true∧chkF r.bs c=true
  have hc:c ∈ cs:=hc
  obtain ⟨i,hi⟩:=List.mem_iff_getElem?.1 hc
  have hil:i < r.cs.length:=by have:=(List.getElem?_eq_some_iff.1 hi).1; omega
  obtain ⟨x,e1,e2⟩:=upT_at h.hcs i hil
  rw [hi] at e1; cases e1
  unfold gC at e2
  split at e2
  ·rename_i hs
   have hm:r.cs.getD (cs.take i).length default ∈ r.cs:=by
    rw [List.length_take,Nat.min_eq_left (by omega),List.getD_eq_getElem?_getD,List.getElem?_eq_getElem hil]; exact List.getElem_mem hil
   obtain ⟨b,_,_⟩:=shownT_bd hr.bal hs
   obtain ⟨k1,k2⟩:=hr.chk _ hm
   cases e2
   refine⟨k1, ?_⟩
   unfold chkF at *
   simp only [Bool.and_eq_true] at k2 ⊢
   refine⟨k2.1,k2.2.1,k2.2.2.1, ?_⟩
   unfold withinF; rw [Bool.and_eq_true,decide_eq_true_eq,decide_eq_true_eq]; exact b
  ·cases e2
 ·show idOK w.id=true∧wghF r.bs w=true
  have hw:w ∈ ws:=hw
  obtain ⟨i,hi⟩:=List.mem_iff_getElem?.1 hw
  have hil:i < r.ws.length:=by have:=(List.getElem?_eq_some_iff.1 hi).1; omega
  obtain ⟨x,e1,e2⟩:=upT_at h.hws i hil
  rw [hi] at e1; cases e1
  unfold gW at e2
  split at e2
  ·rename_i hs
   have hm:r.ws.getD (ws.take i).length default ∈ r.ws:=by
    rw [List.length_take,Nat.min_eq_left (by omega),List.getD_eq_getElem?_getD,List.getElem?_eq_getElem hil]; exact List.getElem_mem hil
   obtain ⟨b,_,_⟩:=shownT_bd hr.bal hs
   obtain ⟨k1,k2⟩:=hr.wgh _ hm
   cases e2
   refine⟨k1, ?_⟩
   unfold wghF at *
   simp only [Bool.and_eq_true] at k2 ⊢
   refine⟨k2.1,k2.2.1,k2.2.2.1, ?_⟩
   unfold withinF; rw [Bool.and_eq_true,decide_eq_true_eq,decide_eq_true_eq]; exact b
  ·cases e2
 ·show (cs.map Chk.id ++ (r.ns.map Ntc.id ++ ws.map Wgh.id)).Nodup
  rw [show cs.map Chk.id=r.cs.map Chk.id from i2,show ws.map Wgh.id=r.ws.map Wgh.id from i1]
  exact hr.ids

theorem getD_at {α:Type} [Inhabited α] {l:List α} {i:Nat} {x:α} (h:l[i]? = some x):l.getD i default=x:=by
 rw [List.getD_eq_getElem?_getD,h]; rfl

theorem take_getD {l:List Int} {i k:Nat} (h:k < i):(l.take i).getD k 0=l.getD k 0:=by
 rw [List.getD_eq_getElem?_getD,List.getD_eq_getElem?_getD,List.getElem?_take_of_lt h]

theorem mk_nn {r:Rd} (hr:RdOK r) {xm:List Int}:∀ {n:Nat} {ma:List Int},upT (gM r xm) n=some ma → n≤(objsF r).length → ∀ k,0≤ma.getD k 0
 | 0,ma,h,_,k=>by simp [upT] at h; subst h; simp
 | n+1,ma,h,hn,k=>by
  simp only [upT] at h
  cases h1:upT (gM r xm) n with
  | none=>rw [h1] at h; cases h
  | some l =>
   rw [h1] at h
   have h:some (l ++ [_])=some ma:=h
   cases h
   have ih:=mk_nn hr h1 (by omega)
   have hl:=upT_len h1
   rw [List.getD_eq_getElem?_getD]
   rcases Nat.lt_trichotomy k l.length with hlt | rfl | hlt
   ·rw [List.getElem?_append_left hlt,← List.getD_eq_getElem?_getD]; exact ih k
   ·rw [List.getElem?_concat_length]
    have hc:1≤capF r ((objsF r).getD l.length default):=(cap_bd r.ws (fun w hw=>(valid_bd (hr.findD (by
     have:=(hr.wgh w hw).2
     unfold wghF at this
     simp only [Bool.and_eq_true] at this
     exact this.1))).2.2.2.2.1) ⟨by omega,by omega⟩).1
    exact stepM_nn (intoT_in (by omega)).1 ih _
   ·rw [List.getElem?_eq_none (by rw [List.length_append]; simp; omega)]; exact Int.le_refl _

theorem mk_made {r:Rd} (hr:RdOK r) {xm xs xo ma sh:List Int} {ws:List Wgh} {cs:List Chk} (h:MadeT r xm xs xo ma sh ws cs):Made (withT r ws cs) ma sh:=by
 obtain ⟨eo,em,ec,es⟩:=mk_objs h
 have lm:=upT_len h.hma
 have ls:=upT_len h.hsh
 have lw:=upT_len h.hws
 have lc:=upT_len h.hcs
 have hnn:=mk_nn hr h.hma (Nat.le_refl _)
 have hcap:∀ o,1≤capF r o:=fun o=>(cap_bd r.ws (fun w hw=>(valid_bd (hr.findD (by
     have:=(hr.wgh w hw).2
     unfold wghF at this
     simp only [Bool.and_eq_true] at this
     exact this.1))).2.2.2.2.1) ⟨by omega,by omega⟩).1
 have hma:∀ (i:Nat) (o:Thg),(objsF r)[i]? = some o → ma.getD i 0=stepM (objsF r) o (ma.take i) (intoT (pickT xm i) 0 (capF r o)) i:=fun i o hi=>by
  have hil:=(List.getElem?_eq_some_iff.1 hi).1
  obtain ⟨x,e1,e2⟩:=upT_at h.hma i hil
  unfold gM at e2
  rw [List.length_take,Nat.min_eq_left (by omega),getD_at hi] at e2
  rw [List.getD_eq_getElem?_getD,e1]
  exact (Option.some.inj e2).symm
 have hsh:∀ (i:Nat) (m:Mom),(momsF r [])[i]? = some m → (spanT r (sh.take i)).1≤sh.getD i 0∧sh.getD i 0≤(spanT r (sh.take i)).2:=fun i m hi=>by
  have hil:=(List.getElem?_eq_some_iff.1 hi).1
  obtain ⟨x,e1,e2⟩:=upT_at h.hsh i hil
  unfold gS at e2
  split at e2
  ·rename_i hle
   cases e2
   rw [List.getD_eq_getElem?_getD,e1]
   exact intoT_in hle
  ·cases e2
 refine⟨by rw [eo]; exact lm,by rw [em]; exact ls,fun i o hi=>?_,fun i k o a hi hk hki hh=>?_,fun i m hi=>?_,fun j a b hj hj' hab=>?_,fun w hw=>?_,fun c hc=>?_⟩
 ·rw [eo] at hi
  rw [ec]
  have h1:=hma i o hi
  have h2:=stepM_le (objsF r) o (ma.take i) (intoT (pickT xm i) 0 (capF r o)) i
  have h3:=(intoT_in (n:=pickT xm i) (lo:=0) (hi:=capF r o) (by have:=hcap o; omega)).2
  exact⟨hnn i,by omega⟩
 ·rw [eo] at hi hk
  have h1:=hma i o hi
  have h2:=stepM_hvy (os:=objsF r) (o:=o) (ma:=ma.take i) (n:=intoT (pickT xm i) 0 (capF r o)) hki (by rw [getD_at hk]; exact hh)
  rw [take_getD hki] at h2
  omega
 ·rw [em] at hi
  rw [es]
  have h1:=hsh i m hi
  have hil:=(List.getElem?_eq_some_iff.1 hi).1
  unfold spanT at h1
  rw [List.length_take,Nat.min_eq_left (by omega),getD_at hi] at h1
  split at h1 <;> (dsimp only at h1; omega)
 ·rw [em] at hj hj'
  have h1:=hsh (j+1) b hj'
  have hil:=(List.getElem?_eq_some_iff.1 hj').1
  unfold spanT at h1
  rw [List.length_take,Nat.min_eq_left (by omega),getD_at hj',Nat.add_sub_cancel,getD_at hj,if_pos ⟨by omega,hab⟩,take_getD (Nat.lt_succ_self j)] at h1
  show sh.getD (j+1) 0 - sh.getD j 0≤(findD r.bs a.bal).dr * (b.tick - a.tick)∧sh.getD j 0 - sh.getD (j+1) 0≤(findD r.bs a.bal).dr * (b.tick - a.tick)
  rw [hab]
  generalize (findD r.bs b.bal).dr * (b.tick - a.tick)=far at *
  dsimp only at h1
  omega
 ·have hw:w ∈ ws:=hw
  rw [eo,em]
  show _≤w.shown+(findD r.bs w.bal).half∧_≤(findD r.bs w.bal).half - w.shown
  obtain ⟨i,hi⟩:=List.mem_iff_getElem?.1 hw
  obtain ⟨x,e1,e2⟩:=upT_at h.hws i (by have:=(List.getElem?_eq_some_iff.1 hi).1; omega)
  rw [hi] at e1; cases e1
  unfold gW at e2
  split at e2
  ·rename_i hs
   have:=shownT_bd hr.bal hs
   cases e2
   exact this.2
  ·cases e2
 ·have hc:c ∈ cs:=hc
  rw [em]
  show _≤c.mass - c.shown+(findD r.bs c.bal).half∧_≤c.shown+(findD r.bs c.bal).half - c.mass
  obtain ⟨i,hi⟩:=List.mem_iff_getElem?.1 hc
  obtain ⟨x,e1,e2⟩:=upT_at h.hcs i (by have:=(List.getElem?_eq_some_iff.1 hi).1; omega)
  rw [hi] at e1; cases e1
  unfold gC at e2
  split at e2
  ·rename_i hs
   obtain ⟨_,b1,b2⟩:=shownT_bd hr.bal hs
   cases e2
   unfold shC at *
   dsimp only at *
   generalize shownT _ _ _ _ _=z at *
   generalize r.cs.getD _ _=y at *
   constructor
   ·show atF sh (plF (momsF r []) (cMom y))≤y.mass - z.1+(findD r.bs y.bal).half
    omega
   ·show -atF sh (plF (momsF r []) (cMom y))≤z.1+(findD r.bs y.bal).half - y.mass
    omega
  ·cases e2

