/-
  A part of the proof that a law answers true: lemmas of a symbolic walk, plain functions, or contracts of the functions walked (RZ, RF, RG, RH, RI, RW1). Conditions: none.
-/
import Derived.Test.YtagedjfjcnemoaaGreatPart32
import Derived.Test.YtagedjfjcnemoaaGreatPart31
import Derived.Test.YtagedjfjcnemoaaGreatPart13
import Derived.Test.YtagedjfjcnemoaaGreatPart30
set_option maxRecDepth 100000
set_option linter.unusedVariables false
set_option linter.unusedSimpArgs false
namespace Go.Proofs
open Go.Sx

theorem lawIn_t (n lo hi:Int) (h:lo≤n∧n≤hi):Triple Tryz.prog 70 [iv .i64 n, .agg [.v (.int .i64 lo), .v (.int .i64 hi)]] [] 0 (bv true) []:=by
 refine triple_of tB_ok Tryz.func70 rfl Tryz.call70 rfl ?_
 intro ρ w hH
 conv=>whnf
 refine⟨fun hc=>?_,fun hc=>absurd (of_decide_eq_false (show decide (lo≤n)=false from hc)) (by omega)⟩
 conv=>whnf
 exact⟨(decide_eq_true h.2:decide (n≤hi)=true),trivial⟩

theorem true_shows {q:Rd} (hq:RdOK q) {ma sh:List Int} (h:Made q ma sh) (hs:∀ v,-1000000≤atF sh v∧atF sh v≤1000000) {w:Wgh} (hw:w ∈ q.ws) {b:Bal} (hb:b ∈ q.bs) (hi:b.id=w.bal) :
  showsR b (atF ma (plF (objsF q) w.o)) (atF sh (plF (momsF q []) (wMom w))) w.shown=true:=by
 have hf:findD q.bs w.bal=b:=by
  have:=(findB_iff (b:=b) (id:=w.bal) hq.balN).2 ⟨hb,hi⟩
  unfold findD; rw [this]; rfl
 have h1:=h.wgh w hw
 rw [hf] at h1
 have ho:w.o ∈ objsF q:=objsF_mem.2 ⟨w,hw,rfl⟩
 obtain ⟨i,hoi,e⟩:=atF_ix (p:=ma) ho
 have h2:=h.obj i w.o hoi
 rw [← e] at h2
 have h3:=(capF_iff (r:=q) (o:=w.o) (v:=capF q w.o)).1 (Int.le_refl _)
 have h4:=h3.2 w hw rfl
 rw [hf] at h4
 have h5:=hs (plF (momsF q []) (wMom w))
 have h6:=(hq.wgh w hw).2
 unfold wghF at h6
 simp only [Bool.and_eq_true] at h6
 have h7:=h6.2.2.2
 generalize atF ma (plF (objsF q) w.o)=x at *
 generalize atF sh (plF (momsF q []) (wMom w))=y at *
 unfold showsR canF
 rw [h7,hq.bal b hb]
 unfold withinF
 simp only [Bool.true_and,Bool.and_eq_true,decide_eq_true_eq]
 omega

abbrev itA (r:Rd) (xm xs xo:List Int) (z1 z2:Int):List SV:=tuA r xm xs xo ++ [iv .u8 z1,iv .u8 z2]

theorem few_withT {r:Rd} (h:fewRd r=true) {ws:List Wgh} {cs:List Chk} (hw:ws.length=r.ws.length) (hc:cs.length=r.cs.length):fewRd (withT r ws cs)=true:=by
 unfold fewRd at *
 show (decide (r.bs.length≤10) && decide (cs.length+r.ns.length+ws.length≤24))=true
 rw [hw,hc]; exact h

set_option maxHeartbeats 4000000 in
theorem balanceIsTrue_t (r:Rd) (hw:Wide r) (xm xs xo:List Int) (hx:xm.length≤140737488351232∧xs.length≤140737488351232∧xo.length≤140737488351232) (z1:Int) (hz1:0≤z1∧z1 < 256) (z2:Int) (hz2:0≤z2∧z2 < 256) :
  Triple Tryz.prog 12 (itA r xm xs xo z1 z2) (tuH r xm xs xo) 7 (bv true) []:=by
 have hFew:=few_rd_t r hw
 by_cases hfew:fewRd r=true
 rotate_left
 ·rw [Bool.not_eq_true] at hfew
  rw [hfew] at hFew
  refine triple_of tB_ok Tryz.func12 rfl Tryz.call12 rfl ?_
  intro ρ w hH
  conv=>whnf
  refine call_step hFew (by exact rfl) (by exact rfl) ?_
  conv=>whnf
  refine⟨?_, ?_, ?_⟩
  iterate 2 · repeat'(first|exact trivial|exact rfl|refine And.intro ?_ ?_|((conv=>whnf);first|exact trivial|exact rfl|refine And.intro ?_ ?_|omega))
  conv=>whnf
  refine⟨fun hc=>?_,fun hc=>absurd hc (by simp)⟩
  conv=>whnf
  refine call_step sanity_t (by exact rfl) (by exact rfl) ?_
  conv=>whnf
  refine⟨?_, ?_, ?_⟩
  iterate 2 · repeat'(first|exact trivial|exact rfl|refine And.intro ?_ ?_|((conv=>whnf);first|exact trivial|exact rfl|refine And.intro ?_ ?_|omega))
  conv=>whnf
  repeat'(first|exact trivial|exact rfl|refine And.intro ?_ ?_|((conv=>whnf);first|exact trivial|exact rfl|refine And.intro ?_ ?_|omega))
 rw [hfew] at hFew
 have hs:=few_sml hfew
 have hC:=rCheck_t r hs
 by_cases h0:checkR r=0
 rotate_left
 ·generalize checkR r=c at *
  refine triple_of tB_ok Tryz.func12 rfl Tryz.call12 rfl ?_
  intro ρ w hH
  conv=>whnf
  refine call_step hFew (by exact rfl) (by exact rfl) ?_
  conv=>whnf
  refine⟨?_, ?_, ?_⟩
  iterate 2 · repeat'(first|exact trivial|exact rfl|refine And.intro ?_ ?_|((conv=>whnf);first|exact trivial|exact rfl|refine And.intro ?_ ?_|omega))
  conv=>whnf
  refine⟨fun hc=>absurd hc (by simp),fun hc=>?_⟩
  conv=>whnf
  refine call_step hC (by exact rfl) (by exact rfl) ?_
  conv=>whnf
  refine⟨?_, ?_, ?_⟩
  iterate 2 · repeat'(first|exact trivial|exact rfl|refine And.intro ?_ ?_|((conv=>whnf);first|exact trivial|exact rfl|refine And.intro ?_ ?_|omega))
  conv=>whnf
  refine⟨fun hcc=>?_,fun hcc=>absurd (by simpa using (show (c != 0)=false from hcc)) h0⟩
  conv=>whnf
  refine call_step sanity_t (by exact rfl) (by exact rfl) ?_
  conv=>whnf
  refine⟨?_, ?_, ?_⟩
  iterate 2 · repeat'(first|exact trivial|exact rfl|refine And.intro ?_ ?_|((conv=>whnf);first|exact trivial|exact rfl|refine And.intro ?_ ?_|omega))
  conv=>whnf
  repeat'(first|exact trivial|exact rfl|refine And.intro ?_ ?_|((conv=>whnf);first|exact trivial|exact rfl|refine And.intro ?_ ?_|omega))
 have hr:=checkR_ok.1 h0
 rw [h0] at hC
 by_cases hm:∃ ma sh ws' cs',MadeT r xm xs xo ma sh ws' cs'
 rotate_left
 ·have hT:=truthN_t r hr xm xs xo hx (fun ma sh ws' cs' h=>hm ⟨ma,sh,ws',cs',h⟩)
  refine triple_of tB_ok Tryz.func12 rfl Tryz.call12 rfl ?_
  intro ρ w hH
  conv=>whnf
  refine call_step hFew (by exact rfl) (by exact rfl) ?_
  conv=>whnf
  refine⟨?_, ?_, ?_⟩
  iterate 2 · repeat'(first|exact trivial|exact rfl|refine And.intro ?_ ?_|((conv=>whnf);first|exact trivial|exact rfl|refine And.intro ?_ ?_|omega))
  conv=>whnf
  refine⟨fun hc=>absurd hc (by simp),fun hc=>?_⟩
  conv=>whnf
  refine call_step hC (by exact rfl) (by exact rfl) ?_
  conv=>whnf
  refine⟨?_, ?_, ?_⟩
  iterate 2 · repeat'(first|exact trivial|exact rfl|refine And.intro ?_ ?_|((conv=>whnf);first|exact trivial|exact rfl|refine And.intro ?_ ?_|omega))
  conv=>whnf
  refine⟨fun hc=>absurd hc (by simp),fun hc=>?_⟩
  conv=>whnf
  refine call_step hT (by exact rfl) (by exact rfl) ?_
  conv=>whnf
  refine⟨?_, ?_, ?_⟩
  iterate 2 · repeat'(first|exact trivial|exact rfl|refine And.intro ?_ ?_|((conv=>whnf);first|exact trivial|exact rfl|refine And.intro ?_ ?_|omega))
  conv=>whnf
  refine⟨fun hc=>?_,fun hc=>absurd hc (by simp)⟩
  conv=>whnf
  refine call_step sanity_t (by exact rfl) (by exact rfl) ?_
  conv=>whnf
  refine⟨?_, ?_, ?_⟩
  iterate 2 · repeat'(first|exact trivial|exact rfl|refine And.intro ?_ ?_|((conv=>whnf);first|exact trivial|exact rfl|refine And.intro ?_ ?_|omega))
  conv=>whnf
  repeat'(first|exact trivial|exact rfl|refine And.intro ?_ ?_|((conv=>whnf);first|exact trivial|exact rfl|refine And.intro ?_ ?_|omega))
 obtain ⟨ma,sh,ws',cs',hmt⟩:=hm
 have hT:=truthY_t r hr xm xs xo hx ma sh ws' cs' hmt
 have hlw:=upT_len hmt.hws
 have hlc:=upT_len hmt.hcs
 have hq:=mk_ok hr hmt
 have hmd:=mk_made hr hmt
 have hqw:(withT r ws' cs').ws=ws':=rfl
 have hqb:(withT r ws' cs').bs=r.bs:=rfl
 have hqA:rdA (withT r ws' cs')=.agg [.s 0 0 r.bs.length 6, .s 2 0 cs'.length 5, .s 3 0 r.ns.length 6, .s 1 0 ws'.length 8]:=rfl
 have hqH:rdH (withT r ws' cs')=[(0,false, .arr (aBal r.bs)),(1,false, .arr (aWgh ws')),(2,false, .arr (aChk cs')),(3,false, .arr (aNtc r.ns))]:=rfl
 have hqs:=few_sml (few_withT hfew hlw hlc)
 have hSb:∀ v,-1000000≤atF sh v∧atF sh v≤1000000:=fun v=>by
  unfold atF; split
  ·exact⟨by decide,by decide⟩
  ·exact gS_bd hr hmt.hsh (Nat.le_refl _) _
 have hmB:=fun j=>gM_bd hr hmt.hma (Nat.le_refl _) j
 have hsB:=fun j=>gS_bd hr hmt.hsh (Nat.le_refl _) j
 clear hmt
 have hwl:ws'.length≤100:=by have:=hr.nr; omega
 have hrb:r.bs.length≤8:=hr.nb
 generalize withT r ws' cs'=q at *
 have hlm:=hmd.lm
 have hls:=hmd.ls
 have hol2:(objsF q).length≤1000:=by have:=objsF_len q; have:=hq.nr; omega
 have hml2:(momsF q []).length≤1000:=by have h1:=momsF_len q []; rw [List.length_nil] at h1; have:=hq.nr; omega
 have hO:=rObjects_t q hqs
 have hMo:=rMoments_t q hqs
 have hFt:=bFits_t q ma sh hqs
 have hSu:=suspects_t q hqs
 obtain ⟨hf2,hCalm⟩:=true_law hq hmd
 rw [show suspectsF q=([],0) by unfold suspectsF; rw [if_pos (checkR_ok.2 hq),if_pos hCalm]] at hSu
 simp only [trA,trH] at hFt
 rw [hqA,hqH] at hO hMo hSu hFt
 generalize fitsF q ma sh=F at *
 obtain ⟨F1,F2⟩:=F
 obtain rfl:F2=true:=hf2
 refine triple_of tB_ok Tryz.func12 rfl Tryz.call12 rfl ?_
 intro ρ w hH
 conv=>whnf
 refine call_step hFew (by exact rfl) (by exact rfl) ?_
 conv=>whnf
 refine⟨?_, ?_, ?_⟩
 iterate 2 · repeat'(first|exact trivial|exact rfl|refine And.intro ?_ ?_|((conv=>whnf);first|exact trivial|exact rfl|refine And.intro ?_ ?_|omega))
 conv=>whnf
 refine⟨fun hc=>absurd hc (by simp),fun hc=>?_⟩
 conv=>whnf
 refine call_step hC (by exact rfl) (by exact rfl) ?_
 conv=>whnf
 refine⟨?_, ?_, ?_⟩
 iterate 2 · repeat'(first|exact trivial|exact rfl|refine And.intro ?_ ?_|((conv=>whnf);first|exact trivial|exact rfl|refine And.intro ?_ ?_|omega))
 conv=>whnf
 refine⟨fun hc=>absurd hc (by simp),fun hc=>?_⟩
 conv=>whnf
 refine call_step hT (by exact rfl) (by exact rfl) ?_
 conv=>whnf
 refine⟨?_, ?_, ?_⟩
 iterate 2 · repeat'(first|exact trivial|exact rfl|refine And.intro ?_ ?_|((conv=>whnf);first|exact trivial|exact rfl|refine And.intro ?_ ?_|omega))
 conv=>whnf
 refine⟨fun hc=>absurd hc (by simp),fun hc=>?_⟩
 conv=>whnf
 refine loop_step tB_ok (G:=Nat) 0 [] (fun i=>[(55,iv .i64 i)]) (fun _=>[]) (fun i=>i≤ws'.length) (fun i=>ws'.length - i) ?_
 conv=>whnf
 refine⟨⟨0,Nat.zero_le _, ?_⟩, ?_⟩
 ·conv=>whnf
  repeat'(first|exact trivial|exact rfl|refine And.intro ?_ ?_|((conv=>whnf);first|exact trivial|exact rfl|refine And.intro ?_ ?_|omega))
 rintro i hi ρ1 t1 hρ1
 conv=>whnf
 refine⟨fun hc=>?_,fun hc=>?_⟩
 ·have hlt:i < ws'.length:=by simpa using hc
  have hMs:=lawAtThg_t (objsF q) ma sh ws'[i].o hlm hol2
  have hCr:=lawAtMom_t (momsF q []) ma sh (wMom ws'[i]) hls hml2
  have hSw:=fun (b:Bal) (hb:b ∈ r.bs) (hi:b.id=ws'[i].bal)=>true_shows hq hmd hSb (w:=ws'[i]) (by rw [hqw]; exact List.getElem_mem hlt) (by rw [hqb]; exact hb) hi
  conv=>whnf
  refine⟨i,rfl,hlt,hlt, ?_⟩
  conv=>whnf
  refine loop_step tB_ok (G:=Nat) 0 [] (fun k=>[(62,iv .i64 k)]) (fun _=>[]) (fun k=>k≤r.bs.length) (fun k=>r.bs.length - k) ?_
  conv=>whnf
  refine⟨⟨0,Nat.zero_le _, ?_⟩, ?_⟩
  ·conv=>whnf
   repeat'(first|exact trivial|exact rfl|refine And.intro ?_ ?_|((conv=>whnf);first|exact trivial|exact rfl|refine And.intro ?_ ?_|omega))
  rintro k hk ρ2 t2 hρ2
  conv=>whnf
  refine⟨fun hc2=>?_,fun hc2=>?_⟩
  ·have hkt:k < r.bs.length:=by simpa using hc2
   conv=>whnf
   refine⟨k,rfl,hkt,hkt, ?_⟩
   conv=>whnf
   refine⟨fun hc3=>?_,fun hc3=>?_⟩
   ·have hid:r.bs[k].id=ws'[i].bal:=by simpa using (show (r.bs[k].id == ws'[i].bal)=true from hc3)
    have hSh:=bShows_t r.bs[k] (atF ma (plF (objsF q) ws'[i].o)) (atF sh (plF (momsF q []) (wMom ws'[i]))) ws'[i].shown
    rw [hSw _ (List.getElem_mem hkt) hid] at hSh
    generalize atF ma (plF (objsF q) ws'[i].o)=vm at *
    generalize atF sh (plF (momsF q []) (wMom ws'[i]))=vs at *
    conv=>whnf
    refine call_step hO (by exact rfl) (by exact rfl) ?_
    conv=>whnf
    refine⟨?_, ?_, ?_⟩
    iterate 2 · repeat'(first|exact trivial|exact rfl|refine And.intro ?_ ?_|((conv=>whnf);first|exact trivial|exact rfl|refine And.intro ?_ ?_|omega))
    conv=>whnf
    refine call_step hMs (by exact rfl) (by exact rfl) ?_
    conv=>whnf
    refine⟨?_, ?_, ?_⟩
    iterate 2 · repeat'(first|exact trivial|exact rfl|refine And.intro ?_ ?_|((conv=>whnf);first|exact trivial|exact rfl|refine And.intro ?_ ?_|omega))
    conv=>whnf
    refine call_step hMo (by exact rfl) (by exact rfl) ?_
    conv=>whnf
    refine⟨?_, ?_, ?_⟩
    iterate 2 · repeat'(first|exact trivial|exact rfl|refine And.intro ?_ ?_|((conv=>whnf);first|exact trivial|exact rfl|refine And.intro ?_ ?_|omega))
    conv=>whnf
    refine call_step hCr (by exact rfl) (by exact rfl) ?_
    conv=>whnf
    refine⟨?_, ?_, ?_⟩
    iterate 2 · repeat'(first|exact trivial|exact rfl|refine And.intro ?_ ?_|((conv=>whnf);first|exact trivial|exact rfl|refine And.intro ?_ ?_|omega))
    conv=>whnf
    refine call_step hSh (by exact rfl) (by exact rfl) ?_
    conv=>whnf
    refine⟨?_, ?_, ?_⟩
    iterate 2 · repeat'(first|exact trivial|exact rfl|refine And.intro ?_ ?_|((conv=>whnf);first|exact trivial|exact rfl|refine And.intro ?_ ?_|omega))
    conv=>whnf
    refine⟨fun hq=>absurd (show (false:Bool)=true from hq) (by decide),fun hq=>?_⟩
    conv=>whnf
    refine⟨_,wrapId ⟨by omega,by omega⟩, ?_⟩
    refine⟨k+1,hkt,by show r.bs.length - (k+1) < r.bs.length - k; omega, ?_⟩
    conv=>whnf
    refine⟨rfl, ?_⟩
    conv=>whnf
    repeat'(first|exact trivial|exact rfl|refine And.intro ?_ ?_|((conv=>whnf);first|exact trivial|exact rfl|refine And.intro ?_ ?_|omega))
   ·conv=>whnf
    refine⟨_,wrapId ⟨by omega,by omega⟩, ?_⟩
    refine⟨k+1,hkt,by show r.bs.length - (k+1) < r.bs.length - k; omega, ?_⟩
    conv=>whnf
    refine⟨rfl, ?_⟩
    conv=>whnf
    repeat'(first|exact trivial|exact rfl|refine And.intro ?_ ?_|((conv=>whnf);first|exact trivial|exact rfl|refine And.intro ?_ ?_|omega))
  ·conv=>whnf
   refine⟨_,wrapId ⟨by omega,by omega⟩, ?_⟩
   refine⟨i+1,hlt,by show ws'.length - (i+1) < ws'.length - i; omega, ?_⟩
   conv=>whnf
   refine⟨rfl, ?_⟩
   conv=>whnf
   repeat'(first|exact trivial|exact rfl|refine And.intro ?_ ?_|((conv=>whnf);first|exact trivial|exact rfl|refine And.intro ?_ ?_|omega))
 have hie:i=ws'.length:=by simp at hc; omega
 subst hie
 conv=>whnf
 refine call_step hFt (by exact rfl) (by exact rfl) ?_
 conv=>whnf
 refine⟨?_, ?_, ?_⟩
 iterate 2 · repeat'(first|exact trivial|exact rfl|refine And.intro ?_ ?_|((conv=>whnf);first|exact trivial|exact rfl|refine And.intro ?_ ?_|omega))
 conv=>whnf
 refine⟨fun hc=>absurd hc (by simp),fun hc=>?_⟩
 conv=>whnf
 refine call_step hSu (by exact rfl) (by exact rfl) ?_
 conv=>whnf
 refine⟨?_, ?_, ?_⟩
 iterate 2 · repeat'(first|exact trivial|exact rfl|refine And.intro ?_ ?_|((conv=>whnf);first|exact trivial|exact rfl|refine And.intro ?_ ?_|omega))
 conv=>whnf
 refine⟨fun hc=>absurd hc (by simp),fun hc=>?_⟩
 conv=>whnf
 refine⟨fun hc=>absurd (show decide ((0:Int) < ((0:Nat):Int))=true from hc) (by decide),fun hc=>?_⟩
 conv=>whnf
 refine call_step hO (by exact rfl) (by exact rfl) ?_
 conv=>whnf
 refine⟨?_, ?_, ?_⟩
 iterate 2 · repeat'(first|exact trivial|exact rfl|refine And.intro ?_ ?_|((conv=>whnf);first|exact trivial|exact rfl|refine And.intro ?_ ?_|omega))
 conv=>whnf
 refine call_step hMo (by exact rfl) (by exact rfl) ?_
 conv=>whnf
 refine⟨?_, ?_, ?_⟩
 iterate 2 · repeat'(first|exact trivial|exact rfl|refine And.intro ?_ ?_|((conv=>whnf);first|exact trivial|exact rfl|refine And.intro ?_ ?_|omega))
 conv=>whnf
 by_cases hop:0 < (objsF q).length
 rotate_left
 ·refine⟨fun hc=>absurd (of_decide_eq_true (show decide ((0:Int) < (((objsF q).length:Nat):Int))=true from hc)) (by omega),fun hc=>?_⟩
  conv=>whnf
  by_cases hmp:0 < (momsF q []).length
  rotate_left
  ·refine⟨fun hc=>absurd (of_decide_eq_true (show decide ((0:Int) < (((momsF q []).length:Nat):Int))=true from hc)) (by omega),fun hc=>?_⟩
   conv=>whnf
   refine call_step sanity_t (by exact rfl) (by exact rfl) ?_
   conv=>whnf
   refine⟨?_, ?_, ?_⟩
   iterate 2 · repeat'(first|exact trivial|exact rfl|refine And.intro ?_ ?_|((conv=>whnf);first|exact trivial|exact rfl|refine And.intro ?_ ?_|omega))
   conv=>whnf
   repeat'(first|exact trivial|exact rfl|refine And.intro ?_ ?_|((conv=>whnf);first|exact trivial|exact rfl|refine And.intro ?_ ?_|omega))
  refine⟨fun hc=>?_,fun hc=>absurd (of_decide_eq_false (show decide ((0:Int) < (((momsF q []).length:Nat):Int))=false from hc)) (by omega)⟩
  have ha2:z1.toNat % (momsF q []).length < (momsF q []).length:=Nat.mod_lt _ hmp
  have hb2:z2.toNat % (momsF q []).length < (momsF q []).length:=Nat.mod_lt _ hmp
  have hr1:z1.tmod (momsF q []).length=((z1.toNat % (momsF q []).length:Nat):Int):=by
   obtain ⟨zn,rfl⟩:∃ n:Nat,z1=n:=⟨z1.toNat,by omega⟩
   rfl
  have hr2:z2.tmod (momsF q []).length=((z2.toNat % (momsF q []).length:Nat):Int):=by
   obtain ⟨zn,rfl⟩:∃ n:Nat,z2=n:=⟨z2.toNat,by omega⟩
   rfl
  generalize z1.toNat % (momsF q []).length=a at *
  generalize z2.toNat % (momsF q []).length=b at *
  have haS:a < sh.length:=by omega
  have hbS:b < sh.length:=by omega
  have eA:sh.getD a 0=sh[a]:=by rw [List.getD_eq_getElem?_getD,List.getElem?_eq_getElem haS]; rfl
  have eB:sh.getD b 0=sh[b]:=by rw [List.getD_eq_getElem?_getD,List.getElem?_eq_getElem hbS]; rfl
  have fD:=true_drift hq hmd (List.getElem?_eq_getElem ha2)
  have fC:=fun h1 h2=>true_change hq hmd (List.getElem?_eq_getElem ha2) (List.getElem?_eq_getElem hb2) h1 h2
  have cD:=drifted_t q (momsF q [])[a] hqs
  have cC:=change_t q (momsF q [])[a].bal ((momsF q [])[a].tick,(momsF q [])[b].tick) hqs
  have bA:=hsB a
  have bB:=hsB b
  rw [eA] at fD bA
  rw [eB] at bB
  rw [eA,eB] at fC
  dsimp only at cC
  rw [hqA,hqH] at cD cC
  generalize driftedF q (momsF q [])[a]=D at *
  generalize changeF q (momsF q [])[a].bal (momsF q [])[a].tick (momsF q [])[b].tick=C at *
  conv=>whnf
  refine⟨z1,wrapId ⟨by omega,by omega⟩, ?_⟩
  conv=>whnf
  refine⟨by omega,(a:Int),hr1, ?_⟩
  conv=>whnf
  refine⟨z2,wrapId ⟨by omega,by omega⟩, ?_⟩
  conv=>whnf
  refine⟨by omega,(b:Int),hr2, ?_⟩
  conv=>whnf
  refine⟨a,rfl,ha2,ha2, ?_⟩
  conv=>whnf
  refine call_step cD (by exact rfl) (by exact rfl) ?_
  conv=>whnf
  refine⟨?_, ?_, ?_⟩
  iterate 2 · repeat'(first|exact trivial|exact rfl|refine And.intro ?_ ?_|((conv=>whnf);first|exact trivial|exact rfl|refine And.intro ?_ ?_|omega))
  conv=>whnf
  refine⟨fun hc=>absurd (show (D.2 != 0)=true from hc) (by rw [fD.1]; decide),fun hc=>?_⟩
  conv=>whnf
  refine⟨a,rfl,haS,haS, ?_⟩
  conv=>whnf
  refine call_step (lawIn_t sh[a] D.1.1 D.1.2 fD.2) (by exact rfl) (by exact rfl) ?_
  conv=>whnf
  refine⟨?_, ?_, ?_⟩
  iterate 2 · repeat'(first|exact trivial|exact rfl|refine And.intro ?_ ?_|((conv=>whnf);first|exact trivial|exact rfl|refine And.intro ?_ ?_|omega))
  conv=>whnf
  refine⟨fun hc=>absurd hc (by simp),fun hc=>?_⟩
  conv=>whnf
  refine⟨fun hc=>?_,fun hc=>?_⟩
  rotate_left
  ·skip
   conv=>whnf
   refine call_step sanity_t (by exact rfl) (by exact rfl) ?_
   conv=>whnf
   refine⟨?_, ?_, ?_⟩
   iterate 2 · repeat'(first|exact trivial|exact rfl|refine And.intro ?_ ?_|((conv=>whnf);first|exact trivial|exact rfl|refine And.intro ?_ ?_|omega))
   conv=>whnf
   repeat'(first|exact trivial|exact rfl|refine And.intro ?_ ?_|((conv=>whnf);first|exact trivial|exact rfl|refine And.intro ?_ ?_|omega))
  have hab:a≤b:=by have:=of_decide_eq_true (show decide ((a:Int)≤(b:Int))=true from hc); omega
  conv=>whnf
  refine⟨a,rfl,ha2,ha2, ?_⟩
  conv=>whnf
  refine⟨b,rfl,hb2,hb2, ?_⟩
  conv=>whnf
  refine⟨fun hc=>?_,fun hc=>?_⟩
  rotate_left
  ·skip
   conv=>whnf
   refine call_step sanity_t (by exact rfl) (by exact rfl) ?_
   conv=>whnf
   refine⟨?_, ?_, ?_⟩
   iterate 2 · repeat'(first|exact trivial|exact rfl|refine And.intro ?_ ?_|((conv=>whnf);first|exact trivial|exact rfl|refine And.intro ?_ ?_|omega))
   conv=>whnf
   repeat'(first|exact trivial|exact rfl|refine And.intro ?_ ?_|((conv=>whnf);first|exact trivial|exact rfl|refine And.intro ?_ ?_|omega))
  have heq:(momsF q [])[a].bal=(momsF q [])[b].bal:=by simpa using (show ((momsF q [])[a].bal == (momsF q [])[b].bal)=true from hc)
  have fC:=fC hab heq
  conv=>whnf
  refine⟨a,rfl,ha2,ha2, ?_⟩
  conv=>whnf
  refine⟨a,rfl,ha2,ha2, ?_⟩
  conv=>whnf
  refine⟨b,rfl,hb2,hb2, ?_⟩
  conv=>whnf
  refine call_step cC (by exact rfl) (by exact rfl) ?_
  conv=>whnf
  refine⟨?_, ?_, ?_⟩
  iterate 2 · repeat'(first|exact trivial|exact rfl|refine And.intro ?_ ?_|((conv=>whnf);first|exact trivial|exact rfl|refine And.intro ?_ ?_|omega))
  conv=>whnf
  refine⟨fun hc=>absurd (show (C.2 != 0)=true from hc) (by rw [fC.1]; decide),fun hc=>?_⟩
  conv=>whnf
  refine⟨b,rfl,hbS,hbS, ?_⟩
  conv=>whnf
  refine⟨a,rfl,haS,haS, ?_⟩
  conv=>whnf
  refine⟨sh[b] - sh[a],wrapId (z:=sh[b] - sh[a]) ⟨by omega,by omega⟩, ?_⟩
  conv=>whnf
  refine call_step (lawIn_t (sh[b] - sh[a]) C.1.1 C.1.2 fC.2) (by exact rfl) (by exact rfl) ?_
  conv=>whnf
  refine⟨?_, ?_, ?_⟩
  iterate 2 · repeat'(first|exact trivial|exact rfl|refine And.intro ?_ ?_|((conv=>whnf);first|exact trivial|exact rfl|refine And.intro ?_ ?_|omega))
  conv=>whnf
  refine⟨fun hc=>absurd hc (by simp),fun hc=>?_⟩
  conv=>whnf
  refine call_step sanity_t (by exact rfl) (by exact rfl) ?_
  conv=>whnf
  refine⟨?_, ?_, ?_⟩
  iterate 2 · repeat'(first|exact trivial|exact rfl|refine And.intro ?_ ?_|((conv=>whnf);first|exact trivial|exact rfl|refine And.intro ?_ ?_|omega))
  conv=>whnf
  repeat'(first|exact trivial|exact rfl|refine And.intro ?_ ?_|((conv=>whnf);first|exact trivial|exact rfl|refine And.intro ?_ ?_|omega))
 refine⟨fun hc=>?_,fun hc=>absurd (of_decide_eq_false (show decide ((0:Int) < (((objsF q).length:Nat):Int))=false from hc)) (by omega)⟩
 have ha2:z1.toNat % (objsF q).length < (objsF q).length:=Nat.mod_lt _ hop
 have hb2:z2.toNat % (objsF q).length < (objsF q).length:=Nat.mod_lt _ hop
 have hr1:z1.tmod (objsF q).length=((z1.toNat % (objsF q).length:Nat):Int):=by
  obtain ⟨zn,rfl⟩:∃ n:Nat,z1=n:=⟨z1.toNat,by omega⟩
  rfl
 have hr2:z2.tmod (objsF q).length=((z2.toNat % (objsF q).length:Nat):Int):=by
  obtain ⟨zn,rfl⟩:∃ n:Nat,z2=n:=⟨z2.toNat,by omega⟩
  rfl
 generalize z1.toNat % (objsF q).length=a at *
 generalize z2.toNat % (objsF q).length=b at *
 have haS:a < ma.length:=by omega
 have hbS:b < ma.length:=by omega
 have eA:ma.getD a 0=ma[a]:=by rw [List.getD_eq_getElem?_getD,List.getElem?_eq_getElem haS]; rfl
 have eB:ma.getD b 0=ma[b]:=by rw [List.getD_eq_getElem?_getD,List.getElem?_eq_getElem hbS]; rfl
 have fD:=true_mass hq hmd (List.getElem?_eq_getElem ha2)
 have fC:=true_loss hq hmd (List.getElem?_eq_getElem ha2) (List.getElem?_eq_getElem hb2)
 have cD:=mass_t q (objsF q)[a] hqs
 have cC:=loss_t q (objsF q)[a] (objsF q)[b] hqs
 have bA:=hmB a
 have bB:=hmB b
 rw [eA] at fD bA
 rw [eB] at bB
 rw [eA,eB] at fC
 rw [hqA,hqH] at cD cC
 generalize massF q (objsF q)[a]=D at *
 generalize lossF q (objsF q)[a] (objsF q)[b]=C at *
 conv=>whnf
 refine⟨z1,wrapId ⟨by omega,by omega⟩, ?_⟩
 conv=>whnf
 refine⟨by omega,(a:Int),hr1, ?_⟩
 conv=>whnf
 refine⟨z2,wrapId ⟨by omega,by omega⟩, ?_⟩
 conv=>whnf
 refine⟨by omega,(b:Int),hr2, ?_⟩
 conv=>whnf
 refine⟨a,rfl,ha2,ha2, ?_⟩
 conv=>whnf
 refine call_step cD (by exact rfl) (by exact rfl) ?_
 conv=>whnf
 refine⟨?_, ?_, ?_⟩
 iterate 2 · repeat'(first|exact trivial|exact rfl|refine And.intro ?_ ?_|((conv=>whnf);first|exact trivial|exact rfl|refine And.intro ?_ ?_|omega))
 conv=>whnf
 refine⟨a,rfl,ha2,ha2, ?_⟩
 conv=>whnf
 refine⟨b,rfl,hb2,hb2, ?_⟩
 conv=>whnf
 refine call_step cC (by exact rfl) (by exact rfl) ?_
 conv=>whnf
 refine⟨?_, ?_, ?_⟩
 iterate 2 · repeat'(first|exact trivial|exact rfl|refine And.intro ?_ ?_|((conv=>whnf);first|exact trivial|exact rfl|refine And.intro ?_ ?_|omega))
 conv=>whnf
 refine⟨fun hc=>absurd (show (D.2 != 0)=true from hc) (by rw [fD.1]; decide),fun hc=>?_⟩
 conv=>whnf
 refine⟨fun hc=>absurd (show (C.2 != 0)=true from hc) (by rw [fC.1]; decide),fun hc=>?_⟩
 conv=>whnf
 refine⟨a,rfl,haS,haS, ?_⟩
 conv=>whnf
 refine call_step (lawIn_t ma[a] D.1.1 D.1.2 fD.2) (by exact rfl) (by exact rfl) ?_
 conv=>whnf
 refine⟨?_, ?_, ?_⟩
 iterate 2 · repeat'(first|exact trivial|exact rfl|refine And.intro ?_ ?_|((conv=>whnf);first|exact trivial|exact rfl|refine And.intro ?_ ?_|omega))
 conv=>whnf
 refine⟨fun hc=>absurd hc (by simp),fun hc=>?_⟩
 conv=>whnf
 refine⟨a,rfl,haS,haS, ?_⟩
 conv=>whnf
 refine⟨b,rfl,hbS,hbS, ?_⟩
 conv=>whnf
 refine⟨ma[a] - ma[b],wrapId (z:=ma[a] - ma[b]) ⟨by omega,by omega⟩, ?_⟩
 conv=>whnf
 refine call_step (lawIn_t (ma[a] - ma[b]) C.1.1 C.1.2 fC.2) (by exact rfl) (by exact rfl) ?_
 conv=>whnf
 refine⟨?_, ?_, ?_⟩
 iterate 2 · repeat'(first|exact trivial|exact rfl|refine And.intro ?_ ?_|((conv=>whnf);first|exact trivial|exact rfl|refine And.intro ?_ ?_|omega))
 conv=>whnf
 refine⟨fun hc=>absurd hc (by simp),fun hc=>?_⟩
 conv=>whnf
 by_cases hmp:0 < (momsF q []).length
 rotate_left
 ·refine⟨fun hc=>absurd (of_decide_eq_true (show decide ((0:Int) < (((momsF q []).length:Nat):Int))=true from hc)) (by omega),fun hc=>?_⟩
  conv=>whnf
  refine call_step sanity_t (by exact rfl) (by exact rfl) ?_
  conv=>whnf
  refine⟨?_, ?_, ?_⟩
  iterate 2 · repeat'(first|exact trivial|exact rfl|refine And.intro ?_ ?_|((conv=>whnf);first|exact trivial|exact rfl|refine And.intro ?_ ?_|omega))
  conv=>whnf
  repeat'(first|exact trivial|exact rfl|refine And.intro ?_ ?_|((conv=>whnf);first|exact trivial|exact rfl|refine And.intro ?_ ?_|omega))
 refine⟨fun hc=>?_,fun hc=>absurd (of_decide_eq_false (show decide ((0:Int) < (((momsF q []).length:Nat):Int))=false from hc)) (by omega)⟩
 have ha2:z1.toNat % (momsF q []).length < (momsF q []).length:=Nat.mod_lt _ hmp
 have hb2:z2.toNat % (momsF q []).length < (momsF q []).length:=Nat.mod_lt _ hmp
 have hr1:z1.tmod (momsF q []).length=((z1.toNat % (momsF q []).length:Nat):Int):=by
  obtain ⟨zn,rfl⟩:∃ n:Nat,z1=n:=⟨z1.toNat,by omega⟩
  rfl
 have hr2:z2.tmod (momsF q []).length=((z2.toNat % (momsF q []).length:Nat):Int):=by
  obtain ⟨zn,rfl⟩:∃ n:Nat,z2=n:=⟨z2.toNat,by omega⟩
  rfl
 generalize z1.toNat % (momsF q []).length=a at *
 generalize z2.toNat % (momsF q []).length=b at *
 have haS:a < sh.length:=by omega
 have hbS:b < sh.length:=by omega
 have eA:sh.getD a 0=sh[a]:=by rw [List.getD_eq_getElem?_getD,List.getElem?_eq_getElem haS]; rfl
 have eB:sh.getD b 0=sh[b]:=by rw [List.getD_eq_getElem?_getD,List.getElem?_eq_getElem hbS]; rfl
 have fD:=true_drift hq hmd (List.getElem?_eq_getElem ha2)
 have fC:=fun h1 h2=>true_change hq hmd (List.getElem?_eq_getElem ha2) (List.getElem?_eq_getElem hb2) h1 h2
 have cD:=drifted_t q (momsF q [])[a] hqs
 have cC:=change_t q (momsF q [])[a].bal ((momsF q [])[a].tick,(momsF q [])[b].tick) hqs
 have bA:=hsB a
 have bB:=hsB b
 rw [eA] at fD bA
 rw [eB] at bB
 rw [eA,eB] at fC
 dsimp only at cC
 rw [hqA,hqH] at cD cC
 generalize driftedF q (momsF q [])[a]=D at *
 generalize changeF q (momsF q [])[a].bal (momsF q [])[a].tick (momsF q [])[b].tick=C at *
 conv=>whnf
 refine⟨z1,wrapId ⟨by omega,by omega⟩, ?_⟩
 conv=>whnf
 refine⟨by omega,(a:Int),hr1, ?_⟩
 conv=>whnf
 refine⟨z2,wrapId ⟨by omega,by omega⟩, ?_⟩
 conv=>whnf
 refine⟨by omega,(b:Int),hr2, ?_⟩
 conv=>whnf
 refine⟨a,rfl,ha2,ha2, ?_⟩
 conv=>whnf
 refine call_step cD (by exact rfl) (by exact rfl) ?_
 conv=>whnf
 refine⟨?_, ?_, ?_⟩
 iterate 2 · repeat'(first|exact trivial|exact rfl|refine And.intro ?_ ?_|((conv=>whnf);first|exact trivial|exact rfl|refine And.intro ?_ ?_|omega))
 conv=>whnf
 refine⟨fun hc=>absurd (show (D.2 != 0)=true from hc) (by rw [fD.1]; decide),fun hc=>?_⟩
 conv=>whnf
 refine⟨a,rfl,haS,haS, ?_⟩
 conv=>whnf
 refine call_step (lawIn_t sh[a] D.1.1 D.1.2 fD.2) (by exact rfl) (by exact rfl) ?_
 conv=>whnf
 refine⟨?_, ?_, ?_⟩
 iterate 2 · repeat'(first|exact trivial|exact rfl|refine And.intro ?_ ?_|((conv=>whnf);first|exact trivial|exact rfl|refine And.intro ?_ ?_|omega))
 conv=>whnf
 refine⟨fun hc=>absurd hc (by simp),fun hc=>?_⟩
 conv=>whnf
 refine⟨fun hc=>?_,fun hc=>?_⟩
 rotate_left
 ·skip
  conv=>whnf
  refine call_step sanity_t (by exact rfl) (by exact rfl) ?_
  conv=>whnf
  refine⟨?_, ?_, ?_⟩
  iterate 2 · repeat'(first|exact trivial|exact rfl|refine And.intro ?_ ?_|((conv=>whnf);first|exact trivial|exact rfl|refine And.intro ?_ ?_|omega))
  conv=>whnf
  repeat'(first|exact trivial|exact rfl|refine And.intro ?_ ?_|((conv=>whnf);first|exact trivial|exact rfl|refine And.intro ?_ ?_|omega))
 have hab:a≤b:=by have:=of_decide_eq_true (show decide ((a:Int)≤(b:Int))=true from hc); omega
 conv=>whnf
 refine⟨a,rfl,ha2,ha2, ?_⟩
 conv=>whnf
 refine⟨b,rfl,hb2,hb2, ?_⟩
 conv=>whnf
 refine⟨fun hc=>?_,fun hc=>?_⟩
 rotate_left
 ·skip
  conv=>whnf
  refine call_step sanity_t (by exact rfl) (by exact rfl) ?_
  conv=>whnf
  refine⟨?_, ?_, ?_⟩
  iterate 2 · repeat'(first|exact trivial|exact rfl|refine And.intro ?_ ?_|((conv=>whnf);first|exact trivial|exact rfl|refine And.intro ?_ ?_|omega))
  conv=>whnf
  repeat'(first|exact trivial|exact rfl|refine And.intro ?_ ?_|((conv=>whnf);first|exact trivial|exact rfl|refine And.intro ?_ ?_|omega))
 have heq:(momsF q [])[a].bal=(momsF q [])[b].bal:=by simpa using (show ((momsF q [])[a].bal == (momsF q [])[b].bal)=true from hc)
 have fC:=fC hab heq
 conv=>whnf
 refine⟨a,rfl,ha2,ha2, ?_⟩
 conv=>whnf
 refine⟨a,rfl,ha2,ha2, ?_⟩
 conv=>whnf
 refine⟨b,rfl,hb2,hb2, ?_⟩
 conv=>whnf
 refine call_step cC (by exact rfl) (by exact rfl) ?_
 conv=>whnf
 refine⟨?_, ?_, ?_⟩
 iterate 2 · repeat'(first|exact trivial|exact rfl|refine And.intro ?_ ?_|((conv=>whnf);first|exact trivial|exact rfl|refine And.intro ?_ ?_|omega))
 conv=>whnf
 refine⟨fun hc=>absurd (show (C.2 != 0)=true from hc) (by rw [fC.1]; decide),fun hc=>?_⟩
 conv=>whnf
 refine⟨b,rfl,hbS,hbS, ?_⟩
 conv=>whnf
 refine⟨a,rfl,haS,haS, ?_⟩
 conv=>whnf
 refine⟨sh[b] - sh[a],wrapId (z:=sh[b] - sh[a]) ⟨by omega,by omega⟩, ?_⟩
 conv=>whnf
 refine call_step (lawIn_t (sh[b] - sh[a]) C.1.1 C.1.2 fC.2) (by exact rfl) (by exact rfl) ?_
 conv=>whnf
 refine⟨?_, ?_, ?_⟩
 iterate 2 · repeat'(first|exact trivial|exact rfl|refine And.intro ?_ ?_|((conv=>whnf);first|exact trivial|exact rfl|refine And.intro ?_ ?_|omega))
 conv=>whnf
 refine⟨fun hc=>absurd hc (by simp),fun hc=>?_⟩
 conv=>whnf
 refine call_step sanity_t (by exact rfl) (by exact rfl) ?_
 conv=>whnf
 refine⟨?_, ?_, ?_⟩
 iterate 2 · repeat'(first|exact trivial|exact rfl|refine And.intro ?_ ?_|((conv=>whnf);first|exact trivial|exact rfl|refine And.intro ?_ ?_|omega))
 conv=>whnf
 repeat'(first|exact trivial|exact rfl|refine And.intro ?_ ?_|((conv=>whnf);first|exact trivial|exact rfl|refine And.intro ?_ ?_|omega))

end Go.Proofs

namespace Go.Proofs
open Go.Sx

end Go.Proofs

namespace Go.Proofs
open Go.Sx Go.ChangeShapes Go.WideShapes Go.RowKit Go.Deep

end Go.Proofs

namespace Go.Proofs
open Go.Sx

end Go.Proofs

namespace Go.Proofs
open Go.Sx

theorem u8_of {z:Int} (h:(Lit.int .u8 z).wf=true):0≤z∧z < 256:=by
 simp [Lit.wf] at h
 have h1:IntKind.u8.min=0:=rfl
 have h2:IntKind.u8.max=255:=rfl
 omega

end Go.Proofs

namespace Go.Proofs
open Go.Sx Go.ChangeShapes Go.WideShapes Go.RowKit Go.Deep

theorem A_undRe:Tryz.prog.underlying 108=some (.struct (Tryz.prog.fieldsOf 108)):=by kernel_rfl
theorem A_fldRe:∃ f0 f1 f2,Tryz.prog.fieldsOf 108=#[f0,f1,f2]∧(f0.type=43∧f0.offset=0)∧(f1.type=43∧f1.offset=1)∧f2.type=43∧f2.offset=2 :=
 ⟨(Tryz.prog.fieldsOf 108)[0]!,(Tryz.prog.fieldsOf 108)[1]!,(Tryz.prog.fieldsOf 108)[2]!,by kernel_rfl,⟨by kernel_rfl,by kernel_rfl⟩,⟨by kernel_rfl,by kernel_rfl⟩,by kernel_rfl,by kernel_rfl⟩

theorem came_real {base:Nat} {H:Type} {enc:TypeId × Value → H} {w:World} {v:Value} {d:DataW H} {p:List MemPlace} (hok:Value.okWide Tryz.prog w .any base 108 v)
  (h:DataW.Trod enc Tryz.prog w 0 (fun _=>true) true 108 v d p) (hw:∀ y ∈ d.weights Tryz.prog 108,y≤reachBytes) (k0 k1 k2:Nat) :
  ∃ (xs ys zs:List Int) (q0 q1 q2:Rg),(xs.length≤140737488351232∧ys.length≤140737488351232∧zs.length≤140737488351232)∧Came w v (.agg [.s k0 0 xs.length 1, .s k1 0 ys.length 1, .s k2 0 zs.length 1]) [(k0,false, .arr (aInt xs)),(k1,false, .arr (aInt ys)),(k2,false, .arr (aInt zs))] [(k0,q0),(k1,q1),(k2,q2)]:=by
 obtain ⟨cs,rfl,hcs⟩:=okWide_struct A_undRe hok
 obtain ⟨fuel,hf⟩:=h
 have hc4:Tryz.prog.cellsOf 108=3:=by kernel_rfl
 rw [hc4] at hcs
 obtain ⟨l⟩:=cs
 match l,hcs with
 | [a,b,c],_ =>
  obtain ⟨xs,m,_,hd,_,hxl,hff⟩:=DataW.trod_struct A_undRe hf
  have hd:d=.agg (xs.map (·.1)):=congrArg Prod.fst hd
  subst hd
  have hwp:=fun {i:Nat} {f:Field} {d:DataW H}=>weights_part (i:=i) (f:=f) (d:=d) A_undRe hw
  obtain ⟨f0,f1,f2,hfs,⟨t0,o0⟩,⟨t1,o1⟩,t2,o2⟩:=A_fldRe
  rw [hfs] at hff hxl hwp
  have hxl:xs.length=3:=hxl
  match xs,hxl with
  | [x0,x1,x2],_ =>
  have h0:=hff 0 f0 rfl
  have h1:=hff 1 f1 rfl
  have h2:=hff 2 f2 rfl
  have w0:=hwp (i:=0) (f:=f0) (d:=x0.1) rfl rfl
  have w1:=hwp (i:=1) (f:=f1) (d:=x1.1) rfl rfl
  have w2:=hwp (i:=2) (f:=f2) (d:=x2.1) rfl rfl
  have c0:Tryz.prog.cellsOf 43=1:=by kernel_rfl
  rw [t0,o0,c0] at h0
  rw [t1,o1,c0] at h1
  rw [t2,o2,c0] at h2
  rw [t0] at w0
  rw [t1] at w1
  rw [t2] at w2
  have h0:DataW.trod enc Tryz.prog w 0 (fun _=>true) true m 43 [a]=some x0:=h0
  have h1:DataW.trod enc Tryz.prog w 0 (fun _=>true) true m 43 [b]=some x1:=h1
  have h2:DataW.trod enc Tryz.prog w 0 (fun _=>true) true m 43 [c]=some x2:=h2
  obtain ⟨ms,q0,l0,g0⟩:=key_sl (fun x:Int=>[x]) (fun _=>rfl) (fun V=>V 0) (fun V j z hz=>by
   match j,hz with
   | 0,hz=>simp at hz; exact⟨by decide,hz.symm⟩) (by kernel_rfl:Tryz.prog.underlying 43=some (.slice 3)) I_int (by decide) (by decide +kernel) w0 h0 k0
  obtain ⟨ss,q1,l1,g1⟩:=key_sl (fun x:Int=>[x]) (fun _=>rfl) (fun V=>V 0) (fun V j z hz=>by
   match j,hz with
   | 0,hz=>simp at hz; exact⟨by decide,hz.symm⟩) (by kernel_rfl:Tryz.prog.underlying 43=some (.slice 3)) I_int (by decide) (by decide +kernel) w1 h1 k1
  obtain ⟨us,q2,l2,g2⟩:=key_sl (fun x:Int=>[x]) (fun _=>rfl) (fun V=>V 0) (fun V j z hz=>by
   match j,hz with
   | 0,hz=>simp at hz; exact⟨by decide,hz.symm⟩) (by kernel_rfl:Tryz.prog.underlying 43=some (.slice 3)) I_int (by decide) (by decide +kernel) w2 h2 k2
  refine⟨ms,ss,us,q0,q1,q2,⟨l0,l1,l2⟩,fun ρ hρ=>?_⟩
  have e0:=hρ (k0,q0) (by simp)
  have e1:=hρ (k1,q1) (by simp)
  have e2:=hρ (k2,q2) (by simp)
  obtain ⟨u0,v0,r0⟩:=g0 ρ e0
  obtain ⟨u1,v1,r1⟩:=g1 ρ e1
  obtain ⟨u2,v2,r2⟩:=g2 ρ e2
  refine⟨⟨#[a,b,c],rfl,u0,u1,u2,trivial⟩,fun y hy=>?_⟩
  simp only [List.mem_cons,List.not_mem_nil,or_false] at hy
  rcases hy with rfl | rfl | rfl
  ·exact⟨rfl,v0,room_pos (f:=fun x:Int=>[x]) (hf:=fun _=>rfl) (xs:=ms) e0 r0⟩
  ·exact⟨rfl,v1,room_pos (f:=fun x:Int=>[x]) (hf:=fun _=>rfl) (xs:=ss) e1 r1⟩
  ·exact⟨rfl,v2,room_pos (f:=fun x:Int=>[x]) (hf:=fun _=>rfl) (xs:=us) e2 r2⟩

end Go.Proofs

