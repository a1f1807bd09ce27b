/-
  A part of the proof that a law answers true: lemmas of a symbolic walk, plain functions, or contracts of the functions walked (RS). Conditions: none.
-/
import Derived.Test.YtagedjfjcnemoaaGreatPart31
set_option maxRecDepth 100000
set_option linter.unusedVariables false
set_option linter.unusedSimpArgs false
namespace Go.Proofs
open Go.Sx

abbrev tuA (r:Rd) (xm xs xo:List Int):List SV:=[rdA r, .agg [.s 4 0 xm.length 1, .s 5 0 xs.length 1, .s 6 0 xo.length 1]]
abbrev tuH (r:Rd) (xm xs xo:List Int):Heap:=rdH r ++ [(4,false, .arr (aInt xm)),(5,false, .arr (aInt xs)),(6,false, .arr (aInt xo))]

theorem hvy_eq (a o:Thg):isHvy a o=(([a.lot,a.bale,a.smp,a.st] == [o.lot,o.bale,o.smp,a.st]) && (a.st == 1 || a.st == 3)):=by
 unfold isHvy
 congr 1
 obtain ⟨a1,a2,a3,a4⟩:=a
 rw [Bool.eq_iff_iff]
 simp

theorem far_bd {a d:Int} (ha:0≤a∧a≤1000) (hd:-1000000≤d∧d≤1000000):-1000000000≤a * d∧a * d≤1000000000:=by
 have h1:=Int.mul_le_mul_of_nonneg_left hd.2 ha.1
 have h2:=Int.mul_le_mul_of_nonneg_left hd.1 ha.1
 omega

theorem gS_bd {r:Rd} (hr:RdOK r) {xs S:List Int} {i:Nat} (hS:upT (gS r xs) i=some S) (hi:i≤(momsF r []).length) (j:Nat):-1000000≤S.getD j 0∧S.getD j 0≤1000000:=by
 have hl:=upT_len hS
 by_cases hj:j < i
 ·obtain ⟨x,e1,e2⟩:=upT_at hS j hj
  have hjm:j < (momsF r []).length:=by omega
  have hmo:momOK r (momsF r [])[j]=true:=hr.mom (more:=[]) (by simp) (List.getElem_mem hjm)
  have hh:hasB r.bs (momsF r [])[j].bal=true:=by
   have:hasB r.bs (momsF r [])[j].bal=true∧0≤(momsF r [])[j].tick∧(momsF r [])[j].tick≤1000000:=by simpa [momOK,withinF] using hmo
   exact this.1
  have h2:=side_bd hr (momsF r [])[j] hh
  rw [List.getD_eq_getElem?_getD,e1]
  show -1000000≤x∧x≤1000000
  unfold gS at e2
  split at e2
  ·rename_i hle
   have h1:=intoT_in (n:=pickT xs (S.take j).length) hle
   rw [Option.some.inj e2] at h1
   have hk:(momsF r []).getD (S.take j).length default=(momsF r [])[j]:=by rw [List.length_take,Nat.min_eq_left (by omega),List.getD_eq_getElem?_getD,List.getElem?_eq_getElem hjm]; rfl
   unfold spanT at h1
   rw [hk] at h1
   split at h1 <;> (dsimp only at h1; omega)
  ·cases e2
 ·rw [List.getD_eq_getElem?_getD,List.getElem?_eq_none (by omega)]; exact⟨by decide,by decide⟩

theorem gM_bd {r:Rd} (hr:RdOK r) {xm M:List Int} {i:Nat} (hM:upT (gM r xm) i=some M) (hi:i≤(objsF r).length) (j:Nat):0≤M.getD j 0∧M.getD j 0≤10000000:=by
 refine⟨mk_nn hr hM hi j, ?_⟩
 have hl:=upT_len hM
 by_cases hj:j < i
 ·obtain ⟨x,e1,e2⟩:=upT_at hM j hj
  rw [List.getD_eq_getElem?_getD,e1]
  show x≤10000000
  unfold gM at e2
  have hc:=cap_bd (o:=(objsF r).getD (M.take j).length default) (n:=10000000) r.ws (fun w hw=>(valid_bd (hr.findD (by
     have:=(hr.wgh w hw).2
     unfold wghF at this
     simp only [Bool.and_eq_true] at this
     exact this.1))).2.2.2.2.1) ⟨by omega,by omega⟩
  have hc:1≤capF r ((objsF r).getD (M.take j).length default)∧capF r ((objsF r).getD (M.take j).length default)≤10000000:=hc
  have h1:=stepM_le (objsF r) ((objsF r).getD (M.take j).length default) (M.take j) (intoT (pickT xm (M.take j).length) 0 (capF r ((objsF r).getD (M.take j).length default))) (M.take j).length
  have h2:=(intoT_in (n:=pickT xm (M.take j).length) (lo:=0) (hi:=capF r ((objsF r).getD (M.take j).length default)) (by omega)).2
  have:=Option.some.inj e2
  omega
 ·rw [List.getD_eq_getElem?_getD,List.getElem?_eq_none (by omega)]; decide

set_option maxHeartbeats 4000000 in
theorem truthY_t (r:Rd) (hr:RdOK r) (xm xs xo:List Int) (hx:xm.length≤140737488351232∧xs.length≤140737488351232∧xo.length≤140737488351232) (ma sh:List Int) (ws':List Wgh) (cs':List Chk) (h:MadeT r xm xs xo ma sh ws' cs') :
  Triple Tryz.prog 67 (tuA r xm xs xo) (tuH r xm xs xo) 7 (.tup [.inr [.s 0 0 r.bs.length 6, .s 7 0 cs'.length 5, .s 3 0 r.ns.length 6, .s 8 0 ws'.length 8], .inr [.s 9 0 ma.length 1, .s 10 0 sh.length 1], .inl (.v (.bool true))])
   [(7,true, .arr (aChk cs')),(8,true, .arr (aWgh ws')),(9,true, .arr (aInt ma)),(10,true, .arr (aInt sh))]:=by
 have hs:=hr.sml
 have hO:=rObjects_t r hs
 have hM:=rMoments_t r hs
 have hC:=rCompile_t r hr
 refine triple_of tB_ok Tryz.func67 rfl Tryz.call67 rfl ?_
 intro ρ w hH
 conv=>whnf
 refine call_step hO rfl rfl ?_
 conv=>whnf
 refine⟨?_, ?_, ?_⟩
 iterate 2 · repeat'(first|exact trivial|exact rfl|refine And.intro ?_ ?_|((conv=>whnf);first|exact trivial|exact rfl|refine And.intro ?_ ?_|omega))
 conv=>whnf
 refine call_step hM rfl rfl ?_
 conv=>whnf
 refine⟨?_, ?_, ?_⟩
 iterate 2 · repeat'(first|exact trivial|exact rfl|refine And.intro ?_ ?_|((conv=>whnf);first|exact trivial|exact rfl|refine And.intro ?_ ?_|omega))
 conv=>whnf
 refine call_step hC rfl rfl ?_
 conv=>whnf
 refine⟨?_, ?_, ?_⟩
 iterate 2 · repeat'(first|exact trivial|exact rfl|refine And.intro ?_ ?_|((conv=>whnf);first|exact trivial|exact rfl|refine And.intro ?_ ?_|omega))
 conv=>whnf
 have hol:=objsF_len r
 have hnr:=hr.nr
 have hbl:=boxR_len r []
 have hbx:∀ (i:Nat) (h1:i < (objsF r).length) (h2:i < (boxR r []).length),(boxR r [])[i]=((0:Int),capF r (objsF r)[i]):=fun i h1 h2=>by
  simp only [boxR,boxesR,List.getElem_append_left (show i < ((objsF r).map fun o=>((0:Int),capF r o)).length by rw [List.length_map]; exact h1),List.getElem_map]
 -- the masses
 refine loop_step tB_ok (G:=Nat × List Int) 1 [] (fun g=>[(39,iv .i64 g.1)]) (fun g=>[(16,true, .cells [.s 17 0 g.2.length 1, .v (.slice none 0 0)]),(17,true, .arr (aInt g.2))]) (fun g=>g.1≤(objsF r).length∧upT (gM r xm) g.1=some g.2) (fun g=>(objsF r).length - g.1) ?_
 conv=>whnf
 refine⟨⟨(0,[]),⟨Nat.zero_le _,rfl⟩, ?_⟩, ?_⟩
 ·conv=>whnf
  repeat'(first|exact trivial|exact rfl|refine And.intro ?_ ?_|((conv=>whnf);first|exact trivial|exact rfl|refine And.intro ?_ ?_|omega))
 rintro ⟨i,M⟩ ⟨hi,hM⟩ ρ1 t1 hρ1
 dsimp only at hi hM ⊢
 conv=>whnf
 refine⟨fun hc=>?_,fun hc=>?_⟩
 ·have hlt:i < (objsF r).length:=by simpa using hc
  have hMl:=upT_len hM
  have hlb:i < (boxR r []).length:=by omega
  have hbi:=hbx i hlt hlb
  have hP:=pickT_t xm i hx.1
  have hI:=intoT_t (pickT xm i) (boxR r [])[i].1 (boxR r [])[i].2
  have hNx:upT (gM r xm) (i+1)=some (M ++ [stepM (objsF r) (objsF r)[i] M (intoT (pickT xm i) (boxR r [])[i].1 (boxR r [])[i].2) i]):=by
   simp only [upT,hM,gM,hMl,hbi]
   rw [List.getD_eq_getElem?_getD,List.getElem?_eq_getElem hlt]; rfl
  conv=>whnf
  refine⟨i,rfl,hlt,hlt, ?_⟩
  conv=>whnf
  refine call_step hP rfl rfl ?_
  conv=>whnf
  refine⟨?_, ?_, ?_⟩
  iterate 2 · repeat'(first|exact trivial|exact rfl|refine And.intro ?_ ?_|((conv=>whnf);first|exact trivial|exact rfl|refine And.intro ?_ ?_|omega))
  conv=>whnf
  refine⟨i,rfl,hlb,hlb, ?_⟩
  conv=>whnf
  refine call_step hI rfl rfl ?_
  conv=>whnf
  refine⟨?_, ?_, ?_⟩
  iterate 2 · repeat'(first|exact trivial|exact rfl|refine And.intro ?_ ?_|((conv=>whnf);first|exact trivial|exact rfl|refine And.intro ?_ ?_|omega))
  conv=>whnf
  generalize intoT (pickT xm i) (boxR r [])[i].1 (boxR r [])[i].2=n0 at *
  refine loop_step tB_ok (G:=Nat) 0 [] (fun k=>[(55,iv .i64 k),(13,iv .i64 (stepM (objsF r) (objsF r)[i] M n0 k))]) (fun _=>[]) (fun k=>k≤i) (fun k=>i - k) ?_
  conv=>whnf
  refine⟨⟨0,Nat.zero_le _, ?_⟩, ?_⟩
  ·conv=>whnf
   repeat'(first|exact trivial|exact rfl|refine And.intro ?_ ?_|((conv=>whnf);first|exact trivial|exact rfl|refine And.intro ?_ ?_|omega))
  rintro k hk ρ2 t2 hρ2
  conv=>whnf
  refine⟨fun hc=>?_,fun hc=>?_⟩
  ·have hkt:k < i:=by simpa using hc
   conv=>whnf
   refine⟨k,rfl,(show k < (objsF r).length by omega),(show k < (objsF r).length by omega), ?_⟩
   conv=>whnf
   have hkl:k < (objsF r).length:=by omega
   have hS:stepM (objsF r) (objsF r)[i] M n0 (k+1)=if isHvy (objsF r)[k] (objsF r)[i]=true then min (stepM (objsF r) (objsF r)[i] M n0 k) M[k] else stepM (objsF r) (objsF r)[i] M n0 k:=by
    simp only [stepM]
    rw [List.getD_eq_getElem?_getD,List.getElem?_eq_getElem hkl,List.getD_eq_getElem?_getD,List.getElem?_eq_getElem (show k < M.length by omega)]; rfl
   rw [hvy_eq] at hS
   refine⟨fun hc=>?_,fun hc=>?_⟩
   ·have hc:([(objsF r)[k].lot,(objsF r)[k].bale,(objsF r)[k].smp,(objsF r)[k].st] == [(objsF r)[i].lot,(objsF r)[i].bale,(objsF r)[i].smp,(objsF r)[k].st])=true:=hc
    rw [hc,Bool.true_and] at hS
    conv=>whnf
    have hkM:k < M.length:=by omega
    refine⟨fun h1=>?_,fun h1=>?_⟩
    ·have h1:((objsF r)[k].st == 1)=true:=h1
     rw [h1,Bool.true_or,if_pos rfl] at hS
     conv=>whnf
     refine⟨k,rfl,hkM,hkM, ?_⟩
     conv=>whnf
     refine⟨_,wrapId ⟨by omega,by omega⟩, ?_⟩
     refine⟨k+1,hkt,by show i - (k+1) < i - k; omega, ?_⟩
     try dsimp only
     rw [hS]
     conv=>whnf
     refine⟨rfl, ?_⟩
     conv=>whnf
     repeat'(first|exact trivial|exact rfl|refine And.intro ?_ ?_|((conv=>whnf);first|exact trivial|exact rfl|refine And.intro ?_ ?_|omega))
    ·have h1:((objsF r)[k].st == 1)=false:=h1
     rw [h1,Bool.false_or] at hS
     conv=>whnf
     refine⟨fun h2=>?_,fun h2=>?_⟩
     ·have h2:((objsF r)[k].st == 3)=true:=h2
      rw [h2,if_pos rfl] at hS
      conv=>whnf
      refine⟨k,rfl,hkM,hkM, ?_⟩
      conv=>whnf
      refine⟨_,wrapId ⟨by omega,by omega⟩, ?_⟩
      refine⟨k+1,hkt,by show i - (k+1) < i - k; omega, ?_⟩
      try dsimp only
      rw [hS]
      conv=>whnf
      refine⟨rfl, ?_⟩
      conv=>whnf
      repeat'(first|exact trivial|exact rfl|refine And.intro ?_ ?_|((conv=>whnf);first|exact trivial|exact rfl|refine And.intro ?_ ?_|omega))
     ·have h2:((objsF r)[k].st == 3)=false:=h2
      rw [h2,if_neg (by simp)] at hS
      conv=>whnf
      refine⟨_,wrapId ⟨by omega,by omega⟩, ?_⟩
      refine⟨k+1,hkt,by show i - (k+1) < i - k; omega, ?_⟩
      try dsimp only
      rw [hS]
      conv=>whnf
      refine⟨rfl, ?_⟩
      conv=>whnf
      repeat'(first|exact trivial|exact rfl|refine And.intro ?_ ?_|((conv=>whnf);first|exact trivial|exact rfl|refine And.intro ?_ ?_|omega))
   ·have hc:([(objsF r)[k].lot,(objsF r)[k].bale,(objsF r)[k].smp,(objsF r)[k].st] == [(objsF r)[i].lot,(objsF r)[i].bale,(objsF r)[i].smp,(objsF r)[k].st])=false:=hc
    rw [hc,Bool.false_and,if_neg (by simp)] at hS
    conv=>whnf
    refine⟨_,wrapId ⟨by omega,by omega⟩, ?_⟩
    refine⟨k+1,hkt,by show i - (k+1) < i - k; omega, ?_⟩
    try dsimp only
    rw [hS]
    conv=>whnf
    refine⟨rfl, ?_⟩
    conv=>whnf
    repeat'(first|exact trivial|exact rfl|refine And.intro ?_ ?_|((conv=>whnf);first|exact trivial|exact rfl|refine And.intro ?_ ?_|omega))
  ·have hki:k=i:=by simp at hc; omega
   subst hki
   conv=>whnf
   have hMb:M.length≤1000:=by omega
   generalize stepM (objsF r) (objsF r)[k] M n0 k=z at *
   refine bs_step tB_ok (aInt [z]) rfl rfl ?_
   conv=>whnf
   refine⟨⟨rfl,(by repeat'(first|exact trivial|exact rfl|refine And.intro ?_ ?_|((conv=>whnf);first|exact trivial|exact rfl|refine And.intro ?_ ?_|omega)))⟩, ?_⟩
   conv=>whnf
   refine app_step tB_ok (aInt M) [z] (fun _=>rfl) rfl rfl rfl rfl ?_
   conv=>whnf
   refine⟨⟨rfl,rfl,Nat.le_refl _,Nat.le_refl _,by show (M.length+1) * 9≤_; omega⟩, ?_⟩
   conv=>whnf
   refine⟨_,wrapId ⟨by omega,by omega⟩, ?_⟩
   refine⟨(k+1,M ++ [z]),⟨hlt,hNx⟩,by show (objsF r).length - (k+1) < (objsF r).length - k; omega, ?_⟩
   try dsimp only
   conv=>whnf
   refine⟨rfl, ?_⟩
   conv=>whnf
   repeat'(first|exact trivial|exact rfl|refine And.intro ?_ ?_|((conv=>whnf);first|exact trivial|exact rfl|refine And.intro ?_ ?_|omega))
   all_goals first | exact (congrArg aInt app1.symm:_) | exact (congrArg aInt app1:_) | (simp; done) | skip
 have hie:i=(objsF r).length:=by simp at hc; omega
 subst hie
 obtain rfl:ma=M:=Option.some.inj (h.hma.symm.trans hM)
 have hml:(momsF r []).length≤100:=by have h1:=momsF_len r []; rw [List.length_nil] at h1; omega
 have hpS:∀ (m:Mom),m ∈ momsF r [] → (sideF r m).lo≤(sideF r m).hi → pShift r m=(((sideF r m).lo,(sideF r m).hi),0):=fun m hm hle=>by
  unfold pShift
  rw [if_pos (checkR_ok.2 hr),if_pos (hr.mom (more:=[]) (by simp) hm),if_neg (by omega)]
 have hpS9:∀ (m:Mom),m ∈ momsF r [] → ¬ (sideF r m).lo≤(sideF r m).hi → pShift r m=((0,0),9):=fun m hm hle=>by
  unfold pShift
  rw [if_pos (checkR_ok.2 hr),if_pos (hr.mom (more:=[]) (by simp) hm),if_pos (by omega)]
 have hmb:∀ m ∈ momsF r [],hasB r.bs m.bal=true∧0≤m.tick∧m.tick≤1000000:=fun m hm=>by
  have:=hr.mom (more:=[]) (by simp) hm
  simpa [momOK,withinF] using this
 conv=>whnf
 -- the corrections
 refine loop_step tB_ok (G:=Nat × List Int) 1 [] (fun g=>[(96,iv .i64 g.1)]) (fun g=>[(16,true, .cells [.s 17 0 ma.length 1, .s 18 0 g.2.length 1]),(18,true, .arr (aInt g.2))]) (fun g=>g.1≤(momsF r []).length∧upT (gS r xs) g.1=some g.2) (fun g=>(momsF r []).length - g.1) ?_
 conv=>whnf
 refine⟨⟨(0,[]),⟨Nat.zero_le _,rfl⟩, ?_⟩, ?_⟩
 ·conv=>whnf
  repeat'(first|exact trivial|exact rfl|refine And.intro ?_ ?_|((conv=>whnf);first|exact trivial|exact rfl|refine And.intro ?_ ?_|omega))
 rintro ⟨i,S⟩ ⟨hi,hS⟩ ρ1 t1 hρ1
 dsimp only at hi hS ⊢
 conv=>whnf
 refine⟨fun hc=>?_,fun hc=>?_⟩
 ·have hlt:i < (momsF r []).length:=by simpa using hc
  have hSl:=upT_len hS
  have hme:(momsF r []).getD S.length default=(momsF r [])[i]:=by rw [hSl,List.getD_eq_getElem?_getD,List.getElem?_eq_getElem hlt]; rfl
  by_cases hle:(spanT r S).1≤(spanT r S).2
  rotate_left
  ·skip
   have h1:upT (gS r xs) (i+1)=none:=by simp only [upT,hS,gS,if_neg hle]
   have h2:=upT_none h1 ((momsF r []).length - (i+1))
   rw [show i+1+((momsF r []).length - (i+1))=(momsF r []).length by omega,h.hsh] at h2
   cases h2
  have hNx:upT (gS r xs) (i+1)=some (S ++ [intoT (pickT xs S.length) (spanT r S).1 (spanT r S).2]):=by simp only [upT,hS,gS,if_pos hle]
  have hle2:(sideF r (momsF r [])[i]).lo≤(sideF r (momsF r [])[i]).hi:=by
   unfold spanT at hle
   rw [hme] at hle
   split at hle <;> (dsimp only at hle; omega)
  have hPk:=pickT_t xs i hx.2.1
  have hSh:=rShift_t r (momsF r [])[i] hs
  rw [hpS _ (List.getElem_mem hlt) hle2] at hSh
  conv=>whnf
  refine⟨i,rfl,hlt,hlt, ?_⟩
  conv=>whnf
  refine call_step hSh rfl rfl ?_
  conv=>whnf
  refine⟨?_, ?_, ?_⟩
  iterate 2 · repeat'(first|exact trivial|exact rfl|refine And.intro ?_ ?_|((conv=>whnf);first|exact trivial|exact rfl|refine And.intro ?_ ?_|omega))
  conv=>whnf
  refine⟨fun hc=>absurd hc (by simp),fun hc=>?_⟩
  conv=>whnf
  refine⟨fun hg=>?_,fun hg=>?_⟩
  ·have hi0:0 < i:=by have:=of_decide_eq_true (show decide ((0:Int) < (i:Int))=true from hg); omega
   conv=>whnf
   refine⟨((i - 1:Nat):Int),(congrArg IntKind.i64.wrap (show (i:Int) - 1=((i - 1:Nat):Int) by omega)).trans (wrapId ⟨by omega,by omega⟩), ?_⟩
   conv=>whnf
   refine⟨i - 1,rfl,(show i - 1 < (momsF r []).length by omega),(show i - 1 < (momsF r []).length by omega), ?_⟩
   conv=>whnf
   have hp1:i - 1 < (momsF r []).length:=by omega
   have hmp:(momsF r []).getD (S.length - 1) default=(momsF r [])[i - 1]:=by rw [hSl,List.getD_eq_getElem?_getD,List.getElem?_eq_getElem hp1]; rfl
   refine⟨fun hb=>?_,fun hb=>?_⟩
   ·have hb:(momsF r [])[i - 1].bal=(momsF r [])[i].bal:=by simpa using (show ((momsF r [])[i - 1].bal == (momsF r [])[i].bal)=true from hb)
    have hpS1:i - 1 < S.length:=by omega
    have hvb:=gS_bd hr hS hi (i - 1)
    rw [List.getD_eq_getElem?_getD,List.getElem?_eq_getElem hpS1] at hvb
    have hvb:-1000000≤S[i - 1]∧S[i - 1]≤1000000:=hvb
    have hD:=driftT_t r (momsF r [])[i].bal (by have:=hr.nb; omega)
    obtain ⟨kb,kt⟩:=hmb _ (List.getElem_mem hlt)
    obtain ⟨_,kt'⟩:=hmb _ (List.getElem_mem hp1)
    obtain ⟨_,_,_,hdr,_⟩:=valid_bd (hr.findD kb)
    have hfb:=far_bd hdr (d:=(momsF r [])[i].tick - (momsF r [])[i - 1].tick) ⟨by omega,by omega⟩
    have hsp:spanT r S=(max (sideF r (momsF r [])[i]).lo (S[i - 1] - (findD r.bs (momsF r [])[i].bal).dr * ((momsF r [])[i].tick - (momsF r [])[i - 1].tick)),min (sideF r (momsF r [])[i]).hi (S[i - 1]+(findD r.bs (momsF r [])[i].bal).dr * ((momsF r [])[i].tick - (momsF r [])[i - 1].tick))):=by
     unfold spanT; rw [hme,hmp,if_pos ⟨by omega,hb⟩,hSl,show S.getD (i - 1) 0=S[i - 1] by rw [List.getD_eq_getElem?_getD,List.getElem?_eq_getElem hpS1]; rfl]
    rw [hsp] at hle
    dsimp only at hle
    conv=>whnf
    refine call_step hD rfl rfl ?_
    conv=>whnf
    refine⟨?_, ?_, ?_⟩
    iterate 2 · repeat'(first|exact trivial|exact rfl|refine And.intro ?_ ?_|((conv=>whnf);first|exact trivial|exact rfl|refine And.intro ?_ ?_|omega))
    conv=>whnf
    refine⟨((i - 1:Nat):Int),(congrArg IntKind.i64.wrap (show (i:Int) - 1=((i - 1:Nat):Int) by omega)).trans (wrapId ⟨by omega,by omega⟩), ?_⟩
    conv=>whnf
    refine⟨i - 1,rfl,hp1,hp1, ?_⟩
    conv=>whnf
    refine⟨(momsF r [])[i].tick - (momsF r [])[i - 1].tick,wrapId (z:=(momsF r [])[i].tick - (momsF r [])[i - 1].tick) ⟨by omega,by omega⟩, ?_⟩
    conv=>whnf
    refine⟨(findD r.bs (momsF r [])[i].bal).dr * ((momsF r [])[i].tick - (momsF r [])[i - 1].tick),wrapId (z:=(findD r.bs (momsF r [])[i].bal).dr * ((momsF r [])[i].tick - (momsF r [])[i - 1].tick)) ⟨by omega,by omega⟩, ?_⟩
    conv=>whnf
    generalize (findD r.bs (momsF r [])[i].bal).dr * ((momsF r [])[i].tick - (momsF r [])[i - 1].tick)=far at *
    refine⟨((i - 1:Nat):Int),(congrArg IntKind.i64.wrap (show (i:Int) - 1=((i - 1:Nat):Int) by omega)).trans (wrapId ⟨by omega,by omega⟩), ?_⟩
    conv=>whnf
    refine⟨i - 1,rfl,hpS1,hpS1, ?_⟩
    conv=>whnf
    refine⟨S[i - 1] - far,wrapId (z:=S[i - 1] - far) ⟨by omega,by omega⟩, ?_⟩
    conv=>whnf
    refine⟨((i - 1:Nat):Int),(congrArg IntKind.i64.wrap (show (i:Int) - 1=((i - 1:Nat):Int) by omega)).trans (wrapId ⟨by omega,by omega⟩), ?_⟩
    conv=>whnf
    refine⟨i - 1,rfl,hpS1,hpS1, ?_⟩
    conv=>whnf
    refine⟨S[i - 1]+far,wrapId (z:=S[i - 1]+far) ⟨by omega,by omega⟩, ?_⟩
    conv=>whnf
    refine⟨fun hq=>absurd (of_decide_eq_true (show decide (min (sideF r (momsF r [])[i]).hi (S[i - 1]+far) < max (sideF r (momsF r [])[i]).lo (S[i - 1] - far))=true from hq)) (by omega),fun hq=>?_⟩
    conv=>whnf
    refine call_step hPk rfl rfl ?_
    conv=>whnf
    refine⟨?_, ?_, ?_⟩
    iterate 2 · repeat'(first|exact trivial|exact rfl|refine And.intro ?_ ?_|((conv=>whnf);first|exact trivial|exact rfl|refine And.intro ?_ ?_|omega))
    conv=>whnf
    refine call_step (intoT_t (pickT xs i) (max (sideF r (momsF r [])[i]).lo (S[i - 1] - far)) (min (sideF r (momsF r [])[i]).hi (S[i - 1]+far))) rfl rfl ?_
    conv=>whnf
    refine⟨?_, ?_, ?_⟩
    iterate 2 · repeat'(first|exact trivial|exact rfl|refine And.intro ?_ ?_|((conv=>whnf);first|exact trivial|exact rfl|refine And.intro ?_ ?_|omega))
    conv=>whnf
    rw [hsp,hSl] at hNx
    dsimp only at hNx
    have hSb:S.length≤1000:=by omega
    generalize intoT (pickT xs i) (max (sideF r (momsF r [])[i]).lo (S[i - 1] - far)) (min (sideF r (momsF r [])[i]).hi (S[i - 1]+far))=z at *
    refine bs_step tB_ok (aInt [z]) rfl rfl ?_
    conv=>whnf
    refine⟨⟨rfl,(by repeat'(first|exact trivial|exact rfl|refine And.intro ?_ ?_|((conv=>whnf);first|exact trivial|exact rfl|refine And.intro ?_ ?_|omega)))⟩, ?_⟩
    conv=>whnf
    refine app_step tB_ok (aInt S) [z] (fun _=>rfl) rfl rfl rfl rfl ?_
    conv=>whnf
    refine⟨⟨rfl,rfl,Nat.le_refl _,Nat.le_refl _,by show (S.length+1) * 9≤_; omega⟩, ?_⟩
    conv=>whnf
    refine⟨_,wrapId ⟨by omega,by omega⟩, ?_⟩
    refine⟨(i+1,S ++ [z]),⟨hlt,hNx⟩,by show (momsF r []).length - (i+1) < (momsF r []).length - i; omega, ?_⟩
    try dsimp only
    conv=>whnf
    refine⟨rfl, ?_⟩
    conv=>whnf
    repeat'(first|exact trivial|exact rfl|refine And.intro ?_ ?_|((conv=>whnf);first|exact trivial|exact rfl|refine And.intro ?_ ?_|omega))
    all_goals first | exact (congrArg aInt app1.symm:_) | exact (congrArg aInt app1:_) | (simp; done) | skip
   ·have hb:¬ (momsF r [])[i - 1].bal=(momsF r [])[i].bal:=by simpa using (show ((momsF r [])[i - 1].bal == (momsF r [])[i].bal)=false from hb)
    have hsp:spanT r S=((sideF r (momsF r [])[i]).lo,(sideF r (momsF r [])[i]).hi):=by
     unfold spanT; rw [hme,hmp,if_neg (fun hh=>hb hh.2)]
    conv=>whnf
    refine⟨fun hq=>absurd (of_decide_eq_true (show decide ((sideF r (momsF r [])[i]).hi < (sideF r (momsF r [])[i]).lo)=true from hq)) (by omega),fun hq=>?_⟩
    conv=>whnf
    refine call_step hPk rfl rfl ?_
    conv=>whnf
    refine⟨?_, ?_, ?_⟩
    iterate 2 · repeat'(first|exact trivial|exact rfl|refine And.intro ?_ ?_|((conv=>whnf);first|exact trivial|exact rfl|refine And.intro ?_ ?_|omega))
    conv=>whnf
    refine call_step (intoT_t (pickT xs i) ((sideF r (momsF r [])[i]).lo) ((sideF r (momsF r [])[i]).hi)) rfl rfl ?_
    conv=>whnf
    refine⟨?_, ?_, ?_⟩
    iterate 2 · repeat'(first|exact trivial|exact rfl|refine And.intro ?_ ?_|((conv=>whnf);first|exact trivial|exact rfl|refine And.intro ?_ ?_|omega))
    conv=>whnf
    rw [hsp,hSl] at hNx
    dsimp only at hNx
    have hSb:S.length≤1000:=by omega
    generalize intoT (pickT xs i) ((sideF r (momsF r [])[i]).lo) ((sideF r (momsF r [])[i]).hi)=z at *
    refine bs_step tB_ok (aInt [z]) rfl rfl ?_
    conv=>whnf
    refine⟨⟨rfl,(by repeat'(first|exact trivial|exact rfl|refine And.intro ?_ ?_|((conv=>whnf);first|exact trivial|exact rfl|refine And.intro ?_ ?_|omega)))⟩, ?_⟩
    conv=>whnf
    refine app_step tB_ok (aInt S) [z] (fun _=>rfl) rfl rfl rfl rfl ?_
    conv=>whnf
    refine⟨⟨rfl,rfl,Nat.le_refl _,Nat.le_refl _,by show (S.length+1) * 9≤_; omega⟩, ?_⟩
    conv=>whnf
    refine⟨_,wrapId ⟨by omega,by omega⟩, ?_⟩
    refine⟨(i+1,S ++ [z]),⟨hlt,hNx⟩,by show (momsF r []).length - (i+1) < (momsF r []).length - i; omega, ?_⟩
    try dsimp only
    conv=>whnf
    refine⟨rfl, ?_⟩
    conv=>whnf
    repeat'(first|exact trivial|exact rfl|refine And.intro ?_ ?_|((conv=>whnf);first|exact trivial|exact rfl|refine And.intro ?_ ?_|omega))
    all_goals first | exact (congrArg aInt app1.symm:_) | exact (congrArg aInt app1:_) | (simp; done) | skip
  ·have hi0:i=0:=by have:=of_decide_eq_false (show decide ((0:Int) < (i:Int))=false from hg); omega
   have hsp:spanT r S=((sideF r (momsF r [])[i]).lo,(sideF r (momsF r [])[i]).hi):=by
    unfold spanT; rw [hme,if_neg (fun hh=>by omega)]
   conv=>whnf
   refine⟨fun hq=>absurd (of_decide_eq_true (show decide ((sideF r (momsF r [])[i]).hi < (sideF r (momsF r [])[i]).lo)=true from hq)) (by omega),fun hq=>?_⟩
   conv=>whnf
   refine call_step hPk rfl rfl ?_
   conv=>whnf
   refine⟨?_, ?_, ?_⟩
   iterate 2 · repeat'(first|exact trivial|exact rfl|refine And.intro ?_ ?_|((conv=>whnf);first|exact trivial|exact rfl|refine And.intro ?_ ?_|omega))
   conv=>whnf
   refine call_step (intoT_t (pickT xs i) ((sideF r (momsF r [])[i]).lo) ((sideF r (momsF r [])[i]).hi)) rfl rfl ?_
   conv=>whnf
   refine⟨?_, ?_, ?_⟩
   iterate 2 · repeat'(first|exact trivial|exact rfl|refine And.intro ?_ ?_|((conv=>whnf);first|exact trivial|exact rfl|refine And.intro ?_ ?_|omega))
   conv=>whnf
   rw [hsp,hSl] at hNx
   dsimp only at hNx
   have hSb:S.length≤1000:=by omega
   generalize intoT (pickT xs i) ((sideF r (momsF r [])[i]).lo) ((sideF r (momsF r [])[i]).hi)=z at *
   refine bs_step tB_ok (aInt [z]) rfl rfl ?_
   conv=>whnf
   refine⟨⟨rfl,(by repeat'(first|exact trivial|exact rfl|refine And.intro ?_ ?_|((conv=>whnf);first|exact trivial|exact rfl|refine And.intro ?_ ?_|omega)))⟩, ?_⟩
   conv=>whnf
   refine app_step tB_ok (aInt S) [z] (fun _=>rfl) rfl rfl rfl rfl ?_
   conv=>whnf
   refine⟨⟨rfl,rfl,Nat.le_refl _,Nat.le_refl _,by show (S.length+1) * 9≤_; omega⟩, ?_⟩
   conv=>whnf
   refine⟨_,wrapId ⟨by omega,by omega⟩, ?_⟩
   refine⟨(i+1,S ++ [z]),⟨hlt,hNx⟩,by show (momsF r []).length - (i+1) < (momsF r []).length - i; omega, ?_⟩
   try dsimp only
   conv=>whnf
   refine⟨rfl, ?_⟩
   conv=>whnf
   repeat'(first|exact trivial|exact rfl|refine And.intro ?_ ?_|((conv=>whnf);first|exact trivial|exact rfl|refine And.intro ?_ ?_|omega))
   all_goals first | exact (congrArg aInt app1.symm:_) | exact (congrArg aInt app1:_) | (simp; done) | skip
 have hie:i=(momsF r []).length:=by simp at hc; omega
 subst hie
 obtain rfl:sh=S:=Option.some.inj (h.hsh.symm.trans hS)
 conv=>whnf
 have eW:(([]:List Wgh).take 0 ++ (r.ws.drop 0).take r.ws.length)=r.ws:=by simp
 have eC:(([]:List Chk).take 0 ++ (r.cs.drop 0).take r.cs.length)=r.cs:=by simp
 refine bs_step tB_ok (aWgh []) rfl rfl ?_
 conv=>whnf
 refine⟨⟨rfl,trivial⟩, ?_⟩
 conv=>whnf
 refine app_step tB_ok (aWgh []) r.ws (fun _=>rfl) rfl rfl rfl rfl ?_
 conv=>whnf
 refine⟨⟨rfl,rfl,Nat.le_refl _,by rw [Nat.zero_add]; exact Nat.le_refl _,by show (0+r.ws.length) * 65≤_; omega⟩, ?_⟩
 conv=>whnf
 refine bs_step tB_ok (aChk []) rfl rfl ?_
 conv=>whnf
 refine⟨⟨rfl,trivial⟩, ?_⟩
 conv=>whnf
 refine app_step tB_ok (aChk []) r.cs (fun _=>rfl) rfl rfl rfl rfl ?_
 conv=>whnf
 refine⟨⟨rfl,rfl,Nat.le_refl _,by rw [Nat.zero_add]; exact Nat.le_refl _,by show (0+r.cs.length) * 41≤_; omega⟩, ?_⟩
 conv=>whnf
 have hlm:ma.length=(objsF r).length:=upT_len hM
 have hls:sh.length=(momsF r []).length:=upT_len hS
 have hol2:(objsF r).length≤1000:=by omega
 have hat:∀ (p:List Int) (lo hi:Int),lo≤0 → 0≤hi → (∀ j,lo≤p.getD j 0∧p.getD j 0≤hi) → ∀ v,lo≤atF p v∧atF p v≤hi:=fun p lo hi h0 h1 hp v=>by
  unfold atF; split
  ·exact⟨h0,h1⟩
  ·exact hp _
 have hMa:∀ v,-20000000≤atF ma v∧atF ma v≤20000000:=hat ma _ _ (by omega) (by omega) fun j=>by have:=gM_bd hr hM (Nat.le_refl _) j; omega
 have hSa:∀ v,-20000000≤atF sh v∧atF sh v≤20000000:=hat sh _ _ (by omega) (by omega) fun j=>by have:=gS_bd hr hS (Nat.le_refl _) j; omega
 -- the weighings
 refine loop_step tB_ok (G:=Nat × List Wgh) 0 [] (fun g=>[(195,iv .i64 g.1)]) (fun g=>[(21,true, .arr (aWgh (g.2 ++ r.ws.drop g.1)))]) (fun g=>g.1≤r.ws.length∧upT (gW r ma sh xo) g.1=some g.2) (fun g=>r.ws.length - g.1) ?_
 conv=>whnf
 refine⟨⟨(0,[]),⟨Nat.zero_le _,rfl⟩, ?_⟩, ?_⟩
 ·conv=>whnf
  repeat'(first|exact trivial|exact rfl|refine And.intro ?_ ?_|((conv=>whnf);first|exact trivial|exact rfl|refine And.intro ?_ ?_|omega))
  exact congrArg aWgh (show ([]:List Wgh).take 0 ++ (r.ws.drop 0).take r.ws.length=[] ++ r.ws.drop 0 by simp)
 rintro ⟨i,W⟩ ⟨hi,hW⟩ ρ1 t1 hρ1
 dsimp only at hi hW ⊢
 conv=>whnf
 refine⟨fun hc=>?_,fun hc=>?_⟩
 ·have hlt:i < r.ws.length:=by simp at hc; omega
  have hWl:=upT_len hW
  have hwe:r.ws.getD W.length default=r.ws[i]:=by rw [hWl,List.getD_eq_getElem?_getD,List.getElem?_eq_getElem hlt]; rfl
  have hLl:(W ++ r.ws.drop i).length=r.ws.length:=by rw [List.length_append,List.length_drop]; omega
  have hLi:i < (W ++ r.ws.drop i).length:=by omega
  have hLe:(W ++ r.ws.drop i)[i]=r.ws[i]:=by
   rw [List.getElem_append_right (by omega),List.getElem_drop]
   congr 1
   omega
  have hLs:∀ y,(W ++ r.ws.drop i).set i y=(W ++ [y]) ++ r.ws.drop (i+1):=fun y=>by
   rw [List.set_append_right _ _ (by omega),hWl,Nat.sub_self,List.drop_eq_getElem_cons hlt,List.set_cons_zero]; simp
  have hg:gW r ma sh xo W=if (shW r ma sh xo i (W ++ r.ws.drop i)[i]).2=true then some { (W ++ r.ws.drop i)[i] with shown:=(shW r ma sh xo i (W ++ r.ws.drop i)[i]).1 } else none:=by
   unfold gW
   rw [hwe,← hLe,hWl]
  generalize W ++ r.ws.drop i=L at *
  have hMs:=lawAtThg_t (objsF r) ma sh L[i].o hlm hol2
  have hCr:=lawAtMom_t (momsF r []) ma sh (wMom L[i]) hls (by omega)
  have hPk:=pickT_t xo i hx.2.2
  have hSn:=shownT_t r L[i].bal (atF ma (plF (objsF r) L[i].o)) (atF sh (plF (momsF r []) (wMom L[i]))) (pickT xo i) (by have:=hr.nb; omega) hr.bal (hMa _) (hSa _)
  unfold shW at hg
  generalize atF ma (plF (objsF r) L[i].o)=vm at *
  generalize atF sh (plF (momsF r []) (wMom L[i]))=vs at *
  generalize pickT xo i=vp at *
  generalize shownT r.bs L[i].bal vm vs vp=z at *
  obtain ⟨z,zb⟩:=z
  cases zb with
  | false =>
   rw [if_neg (by simp)] at hg
   have h1:upT (gW r ma sh xo) (i+1)=none:=by simp only [upT,hW,hg]
   have h2:=upT_none h1 (r.ws.length - (i+1))
   rw [show i+1+(r.ws.length - (i+1))=r.ws.length by omega,h.hws] at h2
   cases h2
  | true =>
  rw [if_pos rfl] at hg
  have hNx:upT (gW r ma sh xo) (i+1)=some (W ++ [{ L[i] with shown:=z }]):=by simp only [upT,hW,hg]
  conv=>whnf
  refine⟨i,rfl,by omega, ?_⟩
  conv=>whnf
  refine⟨hLi, ?_⟩
  conv=>whnf
  refine⟨hLi, ?_⟩
  conv=>whnf
  refine call_step hMs rfl rfl ?_
  conv=>whnf
  refine⟨?_, ?_, ?_⟩
  iterate 2 · repeat'(first|exact trivial|exact rfl|refine And.intro ?_ ?_|((conv=>whnf);first|exact trivial|exact rfl|refine And.intro ?_ ?_|omega))
  conv=>whnf
  refine⟨hLi, ?_⟩
  conv=>whnf
  refine⟨hLi, ?_⟩
  conv=>whnf
  refine call_step hCr rfl rfl ?_
  conv=>whnf
  refine⟨?_, ?_, ?_⟩
  iterate 2 · repeat'(first|exact trivial|exact rfl|refine And.intro ?_ ?_|((conv=>whnf);first|exact trivial|exact rfl|refine And.intro ?_ ?_|omega))
  conv=>whnf
  refine call_step hPk rfl rfl ?_
  conv=>whnf
  refine⟨?_, ?_, ?_⟩
  iterate 2 · repeat'(first|exact trivial|exact rfl|refine And.intro ?_ ?_|((conv=>whnf);first|exact trivial|exact rfl|refine And.intro ?_ ?_|omega))
  conv=>whnf
  refine call_step hSn rfl rfl ?_
  conv=>whnf
  refine⟨?_, ?_, ?_⟩
  iterate 2 · repeat'(first|exact trivial|exact rfl|refine And.intro ?_ ?_|((conv=>whnf);first|exact trivial|exact rfl|refine And.intro ?_ ?_|omega))
  conv=>whnf
  refine⟨fun hc=>absurd (show (false:Bool)=true from hc) (by decide),fun hc=>?_⟩
  conv=>whnf
  refine⟨hLi,{ L[i] with shown:=z },rfl, ?_⟩
  conv=>whnf
  refine⟨_,wrapId ⟨by omega,by omega⟩, ?_⟩
  refine⟨(i+1,W ++ [{ L[i] with shown:=z }]),⟨hlt,hNx⟩,by show r.ws.length - (i+1) < r.ws.length - i; omega, ?_⟩
  try dsimp only
  conv=>whnf
  refine⟨rfl, ?_⟩
  conv=>whnf
  repeat'(first|exact trivial|exact rfl|refine And.intro ?_ ?_|((conv=>whnf);first|exact trivial|exact rfl|refine And.intro ?_ ?_|omega))
  refine congrArg aWgh ?_
  rw [addN_eq,Nat.zero_add]
  exact hLs _
 have hie:i=r.ws.length:=by simp at hc; omega
 subst hie
 obtain rfl:ws'=W:=Option.some.inj (h.hws.symm.trans hW)
 rw [List.drop_length,List.append_nil]
 -- the checks
 conv=>whnf
 refine loop_step tB_ok (G:=Nat × List Chk) 0 [] (fun g=>[(246,iv .i64 g.1)]) (fun g=>[(23,true, .arr (aChk (g.2 ++ r.cs.drop g.1)))]) (fun g=>g.1≤r.cs.length∧upT (gC r sh xo) g.1=some g.2) (fun g=>r.cs.length - g.1) ?_
 conv=>whnf
 refine⟨⟨(0,[]),⟨Nat.zero_le _,rfl⟩, ?_⟩, ?_⟩
 ·conv=>whnf
  repeat'(first|exact trivial|exact rfl|refine And.intro ?_ ?_|((conv=>whnf);first|exact trivial|exact rfl|refine And.intro ?_ ?_|omega))
  exact congrArg aChk (show ([]:List Chk).take 0 ++ (r.cs.drop 0).take r.cs.length=[] ++ r.cs.drop 0 by simp)
 rintro ⟨i,W⟩ ⟨hi,hW⟩ ρ1 t1 hρ1
 dsimp only at hi hW ⊢
 conv=>whnf
 refine⟨fun hc=>?_,fun hc=>?_⟩
 ·have hlt:i < r.cs.length:=by simp at hc; omega
  have hWl:=upT_len hW
  have hwe:r.cs.getD W.length default=r.cs[i]:=by rw [hWl,List.getD_eq_getElem?_getD,List.getElem?_eq_getElem hlt]; rfl
  have hLl:(W ++ r.cs.drop i).length=r.cs.length:=by rw [List.length_append,List.length_drop]; omega
  have hLi:i < (W ++ r.cs.drop i).length:=by omega
  have hLe:(W ++ r.cs.drop i)[i]=r.cs[i]:=by
   rw [List.getElem_append_right (by omega),List.getElem_drop]
   congr 1
   omega
  have hLs:∀ y,(W ++ r.cs.drop i).set i y=(W ++ [y]) ++ r.cs.drop (i+1):=fun y=>by
   rw [List.set_append_right _ _ (by omega),hWl,Nat.sub_self,List.drop_eq_getElem_cons hlt,List.set_cons_zero]; simp
  have hmb:-20000000≤r.cs[i].mass∧r.cs[i].mass≤20000000:=by
   have h1:=(hr.chk _ (List.getElem_mem hlt)).2
   unfold chkF withinF at h1
   simp only [Bool.and_eq_true,decide_eq_true_eq] at h1
   have h2:=(valid_bd (hr.findD h1.1)).2.2.2.2
   omega
  have hg:gC r sh xo W=if (shC r sh xo i (W ++ r.cs.drop i)[i]).2=true then some { (W ++ r.cs.drop i)[i] with shown:=(shC r sh xo i (W ++ r.cs.drop i)[i]).1 } else none:=by
   unfold gC
   rw [hwe,← hLe,hWl]
  rw [← hLe] at hmb
  generalize W ++ r.cs.drop i=L at *
  have hCr:=lawAtMom_t (momsF r []) ma sh (cMom L[i]) hls (by omega)
  have hPk:=pickT_t xo (i+r.ws.length) hx.2.2
  have hSn:=shownT_t r L[i].bal L[i].mass (atF sh (plF (momsF r []) (cMom L[i]))) (pickT xo (i+r.ws.length)) (by have:=hr.nb; omega) hr.bal hmb (hSa _)
  unfold shC at hg
  generalize atF sh (plF (momsF r []) (cMom L[i]))=vs at *
  generalize pickT xo (i+r.ws.length)=vp at *
  generalize shownT r.bs L[i].bal L[i].mass vs vp=z at *
  obtain ⟨z,zb⟩:=z
  cases zb with
  | false =>
   rw [if_neg (by simp)] at hg
   have h1:upT (gC r sh xo) (i+1)=none:=by simp only [upT,hW,hg]
   have h2:=upT_none h1 (r.cs.length - (i+1))
   rw [show i+1+(r.cs.length - (i+1))=r.cs.length by omega,h.hcs] at h2
   cases h2
  | true =>
  rw [if_pos rfl] at hg
  have hNx:upT (gC r sh xo) (i+1)=some (W ++ [{ L[i] with shown:=z }]):=by simp only [upT,hW,hg]
  conv=>whnf
  refine⟨i,rfl,by omega, ?_⟩
  conv=>whnf
  refine⟨hLi, ?_⟩
  conv=>whnf
  refine⟨hLi, ?_⟩
  conv=>whnf
  refine⟨hLi, ?_⟩
  conv=>whnf
  refine⟨hLi, ?_⟩
  conv=>whnf
  refine call_step hCr rfl rfl ?_
  conv=>whnf
  refine⟨?_, ?_, ?_⟩
  iterate 2 · repeat'(first|exact trivial|exact rfl|refine And.intro ?_ ?_|((conv=>whnf);first|exact trivial|exact rfl|refine And.intro ?_ ?_|omega))
  conv=>whnf
  refine⟨((i+r.ws.length:Nat):Int),(congrArg IntKind.i64.wrap (show (i:Int)+((0+r.ws.length:Nat):Int)=((i+r.ws.length:Nat):Int) by omega)).trans (wrapId ⟨by omega,by omega⟩), ?_⟩
  conv=>whnf
  refine call_step hPk rfl rfl ?_
  conv=>whnf
  refine⟨?_, ?_, ?_⟩
  iterate 2 · repeat'(first|exact trivial|exact rfl|refine And.intro ?_ ?_|((conv=>whnf);first|exact trivial|exact rfl|refine And.intro ?_ ?_|omega))
  conv=>whnf
  refine call_step hSn rfl rfl ?_
  conv=>whnf
  refine⟨?_, ?_, ?_⟩
  iterate 2 · repeat'(first|exact trivial|exact rfl|refine And.intro ?_ ?_|((conv=>whnf);first|exact trivial|exact rfl|refine And.intro ?_ ?_|omega))
  conv=>whnf
  refine⟨fun hc=>absurd (show (false:Bool)=true from hc) (by decide),fun hc=>?_⟩
  conv=>whnf
  refine⟨hLi,{ L[i] with shown:=z },rfl, ?_⟩
  conv=>whnf
  refine⟨_,wrapId ⟨by omega,by omega⟩, ?_⟩
  refine⟨(i+1,W ++ [{ L[i] with shown:=z }]),⟨hlt,hNx⟩,by show r.cs.length - (i+1) < r.cs.length - i; omega, ?_⟩
  try dsimp only
  conv=>whnf
  refine⟨rfl, ?_⟩
  conv=>whnf
  repeat'(first|exact trivial|exact rfl|refine And.intro ?_ ?_|((conv=>whnf);first|exact trivial|exact rfl|refine And.intro ?_ ?_|omega))
  refine congrArg aChk ?_
  rw [addN_eq,Nat.zero_add]
  exact hLs _
 have hie:i=r.cs.length:=by simp at hc; omega
 subst hie
 obtain rfl:cs'=W:=Option.some.inj (h.hcs.symm.trans hW)
 have hwl:=upT_len h.hws
 have hcl:=upT_len h.hcs
 rw [List.drop_length,List.append_nil]
 conv=>whnf
 repeat'(first|exact trivial|exact rfl|refine And.intro ?_ ?_|((conv=>whnf);first|exact trivial|exact rfl|refine And.intro ?_ ?_|omega))

def runT {α:Type} (g:List α → Option α):Nat → List α
 | 0=>[]
 | n+1=>match g (runT g n) with
  | some x=>if (runT g n).length=n then runT g n ++ [x] else runT g n
  | none=>runT g n

theorem runT_some {α:Type} {g:List α → Option α}:∀ {n:Nat} {l:List α},upT g n=some l → runT g n=l
 | 0,l,h=>by cases h; rfl
 | n+1,l,h=>by
  simp only [upT] at h
  cases h1:upT g n with
  | none=>rw [h1] at h; cases h
  | some k =>
   rw [h1] at h; simp only at h
   have ih:=runT_some h1
   cases h2:g k with
   | none=>rw [h2] at h; cases h
   | some x =>
    rw [h2] at h; cases h
    simp only [runT,ih,h2]
    rw [if_pos (upT_len h1)]

theorem runT_stop {α:Type} {g:List α → Option α} {i:Nat} {l:List α} (h:upT g i=some l) (hg:g l=none):∀ (n:Nat),i≤n → runT g n=l
 | 0,hi=>by
  obtain rfl:i=0:=by omega
  exact runT_some h
 | n+1,hi=>by
  rcases Nat.lt_or_eq_of_le hi with hlt | rfl
  ·have ih:=runT_stop h hg n (by omega)
   simp only [runT,ih,hg]
  ·exact runT_some h

set_option maxHeartbeats 4000000 in
theorem truthN_t (r:Rd) (hr:RdOK r) (xm xs xo:List Int) (hx:xm.length≤140737488351232∧xs.length≤140737488351232∧xo.length≤140737488351232) (h:∀ ma sh ws' cs',¬ MadeT r xm xs xo ma sh ws' cs') :
  Triple Tryz.prog 67 (tuA r xm xs xo) (tuH r xm xs xo) 7 (.tup [.inr [.s 0 0 r.bs.length 6, .s 2 0 r.cs.length 5, .s 3 0 r.ns.length 6, .s 1 0 r.ws.length 8], .inr [.s 7 0 (runT (gM r xm) (objsF r).length).length 1, .s 8 0 (runT (gS r xs) (momsF r []).length).length 1], .inl (.v (.bool false))])
   [(7,true, .arr (aInt (runT (gM r xm) (objsF r).length))),(8,true, .arr (aInt (runT (gS r xs) (momsF r []).length)))]:=by
 generalize hRM:runT (gM r xm) (objsF r).length=RM
 generalize hRS:runT (gS r xs) (momsF r []).length=RS
 have hs:=hr.sml
 have hO:=rObjects_t r hs
 have hM:=rMoments_t r hs
 have hC:=rCompile_t r hr
 refine triple_of tB_ok Tryz.func67 rfl Tryz.call67 rfl ?_
 intro ρ w hH
 conv=>whnf
 refine call_step hO rfl rfl ?_
 conv=>whnf
 refine⟨?_, ?_, ?_⟩
 iterate 2 · repeat'(first|exact trivial|exact rfl|refine And.intro ?_ ?_|((conv=>whnf);first|exact trivial|exact rfl|refine And.intro ?_ ?_|omega))
 conv=>whnf
 refine call_step hM rfl rfl ?_
 conv=>whnf
 refine⟨?_, ?_, ?_⟩
 iterate 2 · repeat'(first|exact trivial|exact rfl|refine And.intro ?_ ?_|((conv=>whnf);first|exact trivial|exact rfl|refine And.intro ?_ ?_|omega))
 conv=>whnf
 refine call_step hC rfl rfl ?_
 conv=>whnf
 refine⟨?_, ?_, ?_⟩
 iterate 2 · repeat'(first|exact trivial|exact rfl|refine And.intro ?_ ?_|((conv=>whnf);first|exact trivial|exact rfl|refine And.intro ?_ ?_|omega))
 conv=>whnf
 have hol:=objsF_len r
 have hnr:=hr.nr
 have hbl:=boxR_len r []
 have hbx:∀ (i:Nat) (h1:i < (objsF r).length) (h2:i < (boxR r []).length),(boxR r [])[i]=((0:Int),capF r (objsF r)[i]):=fun i h1 h2=>by
  simp only [boxR,boxesR,List.getElem_append_left (show i < ((objsF r).map fun o=>((0:Int),capF r o)).length by rw [List.length_map]; exact h1),List.getElem_map]
 -- the masses
 refine loop_step tB_ok (G:=Nat × List Int) 1 [] (fun g=>[(39,iv .i64 g.1)]) (fun g=>[(16,true, .cells [.s 17 0 g.2.length 1, .v (.slice none 0 0)]),(17,true, .arr (aInt g.2))]) (fun g=>g.1≤(objsF r).length∧upT (gM r xm) g.1=some g.2) (fun g=>(objsF r).length - g.1) ?_
 conv=>whnf
 refine⟨⟨(0,[]),⟨Nat.zero_le _,rfl⟩, ?_⟩, ?_⟩
 ·conv=>whnf
  repeat'(first|exact trivial|exact rfl|refine And.intro ?_ ?_|((conv=>whnf);first|exact trivial|exact rfl|refine And.intro ?_ ?_|omega))
 rintro ⟨i,M⟩ ⟨hi,hM⟩ ρ1 t1 hρ1
 dsimp only at hi hM ⊢
 conv=>whnf
 refine⟨fun hc=>?_,fun hc=>?_⟩
 ·have hlt:i < (objsF r).length:=by simpa using hc
  have hMl:=upT_len hM
  have hlb:i < (boxR r []).length:=by omega
  have hbi:=hbx i hlt hlb
  have hP:=pickT_t xm i hx.1
  have hI:=intoT_t (pickT xm i) (boxR r [])[i].1 (boxR r [])[i].2
  have hNx:upT (gM r xm) (i+1)=some (M ++ [stepM (objsF r) (objsF r)[i] M (intoT (pickT xm i) (boxR r [])[i].1 (boxR r [])[i].2) i]):=by
   simp only [upT,hM,gM,hMl,hbi]
   rw [List.getD_eq_getElem?_getD,List.getElem?_eq_getElem hlt]; rfl
  conv=>whnf
  refine⟨i,rfl,hlt,hlt, ?_⟩
  conv=>whnf
  refine call_step hP rfl rfl ?_
  conv=>whnf
  refine⟨?_, ?_, ?_⟩
  iterate 2 · repeat'(first|exact trivial|exact rfl|refine And.intro ?_ ?_|((conv=>whnf);first|exact trivial|exact rfl|refine And.intro ?_ ?_|omega))
  conv=>whnf
  refine⟨i,rfl,hlb,hlb, ?_⟩
  conv=>whnf
  refine call_step hI rfl rfl ?_
  conv=>whnf
  refine⟨?_, ?_, ?_⟩
  iterate 2 · repeat'(first|exact trivial|exact rfl|refine And.intro ?_ ?_|((conv=>whnf);first|exact trivial|exact rfl|refine And.intro ?_ ?_|omega))
  conv=>whnf
  generalize intoT (pickT xm i) (boxR r [])[i].1 (boxR r [])[i].2=n0 at *
  refine loop_step tB_ok (G:=Nat) 0 [] (fun k=>[(55,iv .i64 k),(13,iv .i64 (stepM (objsF r) (objsF r)[i] M n0 k))]) (fun _=>[]) (fun k=>k≤i) (fun k=>i - k) ?_
  conv=>whnf
  refine⟨⟨0,Nat.zero_le _, ?_⟩, ?_⟩
  ·conv=>whnf
   repeat'(first|exact trivial|exact rfl|refine And.intro ?_ ?_|((conv=>whnf);first|exact trivial|exact rfl|refine And.intro ?_ ?_|omega))
  rintro k hk ρ2 t2 hρ2
  conv=>whnf
  refine⟨fun hc=>?_,fun hc=>?_⟩
  ·have hkt:k < i:=by simpa using hc
   conv=>whnf
   refine⟨k,rfl,(show k < (objsF r).length by omega),(show k < (objsF r).length by omega), ?_⟩
   conv=>whnf
   have hkl:k < (objsF r).length:=by omega
   have hS:stepM (objsF r) (objsF r)[i] M n0 (k+1)=if isHvy (objsF r)[k] (objsF r)[i]=true then min (stepM (objsF r) (objsF r)[i] M n0 k) M[k] else stepM (objsF r) (objsF r)[i] M n0 k:=by
    simp only [stepM]
    rw [List.getD_eq_getElem?_getD,List.getElem?_eq_getElem hkl,List.getD_eq_getElem?_getD,List.getElem?_eq_getElem (show k < M.length by omega)]; rfl
   rw [hvy_eq] at hS
   refine⟨fun hc=>?_,fun hc=>?_⟩
   ·have hc:([(objsF r)[k].lot,(objsF r)[k].bale,(objsF r)[k].smp,(objsF r)[k].st] == [(objsF r)[i].lot,(objsF r)[i].bale,(objsF r)[i].smp,(objsF r)[k].st])=true:=hc
    rw [hc,Bool.true_and] at hS
    conv=>whnf
    have hkM:k < M.length:=by omega
    refine⟨fun h1=>?_,fun h1=>?_⟩
    ·have h1:((objsF r)[k].st == 1)=true:=h1
     rw [h1,Bool.true_or,if_pos rfl] at hS
     conv=>whnf
     refine⟨k,rfl,hkM,hkM, ?_⟩
     conv=>whnf
     refine⟨_,wrapId ⟨by omega,by omega⟩, ?_⟩
     refine⟨k+1,hkt,by show i - (k+1) < i - k; omega, ?_⟩
     try dsimp only
     rw [hS]
     conv=>whnf
     refine⟨rfl, ?_⟩
     conv=>whnf
     repeat'(first|exact trivial|exact rfl|refine And.intro ?_ ?_|((conv=>whnf);first|exact trivial|exact rfl|refine And.intro ?_ ?_|omega))
    ·have h1:((objsF r)[k].st == 1)=false:=h1
     rw [h1,Bool.false_or] at hS
     conv=>whnf
     refine⟨fun h2=>?_,fun h2=>?_⟩
     ·have h2:((objsF r)[k].st == 3)=true:=h2
      rw [h2,if_pos rfl] at hS
      conv=>whnf
      refine⟨k,rfl,hkM,hkM, ?_⟩
      conv=>whnf
      refine⟨_,wrapId ⟨by omega,by omega⟩, ?_⟩
      refine⟨k+1,hkt,by show i - (k+1) < i - k; omega, ?_⟩
      try dsimp only
      rw [hS]
      conv=>whnf
      refine⟨rfl, ?_⟩
      conv=>whnf
      repeat'(first|exact trivial|exact rfl|refine And.intro ?_ ?_|((conv=>whnf);first|exact trivial|exact rfl|refine And.intro ?_ ?_|omega))
     ·have h2:((objsF r)[k].st == 3)=false:=h2
      rw [h2,if_neg (by simp)] at hS
      conv=>whnf
      refine⟨_,wrapId ⟨by omega,by omega⟩, ?_⟩
      refine⟨k+1,hkt,by show i - (k+1) < i - k; omega, ?_⟩
      try dsimp only
      rw [hS]
      conv=>whnf
      refine⟨rfl, ?_⟩
      conv=>whnf
      repeat'(first|exact trivial|exact rfl|refine And.intro ?_ ?_|((conv=>whnf);first|exact trivial|exact rfl|refine And.intro ?_ ?_|omega))
   ·have hc:([(objsF r)[k].lot,(objsF r)[k].bale,(objsF r)[k].smp,(objsF r)[k].st] == [(objsF r)[i].lot,(objsF r)[i].bale,(objsF r)[i].smp,(objsF r)[k].st])=false:=hc
    rw [hc,Bool.false_and,if_neg (by simp)] at hS
    conv=>whnf
    refine⟨_,wrapId ⟨by omega,by omega⟩, ?_⟩
    refine⟨k+1,hkt,by show i - (k+1) < i - k; omega, ?_⟩
    try dsimp only
    rw [hS]
    conv=>whnf
    refine⟨rfl, ?_⟩
    conv=>whnf
    repeat'(first|exact trivial|exact rfl|refine And.intro ?_ ?_|((conv=>whnf);first|exact trivial|exact rfl|refine And.intro ?_ ?_|omega))
  ·have hki:k=i:=by simp at hc; omega
   subst hki
   conv=>whnf
   have hMb:M.length≤1000:=by omega
   generalize stepM (objsF r) (objsF r)[k] M n0 k=z at *
   refine bs_step tB_ok (aInt [z]) rfl rfl ?_
   conv=>whnf
   refine⟨⟨rfl,(by repeat'(first|exact trivial|exact rfl|refine And.intro ?_ ?_|((conv=>whnf);first|exact trivial|exact rfl|refine And.intro ?_ ?_|omega)))⟩, ?_⟩
   conv=>whnf
   refine app_step tB_ok (aInt M) [z] (fun _=>rfl) rfl rfl rfl rfl ?_
   conv=>whnf
   refine⟨⟨rfl,rfl,Nat.le_refl _,Nat.le_refl _,by show (M.length+1) * 9≤_; omega⟩, ?_⟩
   conv=>whnf
   refine⟨_,wrapId ⟨by omega,by omega⟩, ?_⟩
   refine⟨(k+1,M ++ [z]),⟨hlt,hNx⟩,by show (objsF r).length - (k+1) < (objsF r).length - k; omega, ?_⟩
   try dsimp only
   conv=>whnf
   refine⟨rfl, ?_⟩
   conv=>whnf
   repeat'(first|exact trivial|exact rfl|refine And.intro ?_ ?_|((conv=>whnf);first|exact trivial|exact rfl|refine And.intro ?_ ?_|omega))
   all_goals first | exact (congrArg aInt app1.symm:_) | exact (congrArg aInt app1:_) | (simp; done) | skip
 have hie:i=(objsF r).length:=by simp at hc; omega
 subst hie
 obtain rfl:M=RM:=(runT_some hM).symm.trans hRM
 generalize M=ma at *
 have hml:(momsF r []).length≤100:=by have h1:=momsF_len r []; rw [List.length_nil] at h1; omega
 have hpS:∀ (m:Mom),m ∈ momsF r [] → (sideF r m).lo≤(sideF r m).hi → pShift r m=(((sideF r m).lo,(sideF r m).hi),0):=fun m hm hle=>by
  unfold pShift
  rw [if_pos (checkR_ok.2 hr),if_pos (hr.mom (more:=[]) (by simp) hm),if_neg (by omega)]
 have hpS9:∀ (m:Mom),m ∈ momsF r [] → ¬ (sideF r m).lo≤(sideF r m).hi → pShift r m=((0,0),9):=fun m hm hle=>by
  unfold pShift
  rw [if_pos (checkR_ok.2 hr),if_pos (hr.mom (more:=[]) (by simp) hm),if_pos (by omega)]
 have hmb:∀ m ∈ momsF r [],hasB r.bs m.bal=true∧0≤m.tick∧m.tick≤1000000:=fun m hm=>by
  have:=hr.mom (more:=[]) (by simp) hm
  simpa [momOK,withinF] using this
 conv=>whnf
 -- the corrections
 refine loop_step tB_ok (G:=Nat × List Int) 1 [] (fun g=>[(96,iv .i64 g.1)]) (fun g=>[(16,true, .cells [.s 17 0 ma.length 1, .s 18 0 g.2.length 1]),(18,true, .arr (aInt g.2))]) (fun g=>g.1≤(momsF r []).length∧upT (gS r xs) g.1=some g.2) (fun g=>(momsF r []).length - g.1) ?_
 conv=>whnf
 refine⟨⟨(0,[]),⟨Nat.zero_le _,rfl⟩, ?_⟩, ?_⟩
 ·conv=>whnf
  repeat'(first|exact trivial|exact rfl|refine And.intro ?_ ?_|((conv=>whnf);first|exact trivial|exact rfl|refine And.intro ?_ ?_|omega))
 rintro ⟨i,S⟩ ⟨hi,hS⟩ ρ1 t1 hρ1
 dsimp only at hi hS ⊢
 conv=>whnf
 refine⟨fun hc=>?_,fun hc=>?_⟩
 ·have hlt:i < (momsF r []).length:=by simpa using hc
  have hSl:=upT_len hS
  have hme:(momsF r []).getD S.length default=(momsF r [])[i]:=by rw [hSl,List.getD_eq_getElem?_getD,List.getElem?_eq_getElem hlt]; rfl
  by_cases hle:(spanT r S).1≤(spanT r S).2
  rotate_left
  ·skip
   obtain rfl:S=RS:=(runT_stop hS (show gS r xs S=none by rw [gS,if_neg hle]) _ hi).symm.trans hRS
   by_cases hle2:(sideF r (momsF r [])[i]).lo≤(sideF r (momsF r [])[i]).hi
   rotate_left
   ·have hSh:=rShift_t r (momsF r [])[i] hs
    rw [hpS9 _ (List.getElem_mem hlt) hle2] at hSh
    conv=>whnf
    refine⟨i,rfl,hlt,hlt, ?_⟩
    conv=>whnf
    refine call_step hSh rfl rfl ?_
    conv=>whnf
    refine⟨?_, ?_, ?_⟩
    iterate 2 · repeat'(first|exact trivial|exact rfl|refine And.intro ?_ ?_|((conv=>whnf);first|exact trivial|exact rfl|refine And.intro ?_ ?_|omega))
    conv=>whnf
    refine⟨fun hc=>?_,fun hc=>absurd hc (by simp)⟩
    conv=>whnf
    repeat'(first|exact trivial|exact rfl|refine And.intro ?_ ?_|((conv=>whnf);first|exact trivial|exact rfl|refine And.intro ?_ ?_|omega))
   have hPk:=pickT_t xs i hx.2.1
   have hSh:=rShift_t r (momsF r [])[i] hs
   rw [hpS _ (List.getElem_mem hlt) hle2] at hSh
   conv=>whnf
   refine⟨i,rfl,hlt,hlt, ?_⟩
   conv=>whnf
   refine call_step hSh rfl rfl ?_
   conv=>whnf
   refine⟨?_, ?_, ?_⟩
   iterate 2 · repeat'(first|exact trivial|exact rfl|refine And.intro ?_ ?_|((conv=>whnf);first|exact trivial|exact rfl|refine And.intro ?_ ?_|omega))
   conv=>whnf
   refine⟨fun hc=>absurd hc (by simp),fun hc=>?_⟩
   conv=>whnf
   refine⟨fun hg=>?_,fun hg=>?_⟩
   ·have hi0:0 < i:=by have:=of_decide_eq_true (show decide ((0:Int) < (i:Int))=true from hg); omega
    conv=>whnf
    refine⟨((i - 1:Nat):Int),(congrArg IntKind.i64.wrap (show (i:Int) - 1=((i - 1:Nat):Int) by omega)).trans (wrapId ⟨by omega,by omega⟩), ?_⟩
    conv=>whnf
    refine⟨i - 1,rfl,(show i - 1 < (momsF r []).length by omega),(show i - 1 < (momsF r []).length by omega), ?_⟩
    conv=>whnf
    have hp1:i - 1 < (momsF r []).length:=by omega
    have hmp:(momsF r []).getD (S.length - 1) default=(momsF r [])[i - 1]:=by rw [hSl,List.getD_eq_getElem?_getD,List.getElem?_eq_getElem hp1]; rfl
    refine⟨fun hb=>?_,fun hb=>?_⟩
    ·have hb:(momsF r [])[i - 1].bal=(momsF r [])[i].bal:=by simpa using (show ((momsF r [])[i - 1].bal == (momsF r [])[i].bal)=true from hb)
     have hpS1:i - 1 < S.length:=by omega
     have hvb:=gS_bd hr hS hi (i - 1)
     rw [List.getD_eq_getElem?_getD,List.getElem?_eq_getElem hpS1] at hvb
     have hvb:-1000000≤S[i - 1]∧S[i - 1]≤1000000:=hvb
     have hD:=driftT_t r (momsF r [])[i].bal (by have:=hr.nb; omega)
     obtain ⟨kb,kt⟩:=hmb _ (List.getElem_mem hlt)
     obtain ⟨_,kt'⟩:=hmb _ (List.getElem_mem hp1)
     obtain ⟨_,_,_,hdr,_⟩:=valid_bd (hr.findD kb)
     have hfb:=far_bd hdr (d:=(momsF r [])[i].tick - (momsF r [])[i - 1].tick) ⟨by omega,by omega⟩
     have hsp:spanT r S=(max (sideF r (momsF r [])[i]).lo (S[i - 1] - (findD r.bs (momsF r [])[i].bal).dr * ((momsF r [])[i].tick - (momsF r [])[i - 1].tick)),min (sideF r (momsF r [])[i]).hi (S[i - 1]+(findD r.bs (momsF r [])[i].bal).dr * ((momsF r [])[i].tick - (momsF r [])[i - 1].tick))):=by
      unfold spanT; rw [hme,hmp,if_pos ⟨by omega,hb⟩,hSl,show S.getD (i - 1) 0=S[i - 1] by rw [List.getD_eq_getElem?_getD,List.getElem?_eq_getElem hpS1]; rfl]
     conv=>whnf
     refine call_step hD rfl rfl ?_
     conv=>whnf
     refine⟨?_, ?_, ?_⟩
     iterate 2 · repeat'(first|exact trivial|exact rfl|refine And.intro ?_ ?_|((conv=>whnf);first|exact trivial|exact rfl|refine And.intro ?_ ?_|omega))
     conv=>whnf
     refine⟨((i - 1:Nat):Int),(congrArg IntKind.i64.wrap (show (i:Int) - 1=((i - 1:Nat):Int) by omega)).trans (wrapId ⟨by omega,by omega⟩), ?_⟩
     conv=>whnf
     refine⟨i - 1,rfl,hp1,hp1, ?_⟩
     conv=>whnf
     refine⟨(momsF r [])[i].tick - (momsF r [])[i - 1].tick,wrapId (z:=(momsF r [])[i].tick - (momsF r [])[i - 1].tick) ⟨by omega,by omega⟩, ?_⟩
     conv=>whnf
     refine⟨(findD r.bs (momsF r [])[i].bal).dr * ((momsF r [])[i].tick - (momsF r [])[i - 1].tick),wrapId (z:=(findD r.bs (momsF r [])[i].bal).dr * ((momsF r [])[i].tick - (momsF r [])[i - 1].tick)) ⟨by omega,by omega⟩, ?_⟩
     conv=>whnf
     generalize (findD r.bs (momsF r [])[i].bal).dr * ((momsF r [])[i].tick - (momsF r [])[i - 1].tick)=far at *
     refine⟨((i - 1:Nat):Int),(congrArg IntKind.i64.wrap (show (i:Int) - 1=((i - 1:Nat):Int) by omega)).trans (wrapId ⟨by omega,by omega⟩), ?_⟩
     conv=>whnf
     refine⟨i - 1,rfl,hpS1,hpS1, ?_⟩
     conv=>whnf
     refine⟨S[i - 1] - far,wrapId (z:=S[i - 1] - far) ⟨by omega,by omega⟩, ?_⟩
     conv=>whnf
     refine⟨((i - 1:Nat):Int),(congrArg IntKind.i64.wrap (show (i:Int) - 1=((i - 1:Nat):Int) by omega)).trans (wrapId ⟨by omega,by omega⟩), ?_⟩
     conv=>whnf
     refine⟨i - 1,rfl,hpS1,hpS1, ?_⟩
     conv=>whnf
     refine⟨S[i - 1]+far,wrapId (z:=S[i - 1]+far) ⟨by omega,by omega⟩, ?_⟩
     conv=>whnf
     rw [hsp] at hle
     dsimp only at hle
     refine⟨fun hq=>?_,fun hq=>absurd (of_decide_eq_false (show decide (min (sideF r (momsF r [])[i]).hi (S[i - 1]+far) < max (sideF r (momsF r [])[i]).lo (S[i - 1] - far))=false from hq)) (by omega)⟩
     conv=>whnf
     repeat'(first|exact trivial|exact rfl|refine And.intro ?_ ?_|((conv=>whnf);first|exact trivial|exact rfl|refine And.intro ?_ ?_|omega))
    ·have hb:¬ (momsF r [])[i - 1].bal=(momsF r [])[i].bal:=by simpa using (show ((momsF r [])[i - 1].bal == (momsF r [])[i].bal)=false from hb)
     have hsp:spanT r S=((sideF r (momsF r [])[i]).lo,(sideF r (momsF r [])[i]).hi):=by
      unfold spanT; rw [hme,hmp,if_neg (fun hh=>hb hh.2)]
     exact absurd (by rw [hsp]; exact hle2) hle
   ·have hi0:i=0:=by have:=of_decide_eq_false (show decide ((0:Int) < (i:Int))=false from hg); omega
    have hsp:spanT r S=((sideF r (momsF r [])[i]).lo,(sideF r (momsF r [])[i]).hi):=by
     unfold spanT; rw [hme,if_neg (fun hh=>by omega)]
    exact absurd (by rw [hsp]; exact hle2) hle
  have hNx:upT (gS r xs) (i+1)=some (S ++ [intoT (pickT xs S.length) (spanT r S).1 (spanT r S).2]):=by simp only [upT,hS,gS,if_pos hle]
  have hle2:(sideF r (momsF r [])[i]).lo≤(sideF r (momsF r [])[i]).hi:=by
   unfold spanT at hle
   rw [hme] at hle
   split at hle <;> (dsimp only at hle; omega)
  have hPk:=pickT_t xs i hx.2.1
  have hSh:=rShift_t r (momsF r [])[i] hs
  rw [hpS _ (List.getElem_mem hlt) hle2] at hSh
  conv=>whnf
  refine⟨i,rfl,hlt,hlt, ?_⟩
  conv=>whnf
  refine call_step hSh rfl rfl ?_
  conv=>whnf
  refine⟨?_, ?_, ?_⟩
  iterate 2 · repeat'(first|exact trivial|exact rfl|refine And.intro ?_ ?_|((conv=>whnf);first|exact trivial|exact rfl|refine And.intro ?_ ?_|omega))
  conv=>whnf
  refine⟨fun hc=>absurd hc (by simp),fun hc=>?_⟩
  conv=>whnf
  refine⟨fun hg=>?_,fun hg=>?_⟩
  ·have hi0:0 < i:=by have:=of_decide_eq_true (show decide ((0:Int) < (i:Int))=true from hg); omega
   conv=>whnf
   refine⟨((i - 1:Nat):Int),(congrArg IntKind.i64.wrap (show (i:Int) - 1=((i - 1:Nat):Int) by omega)).trans (wrapId ⟨by omega,by omega⟩), ?_⟩
   conv=>whnf
   refine⟨i - 1,rfl,(show i - 1 < (momsF r []).length by omega),(show i - 1 < (momsF r []).length by omega), ?_⟩
   conv=>whnf
   have hp1:i - 1 < (momsF r []).length:=by omega
   have hmp:(momsF r []).getD (S.length - 1) default=(momsF r [])[i - 1]:=by rw [hSl,List.getD_eq_getElem?_getD,List.getElem?_eq_getElem hp1]; rfl
   refine⟨fun hb=>?_,fun hb=>?_⟩
   ·have hb:(momsF r [])[i - 1].bal=(momsF r [])[i].bal:=by simpa using (show ((momsF r [])[i - 1].bal == (momsF r [])[i].bal)=true from hb)
    have hpS1:i - 1 < S.length:=by omega
    have hvb:=gS_bd hr hS hi (i - 1)
    rw [List.getD_eq_getElem?_getD,List.getElem?_eq_getElem hpS1] at hvb
    have hvb:-1000000≤S[i - 1]∧S[i - 1]≤1000000:=hvb
    have hD:=driftT_t r (momsF r [])[i].bal (by have:=hr.nb; omega)
    obtain ⟨kb,kt⟩:=hmb _ (List.getElem_mem hlt)
    obtain ⟨_,kt'⟩:=hmb _ (List.getElem_mem hp1)
    obtain ⟨_,_,_,hdr,_⟩:=valid_bd (hr.findD kb)
    have hfb:=far_bd hdr (d:=(momsF r [])[i].tick - (momsF r [])[i - 1].tick) ⟨by omega,by omega⟩
    have hsp:spanT r S=(max (sideF r (momsF r [])[i]).lo (S[i - 1] - (findD r.bs (momsF r [])[i].bal).dr * ((momsF r [])[i].tick - (momsF r [])[i - 1].tick)),min (sideF r (momsF r [])[i]).hi (S[i - 1]+(findD r.bs (momsF r [])[i].bal).dr * ((momsF r [])[i].tick - (momsF r [])[i - 1].tick))):=by
     unfold spanT; rw [hme,hmp,if_pos ⟨by omega,hb⟩,hSl,show S.getD (i - 1) 0=S[i - 1] by rw [List.getD_eq_getElem?_getD,List.getElem?_eq_getElem hpS1]; rfl]
    rw [hsp] at hle
    dsimp only at hle
    conv=>whnf
    refine call_step hD rfl rfl ?_
    conv=>whnf
    refine⟨?_, ?_, ?_⟩
    iterate 2 · repeat'(first|exact trivial|exact rfl|refine And.intro ?_ ?_|((conv=>whnf);first|exact trivial|exact rfl|refine And.intro ?_ ?_|omega))
    conv=>whnf
    refine⟨((i - 1:Nat):Int),(congrArg IntKind.i64.wrap (show (i:Int) - 1=((i - 1:Nat):Int) by omega)).trans (wrapId ⟨by omega,by omega⟩), ?_⟩
    conv=>whnf
    refine⟨i - 1,rfl,hp1,hp1, ?_⟩
    conv=>whnf
    refine⟨(momsF r [])[i].tick - (momsF r [])[i - 1].tick,wrapId (z:=(momsF r [])[i].tick - (momsF r [])[i - 1].tick) ⟨by omega,by omega⟩, ?_⟩
    conv=>whnf
    refine⟨(findD r.bs (momsF r [])[i].bal).dr * ((momsF r [])[i].tick - (momsF r [])[i - 1].tick),wrapId (z:=(findD r.bs (momsF r [])[i].bal).dr * ((momsF r [])[i].tick - (momsF r [])[i - 1].tick)) ⟨by omega,by omega⟩, ?_⟩
    conv=>whnf
    generalize (findD r.bs (momsF r [])[i].bal).dr * ((momsF r [])[i].tick - (momsF r [])[i - 1].tick)=far at *
    refine⟨((i - 1:Nat):Int),(congrArg IntKind.i64.wrap (show (i:Int) - 1=((i - 1:Nat):Int) by omega)).trans (wrapId ⟨by omega,by omega⟩), ?_⟩
    conv=>whnf
    refine⟨i - 1,rfl,hpS1,hpS1, ?_⟩
    conv=>whnf
    refine⟨S[i - 1] - far,wrapId (z:=S[i - 1] - far) ⟨by omega,by omega⟩, ?_⟩
    conv=>whnf
    refine⟨((i - 1:Nat):Int),(congrArg IntKind.i64.wrap (show (i:Int) - 1=((i - 1:Nat):Int) by omega)).trans (wrapId ⟨by omega,by omega⟩), ?_⟩
    conv=>whnf
    refine⟨i - 1,rfl,hpS1,hpS1, ?_⟩
    conv=>whnf
    refine⟨S[i - 1]+far,wrapId (z:=S[i - 1]+far) ⟨by omega,by omega⟩, ?_⟩
    conv=>whnf
    refine⟨fun hq=>absurd (of_decide_eq_true (show decide (min (sideF r (momsF r [])[i]).hi (S[i - 1]+far) < max (sideF r (momsF r [])[i]).lo (S[i - 1] - far))=true from hq)) (by omega),fun hq=>?_⟩
    conv=>whnf
    refine call_step hPk rfl rfl ?_
    conv=>whnf
    refine⟨?_, ?_, ?_⟩
    iterate 2 · repeat'(first|exact trivial|exact rfl|refine And.intro ?_ ?_|((conv=>whnf);first|exact trivial|exact rfl|refine And.intro ?_ ?_|omega))
    conv=>whnf
    refine call_step (intoT_t (pickT xs i) (max (sideF r (momsF r [])[i]).lo (S[i - 1] - far)) (min (sideF r (momsF r [])[i]).hi (S[i - 1]+far))) rfl rfl ?_
    conv=>whnf
    refine⟨?_, ?_, ?_⟩
    iterate 2 · repeat'(first|exact trivial|exact rfl|refine And.intro ?_ ?_|((conv=>whnf);first|exact trivial|exact rfl|refine And.intro ?_ ?_|omega))
    conv=>whnf
    rw [hsp,hSl] at hNx
    dsimp only at hNx
    have hSb:S.length≤1000:=by omega
    generalize intoT (pickT xs i) (max (sideF r (momsF r [])[i]).lo (S[i - 1] - far)) (min (sideF r (momsF r [])[i]).hi (S[i - 1]+far))=z at *
    refine bs_step tB_ok (aInt [z]) rfl rfl ?_
    conv=>whnf
    refine⟨⟨rfl,(by repeat'(first|exact trivial|exact rfl|refine And.intro ?_ ?_|((conv=>whnf);first|exact trivial|exact rfl|refine And.intro ?_ ?_|omega)))⟩, ?_⟩
    conv=>whnf
    refine app_step tB_ok (aInt S) [z] (fun _=>rfl) rfl rfl rfl rfl ?_
    conv=>whnf
    refine⟨⟨rfl,rfl,Nat.le_refl _,Nat.le_refl _,by show (S.length+1) * 9≤_; omega⟩, ?_⟩
    conv=>whnf
    refine⟨_,wrapId ⟨by omega,by omega⟩, ?_⟩
    refine⟨(i+1,S ++ [z]),⟨hlt,hNx⟩,by show (momsF r []).length - (i+1) < (momsF r []).length - i; omega, ?_⟩
    try dsimp only
    conv=>whnf
    refine⟨rfl, ?_⟩
    conv=>whnf
    repeat'(first|exact trivial|exact rfl|refine And.intro ?_ ?_|((conv=>whnf);first|exact trivial|exact rfl|refine And.intro ?_ ?_|omega))
    all_goals first | exact (congrArg aInt app1.symm:_) | exact (congrArg aInt app1:_) | (simp; done) | skip
   ·have hb:¬ (momsF r [])[i - 1].bal=(momsF r [])[i].bal:=by simpa using (show ((momsF r [])[i - 1].bal == (momsF r [])[i].bal)=false from hb)
    have hsp:spanT r S=((sideF r (momsF r [])[i]).lo,(sideF r (momsF r [])[i]).hi):=by
     unfold spanT; rw [hme,hmp,if_neg (fun hh=>hb hh.2)]
    conv=>whnf
    refine⟨fun hq=>absurd (of_decide_eq_true (show decide ((sideF r (momsF r [])[i]).hi < (sideF r (momsF r [])[i]).lo)=true from hq)) (by omega),fun hq=>?_⟩
    conv=>whnf
    refine call_step hPk rfl rfl ?_
    conv=>whnf
    refine⟨?_, ?_, ?_⟩
    iterate 2 · repeat'(first|exact trivial|exact rfl|refine And.intro ?_ ?_|((conv=>whnf);first|exact trivial|exact rfl|refine And.intro ?_ ?_|omega))
    conv=>whnf
    refine call_step (intoT_t (pickT xs i) ((sideF r (momsF r [])[i]).lo) ((sideF r (momsF r [])[i]).hi)) rfl rfl ?_
    conv=>whnf
    refine⟨?_, ?_, ?_⟩
    iterate 2 · repeat'(first|exact trivial|exact rfl|refine And.intro ?_ ?_|((conv=>whnf);first|exact trivial|exact rfl|refine And.intro ?_ ?_|omega))
    conv=>whnf
    rw [hsp,hSl] at hNx
    dsimp only at hNx
    have hSb:S.length≤1000:=by omega
    generalize intoT (pickT xs i) ((sideF r (momsF r [])[i]).lo) ((sideF r (momsF r [])[i]).hi)=z at *
    refine bs_step tB_ok (aInt [z]) rfl rfl ?_
    conv=>whnf
    refine⟨⟨rfl,(by repeat'(first|exact trivial|exact rfl|refine And.intro ?_ ?_|((conv=>whnf);first|exact trivial|exact rfl|refine And.intro ?_ ?_|omega)))⟩, ?_⟩
    conv=>whnf
    refine app_step tB_ok (aInt S) [z] (fun _=>rfl) rfl rfl rfl rfl ?_
    conv=>whnf
    refine⟨⟨rfl,rfl,Nat.le_refl _,Nat.le_refl _,by show (S.length+1) * 9≤_; omega⟩, ?_⟩
    conv=>whnf
    refine⟨_,wrapId ⟨by omega,by omega⟩, ?_⟩
    refine⟨(i+1,S ++ [z]),⟨hlt,hNx⟩,by show (momsF r []).length - (i+1) < (momsF r []).length - i; omega, ?_⟩
    try dsimp only
    conv=>whnf
    refine⟨rfl, ?_⟩
    conv=>whnf
    repeat'(first|exact trivial|exact rfl|refine And.intro ?_ ?_|((conv=>whnf);first|exact trivial|exact rfl|refine And.intro ?_ ?_|omega))
    all_goals first | exact (congrArg aInt app1.symm:_) | exact (congrArg aInt app1:_) | (simp; done) | skip
  ·have hi0:i=0:=by have:=of_decide_eq_false (show decide ((0:Int) < (i:Int))=false from hg); omega
   have hsp:spanT r S=((sideF r (momsF r [])[i]).lo,(sideF r (momsF r [])[i]).hi):=by
    unfold spanT; rw [hme,if_neg (fun hh=>by omega)]
   conv=>whnf
   refine⟨fun hq=>absurd (of_decide_eq_true (show decide ((sideF r (momsF r [])[i]).hi < (sideF r (momsF r [])[i]).lo)=true from hq)) (by omega),fun hq=>?_⟩
   conv=>whnf
   refine call_step hPk rfl rfl ?_
   conv=>whnf
   refine⟨?_, ?_, ?_⟩
   iterate 2 · repeat'(first|exact trivial|exact rfl|refine And.intro ?_ ?_|((conv=>whnf);first|exact trivial|exact rfl|refine And.intro ?_ ?_|omega))
   conv=>whnf
   refine call_step (intoT_t (pickT xs i) ((sideF r (momsF r [])[i]).lo) ((sideF r (momsF r [])[i]).hi)) rfl rfl ?_
   conv=>whnf
   refine⟨?_, ?_, ?_⟩
   iterate 2 · repeat'(first|exact trivial|exact rfl|refine And.intro ?_ ?_|((conv=>whnf);first|exact trivial|exact rfl|refine And.intro ?_ ?_|omega))
   conv=>whnf
   rw [hsp,hSl] at hNx
   dsimp only at hNx
   have hSb:S.length≤1000:=by omega
   generalize intoT (pickT xs i) ((sideF r (momsF r [])[i]).lo) ((sideF r (momsF r [])[i]).hi)=z at *
   refine bs_step tB_ok (aInt [z]) rfl rfl ?_
   conv=>whnf
   refine⟨⟨rfl,(by repeat'(first|exact trivial|exact rfl|refine And.intro ?_ ?_|((conv=>whnf);first|exact trivial|exact rfl|refine And.intro ?_ ?_|omega)))⟩, ?_⟩
   conv=>whnf
   refine app_step tB_ok (aInt S) [z] (fun _=>rfl) rfl rfl rfl rfl ?_
   conv=>whnf
   refine⟨⟨rfl,rfl,Nat.le_refl _,Nat.le_refl _,by show (S.length+1) * 9≤_; omega⟩, ?_⟩
   conv=>whnf
   refine⟨_,wrapId ⟨by omega,by omega⟩, ?_⟩
   refine⟨(i+1,S ++ [z]),⟨hlt,hNx⟩,by show (momsF r []).length - (i+1) < (momsF r []).length - i; omega, ?_⟩
   try dsimp only
   conv=>whnf
   refine⟨rfl, ?_⟩
   conv=>whnf
   repeat'(first|exact trivial|exact rfl|refine And.intro ?_ ?_|((conv=>whnf);first|exact trivial|exact rfl|refine And.intro ?_ ?_|omega))
   all_goals first | exact (congrArg aInt app1.symm:_) | exact (congrArg aInt app1:_) | (simp; done) | skip
 have hie:i=(momsF r []).length:=by simp at hc; omega
 subst hie
 obtain rfl:S=RS:=(runT_some hS).symm.trans hRS
 generalize S=sh at *
 conv=>whnf
 have eW:(([]:List Wgh).take 0 ++ (r.ws.drop 0).take r.ws.length)=r.ws:=by simp
 have eC:(([]:List Chk).take 0 ++ (r.cs.drop 0).take r.cs.length)=r.cs:=by simp
 refine bs_step tB_ok (aWgh []) rfl rfl ?_
 conv=>whnf
 refine⟨⟨rfl,trivial⟩, ?_⟩
 conv=>whnf
 refine app_step tB_ok (aWgh []) r.ws (fun _=>rfl) rfl rfl rfl rfl ?_
 conv=>whnf
 refine⟨⟨rfl,rfl,Nat.le_refl _,by rw [Nat.zero_add]; exact Nat.le_refl _,by show (0+r.ws.length) * 65≤_; omega⟩, ?_⟩
 conv=>whnf
 refine bs_step tB_ok (aChk []) rfl rfl ?_
 conv=>whnf
 refine⟨⟨rfl,trivial⟩, ?_⟩
 conv=>whnf
 refine app_step tB_ok (aChk []) r.cs (fun _=>rfl) rfl rfl rfl rfl ?_
 conv=>whnf
 refine⟨⟨rfl,rfl,Nat.le_refl _,by rw [Nat.zero_add]; exact Nat.le_refl _,by show (0+r.cs.length) * 41≤_; omega⟩, ?_⟩
 conv=>whnf
 have hlm:ma.length=(objsF r).length:=upT_len hM
 have hls:sh.length=(momsF r []).length:=upT_len hS
 have hol2:(objsF r).length≤1000:=by omega
 have hat:∀ (p:List Int) (lo hi:Int),lo≤0 → 0≤hi → (∀ j,lo≤p.getD j 0∧p.getD j 0≤hi) → ∀ v,lo≤atF p v∧atF p v≤hi:=fun p lo hi h0 h1 hp v=>by
  unfold atF; split
  ·exact⟨h0,h1⟩
  ·exact hp _
 have hMa:∀ v,-20000000≤atF ma v∧atF ma v≤20000000:=hat ma _ _ (by omega) (by omega) fun j=>by have:=gM_bd hr hM (Nat.le_refl _) j; omega
 have hSa:∀ v,-20000000≤atF sh v∧atF sh v≤20000000:=hat sh _ _ (by omega) (by omega) fun j=>by have:=gS_bd hr hS (Nat.le_refl _) j; omega
 -- the weighings
 refine loop_step tB_ok (G:=Nat × List Wgh) 0 [] (fun g=>[(195,iv .i64 g.1)]) (fun g=>[(21,true, .arr (aWgh (g.2 ++ r.ws.drop g.1)))]) (fun g=>g.1≤r.ws.length∧upT (gW r ma sh xo) g.1=some g.2) (fun g=>r.ws.length - g.1) ?_
 conv=>whnf
 refine⟨⟨(0,[]),⟨Nat.zero_le _,rfl⟩, ?_⟩, ?_⟩
 ·conv=>whnf
  repeat'(first|exact trivial|exact rfl|refine And.intro ?_ ?_|((conv=>whnf);first|exact trivial|exact rfl|refine And.intro ?_ ?_|omega))
  exact congrArg aWgh (show ([]:List Wgh).take 0 ++ (r.ws.drop 0).take r.ws.length=[] ++ r.ws.drop 0 by simp)
 rintro ⟨i,W⟩ ⟨hi,hW⟩ ρ1 t1 hρ1
 dsimp only at hi hW ⊢
 conv=>whnf
 refine⟨fun hc=>?_,fun hc=>?_⟩
 ·have hlt:i < r.ws.length:=by simp at hc; omega
  have hWl:=upT_len hW
  have hwe:r.ws.getD W.length default=r.ws[i]:=by rw [hWl,List.getD_eq_getElem?_getD,List.getElem?_eq_getElem hlt]; rfl
  have hLl:(W ++ r.ws.drop i).length=r.ws.length:=by rw [List.length_append,List.length_drop]; omega
  have hLi:i < (W ++ r.ws.drop i).length:=by omega
  have hLe:(W ++ r.ws.drop i)[i]=r.ws[i]:=by
   rw [List.getElem_append_right (by omega),List.getElem_drop]
   congr 1
   omega
  have hLs:∀ y,(W ++ r.ws.drop i).set i y=(W ++ [y]) ++ r.ws.drop (i+1):=fun y=>by
   rw [List.set_append_right _ _ (by omega),hWl,Nat.sub_self,List.drop_eq_getElem_cons hlt,List.set_cons_zero]; simp
  have hg:gW r ma sh xo W=if (shW r ma sh xo i (W ++ r.ws.drop i)[i]).2=true then some { (W ++ r.ws.drop i)[i] with shown:=(shW r ma sh xo i (W ++ r.ws.drop i)[i]).1 } else none:=by
   unfold gW
   rw [hwe,← hLe,hWl]
  generalize W ++ r.ws.drop i=L at *
  have hMs:=lawAtThg_t (objsF r) ma sh L[i].o hlm hol2
  have hCr:=lawAtMom_t (momsF r []) ma sh (wMom L[i]) hls (by omega)
  have hPk:=pickT_t xo i hx.2.2
  have hSn:=shownT_t r L[i].bal (atF ma (plF (objsF r) L[i].o)) (atF sh (plF (momsF r []) (wMom L[i]))) (pickT xo i) (by have:=hr.nb; omega) hr.bal (hMa _) (hSa _)
  unfold shW at hg
  generalize atF ma (plF (objsF r) L[i].o)=vm at *
  generalize atF sh (plF (momsF r []) (wMom L[i]))=vs at *
  generalize pickT xo i=vp at *
  generalize shownT r.bs L[i].bal vm vs vp=z at *
  obtain ⟨z,zb⟩:=z
  cases zb with
  | false =>
   rw [if_neg (by simp)] at hg
   clear hg
   conv=>whnf
   refine⟨i,rfl,by omega, ?_⟩
   conv=>whnf
   refine⟨hLi, ?_⟩
   conv=>whnf
   refine⟨hLi, ?_⟩
   conv=>whnf
   refine call_step hMs rfl rfl ?_
   conv=>whnf
   refine⟨?_, ?_, ?_⟩
   iterate 2 · repeat'(first|exact trivial|exact rfl|refine And.intro ?_ ?_|((conv=>whnf);first|exact trivial|exact rfl|refine And.intro ?_ ?_|omega))
   conv=>whnf
   refine⟨hLi, ?_⟩
   conv=>whnf
   refine⟨hLi, ?_⟩
   conv=>whnf
   refine call_step hCr rfl rfl ?_
   conv=>whnf
   refine⟨?_, ?_, ?_⟩
   iterate 2 · repeat'(first|exact trivial|exact rfl|refine And.intro ?_ ?_|((conv=>whnf);first|exact trivial|exact rfl|refine And.intro ?_ ?_|omega))
   conv=>whnf
   refine call_step hPk rfl rfl ?_
   conv=>whnf
   refine⟨?_, ?_, ?_⟩
   iterate 2 · repeat'(first|exact trivial|exact rfl|refine And.intro ?_ ?_|((conv=>whnf);first|exact trivial|exact rfl|refine And.intro ?_ ?_|omega))
   conv=>whnf
   refine call_step hSn rfl rfl ?_
   conv=>whnf
   refine⟨?_, ?_, ?_⟩
   iterate 2 · repeat'(first|exact trivial|exact rfl|refine And.intro ?_ ?_|((conv=>whnf);first|exact trivial|exact rfl|refine And.intro ?_ ?_|omega))
   conv=>whnf
   refine⟨fun hq=>?_,fun hq=>absurd (show (true:Bool)=false from hq) (by decide)⟩
   conv=>whnf
   repeat'(first|exact trivial|exact rfl|refine And.intro ?_ ?_|((conv=>whnf);first|exact trivial|exact rfl|refine And.intro ?_ ?_|omega))
  | true =>
  rw [if_pos rfl] at hg
  have hNx:upT (gW r ma sh xo) (i+1)=some (W ++ [{ L[i] with shown:=z }]):=by simp only [upT,hW,hg]
  conv=>whnf
  refine⟨i,rfl,by omega, ?_⟩
  conv=>whnf
  refine⟨hLi, ?_⟩
  conv=>whnf
  refine⟨hLi, ?_⟩
  conv=>whnf
  refine call_step hMs rfl rfl ?_
  conv=>whnf
  refine⟨?_, ?_, ?_⟩
  iterate 2 · repeat'(first|exact trivial|exact rfl|refine And.intro ?_ ?_|((conv=>whnf);first|exact trivial|exact rfl|refine And.intro ?_ ?_|omega))
  conv=>whnf
  refine⟨hLi, ?_⟩
  conv=>whnf
  refine⟨hLi, ?_⟩
  conv=>whnf
  refine call_step hCr rfl rfl ?_
  conv=>whnf
  refine⟨?_, ?_, ?_⟩
  iterate 2 · repeat'(first|exact trivial|exact rfl|refine And.intro ?_ ?_|((conv=>whnf);first|exact trivial|exact rfl|refine And.intro ?_ ?_|omega))
  conv=>whnf
  refine call_step hPk rfl rfl ?_
  conv=>whnf
  refine⟨?_, ?_, ?_⟩
  iterate 2 · repeat'(first|exact trivial|exact rfl|refine And.intro ?_ ?_|((conv=>whnf);first|exact trivial|exact rfl|refine And.intro ?_ ?_|omega))
  conv=>whnf
  refine call_step hSn rfl rfl ?_
  conv=>whnf
  refine⟨?_, ?_, ?_⟩
  iterate 2 · repeat'(first|exact trivial|exact rfl|refine And.intro ?_ ?_|((conv=>whnf);first|exact trivial|exact rfl|refine And.intro ?_ ?_|omega))
  conv=>whnf
  refine⟨fun hc=>absurd (show (false:Bool)=true from hc) (by decide),fun hc=>?_⟩
  conv=>whnf
  refine⟨hLi,{ L[i] with shown:=z },rfl, ?_⟩
  conv=>whnf
  refine⟨_,wrapId ⟨by omega,by omega⟩, ?_⟩
  refine⟨(i+1,W ++ [{ L[i] with shown:=z }]),⟨hlt,hNx⟩,by show r.ws.length - (i+1) < r.ws.length - i; omega, ?_⟩
  try dsimp only
  conv=>whnf
  refine⟨rfl, ?_⟩
  conv=>whnf
  repeat'(first|exact trivial|exact rfl|refine And.intro ?_ ?_|((conv=>whnf);first|exact trivial|exact rfl|refine And.intro ?_ ?_|omega))
  refine congrArg aWgh ?_
  rw [addN_eq,Nat.zero_add]
  exact hLs _
 have hie:i=r.ws.length:=by simp at hc; omega
 subst hie
 generalize W=ws' at *
 have hWs:=hW
 clear hW
 rw [List.drop_length,List.append_nil]
 -- the checks
 conv=>whnf
 refine loop_step tB_ok (G:=Nat × List Chk) 0 [] (fun g=>[(246,iv .i64 g.1)]) (fun g=>[(23,true, .arr (aChk (g.2 ++ r.cs.drop g.1)))]) (fun g=>g.1≤r.cs.length∧upT (gC r sh xo) g.1=some g.2) (fun g=>r.cs.length - g.1) ?_
 conv=>whnf
 refine⟨⟨(0,[]),⟨Nat.zero_le _,rfl⟩, ?_⟩, ?_⟩
 ·conv=>whnf
  repeat'(first|exact trivial|exact rfl|refine And.intro ?_ ?_|((conv=>whnf);first|exact trivial|exact rfl|refine And.intro ?_ ?_|omega))
  exact congrArg aChk (show ([]:List Chk).take 0 ++ (r.cs.drop 0).take r.cs.length=[] ++ r.cs.drop 0 by simp)
 rintro ⟨i,W⟩ ⟨hi,hW⟩ ρ1 t1 hρ1
 dsimp only at hi hW ⊢
 conv=>whnf
 refine⟨fun hc=>?_,fun hc=>?_⟩
 ·have hlt:i < r.cs.length:=by simp at hc; omega
  have hWl:=upT_len hW
  have hwe:r.cs.getD W.length default=r.cs[i]:=by rw [hWl,List.getD_eq_getElem?_getD,List.getElem?_eq_getElem hlt]; rfl
  have hLl:(W ++ r.cs.drop i).length=r.cs.length:=by rw [List.length_append,List.length_drop]; omega
  have hLi:i < (W ++ r.cs.drop i).length:=by omega
  have hLe:(W ++ r.cs.drop i)[i]=r.cs[i]:=by
   rw [List.getElem_append_right (by omega),List.getElem_drop]
   congr 1
   omega
  have hLs:∀ y,(W ++ r.cs.drop i).set i y=(W ++ [y]) ++ r.cs.drop (i+1):=fun y=>by
   rw [List.set_append_right _ _ (by omega),hWl,Nat.sub_self,List.drop_eq_getElem_cons hlt,List.set_cons_zero]; simp
  have hmb:-20000000≤r.cs[i].mass∧r.cs[i].mass≤20000000:=by
   have h1:=(hr.chk _ (List.getElem_mem hlt)).2
   unfold chkF withinF at h1
   simp only [Bool.and_eq_true,decide_eq_true_eq] at h1
   have h2:=(valid_bd (hr.findD h1.1)).2.2.2.2
   omega
  have hg:gC r sh xo W=if (shC r sh xo i (W ++ r.cs.drop i)[i]).2=true then some { (W ++ r.cs.drop i)[i] with shown:=(shC r sh xo i (W ++ r.cs.drop i)[i]).1 } else none:=by
   unfold gC
   rw [hwe,← hLe,hWl]
  rw [← hLe] at hmb
  generalize W ++ r.cs.drop i=L at *
  have hCr:=lawAtMom_t (momsF r []) ma sh (cMom L[i]) hls (by omega)
  have hPk:=pickT_t xo (i+r.ws.length) hx.2.2
  have hSn:=shownT_t r L[i].bal L[i].mass (atF sh (plF (momsF r []) (cMom L[i]))) (pickT xo (i+r.ws.length)) (by have:=hr.nb; omega) hr.bal hmb (hSa _)
  unfold shC at hg
  generalize atF sh (plF (momsF r []) (cMom L[i]))=vs at *
  generalize pickT xo (i+r.ws.length)=vp at *
  generalize shownT r.bs L[i].bal L[i].mass vs vp=z at *
  obtain ⟨z,zb⟩:=z
  cases zb with
  | false =>
   rw [if_neg (by simp)] at hg
   clear hg
   conv=>whnf
   refine⟨i,rfl,by omega, ?_⟩
   conv=>whnf
   refine⟨hLi, ?_⟩
   conv=>whnf
   refine⟨hLi, ?_⟩
   conv=>whnf
   refine⟨hLi, ?_⟩
   conv=>whnf
   refine⟨hLi, ?_⟩
   conv=>whnf
   refine call_step hCr rfl rfl ?_
   conv=>whnf
   refine⟨?_, ?_, ?_⟩
   iterate 2 · repeat'(first|exact trivial|exact rfl|refine And.intro ?_ ?_|((conv=>whnf);first|exact trivial|exact rfl|refine And.intro ?_ ?_|omega))
   conv=>whnf
   refine⟨((i+r.ws.length:Nat):Int),(congrArg IntKind.i64.wrap (show (i:Int)+((0+r.ws.length:Nat):Int)=((i+r.ws.length:Nat):Int) by omega)).trans (wrapId ⟨by omega,by omega⟩), ?_⟩
   conv=>whnf
   refine call_step hPk rfl rfl ?_
   conv=>whnf
   refine⟨?_, ?_, ?_⟩
   iterate 2 · repeat'(first|exact trivial|exact rfl|refine And.intro ?_ ?_|((conv=>whnf);first|exact trivial|exact rfl|refine And.intro ?_ ?_|omega))
   conv=>whnf
   refine call_step hSn rfl rfl ?_
   conv=>whnf
   refine⟨?_, ?_, ?_⟩
   iterate 2 · repeat'(first|exact trivial|exact rfl|refine And.intro ?_ ?_|((conv=>whnf);first|exact trivial|exact rfl|refine And.intro ?_ ?_|omega))
   conv=>whnf
   refine⟨fun hq=>?_,fun hq=>absurd (show (true:Bool)=false from hq) (by decide)⟩
   conv=>whnf
   repeat'(first|exact trivial|exact rfl|refine And.intro ?_ ?_|((conv=>whnf);first|exact trivial|exact rfl|refine And.intro ?_ ?_|omega))
  | true =>
  rw [if_pos rfl] at hg
  have hNx:upT (gC r sh xo) (i+1)=some (W ++ [{ L[i] with shown:=z }]):=by simp only [upT,hW,hg]
  conv=>whnf
  refine⟨i,rfl,by omega, ?_⟩
  conv=>whnf
  refine⟨hLi, ?_⟩
  conv=>whnf
  refine⟨hLi, ?_⟩
  conv=>whnf
  refine⟨hLi, ?_⟩
  conv=>whnf
  refine⟨hLi, ?_⟩
  conv=>whnf
  refine call_step hCr rfl rfl ?_
  conv=>whnf
  refine⟨?_, ?_, ?_⟩
  iterate 2 · repeat'(first|exact trivial|exact rfl|refine And.intro ?_ ?_|((conv=>whnf);first|exact trivial|exact rfl|refine And.intro ?_ ?_|omega))
  conv=>whnf
  refine⟨((i+r.ws.length:Nat):Int),(congrArg IntKind.i64.wrap (show (i:Int)+((0+r.ws.length:Nat):Int)=((i+r.ws.length:Nat):Int) by omega)).trans (wrapId ⟨by omega,by omega⟩), ?_⟩
  conv=>whnf
  refine call_step hPk rfl rfl ?_
  conv=>whnf
  refine⟨?_, ?_, ?_⟩
  iterate 2 · repeat'(first|exact trivial|exact rfl|refine And.intro ?_ ?_|((conv=>whnf);first|exact trivial|exact rfl|refine And.intro ?_ ?_|omega))
  conv=>whnf
  refine call_step hSn rfl rfl ?_
  conv=>whnf
  refine⟨?_, ?_, ?_⟩
  iterate 2 · repeat'(first|exact trivial|exact rfl|refine And.intro ?_ ?_|((conv=>whnf);first|exact trivial|exact rfl|refine And.intro ?_ ?_|omega))
  conv=>whnf
  refine⟨fun hc=>absurd (show (false:Bool)=true from hc) (by decide),fun hc=>?_⟩
  conv=>whnf
  refine⟨hLi,{ L[i] with shown:=z },rfl, ?_⟩
  conv=>whnf
  refine⟨_,wrapId ⟨by omega,by omega⟩, ?_⟩
  refine⟨(i+1,W ++ [{ L[i] with shown:=z }]),⟨hlt,hNx⟩,by show r.cs.length - (i+1) < r.cs.length - i; omega, ?_⟩
  try dsimp only
  conv=>whnf
  refine⟨rfl, ?_⟩
  conv=>whnf
  repeat'(first|exact trivial|exact rfl|refine And.intro ?_ ?_|((conv=>whnf);first|exact trivial|exact rfl|refine And.intro ?_ ?_|omega))
  refine congrArg aChk ?_
  rw [addN_eq,Nat.zero_add]
  exact hLs _
 have hie:i=r.cs.length:=by simp at hc; omega
 subst hie
 exact absurd ⟨hM,hS,hWs,hW⟩ (h ma sh ws' W)

end Go.Proofs

